/- The fast evaluator: slots and memory as nested eight-field structures (printed by gen0.py). -/
import Derived.Test.YtckjdbmadheamaaGreatDoorR22
set_option linter.all false
namespace Go.Fast
open Go.Vai

inductive D8 where
  | d0 | d1 | d2 | d3 | d4 | d5 | d6 | d7

structure Pth where
  a : D8
  b : D8
  c : D8
  d : D8
  e : D8
  f : D8

/-- values: a tag, numbers, a place in memory, lists -/
structure FV where
  t : Nat
  a : Nat
  b : Nat
  c : Nat
  p : Pth
  l : List FV
  m : List FV

/-- objects of the memory: k = 0: none; 1 .. 3: cells; 5: a map -/
structure FO where
  k : Nat
  z : Bool
  anc : List Pth
  c : List FV

structure Fr1 where
  f0 : FV
  f1 : FV
  f2 : FV
  f3 : FV
  f4 : FV
  f5 : FV
  f6 : FV
  f7 : FV

structure Fr1L where
  g : Fr1 → FV
  s : Fr1 → FV → Fr1

noncomputable def Fr1L0 : Fr1L := ⟨fun x => Fr1.rec (motive := fun _ => FV) (fun f0 _ _ _ _ _ _ _ => f0) x, fun x v => Fr1.rec (motive := fun _ => Fr1) (fun _ f1 f2 f3 f4 f5 f6 f7 => ⟨v, f1, f2, f3, f4, f5, f6, f7⟩) x⟩
noncomputable def Fr1L1 : Fr1L := ⟨fun x => Fr1.rec (motive := fun _ => FV) (fun _ f1 _ _ _ _ _ _ => f1) x, fun x v => Fr1.rec (motive := fun _ => Fr1) (fun f0 _ f2 f3 f4 f5 f6 f7 => ⟨f0, v, f2, f3, f4, f5, f6, f7⟩) x⟩
noncomputable def Fr1L2 : Fr1L := ⟨fun x => Fr1.rec (motive := fun _ => FV) (fun _ _ f2 _ _ _ _ _ => f2) x, fun x v => Fr1.rec (motive := fun _ => Fr1) (fun f0 f1 _ f3 f4 f5 f6 f7 => ⟨f0, f1, v, f3, f4, f5, f6, f7⟩) x⟩
noncomputable def Fr1L3 : Fr1L := ⟨fun x => Fr1.rec (motive := fun _ => FV) (fun _ _ _ f3 _ _ _ _ => f3) x, fun x v => Fr1.rec (motive := fun _ => Fr1) (fun f0 f1 f2 _ f4 f5 f6 f7 => ⟨f0, f1, f2, v, f4, f5, f6, f7⟩) x⟩
noncomputable def Fr1L4 : Fr1L := ⟨fun x => Fr1.rec (motive := fun _ => FV) (fun _ _ _ _ f4 _ _ _ => f4) x, fun x v => Fr1.rec (motive := fun _ => Fr1) (fun f0 f1 f2 f3 _ f5 f6 f7 => ⟨f0, f1, f2, f3, v, f5, f6, f7⟩) x⟩
noncomputable def Fr1L5 : Fr1L := ⟨fun x => Fr1.rec (motive := fun _ => FV) (fun _ _ _ _ _ f5 _ _ => f5) x, fun x v => Fr1.rec (motive := fun _ => Fr1) (fun f0 f1 f2 f3 f4 _ f6 f7 => ⟨f0, f1, f2, f3, f4, v, f6, f7⟩) x⟩
noncomputable def Fr1L6 : Fr1L := ⟨fun x => Fr1.rec (motive := fun _ => FV) (fun _ _ _ _ _ _ f6 _ => f6) x, fun x v => Fr1.rec (motive := fun _ => Fr1) (fun f0 f1 f2 f3 f4 f5 _ f7 => ⟨f0, f1, f2, f3, f4, f5, v, f7⟩) x⟩
noncomputable def Fr1L7 : Fr1L := ⟨fun x => Fr1.rec (motive := fun _ => FV) (fun _ _ _ _ _ _ _ f7 => f7) x, fun x v => Fr1.rec (motive := fun _ => Fr1) (fun f0 f1 f2 f3 f4 f5 f6 _ => ⟨f0, f1, f2, f3, f4, f5, f6, v⟩) x⟩
noncomputable def Fr1At (d : D8) : Fr1L := D8.rec (motive := fun _ => Fr1L) Fr1L0 Fr1L1 Fr1L2 Fr1L3 Fr1L4 Fr1L5 Fr1L6 Fr1L7 d

structure Fr2 where
  f0 : Fr1
  f1 : Fr1
  f2 : Fr1
  f3 : Fr1
  f4 : Fr1
  f5 : Fr1
  f6 : Fr1
  f7 : Fr1

structure Fr2L where
  g : Fr2 → Fr1
  s : Fr2 → Fr1 → Fr2

noncomputable def Fr2L0 : Fr2L := ⟨fun x => Fr2.rec (motive := fun _ => Fr1) (fun f0 _ _ _ _ _ _ _ => f0) x, fun x v => Fr2.rec (motive := fun _ => Fr2) (fun _ f1 f2 f3 f4 f5 f6 f7 => ⟨v, f1, f2, f3, f4, f5, f6, f7⟩) x⟩
noncomputable def Fr2L1 : Fr2L := ⟨fun x => Fr2.rec (motive := fun _ => Fr1) (fun _ f1 _ _ _ _ _ _ => f1) x, fun x v => Fr2.rec (motive := fun _ => Fr2) (fun f0 _ f2 f3 f4 f5 f6 f7 => ⟨f0, v, f2, f3, f4, f5, f6, f7⟩) x⟩
noncomputable def Fr2L2 : Fr2L := ⟨fun x => Fr2.rec (motive := fun _ => Fr1) (fun _ _ f2 _ _ _ _ _ => f2) x, fun x v => Fr2.rec (motive := fun _ => Fr2) (fun f0 f1 _ f3 f4 f5 f6 f7 => ⟨f0, f1, v, f3, f4, f5, f6, f7⟩) x⟩
noncomputable def Fr2L3 : Fr2L := ⟨fun x => Fr2.rec (motive := fun _ => Fr1) (fun _ _ _ f3 _ _ _ _ => f3) x, fun x v => Fr2.rec (motive := fun _ => Fr2) (fun f0 f1 f2 _ f4 f5 f6 f7 => ⟨f0, f1, f2, v, f4, f5, f6, f7⟩) x⟩
noncomputable def Fr2L4 : Fr2L := ⟨fun x => Fr2.rec (motive := fun _ => Fr1) (fun _ _ _ _ f4 _ _ _ => f4) x, fun x v => Fr2.rec (motive := fun _ => Fr2) (fun f0 f1 f2 f3 _ f5 f6 f7 => ⟨f0, f1, f2, f3, v, f5, f6, f7⟩) x⟩
noncomputable def Fr2L5 : Fr2L := ⟨fun x => Fr2.rec (motive := fun _ => Fr1) (fun _ _ _ _ _ f5 _ _ => f5) x, fun x v => Fr2.rec (motive := fun _ => Fr2) (fun f0 f1 f2 f3 f4 _ f6 f7 => ⟨f0, f1, f2, f3, f4, v, f6, f7⟩) x⟩
noncomputable def Fr2L6 : Fr2L := ⟨fun x => Fr2.rec (motive := fun _ => Fr1) (fun _ _ _ _ _ _ f6 _ => f6) x, fun x v => Fr2.rec (motive := fun _ => Fr2) (fun f0 f1 f2 f3 f4 f5 _ f7 => ⟨f0, f1, f2, f3, f4, f5, v, f7⟩) x⟩
noncomputable def Fr2L7 : Fr2L := ⟨fun x => Fr2.rec (motive := fun _ => Fr1) (fun _ _ _ _ _ _ _ f7 => f7) x, fun x v => Fr2.rec (motive := fun _ => Fr2) (fun f0 f1 f2 f3 f4 f5 f6 _ => ⟨f0, f1, f2, f3, f4, f5, f6, v⟩) x⟩
noncomputable def Fr2At (d : D8) : Fr2L := D8.rec (motive := fun _ => Fr2L) Fr2L0 Fr2L1 Fr2L2 Fr2L3 Fr2L4 Fr2L5 Fr2L6 Fr2L7 d

structure Fr3 where
  f0 : Fr2
  f1 : Fr2
  f2 : Fr2
  f3 : Fr2
  f4 : Fr2
  f5 : Fr2
  f6 : Fr2
  f7 : Fr2

structure Fr3L where
  g : Fr3 → Fr2
  s : Fr3 → Fr2 → Fr3

noncomputable def Fr3L0 : Fr3L := ⟨fun x => Fr3.rec (motive := fun _ => Fr2) (fun f0 _ _ _ _ _ _ _ => f0) x, fun x v => Fr3.rec (motive := fun _ => Fr3) (fun _ f1 f2 f3 f4 f5 f6 f7 => ⟨v, f1, f2, f3, f4, f5, f6, f7⟩) x⟩
noncomputable def Fr3L1 : Fr3L := ⟨fun x => Fr3.rec (motive := fun _ => Fr2) (fun _ f1 _ _ _ _ _ _ => f1) x, fun x v => Fr3.rec (motive := fun _ => Fr3) (fun f0 _ f2 f3 f4 f5 f6 f7 => ⟨f0, v, f2, f3, f4, f5, f6, f7⟩) x⟩
noncomputable def Fr3L2 : Fr3L := ⟨fun x => Fr3.rec (motive := fun _ => Fr2) (fun _ _ f2 _ _ _ _ _ => f2) x, fun x v => Fr3.rec (motive := fun _ => Fr3) (fun f0 f1 _ f3 f4 f5 f6 f7 => ⟨f0, f1, v, f3, f4, f5, f6, f7⟩) x⟩
noncomputable def Fr3L3 : Fr3L := ⟨fun x => Fr3.rec (motive := fun _ => Fr2) (fun _ _ _ f3 _ _ _ _ => f3) x, fun x v => Fr3.rec (motive := fun _ => Fr3) (fun f0 f1 f2 _ f4 f5 f6 f7 => ⟨f0, f1, f2, v, f4, f5, f6, f7⟩) x⟩
noncomputable def Fr3L4 : Fr3L := ⟨fun x => Fr3.rec (motive := fun _ => Fr2) (fun _ _ _ _ f4 _ _ _ => f4) x, fun x v => Fr3.rec (motive := fun _ => Fr3) (fun f0 f1 f2 f3 _ f5 f6 f7 => ⟨f0, f1, f2, f3, v, f5, f6, f7⟩) x⟩
noncomputable def Fr3L5 : Fr3L := ⟨fun x => Fr3.rec (motive := fun _ => Fr2) (fun _ _ _ _ _ f5 _ _ => f5) x, fun x v => Fr3.rec (motive := fun _ => Fr3) (fun f0 f1 f2 f3 f4 _ f6 f7 => ⟨f0, f1, f2, f3, f4, v, f6, f7⟩) x⟩
noncomputable def Fr3L6 : Fr3L := ⟨fun x => Fr3.rec (motive := fun _ => Fr2) (fun _ _ _ _ _ _ f6 _ => f6) x, fun x v => Fr3.rec (motive := fun _ => Fr3) (fun f0 f1 f2 f3 f4 f5 _ f7 => ⟨f0, f1, f2, f3, f4, f5, v, f7⟩) x⟩
noncomputable def Fr3L7 : Fr3L := ⟨fun x => Fr3.rec (motive := fun _ => Fr2) (fun _ _ _ _ _ _ _ f7 => f7) x, fun x v => Fr3.rec (motive := fun _ => Fr3) (fun f0 f1 f2 f3 f4 f5 f6 _ => ⟨f0, f1, f2, f3, f4, f5, f6, v⟩) x⟩
noncomputable def Fr3At (d : D8) : Fr3L := D8.rec (motive := fun _ => Fr3L) Fr3L0 Fr3L1 Fr3L2 Fr3L3 Fr3L4 Fr3L5 Fr3L6 Fr3L7 d

structure He1 where
  f0 : FO
  f1 : FO
  f2 : FO
  f3 : FO
  f4 : FO
  f5 : FO
  f6 : FO
  f7 : FO

structure He1L where
  g : He1 → FO
  s : He1 → FO → He1

noncomputable def He1L0 : He1L := ⟨fun x => He1.rec (motive := fun _ => FO) (fun f0 _ _ _ _ _ _ _ => f0) x, fun x v => He1.rec (motive := fun _ => He1) (fun _ f1 f2 f3 f4 f5 f6 f7 => ⟨v, f1, f2, f3, f4, f5, f6, f7⟩) x⟩
noncomputable def He1L1 : He1L := ⟨fun x => He1.rec (motive := fun _ => FO) (fun _ f1 _ _ _ _ _ _ => f1) x, fun x v => He1.rec (motive := fun _ => He1) (fun f0 _ f2 f3 f4 f5 f6 f7 => ⟨f0, v, f2, f3, f4, f5, f6, f7⟩) x⟩
noncomputable def He1L2 : He1L := ⟨fun x => He1.rec (motive := fun _ => FO) (fun _ _ f2 _ _ _ _ _ => f2) x, fun x v => He1.rec (motive := fun _ => He1) (fun f0 f1 _ f3 f4 f5 f6 f7 => ⟨f0, f1, v, f3, f4, f5, f6, f7⟩) x⟩
noncomputable def He1L3 : He1L := ⟨fun x => He1.rec (motive := fun _ => FO) (fun _ _ _ f3 _ _ _ _ => f3) x, fun x v => He1.rec (motive := fun _ => He1) (fun f0 f1 f2 _ f4 f5 f6 f7 => ⟨f0, f1, f2, v, f4, f5, f6, f7⟩) x⟩
noncomputable def He1L4 : He1L := ⟨fun x => He1.rec (motive := fun _ => FO) (fun _ _ _ _ f4 _ _ _ => f4) x, fun x v => He1.rec (motive := fun _ => He1) (fun f0 f1 f2 f3 _ f5 f6 f7 => ⟨f0, f1, f2, f3, v, f5, f6, f7⟩) x⟩
noncomputable def He1L5 : He1L := ⟨fun x => He1.rec (motive := fun _ => FO) (fun _ _ _ _ _ f5 _ _ => f5) x, fun x v => He1.rec (motive := fun _ => He1) (fun f0 f1 f2 f3 f4 _ f6 f7 => ⟨f0, f1, f2, f3, f4, v, f6, f7⟩) x⟩
noncomputable def He1L6 : He1L := ⟨fun x => He1.rec (motive := fun _ => FO) (fun _ _ _ _ _ _ f6 _ => f6) x, fun x v => He1.rec (motive := fun _ => He1) (fun f0 f1 f2 f3 f4 f5 _ f7 => ⟨f0, f1, f2, f3, f4, f5, v, f7⟩) x⟩
noncomputable def He1L7 : He1L := ⟨fun x => He1.rec (motive := fun _ => FO) (fun _ _ _ _ _ _ _ f7 => f7) x, fun x v => He1.rec (motive := fun _ => He1) (fun f0 f1 f2 f3 f4 f5 f6 _ => ⟨f0, f1, f2, f3, f4, f5, f6, v⟩) x⟩
noncomputable def He1At (d : D8) : He1L := D8.rec (motive := fun _ => He1L) He1L0 He1L1 He1L2 He1L3 He1L4 He1L5 He1L6 He1L7 d

structure He2 where
  f0 : He1
  f1 : He1
  f2 : He1
  f3 : He1
  f4 : He1
  f5 : He1
  f6 : He1
  f7 : He1

structure He2L where
  g : He2 → He1
  s : He2 → He1 → He2

noncomputable def He2L0 : He2L := ⟨fun x => He2.rec (motive := fun _ => He1) (fun f0 _ _ _ _ _ _ _ => f0) x, fun x v => He2.rec (motive := fun _ => He2) (fun _ f1 f2 f3 f4 f5 f6 f7 => ⟨v, f1, f2, f3, f4, f5, f6, f7⟩) x⟩
noncomputable def He2L1 : He2L := ⟨fun x => He2.rec (motive := fun _ => He1) (fun _ f1 _ _ _ _ _ _ => f1) x, fun x v => He2.rec (motive := fun _ => He2) (fun f0 _ f2 f3 f4 f5 f6 f7 => ⟨f0, v, f2, f3, f4, f5, f6, f7⟩) x⟩
noncomputable def He2L2 : He2L := ⟨fun x => He2.rec (motive := fun _ => He1) (fun _ _ f2 _ _ _ _ _ => f2) x, fun x v => He2.rec (motive := fun _ => He2) (fun f0 f1 _ f3 f4 f5 f6 f7 => ⟨f0, f1, v, f3, f4, f5, f6, f7⟩) x⟩
noncomputable def He2L3 : He2L := ⟨fun x => He2.rec (motive := fun _ => He1) (fun _ _ _ f3 _ _ _ _ => f3) x, fun x v => He2.rec (motive := fun _ => He2) (fun f0 f1 f2 _ f4 f5 f6 f7 => ⟨f0, f1, f2, v, f4, f5, f6, f7⟩) x⟩
noncomputable def He2L4 : He2L := ⟨fun x => He2.rec (motive := fun _ => He1) (fun _ _ _ _ f4 _ _ _ => f4) x, fun x v => He2.rec (motive := fun _ => He2) (fun f0 f1 f2 f3 _ f5 f6 f7 => ⟨f0, f1, f2, f3, v, f5, f6, f7⟩) x⟩
noncomputable def He2L5 : He2L := ⟨fun x => He2.rec (motive := fun _ => He1) (fun _ _ _ _ _ f5 _ _ => f5) x, fun x v => He2.rec (motive := fun _ => He2) (fun f0 f1 f2 f3 f4 _ f6 f7 => ⟨f0, f1, f2, f3, f4, v, f6, f7⟩) x⟩
noncomputable def He2L6 : He2L := ⟨fun x => He2.rec (motive := fun _ => He1) (fun _ _ _ _ _ _ f6 _ => f6) x, fun x v => He2.rec (motive := fun _ => He2) (fun f0 f1 f2 f3 f4 f5 _ f7 => ⟨f0, f1, f2, f3, f4, f5, v, f7⟩) x⟩
noncomputable def He2L7 : He2L := ⟨fun x => He2.rec (motive := fun _ => He1) (fun _ _ _ _ _ _ _ f7 => f7) x, fun x v => He2.rec (motive := fun _ => He2) (fun f0 f1 f2 f3 f4 f5 f6 _ => ⟨f0, f1, f2, f3, f4, f5, f6, v⟩) x⟩
noncomputable def He2At (d : D8) : He2L := D8.rec (motive := fun _ => He2L) He2L0 He2L1 He2L2 He2L3 He2L4 He2L5 He2L6 He2L7 d

structure He3 where
  f0 : He2
  f1 : He2
  f2 : He2
  f3 : He2
  f4 : He2
  f5 : He2
  f6 : He2
  f7 : He2

structure He3L where
  g : He3 → He2
  s : He3 → He2 → He3

noncomputable def He3L0 : He3L := ⟨fun x => He3.rec (motive := fun _ => He2) (fun f0 _ _ _ _ _ _ _ => f0) x, fun x v => He3.rec (motive := fun _ => He3) (fun _ f1 f2 f3 f4 f5 f6 f7 => ⟨v, f1, f2, f3, f4, f5, f6, f7⟩) x⟩
noncomputable def He3L1 : He3L := ⟨fun x => He3.rec (motive := fun _ => He2) (fun _ f1 _ _ _ _ _ _ => f1) x, fun x v => He3.rec (motive := fun _ => He3) (fun f0 _ f2 f3 f4 f5 f6 f7 => ⟨f0, v, f2, f3, f4, f5, f6, f7⟩) x⟩
noncomputable def He3L2 : He3L := ⟨fun x => He3.rec (motive := fun _ => He2) (fun _ _ f2 _ _ _ _ _ => f2) x, fun x v => He3.rec (motive := fun _ => He3) (fun f0 f1 _ f3 f4 f5 f6 f7 => ⟨f0, f1, v, f3, f4, f5, f6, f7⟩) x⟩
noncomputable def He3L3 : He3L := ⟨fun x => He3.rec (motive := fun _ => He2) (fun _ _ _ f3 _ _ _ _ => f3) x, fun x v => He3.rec (motive := fun _ => He3) (fun f0 f1 f2 _ f4 f5 f6 f7 => ⟨f0, f1, f2, v, f4, f5, f6, f7⟩) x⟩
noncomputable def He3L4 : He3L := ⟨fun x => He3.rec (motive := fun _ => He2) (fun _ _ _ _ f4 _ _ _ => f4) x, fun x v => He3.rec (motive := fun _ => He3) (fun f0 f1 f2 f3 _ f5 f6 f7 => ⟨f0, f1, f2, f3, v, f5, f6, f7⟩) x⟩
noncomputable def He3L5 : He3L := ⟨fun x => He3.rec (motive := fun _ => He2) (fun _ _ _ _ _ f5 _ _ => f5) x, fun x v => He3.rec (motive := fun _ => He3) (fun f0 f1 f2 f3 f4 _ f6 f7 => ⟨f0, f1, f2, f3, f4, v, f6, f7⟩) x⟩
noncomputable def He3L6 : He3L := ⟨fun x => He3.rec (motive := fun _ => He2) (fun _ _ _ _ _ _ f6 _ => f6) x, fun x v => He3.rec (motive := fun _ => He3) (fun f0 f1 f2 f3 f4 f5 _ f7 => ⟨f0, f1, f2, f3, f4, f5, v, f7⟩) x⟩
noncomputable def He3L7 : He3L := ⟨fun x => He3.rec (motive := fun _ => He2) (fun _ _ _ _ _ _ _ f7 => f7) x, fun x v => He3.rec (motive := fun _ => He3) (fun f0 f1 f2 f3 f4 f5 f6 _ => ⟨f0, f1, f2, f3, f4, f5, f6, v⟩) x⟩
noncomputable def He3At (d : D8) : He3L := D8.rec (motive := fun _ => He3L) He3L0 He3L1 He3L2 He3L3 He3L4 He3L5 He3L6 He3L7 d

structure He4 where
  f0 : He3
  f1 : He3
  f2 : He3
  f3 : He3
  f4 : He3
  f5 : He3
  f6 : He3
  f7 : He3

structure He4L where
  g : He4 → He3
  s : He4 → He3 → He4

noncomputable def He4L0 : He4L := ⟨fun x => He4.rec (motive := fun _ => He3) (fun f0 _ _ _ _ _ _ _ => f0) x, fun x v => He4.rec (motive := fun _ => He4) (fun _ f1 f2 f3 f4 f5 f6 f7 => ⟨v, f1, f2, f3, f4, f5, f6, f7⟩) x⟩
noncomputable def He4L1 : He4L := ⟨fun x => He4.rec (motive := fun _ => He3) (fun _ f1 _ _ _ _ _ _ => f1) x, fun x v => He4.rec (motive := fun _ => He4) (fun f0 _ f2 f3 f4 f5 f6 f7 => ⟨f0, v, f2, f3, f4, f5, f6, f7⟩) x⟩
noncomputable def He4L2 : He4L := ⟨fun x => He4.rec (motive := fun _ => He3) (fun _ _ f2 _ _ _ _ _ => f2) x, fun x v => He4.rec (motive := fun _ => He4) (fun f0 f1 _ f3 f4 f5 f6 f7 => ⟨f0, f1, v, f3, f4, f5, f6, f7⟩) x⟩
noncomputable def He4L3 : He4L := ⟨fun x => He4.rec (motive := fun _ => He3) (fun _ _ _ f3 _ _ _ _ => f3) x, fun x v => He4.rec (motive := fun _ => He4) (fun f0 f1 f2 _ f4 f5 f6 f7 => ⟨f0, f1, f2, v, f4, f5, f6, f7⟩) x⟩
noncomputable def He4L4 : He4L := ⟨fun x => He4.rec (motive := fun _ => He3) (fun _ _ _ _ f4 _ _ _ => f4) x, fun x v => He4.rec (motive := fun _ => He4) (fun f0 f1 f2 f3 _ f5 f6 f7 => ⟨f0, f1, f2, f3, v, f5, f6, f7⟩) x⟩
noncomputable def He4L5 : He4L := ⟨fun x => He4.rec (motive := fun _ => He3) (fun _ _ _ _ _ f5 _ _ => f5) x, fun x v => He4.rec (motive := fun _ => He4) (fun f0 f1 f2 f3 f4 _ f6 f7 => ⟨f0, f1, f2, f3, f4, v, f6, f7⟩) x⟩
noncomputable def He4L6 : He4L := ⟨fun x => He4.rec (motive := fun _ => He3) (fun _ _ _ _ _ _ f6 _ => f6) x, fun x v => He4.rec (motive := fun _ => He4) (fun f0 f1 f2 f3 f4 f5 _ f7 => ⟨f0, f1, f2, f3, f4, f5, v, f7⟩) x⟩
noncomputable def He4L7 : He4L := ⟨fun x => He4.rec (motive := fun _ => He3) (fun _ _ _ _ _ _ _ f7 => f7) x, fun x v => He4.rec (motive := fun _ => He4) (fun f0 f1 f2 f3 f4 f5 f6 _ => ⟨f0, f1, f2, f3, f4, f5, f6, v⟩) x⟩
noncomputable def He4At (d : D8) : He4L := D8.rec (motive := fun _ => He4L) He4L0 He4L1 He4L2 He4L3 He4L4 He4L5 He4L6 He4L7 d

structure He5 where
  f0 : He4
  f1 : He4
  f2 : He4
  f3 : He4
  f4 : He4
  f5 : He4
  f6 : He4
  f7 : He4

structure He5L where
  g : He5 → He4
  s : He5 → He4 → He5

noncomputable def He5L0 : He5L := ⟨fun x => He5.rec (motive := fun _ => He4) (fun f0 _ _ _ _ _ _ _ => f0) x, fun x v => He5.rec (motive := fun _ => He5) (fun _ f1 f2 f3 f4 f5 f6 f7 => ⟨v, f1, f2, f3, f4, f5, f6, f7⟩) x⟩
noncomputable def He5L1 : He5L := ⟨fun x => He5.rec (motive := fun _ => He4) (fun _ f1 _ _ _ _ _ _ => f1) x, fun x v => He5.rec (motive := fun _ => He5) (fun f0 _ f2 f3 f4 f5 f6 f7 => ⟨f0, v, f2, f3, f4, f5, f6, f7⟩) x⟩
noncomputable def He5L2 : He5L := ⟨fun x => He5.rec (motive := fun _ => He4) (fun _ _ f2 _ _ _ _ _ => f2) x, fun x v => He5.rec (motive := fun _ => He5) (fun f0 f1 _ f3 f4 f5 f6 f7 => ⟨f0, f1, v, f3, f4, f5, f6, f7⟩) x⟩
noncomputable def He5L3 : He5L := ⟨fun x => He5.rec (motive := fun _ => He4) (fun _ _ _ f3 _ _ _ _ => f3) x, fun x v => He5.rec (motive := fun _ => He5) (fun f0 f1 f2 _ f4 f5 f6 f7 => ⟨f0, f1, f2, v, f4, f5, f6, f7⟩) x⟩
noncomputable def He5L4 : He5L := ⟨fun x => He5.rec (motive := fun _ => He4) (fun _ _ _ _ f4 _ _ _ => f4) x, fun x v => He5.rec (motive := fun _ => He5) (fun f0 f1 f2 f3 _ f5 f6 f7 => ⟨f0, f1, f2, f3, v, f5, f6, f7⟩) x⟩
noncomputable def He5L5 : He5L := ⟨fun x => He5.rec (motive := fun _ => He4) (fun _ _ _ _ _ f5 _ _ => f5) x, fun x v => He5.rec (motive := fun _ => He5) (fun f0 f1 f2 f3 f4 _ f6 f7 => ⟨f0, f1, f2, f3, f4, v, f6, f7⟩) x⟩
noncomputable def He5L6 : He5L := ⟨fun x => He5.rec (motive := fun _ => He4) (fun _ _ _ _ _ _ f6 _ => f6) x, fun x v => He5.rec (motive := fun _ => He5) (fun f0 f1 f2 f3 f4 f5 _ f7 => ⟨f0, f1, f2, f3, f4, f5, v, f7⟩) x⟩
noncomputable def He5L7 : He5L := ⟨fun x => He5.rec (motive := fun _ => He4) (fun _ _ _ _ _ _ _ f7 => f7) x, fun x v => He5.rec (motive := fun _ => He5) (fun f0 f1 f2 f3 f4 f5 f6 _ => ⟨f0, f1, f2, f3, f4, f5, f6, v⟩) x⟩
noncomputable def He5At (d : D8) : He5L := D8.rec (motive := fun _ => He5L) He5L0 He5L1 He5L2 He5L3 He5L4 He5L5 He5L6 He5L7 d

structure He6 where
  f0 : He5
  f1 : He5
  f2 : He5
  f3 : He5
  f4 : He5
  f5 : He5
  f6 : He5
  f7 : He5

structure He6L where
  g : He6 → He5
  s : He6 → He5 → He6

noncomputable def He6L0 : He6L := ⟨fun x => He6.rec (motive := fun _ => He5) (fun f0 _ _ _ _ _ _ _ => f0) x, fun x v => He6.rec (motive := fun _ => He6) (fun _ f1 f2 f3 f4 f5 f6 f7 => ⟨v, f1, f2, f3, f4, f5, f6, f7⟩) x⟩
noncomputable def He6L1 : He6L := ⟨fun x => He6.rec (motive := fun _ => He5) (fun _ f1 _ _ _ _ _ _ => f1) x, fun x v => He6.rec (motive := fun _ => He6) (fun f0 _ f2 f3 f4 f5 f6 f7 => ⟨f0, v, f2, f3, f4, f5, f6, f7⟩) x⟩
noncomputable def He6L2 : He6L := ⟨fun x => He6.rec (motive := fun _ => He5) (fun _ _ f2 _ _ _ _ _ => f2) x, fun x v => He6.rec (motive := fun _ => He6) (fun f0 f1 _ f3 f4 f5 f6 f7 => ⟨f0, f1, v, f3, f4, f5, f6, f7⟩) x⟩
noncomputable def He6L3 : He6L := ⟨fun x => He6.rec (motive := fun _ => He5) (fun _ _ _ f3 _ _ _ _ => f3) x, fun x v => He6.rec (motive := fun _ => He6) (fun f0 f1 f2 _ f4 f5 f6 f7 => ⟨f0, f1, f2, v, f4, f5, f6, f7⟩) x⟩
noncomputable def He6L4 : He6L := ⟨fun x => He6.rec (motive := fun _ => He5) (fun _ _ _ _ f4 _ _ _ => f4) x, fun x v => He6.rec (motive := fun _ => He6) (fun f0 f1 f2 f3 _ f5 f6 f7 => ⟨f0, f1, f2, f3, v, f5, f6, f7⟩) x⟩
noncomputable def He6L5 : He6L := ⟨fun x => He6.rec (motive := fun _ => He5) (fun _ _ _ _ _ f5 _ _ => f5) x, fun x v => He6.rec (motive := fun _ => He6) (fun f0 f1 f2 f3 f4 _ f6 f7 => ⟨f0, f1, f2, f3, f4, v, f6, f7⟩) x⟩
noncomputable def He6L6 : He6L := ⟨fun x => He6.rec (motive := fun _ => He5) (fun _ _ _ _ _ _ f6 _ => f6) x, fun x v => He6.rec (motive := fun _ => He6) (fun f0 f1 f2 f3 f4 f5 _ f7 => ⟨f0, f1, f2, f3, f4, f5, v, f7⟩) x⟩
noncomputable def He6L7 : He6L := ⟨fun x => He6.rec (motive := fun _ => He5) (fun _ _ _ _ _ _ _ f7 => f7) x, fun x v => He6.rec (motive := fun _ => He6) (fun f0 f1 f2 f3 f4 f5 f6 _ => ⟨f0, f1, f2, f3, f4, f5, f6, v⟩) x⟩
noncomputable def He6At (d : D8) : He6L := D8.rec (motive := fun _ => He6L) He6L0 He6L1 He6L2 He6L3 He6L4 He6L5 He6L6 He6L7 d


noncomputable def dig (n : Nat) : D8 :=
  Bool.rec (motive := fun _ => D8) (Bool.rec (motive := fun _ => D8) (Bool.rec (motive := fun _ => D8) .d7 .d6 (Nat.beq n 6)) (Bool.rec (motive := fun _ => D8) .d5 .d4 (Nat.beq n 4)) (Nat.ble n 5))
    (Bool.rec (motive := fun _ => D8) (Bool.rec (motive := fun _ => D8) .d3 .d2 (Nat.beq n 2)) (Bool.rec (motive := fun _ => D8) .d1 .d0 (Nat.beq n 0)) (Nat.ble n 1)) (Nat.ble n 3)

structure Sl where
  g : Fr3 → FV
  s : Fr3 → FV → Fr3
noncomputable def slot (n : Nat) : Sl :=
  ⟨fun f => (Fr1At (dig (Nat.mod n 8))).g ((Fr2At (dig (Nat.mod (Nat.div n 8) 8))).g ((Fr3At (dig (Nat.div n 64))).g f)),
   fun f v => (Fr3At (dig (Nat.div n 64))).s f ((Fr2At (dig (Nat.mod (Nat.div n 8) 8))).s ((Fr3At (dig (Nat.div n 64))).g f)
      ((Fr1At (dig (Nat.mod n 8))).s ((Fr2At (dig (Nat.mod (Nat.div n 8) 8))).g ((Fr3At (dig (Nat.div n 64))).g f)) v))⟩

noncomputable def pth (n : Nat) : Pth := ⟨dig (Nat.mod n 8), dig (Nat.mod (Nat.div n 8) 8), dig (Nat.mod (Nat.div n 64) 8), dig (Nat.mod (Nat.div n 512) 8), dig (Nat.mod (Nat.div n 4096) 8), dig (Nat.div n 32768)⟩
noncomputable def D8.suc (d : D8) : D8 := D8.rec (motive := fun _ => D8) .d1 .d2 .d3 .d4 .d5 .d6 .d7 .d0 d
noncomputable def D8.last (d : D8) : Bool := D8.rec (motive := fun _ => Bool) false false false false false false false true d
noncomputable def Pth.suc (p : Pth) : Pth :=
  Pth.rec (motive := fun _ => Pth) (fun a b c d e f => (Bool.rec (motive := fun _ => Pth) ⟨a.suc, b, c, d, e, f⟩
      (Bool.rec (motive := fun _ => Pth) ⟨.d0, b.suc, c, d, e, f⟩
      (Bool.rec (motive := fun _ => Pth) ⟨.d0, .d0, c.suc, d, e, f⟩
      (Bool.rec (motive := fun _ => Pth) ⟨.d0, .d0, .d0, d.suc, e, f⟩
      (Bool.rec (motive := fun _ => Pth) ⟨.d0, .d0, .d0, .d0, e.suc, f⟩
      ⟨.d0, .d0, .d0, .d0, .d0, f.suc⟩ e.last) d.last) c.last) b.last) a.last)) p
noncomputable def hget (h : He6) (p : Pth) : FO := (He1At p.a).g ((He2At p.b).g ((He3At p.c).g ((He4At p.d).g ((He5At p.e).g ((He6At p.f).g (h))))))
noncomputable def hset (h : He6) (p : Pth) (o : FO) : He6 := (He6At p.f).s (h) ((He5At p.e).s ((He6At p.f).g (h)) ((He4At p.d).s ((He5At p.e).g ((He6At p.f).g (h))) ((He3At p.c).s ((He4At p.d).g ((He5At p.e).g ((He6At p.f).g (h)))) ((He2At p.b).s ((He3At p.c).g ((He4At p.d).g ((He5At p.e).g ((He6At p.f).g (h))))) ((He1At p.a).s ((He2At p.b).g ((He3At p.c).g ((He4At p.d).g ((He5At p.e).g ((He6At p.f).g (h)))))) (o))))))

/-- the memory: the next place, what there is -/
structure FH where
  n : Pth
  h : He6
noncomputable def FH.new (h : FH) (o : FO) : FH := FH.rec (motive := fun _ => FH) (fun n h => ⟨n.suc, hset h n o⟩) h
noncomputable def FH.put (h : FH) (p : Pth) (o : FO) : FH := FH.rec (motive := fun _ => FH) (fun n h => ⟨n, hset h p o⟩) h
/-- is there no place left? -/
noncomputable def FH.full (h : FH) : Bool := h.n.f.last

noncomputable def p0 : Pth := ⟨.d0, .d0, .d0, .d0, .d0, .d0⟩
noncomputable def bad : FV := ⟨99, 0, 0, 0, p0, [], []⟩
noncomputable def noFO : FO := ⟨0, false, [], []⟩

noncomputable def Fr1z : Fr1 := ⟨bad, bad, bad, bad, bad, bad, bad, bad⟩
noncomputable def Fr2z : Fr2 := ⟨Fr1z, Fr1z, Fr1z, Fr1z, Fr1z, Fr1z, Fr1z, Fr1z⟩
noncomputable def Fr3z : Fr3 := ⟨Fr2z, Fr2z, Fr2z, Fr2z, Fr2z, Fr2z, Fr2z, Fr2z⟩
noncomputable def He1z : He1 := ⟨noFO, noFO, noFO, noFO, noFO, noFO, noFO, noFO⟩
noncomputable def He2z : He2 := ⟨He1z, He1z, He1z, He1z, He1z, He1z, He1z, He1z⟩
noncomputable def He3z : He3 := ⟨He2z, He2z, He2z, He2z, He2z, He2z, He2z, He2z⟩
noncomputable def He4z : He4 := ⟨He3z, He3z, He3z, He3z, He3z, He3z, He3z, He3z⟩
noncomputable def He5z : He5 := ⟨He4z, He4z, He4z, He4z, He4z, He4z, He4z, He4z⟩
noncomputable def He6z : He6 := ⟨He5z, He5z, He5z, He5z, He5z, He5z, He5z, He5z⟩
abbrev HeT := He6
noncomputable def HeTz : HeT := He6z


def D8.n : D8 → Nat
  | .d0 => 0 | .d1 => 1 | .d2 => 2 | .d3 => 3 | .d4 => 4 | .d5 => 5 | .d6 => 6 | .d7 => 7
def Pth.dec (p : Pth) : Nat := 1 * p.a.n + 8 * p.b.n + 64 * p.c.n + 512 * p.d.n + 4096 * p.e.n + 32768 * p.f.n
/-- so many places there are -/
def top : Nat := 262144


end Go.Fast
