/- The fast evaluator: operations that leave the memory as it is. -/
import Derived.Test.YtckjdbmadheamaaGreatDoorA5
set_option linter.all false
namespace Go.Fast
open Go.Vai
variable [S : Sym]

/-- what R itself says of an operation that only looks, decoded and encoded -/
noncomputable def slowK (P : Program) (o : Op) : PK :=
  ⟨fun e h => match evOp P (fun _ _ _ => none) (decE e) (decH h) o with
    | some (v, _) => enc v
    | none => bad⟩
def looksOnly (P : Program) (o : Op) : Bool := decide (cls P o = .pure) || decide (cls P o = .load)
noncomputable def movK (x : OpdK) : PK := ⟨fun e _ => x.g e⟩
theorem movK_ok (P : Program) (x : Operand) : POk P (.move x) (movK (opdK x)) := by
  intro cf e h r hr g
  have o1 := opdK_ok x e r hr g
  simp only [evOp, o1]; rfl
theorem asnK_ok (P : Program) (x : Operand) : POk P (.assign x) (movK (opdK x)) := by
  intro cf e h r hr g
  have o1 := opdK_ok x e r hr g
  simp only [evOp, o1]; rfl

noncomputable def pickK (c x y : OpdK) : PK := ⟨fun e _ => onV (fun t a _ _ _ _ _ => iV (Nat.beq t 2) (iV (Nat.beq a 1) (x.g e) (y.g e)) bad) (c.g e)⟩
theorem pickK_ok (P : Program) (c x y : Operand) : POk P (.pick c x y) (pickK (opdK c) (opdK x) (opdK y)) := by
  intro cf e h r hr g
  simp only [pickK, onV_eq] at hr
  obtain ⟨h1, hr⟩ := iV_inv hr g
  have h1 := beq_t h1
  have o1 := opdK_ok c e _ rfl (by omega)
  simp only [evOp, o1, Option.bind_eq_bind, Option.bind_some]
  rw [dec_bool h1]
  rcases iV_or hr with ⟨h2, h3⟩ | ⟨h2, h3⟩
  · rw [h2]; have o2 := opdK_ok x e r h3 g; simp only [o2]; rfl
  · rw [h2]; have o2 := opdK_ok y e r h3 g; simp only [o2]; rfl

noncomputable def loadC (x : OpdK) : PK := ⟨fun e h => onV (fun t a _ _ p _ _ => iV (Nat.beq t 4) (live (hget h.h p) fun c => nth c a) bad) (x.g e)⟩
noncomputable def loadA (n : Nat) (x : OpdK) : PK := ⟨fun e h => onV (fun t a _ _ p _ _ => iV (Nat.beq t 4) (live (hget h.h p) fun c => takeV n (dropL a c)) bad) (x.g e)⟩
theorem loadC_ok' {P : Program} {t : TypeId} {x : Operand} (ha : isAggT P t = some false) {e : Fr3} {h : FH} {r : FV} (hr : r = (loadC (opdK x)).run e h) (g : r.t ≠ 99) :
    ∃ b o, opd (decE e) x = some (.ptr b o) ∧ loadT P (decH h) t b o = some (dec r) := by
  simp only [loadC, onV_eq] at hr
  obtain ⟨h1, hr⟩ := iV_inv hr g
  have h1 := beq_t h1
  obtain ⟨hrow, hr⟩ := live_ok hr g
  have o1 := opdK_ok x e _ rfl (by omega)
  rw [dec_ptr h1] at o1
  refine ⟨_, _, o1, ?_⟩
  simp only [loadT, hrow, ha, Option.bind_eq_bind, Option.bind_some]
  exact (nth_ok hr g).1
theorem loadA_ok' {P : Program} {t : TypeId} {x : Operand} {n : Nat} (ha : isAggT P t = some true) (hn : sizeT P t = some n) (h0 : n ≠ 0) {e : Fr3} {h : FH} {r : FV} (hr : r = (loadA n (opdK x)).run e h) (g : r.t ≠ 99) :
    ∃ b o, opd (decE e) x = some (.ptr b o) ∧ loadT P (decH h) t b o = some (dec r) := by
  simp only [loadA, onV_eq] at hr
  obtain ⟨h1, hr⟩ := iV_inv hr g
  have h1 := beq_t h1
  obtain ⟨hrow, hr⟩ := live_ok hr g
  have o1 := opdK_ok x e _ rfl (by omega)
  rw [dec_ptr h1] at o1
  refine ⟨_, _, o1, ?_⟩
  obtain ⟨hc, ht, _⟩ := cut_ok hr h0 g
  simp only [loadT, hrow, ha, hn, Option.bind_eq_bind, Option.bind_some, hc]
  rw [dec_agg ht]; rfl
theorem loadC_ok {P : Program} {t : TypeId} {x : Operand} (ha : isAggT P t = some false) : POk P (.load t x) (loadC (opdK x)) := by
  intro cf e h r hr g
  obtain ⟨b, o, o1, hl⟩ := loadC_ok' ha hr g
  simp only [evOp, o1, Option.bind_eq_bind, Option.bind_some, hl]; rfl
theorem loadA_ok {P : Program} {t : TypeId} {x : Operand} {n : Nat} (ha : isAggT P t = some true) (hn : sizeT P t = some n) (h0 : n ≠ 0) : POk P (.load t x) (loadA n (opdK x)) := by
  intro cf e h r hr g
  obtain ⟨b, o, o1, hl⟩ := loadA_ok' ha hn h0 hr g
  simp only [evOp, o1, Option.bind_eq_bind, Option.bind_some, hl]; rfl

noncomputable def fieldAddrK (off : Nat) (x : OpdK) : PK := ⟨fun e _ => onV (fun t a _ _ p _ _ => iV (Nat.beq t 4) ⟨4, Nat.add a off, 0, 0, p, [], []⟩ bad) (x.g e)⟩
theorem fieldAddrK_ok {P : Program} {s : TypeId} {x : Operand} {f n : Nat} {fs : Array Field} {fd : Field} (hs : P.underlying s = some (.struct fs)) (hf : fs[f]? = some fd) (hn : sizeT P fd.type = some n) (h0 : n ≠ 0) :
    POk P (.fieldAddr s x f) (fieldAddrK fd.offset (opdK x)) := by
  intro cf e h r hr g
  simp only [fieldAddrK, onV_eq] at hr
  obtain ⟨h1, hr⟩ := iV_inv hr g
  have h1 := beq_t h1
  have o1 := opdK_ok x e _ rfl (by omega)
  simp only [evOp, o1, Option.bind_eq_bind, Option.bind_some]
  rw [dec_ptr h1, hr]
  simp only [fieldAddrA, hs, hf, hn, Option.bind_eq_bind, Option.bind_some, if_neg h0]
  rfl

/- a part of an aggregate -/
noncomputable def partC (off : Nat) (x : OpdK) : PK := ⟨fun e _ => onV (fun t _ _ _ _ l _ => iV (Nat.beq t 15) (nth l off) bad) (x.g e)⟩
noncomputable def partV (n off : Nat) (x : OpdK) : PK := ⟨fun e _ => onV (fun t _ _ _ _ l _ => iV (Nat.beq t 15) (takeV n (dropL off l)) bad) (x.g e)⟩
theorem partC_ok {P : Program} {t : TypeId} {off : Nat} {l : List FV} {r : FV} (ha : isAggT P t = some false) (hr : r = nth l off) (g : r.t ≠ 99) : partA P t off (decC l) = some (dec r) := by
  simp only [partA, ha, Option.bind_eq_bind, Option.bind_some]
  exact (nth_ok hr g).1
theorem partV_ok {P : Program} {t : TypeId} {n off : Nat} {l : List FV} {r : FV} (ha : isAggT P t = some true) (hn : sizeT P t = some n) (h0 : n ≠ 0) (hr : r = takeV n (dropL off l)) (g : r.t ≠ 99) : partA P t off (decC l) = some (dec r) := by
  obtain ⟨hc, ht, _⟩ := cut_ok hr h0 g
  simp only [partA, ha, hn, hc, Option.bind_eq_bind, Option.bind_some]
  rw [dec_agg ht]; rfl
theorem fieldC_ok {P : Program} {t : TypeId} {x : Operand} {f : Nat} {fs : Array Field} {fd : Field} (hs : P.underlying t = some (.struct fs)) (hf : fs[f]? = some fd) (ha : isAggT P fd.type = some false) :
    POk P (.field t x f) (partC fd.offset (opdK x)) := by
  intro cf e h r hr g
  simp only [partC, onV_eq] at hr
  obtain ⟨h1, hr⟩ := iV_inv hr g
  have h1 := beq_t h1
  have o1 := opdK_ok x e _ rfl (by omega)
  simp only [evOp, o1, Option.bind_eq_bind, Option.bind_some]
  rw [dec_agg h1, hs]
  simp only [hf, Option.bind_some, partC_ok ha hr g]
  rfl
theorem fieldV_ok {P : Program} {t : TypeId} {x : Operand} {f n : Nat} {fs : Array Field} {fd : Field} (hs : P.underlying t = some (.struct fs)) (hf : fs[f]? = some fd) (ha : isAggT P fd.type = some true) (hn : sizeT P fd.type = some n) (h0 : n ≠ 0) :
    POk P (.field t x f) (partV n fd.offset (opdK x)) := by
  intro cf e h r hr g
  simp only [partV, onV_eq] at hr
  obtain ⟨h1, hr⟩ := iV_inv hr g
  have h1 := beq_t h1
  have o1 := opdK_ok x e _ rfl (by omega)
  simp only [evOp, o1, Option.bind_eq_bind, Option.bind_some]
  rw [dec_agg h1, hs]
  simp only [hf, Option.bind_some, partV_ok ha hn h0 hr g]
  rfl

noncomputable def indexAddrK (n : Nat) (x ix : OpdK) : PK :=
  ⟨fun e _ => onV (fun t a b c p _ _ => iV (orB (Nat.beq t 6) (Nat.beq t 7)) (iV (Nat.beq n c) (onV (fun t' _ i _ _ _ _ => iV (Nat.beq t' 0) (iV (Nat.ble (Nat.add i 1) b) ⟨4, Nat.add a (Nat.mul i n), 0, 0, p, [], []⟩ bad) bad) (ix.g e)) bad) bad) (x.g e)⟩
noncomputable def indexArrK (len n : Nat) (x ix : OpdK) : PK :=
  ⟨fun e _ => onV (fun t a _ _ p _ _ => iV (Nat.beq t 4) (onV (fun t' _ i _ _ _ _ => iV (Nat.beq t' 0) (iV (Nat.ble (Nat.add i 1) len) ⟨4, Nat.add a (Nat.mul i n), 0, 0, p, [], []⟩ bad) bad) (ix.g e)) bad) (x.g e)⟩
theorem sl_tag {t : Nat} (h : orB (Nat.beq t 6) (Nat.beq t 7) = true) : t = 6 ∨ t = 7 := by
  rw [orB_eq, Bool.or_eq_true] at h
  rcases h with h | h
  · exact .inl (beq_t h)
  · exact .inr (beq_t h)
theorem dec_sl {v : FV} (h : v.t = 6 ∨ v.t = 7) : dec v = .slice v.p.dec v.a v.b v.c (Nat.beq v.t 7) := by
  rcases h with h | h
  · rw [dec_slice h, h]; rfl
  · rw [dec_sliceT h, h]; rfl
theorem indexAddrK_ok {P : Program} {t el : TypeId} {x ix : Operand} {n : Nat} (ht : P.underlying t = some (.slice el)) (hn : sizeT P el = some n) (h0 : n ≠ 0) : POk P (.indexAddr t x ix) (indexAddrK n (opdK x) (opdK ix)) := by
  intro cf e h r hr g
  simp only [indexAddrK, onV_eq] at hr
  obtain ⟨h1, hr⟩ := iV_inv hr g
  obtain ⟨h2, hr⟩ := iV_inv hr g
  obtain ⟨h3, hr⟩ := iV_inv hr g
  obtain ⟨h4, hr⟩ := iV_inv hr g
  have h1 := sl_tag h1; have h2 := beq_t h2; have h3 := beq_t h3; have h4 : _ + 1 ≤ _ := ble_t h4
  have o1 := opdK_ok x e _ rfl (by omega)
  have o2 := opdK_ok ix e _ rfl (by omega)
  simp only [evOp, o1, o2, Option.bind_eq_bind, Option.bind_some]
  rw [dec_sl h1, dec_int h3, hr]
  simp only [indexAddrA, ht, hn, Option.bind_eq_bind, Option.bind_some]
  rw [if_pos ⟨by simp, by simp; omega, h2, h0⟩]
  rfl
theorem indexArrK_ok {P : Program} {t el : TypeId} {len : Nat} {x ix : Operand} {n : Nat} (ht : P.underlying t = some (.array len el)) (hn : sizeT P el = some n) (h0 : n ≠ 0) : POk P (.indexAddr t x ix) (indexArrK len n (opdK x) (opdK ix)) := by
  intro cf e h r hr g
  simp only [indexArrK, onV_eq] at hr
  obtain ⟨h1, hr⟩ := iV_inv hr g
  obtain ⟨h3, hr⟩ := iV_inv hr g
  obtain ⟨h4, hr⟩ := iV_inv hr g
  have h1 := beq_t h1; have h3 := beq_t h3; have h4 : _ + 1 ≤ _ := ble_t h4
  have o1 := opdK_ok x e _ rfl (by omega)
  have o2 := opdK_ok ix e _ rfl (by omega)
  simp only [evOp, o1, o2, Option.bind_eq_bind, Option.bind_some]
  rw [dec_ptr h1, dec_int h3, hr]
  simp only [indexAddrA, ht, hn, Option.bind_eq_bind, Option.bind_some]
  rw [if_pos ⟨by simp, by simp; omega, h0⟩]
  rfl

noncomputable def indexStrK (x ix : OpdK) : PK :=
  ⟨fun e _ => onV (fun t a b _ _ _ _ => iV (Nat.beq t 3) (onV (fun t' _ i _ _ _ _ => iV (Nat.beq t' 0) (iV (Nat.ble (Nat.add i 1) a) (vI 4 (byteAt a b i)) bad) bad) (ix.g e)) bad) (x.g e)⟩
theorem indexStrK_ok {P : Program} {t : TypeId} {x ix : Operand} (ht : P.underlying t = some .string) : POk P (.index t x ix) (indexStrK (opdK x) (opdK ix)) := by
  intro cf e h r hr g
  simp only [indexStrK, onV_eq] at hr
  obtain ⟨h1, hr⟩ := iV_inv hr g
  obtain ⟨h3, hr⟩ := iV_inv hr g
  obtain ⟨h4, hr⟩ := iV_inv hr g
  have h1 := beq_t h1; have h3 := beq_t h3; have h4 : _ + 1 ≤ _ := ble_t h4
  have o1 := opdK_ok x e _ rfl (by omega)
  have o2 := opdK_ok ix e _ rfl (by omega)
  simp only [evOp, o1, o2, Option.bind_eq_bind, Option.bind_some]
  rw [dec_str h1, dec_int h3, hr]
  simp only [indexA, ht]
  rw [if_pos (by simp)]
  have := txt_at (n := ((opdK x).g e).a) (c := ((opdK x).g e).b) (i := ((opdK ix).g e).b) (by omega)
  simp only [Int.ofNat_eq_natCast, Int.toNat_natCast, this, Option.map_some]
  rw [u8_of (byteAt_lt _ _ _)]
  rfl
noncomputable def indexAC (len n : Nat) (x ix : OpdK) : PK :=
  ⟨fun e _ => onV (fun t _ _ _ _ l _ => iV (Nat.beq t 15) (onV (fun t' _ i _ _ _ _ => iV (Nat.beq t' 0) (iV (Nat.ble (Nat.add i 1) len) (nth l (Nat.mul i n)) bad) bad) (ix.g e)) bad) (x.g e)⟩
noncomputable def indexAV (len n : Nat) (x ix : OpdK) : PK :=
  ⟨fun e _ => onV (fun t _ _ _ _ l _ => iV (Nat.beq t 15) (onV (fun t' _ i _ _ _ _ => iV (Nat.beq t' 0) (iV (Nat.ble (Nat.add i 1) len) (takeV n (dropL (Nat.mul i n) l)) bad) bad) (ix.g e)) bad) (x.g e)⟩
theorem indexAC_ok {P : Program} {t el : TypeId} {len n : Nat} {x ix : Operand} (ht : P.underlying t = some (.array len el)) (ha : isAggT P el = some false) (hn : sizeT P el = some n) : POk P (.index t x ix) (indexAC len n (opdK x) (opdK ix)) := by
  intro cf e h r hr g
  simp only [indexAC, onV_eq] at hr
  obtain ⟨h1, hr⟩ := iV_inv hr g
  obtain ⟨h3, hr⟩ := iV_inv hr g
  obtain ⟨h4, hr⟩ := iV_inv hr g
  have h1 := beq_t h1; have h3 := beq_t h3; have h4 : _ + 1 ≤ _ := ble_t h4
  have o1 := opdK_ok x e _ rfl (by omega)
  have o2 := opdK_ok ix e _ rfl (by omega)
  simp only [evOp, o1, o2, Option.bind_eq_bind, Option.bind_some]
  rw [dec_agg h1, dec_int h3]
  simp only [indexA, ht, hn, Option.bind_eq_bind, Option.bind_some]
  rw [if_pos ⟨by simp, by simp; omega⟩]
  simp only [Int.ofNat_eq_natCast, Int.toNat_natCast]
  have hp := partC_ok ha hr g
  change partA P el (((opdK ix).g e).b * n) _ = _ at hp
  rw [hp]
  rfl
theorem indexAV_ok {P : Program} {t el : TypeId} {len n : Nat} {x ix : Operand} (ht : P.underlying t = some (.array len el)) (ha : isAggT P el = some true) (hn : sizeT P el = some n) (h0 : n ≠ 0) : POk P (.index t x ix) (indexAV len n (opdK x) (opdK ix)) := by
  intro cf e h r hr g
  simp only [indexAV, onV_eq] at hr
  obtain ⟨h1, hr⟩ := iV_inv hr g
  obtain ⟨h3, hr⟩ := iV_inv hr g
  obtain ⟨h4, hr⟩ := iV_inv hr g
  have h1 := beq_t h1; have h3 := beq_t h3; have h4 : _ + 1 ≤ _ := ble_t h4
  have o1 := opdK_ok x e _ rfl (by omega)
  have o2 := opdK_ok ix e _ rfl (by omega)
  simp only [evOp, o1, o2, Option.bind_eq_bind, Option.bind_some]
  rw [dec_agg h1, dec_int h3]
  simp only [indexA, ht, hn, Option.bind_eq_bind, Option.bind_some]
  rw [if_pos ⟨by simp, by simp; omega⟩]
  simp only [Int.ofNat_eq_natCast, Int.toNat_natCast]
  have hp := partV_ok ha hn h0 hr g
  change partA P el (((opdK ix).g e).b * n) _ = _ at hp
  rw [hp]
  rfl

/- cuts -/
structure BK where
  run : Fr3 → Nat → FV
noncomputable def boundK (x : Option Operand) : BK := match x with
  | none => ⟨fun _ d => vI 3 d⟩
  | some x => ⟨fun e _ => (opdK x).g e⟩
theorem boundK_ok (x : Option Operand) (e : Fr3) (d : Nat) (r : FV) (hr : r = (boundK x).run e d) (ht : r.t = 0) : ∃ ov, optd (decE e) x = some ov ∧ ∀ y, r.b ≤ y → boundA y d ov = some r.b := by
  cases x with
  | none => exact ⟨none, rfl, fun y _ => by rw [hr]; rfl⟩
  | some x =>
    have o1 := opdK_ok x e r hr (by omega)
    refine ⟨some (dec r), by simp only [optd, o1, Option.map_some], fun y hy => ?_⟩
    rw [dec_int ht]
    simp only [boundA]
    rw [if_pos ⟨by simp, by simp; exact hy⟩]
    rfl
theorem optd_none (e : Env) : optd e none = some none := rfl
theorem optd_some (e : Env) (x : Operand) : optd e (some x) = (opd e x).map some := rfl
noncomputable def sliceStrK (x : OpdK) (lo hi : BK) : PK :=
  ⟨fun e _ => onV (fun t a b _ _ _ _ => iV (Nat.beq t 3)
      (onV (fun t1 _ l _ _ _ _ => onV (fun t2 _ u _ _ _ _ => iV (andB (Nat.beq t1 0) (andB (Nat.beq t2 0) (andB (Nat.ble l u) (Nat.ble u a))))
        ⟨3, Nat.sub u l, Nat.mod (Nat.div b (Nat.pow 256 (Nat.sub a u))) (Nat.pow 256 (Nat.sub u l)), 0, p0, [], []⟩ bad) (hi.run e a)) (lo.run e 0)) bad) (x.g e)⟩
noncomputable def sliceSlK (s : PK) (n : Nat) (x : OpdK) (lo hi : BK) : PK :=
  ⟨fun e h => onV (fun t a b c p _ _ => iV (orB (Nat.beq t 6) (Nat.beq t 7))
      (onV (fun t1 _ l _ _ _ _ => onV (fun t2 _ u _ _ _ _ => iV (andB (Nat.beq n c) (andB (Nat.beq t1 0) (andB (Nat.beq t2 0) (andB (Nat.ble l u) (Nat.ble u b)))))
        (iV (andB (Nat.beq t 7) (Nat.beq u b)) ⟨7, Nat.add a (Nat.mul l c), Nat.sub u l, c, p, [], []⟩ ⟨6, Nat.add a (Nat.mul l c), Nat.sub u l, c, p, [], []⟩) bad) (hi.run e b)) (lo.run e 0)) (s.run e h)) (x.g e)⟩
theorem sliceStrK_ok {P : Program} {t : TypeId} {x : Operand} {lo hi : Option Operand} (ht : P.underlying t = some .string) : POk P (.slice t x lo hi none) (sliceStrK (opdK x) (boundK lo) (boundK hi)) := by
  intro cf e h r hr g
  simp only [sliceStrK, onV_eq] at hr
  obtain ⟨h1, hr⟩ := iV_inv hr g
  obtain ⟨h2, hr⟩ := iV_inv hr g
  obtain ⟨h2, h3⟩ := andB_t h2
  obtain ⟨h3, h4⟩ := andB_t h3
  obtain ⟨h4, h5⟩ := andB_t h4
  have h1 := beq_t h1; have h2 := beq_t h2; have h3 := beq_t h3; have h4 := ble_t h4; have h5 := ble_t h5
  have o1 := opdK_ok x e _ rfl (by omega)
  obtain ⟨l, e1, b1⟩ := boundK_ok lo e _ _ rfl h2
  obtain ⟨u, e2, b2⟩ := boundK_ok hi e _ _ rfl h3
  simp only [evOp, o1, e1, e2, optd_none, Option.bind_eq_bind, Option.bind_some]
  rw [dec_str h1]
  simp only [sliceA, ht, Option.isSome_none, Bool.false_eq_true, if_false, txt_size, b2 _ h5, Option.bind_eq_bind, Option.bind_some, b1 _ h4]
  rw [← txt_cut _ h4 h5, hr]
  rfl
theorem sliceSlK_ok {P : Program} {t el : TypeId} {n : Nat} {x : Operand} {lo hi : Option Operand} {s : PK} (hs : POk P (.slice t x lo hi none) s) (ht : P.underlying t = some (.slice el)) (hn : sizeT P el = some n) :
    POk P (.slice t x lo hi none) (sliceSlK s n (opdK x) (boundK lo) (boundK hi)) := by
  intro cf e h r hr g
  simp only [sliceSlK, onV_eq] at hr
  rcases iV_or hr with ⟨h1, hr⟩ | ⟨_, hr⟩
  · obtain ⟨h2, hr⟩ := iV_inv hr g
    obtain ⟨h0, h2⟩ := andB_t h2
    obtain ⟨h2, h3⟩ := andB_t h2
    obtain ⟨h3, h4⟩ := andB_t h3
    obtain ⟨h4, h5⟩ := andB_t h4
    have h1 := sl_tag h1; have h0 := beq_t h0; have h2 := beq_t h2; have h3 := beq_t h3; have h4 := ble_t h4; have h5 := ble_t h5
    have o1 := opdK_ok x e _ rfl (by omega)
    obtain ⟨l, e1, b1⟩ := boundK_ok lo e _ _ rfl h2
    obtain ⟨u, e2, b2⟩ := boundK_ok hi e _ _ rfl h3
    simp only [evOp, o1, e1, e2, optd_none, Option.bind_eq_bind, Option.bind_some]
    rw [dec_sl h1]
    simp only [sliceA, ht, hn, Option.bind_eq_bind, Option.bind_some, if_neg (show ¬ n ≠ ((opdK x).g e).c from fun hh => hh h0), b2 _ h5, b1 _ h4]
    rcases iV_or hr with ⟨h6, hr⟩ | ⟨h6, hr⟩
    · obtain ⟨h6, h7⟩ := andB_t h6
      have h7 := beq_t h7
      rw [hr, h6, decide_eq_true h7]
      rfl
    · rw [andB_eq] at h6
      have : (Nat.beq ((opdK x).g e).t 7 && decide (((boundK hi).run e ((opdK x).g e).b).b = ((opdK x).g e).b)) = false := by
        rw [Bool.and_eq_false_iff] at h6 ⊢
        rcases h6 with h6 | h6
        · exact .inl h6
        · exact .inr (decide_eq_false (beq_f h6))
      rw [this, hr]
      rfl
  · exact hs cf e h r hr g
/-- with a capacity -/
noncomputable def sliceMK (n : Nat) (x : OpdK) (lo : BK) (hi mx : OpdK) : PK :=
  ⟨fun e _ => onV (fun t a b c p _ _ => iV (orB (Nat.beq t 6) (Nat.beq t 7))
      (onV (fun t1 _ l _ _ _ _ => onV (fun t2 _ u _ _ _ _ => onV (fun t3 _ m _ _ _ _ => iV (andB (Nat.beq n c) (andB (Nat.beq t1 0) (andB (Nat.beq t2 0) (andB (Nat.beq t3 0) (andB (Nat.ble l u) (andB (Nat.ble u m) (Nat.ble m b)))))))
        (iV (Nat.beq m u) ⟨7, Nat.add a (Nat.mul l c), Nat.sub u l, c, p, [], []⟩ ⟨6, Nat.add a (Nat.mul l c), Nat.sub u l, c, p, [], []⟩) bad) (mx.g e)) (hi.g e)) (lo.run e 0)) bad) (x.g e)⟩
theorem sliceMK_ok {P : Program} {t el : TypeId} {n : Nat} {x hi mx : Operand} {lo : Option Operand} (ht : P.underlying t = some (.slice el)) (hn : sizeT P el = some n) :
    POk P (.slice t x lo (some hi) (some mx)) (sliceMK n (opdK x) (boundK lo) (opdK hi) (opdK mx)) := by
  intro cf e h r hr g
  simp only [sliceMK, onV_eq] at hr
  obtain ⟨h1, hr⟩ := iV_inv hr g
  obtain ⟨h2, hr⟩ := iV_inv hr g
  obtain ⟨h0, h2⟩ := andB_t h2
  obtain ⟨h2, h3⟩ := andB_t h2
  obtain ⟨h3, h4⟩ := andB_t h3
  obtain ⟨h4, h5⟩ := andB_t h4
  obtain ⟨h5, h6⟩ := andB_t h5
  obtain ⟨h6, h7⟩ := andB_t h6
  have h1 := sl_tag h1; have h0 := beq_t h0; have h2 := beq_t h2; have h3 := beq_t h3; have h4 := beq_t h4; have h5 := ble_t h5; have h6 := ble_t h6; have h7 := ble_t h7
  have o1 := opdK_ok x e _ rfl (by omega)
  have o2 := opdK_ok hi e _ rfl (by omega)
  have o3 := opdK_ok mx e _ rfl (by omega)
  obtain ⟨l, e1, b1⟩ := boundK_ok lo e _ _ rfl h2
  simp only [evOp, o1, o2, o3, e1, optd_some, Option.bind_eq_bind, Option.bind_some, Option.map_some]
  rw [dec_sl h1, dec_int h3, dec_int h4]
  have c1 : ∀ (k : IntKind) (y d v : Nat), v ≤ y → boundA y d (some (.int k (.ofNat v))) = some v := fun k y d v hv => by
    simp only [boundA]
    rw [if_pos ⟨by simp, by simp; exact hv⟩]
    rfl
  simp only [sliceA, ht, hn, Option.bind_eq_bind, Option.bind_some, if_neg (show ¬ n ≠ ((opdK x).g e).c from fun hh => hh h0), c1 _ _ _ _ h7, c1 _ _ _ _ h6, Option.isNone_some, Bool.false_eq_true, if_false, b1 _ h5]
  rcases iV_or hr with ⟨h8, hr⟩ | ⟨h8, hr⟩
  · rw [hr, decide_eq_true (beq_t h8)]; rfl
  · rw [hr, decide_eq_false (beq_f h8)]; rfl

noncomputable def extractK (i : Nat) (x : OpdK) : PK := ⟨fun e _ => onV (fun t _ _ _ _ l _ => iV (Nat.beq t 16) (nthT l i) bad) (x.g e)⟩
theorem extractK_ok {P : Program} {x : Operand} {i : Nat} : POk P (.extract x i) (extractK i (opdK x)) := by
  intro cf e h r hr g
  simp only [extractK, onV_eq] at hr
  obtain ⟨h1, hr⟩ := iV_inv hr g
  have h1 := beq_t h1
  have o1 := opdK_ok x e _ rfl (by omega)
  simp only [evOp, o1, Option.bind_eq_bind, Option.bind_some]
  rw [dec_tup h1]
  simp only [nthT_ok hr g]
  rfl
noncomputable def nilCheckK (s : PK) (x : OpdK) : PK := ⟨fun e h => onV (fun t a b c p l m => iV (orB (Nat.beq t 4) (Nat.beq t 11)) ⟨t, a, b, c, p, l, m⟩ (s.run e h)) (x.g e)⟩
theorem nilCheckK_ok {P : Program} {x : Operand} {s : PK} (hs : POk P (.nilCheck x) s) : POk P (.nilCheck x) (nilCheckK s (opdK x)) := by
  intro cf e h r hr g
  simp only [nilCheckK, onV_eq, mk_eq] at hr
  rcases iV_or hr with ⟨h1, hr⟩ | ⟨_, hr⟩
  · have o1 := opdK_ok x e r hr g
    simp only [evOp, o1, Option.bind_eq_bind, Option.bind_some]
    rw [orB_eq, Bool.or_eq_true, ← hr] at h1
    rcases h1 with h1 | h1
    · rw [dec_ptr (beq_t h1)]
    · rw [dec_func (beq_t h1)]
  · exact hs cf e h r hr g
noncomputable def ifaceK (t : Nat) (x : OpdK) : PK := ⟨fun e _ => onV (fun t' a b c p l m => iV (notB (Nat.beq t' 99)) ⟨13, t, 0, 0, p0, [⟨t', a, b, c, p, l, m⟩], []⟩ bad) (x.g e)⟩
theorem ifaceK_ok {P : Program} {t : TypeId} {x : Operand} {d : TypeDesc} (ht : P.underlying t = some d) (hd : ∀ ms, d ≠ .interface ms) : POk P (.makeInterface t x) (ifaceK t (opdK x)) := by
  intro cf e h r hr g
  simp only [ifaceK, onV_eq, mk_eq] at hr
  obtain ⟨h1, hr⟩ := iV_inv hr g
  rw [notB_eq] at h1
  have h1 := beq_f (by simpa using h1 : Nat.beq ((opdK x).g e).t 99 = false)
  have o1 := opdK_ok x e _ rfl h1
  simp only [evOp, o1, Option.bind_eq_bind, Option.bind_some]
  rw [ht, hr]
  cases d <;> first | rfl | exact absurd rfl (hd _)
noncomputable def convIK (s : PK) (k : Nat) (x : OpdK) : PK := ⟨fun e h => onV (fun t _ b _ _ _ _ => iV (andB (Nat.beq t 0) (Nat.ble b (maxOf k))) (vI k b) (s.run e h)) (x.g e)⟩
theorem convIK_ok {P : Program} {s d : TypeId} {x : Operand} {ds : TypeDesc} {k : IntKind} {sl : PK} (hsl : POk P (.convert s d x) sl) (hs : P.underlying s = some ds) (hd : P.underlying d = some (.int k)) : POk P (.convert s d x) (convIK sl (kindNo k) (opdK x)) := by
  intro cf e h r hr g
  simp only [convIK, onV_eq] at hr
  rcases iV_or hr with ⟨h1, hr⟩ | ⟨_, hr⟩
  · obtain ⟨h1, h2⟩ := andB_t h1
    have h1 := beq_t h1; have h2 := ble_t h2
    have o1 := opdK_ok x e _ rfl (by omega)
    simp only [evOp, o1, Option.bind_eq_bind, Option.bind_some]
    rw [dec_int h1, hr]
    have hw := wrap_max _ _ h2
    rw [kindOf_no] at hw
    have : convertA P (decH h) s d (.int (kindOf ((opdK x).g e).a) (.ofNat ((opdK x).g e).b)) = some (.int k (k.wrap (((opdK x).g e).b : Int)), decH h) := by
      unfold convertA
      rw [hs, hd]
      cases ds <;> rfl
    rw [this, hw, dec_vI, kindOf_no]
    rfl
  · exact hsl cf e h r hr g
noncomputable def strV (x : OpdK) : PK := ⟨fun e _ => onV (fun t a b c p l m => iV (Nat.beq t 3) ⟨t, a, b, c, p, l, m⟩ bad) (x.g e)⟩
theorem strV_ok {P : Program} {s d : TypeId} {x : Operand} (hs : P.underlying s = some .string) (hd : P.underlying d = some .string) : POk P (.convert s d x) (strV (opdK x)) := by
  intro cf e h r hr g
  simp only [strV, onV_eq, mk_eq] at hr
  obtain ⟨h1, hr⟩ := iV_inv hr g
  have h1 := beq_t h1
  rw [← hr] at h1
  have o1 := opdK_ok x e r hr g
  simp only [evOp, o1, Option.bind_eq_bind, Option.bind_some]
  rw [dec_str h1]
  unfold convertA
  rw [hs, hd]

noncomputable def notK (x : OpdK) : PK := ⟨fun e _ => onV (fun t a _ _ _ _ _ => iV (Nat.beq t 2) (vB (notB (Nat.beq a 1))) bad) (x.g e)⟩
theorem notK_ok {P : Program} {t : TypeId} {x : Operand} : POk P (.unOp .not t x) (notK (opdK x)) := by
  intro cf e h r hr g
  simp only [notK, onV_eq] at hr
  obtain ⟨h1, hr⟩ := iV_inv hr g
  have h1 := beq_t h1
  have o1 := opdK_ok x e _ rfl (by omega)
  simp only [evOp, o1, Option.bind_eq_bind, Option.bind_some]
  rw [dec_bool h1, hr, dec_vB, notB_eq]
  simp [val?, Op.unary, semP_pure, ofV]

noncomputable def lenS (x : OpdK) : PK := ⟨fun e _ => onV (fun t a _ _ _ _ _ => iV (Nat.beq t 3) (vI 3 a) bad) (x.g e)⟩
noncomputable def lenV (x : OpdK) : PK := ⟨fun e _ => onV (fun t _ b _ _ _ _ => iV (orB (Nat.beq t 6) (Nat.beq t 7)) (vI 3 b) (iV (Nat.beq t 8) (vI 3 0) bad)) (x.g e)⟩
theorem lenS_ok {P : Program} {c : Call} {t : TypeId} {x : Operand} (hc : c.callee = .builtin .len) (ha : c.args.toList = [x]) (hr : ∃ r, c.argTypes.toList = t :: r) (ht : P.underlying t = some .string) : POk P (.call c) (lenS (opdK x)) := by
  intro cf e h r hr' g
  obtain ⟨ts, hts⟩ := hr
  simp only [lenS, onV_eq] at hr'
  obtain ⟨h1, hr'⟩ := iV_inv hr' g
  have h1 := beq_t h1
  have o1 := opdK_ok x e _ rfl (by omega)
  simp only [evOp, ha, opds, o1, Option.bind_eq_bind, Option.bind_some, Option.pure_def, hc, hts]
  rw [dec_str h1, hr']
  simp only [builtinA, lenA, ht, txt_size]
  rfl
theorem lenV_ok {P : Program} {c : Call} {t el : TypeId} {x : Operand} (hc : c.callee = .builtin .len) (ha : c.args.toList = [x]) (hr : ∃ r, c.argTypes.toList = t :: r) (ht : P.underlying t = some (.slice el)) : POk P (.call c) (lenV (opdK x)) := by
  intro cf e h r hr' g
  obtain ⟨ts, hts⟩ := hr
  simp only [lenV, onV_eq] at hr'
  rcases iV_or hr' with ⟨h1, hr'⟩ | ⟨_, hr'⟩
  · have h1 := sl_tag h1
    have o1 := opdK_ok x e _ rfl (by omega)
    simp only [evOp, ha, opds, o1, Option.bind_eq_bind, Option.bind_some, Option.pure_def, hc, hts]
    rw [dec_sl h1, hr']
    simp only [builtinA, lenA, ht]
    rfl
  · obtain ⟨h1, hr'⟩ := iV_inv hr' g
    have h1 := beq_t h1
    have o1 := opdK_ok x e _ rfl (by omega)
    simp only [evOp, ha, opds, o1, Option.bind_eq_bind, Option.bind_some, Option.pure_def, hc, hts]
    rw [dec_nils h1, hr']
    simp only [builtinA, lenA, ht]
    rfl

/- functions with what they bear -/
noncomputable def argsK : List OpdK → ArgK
  | [] => ⟨fun _ => []⟩
  | x :: l => ⟨fun e => x.g e :: (argsK l).run e⟩
theorem argsK_ok (e : Fr3) : ∀ (xs : List Operand), badL ((argsK (xs.map opdK)).run e) = false → opds (decE e) xs = some (decL ((argsK (xs.map opdK)).run e))
  | [], _ => rfl
  | x :: xs, h => by
    have e1 : (argsK ((x :: xs).map opdK)).run e = (opdK x).g e :: (argsK (xs.map opdK)).run e := rfl
    rw [e1] at h ⊢
    rw [badL_cons, Bool.or_eq_false_iff] at h
    have o1 := opdK_ok x e _ rfl (beq_f h.1)
    simp only [opds, o1, Option.bind_eq_bind, Option.bind_some, argsK_ok e xs h.2, decL]
    rfl
noncomputable def funcK (f : Nat) (a b : ArgK) : PK := ⟨fun e _ => iV (andB (notB (badL (a.run e))) (notB (badL (b.run e)))) ⟨11, f, 0, 0, p0, a.run e, b.run e⟩ bad⟩
theorem funcK_ok {P : Program} {f : FuncId} {xs ys : Array Operand} : POk P (.makeFunc (.func f) xs ys) (funcK f (argsK (xs.toList.map opdK)) (argsK (ys.toList.map opdK))) := by
  intro cf e h r hr g
  simp only [funcK] at hr
  obtain ⟨h1, hr⟩ := iV_inv hr g
  obtain ⟨h1, h2⟩ := andB_t h1
  rw [notB_eq] at h1 h2
  simp only [evOp, argsK_ok e _ (by simpa using h1), argsK_ok e _ (by simpa using h2), Option.bind_eq_bind, Option.bind_some, hr]
  rfl

end Go.Fast
