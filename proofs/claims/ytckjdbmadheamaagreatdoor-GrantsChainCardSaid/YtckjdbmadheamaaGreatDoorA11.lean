/- The fast evaluator: rows of functions without a body, code, functions; what it says, the abstract machine says. -/
import Derived.Test.YtckjdbmadheamaaGreatDoorA10
set_option linter.all false
namespace Go.Fast
open Go.Vai
variable [S : Sym]

/- IndexByteString -/
noncomputable def findB (n c b m : Nat) : FV := Nat.rec (motive := fun _ => FV) ⟨1, 3, 0, 0, p0, [], []⟩ (fun k ih => iV (Nat.beq (byteAt n c (Nat.sub n (Nat.add k 1))) b) (vI 3 (Nat.sub n (Nat.add k 1))) ih) m
def idxV : Option Nat → AV
  | some i => .int .i64 i
  | none => .int .i64 (-1)
theorem get_txt {n c i : Nat} (h : i < n) : (txt n c)[i]! = UInt8.ofNat (byteAt n c i) := by
  have := txt_at (c := c) h
  rw [getElem!_def, this]
theorem findB_ok {n c b : Nat} (hb : b < 256) : ∀ (m : Nat), m ≤ n → dec (findB n c b m) = idxV ((List.range' (n - m) m).find? fun i => (txt n c)[i]! == b.toUInt8) ∧ (findB n c b m).t ≠ 99
  | 0, _ => ⟨rfl, by show (1 : Nat) ≠ 99; decide⟩
  | m + 1, h => by
    obtain ⟨ih, ih2⟩ := findB_ok (n := n) (c := c) (b := b) hb m (by omega)
    rw [List.range'_succ, List.find?_cons]
    have hi : n - (m + 1) < n := by omega
    rw [get_txt hi, show n - (m + 1) + 1 = n - m by omega]
    have e : findB n c b (m + 1) = iV (Nat.beq (byteAt n c (n - (m + 1))) b) (vI 3 (n - (m + 1))) (findB n c b m) := rfl
    rw [e]
    have hq : (UInt8.ofNat (byteAt n c (n - (m + 1))) == b.toUInt8) = Nat.beq (byteAt n c (n - (m + 1))) b := by
      rw [Bool.eq_iff_iff, beq_iff_eq, Nat.beq_eq]
      constructor
      · intro hh
        have := congrArg UInt8.toNat hh
        rw [u8_of (byteAt_lt _ _ _)] at this
        rw [this]
        exact u8_of hb
      · intro hh; rw [hh]
    rw [hq]
    cases Nat.beq (byteAt n c (n - (m + 1))) b with
    | true => exact ⟨rfl, by show (0 : Nat) ≠ 99; decide⟩
    | false => exact ⟨ih, ih2⟩

structure FnK where
  run : CallK → Nat → List FV → FH → CR
noncomputable def badFn : FnK := ⟨fun _ _ _ h => failC h⟩
noncomputable def rowIndexByte : FnK := ⟨fun _ _ args h => onC (fun t n c _ _ _ _ => onC (fun t' k b _ _ _ _ => iC (andB (Nat.beq (lenL args) 2) (andB (Nat.beq t 3) (andB (Nat.beq t' 0) (andB (Nat.beq k 4) (Nat.ble b 255))))) ⟨findB n c b n, h⟩ (failC h)) (nthT args 1)) (nthT args 0)⟩
/-- rows that leave the memory as it is, the slow way -/
noncomputable def rowSlow (P : Program) (r : Row) : FnK := ⟨fun _ _ args h => match rowA P r (decL args) (decH h) with
  | some (v, _) => ⟨enc v, h⟩
  | none => failC h⟩
noncomputable def rowValueOf (P : Program) : FnK := ⟨fun _ _ args h => onC (fun t ty _ _ _ l _ => iC (andB (Nat.beq (lenL args) 1) (andB (Nat.beq t 13) (consB l)))
  (match sizeT P ty, mkVal P ty h.n.dec 0 0 with
  | some n, some x => if n = 0 then failC h else onC (fun t2 _ _ _ _ l2 _ => iC (Nat.beq t2 15) (newC h (enc x) ⟨1, false, [], l2⟩) (failC h)) (cellsV n (nthT l 0))
  | _, _ => failC h) (failC h)) (nthT args 0)⟩
noncomputable def rowSet (P : Program) : FnK := ⟨fun _ _ args h => match decL args with
  | [x, y] => match valParts P x, valParts P y with
    | some (d, b, o, f), some (s, b', o', _) => if P.packed d ∨ P.packed s ∨ f / 256 % 2 = 0 then failC h else match loadT P (decH h) s b' o', semP P (Extern.Rtype.directlyAssignable d s), sizeT P d with
      | some v, some true, some n => match encCells v.cells with
        | some (z :: l) => if v.cells.length = n ∧ n ≠ 0 ∧ b < top then storeR (pth b) o (z :: l) (V0 16) h else failC h
        | _ => failC h
      | _, _, _ => failC h
    | _, _ => failC h
  | _ => failC h⟩

/- interfaces and who has their methods -/
def lackB (want : Array (String × TypeId)) (got : Array Method) : Bool := match lacking want got with
  | [] => true
  | _ :: _ => false
theorem lackB_ok (want : Array (String × TypeId)) (got : Array Method) : (Instr.missingMethod want got).isNone = lackB want got := by
  unfold lackB
  cases h : lacking want got with
  | nil => rw [missingMethod_none h]; rfl
  | cons a l =>
    obtain ⟨m, hm⟩ := missingMethod_some (want := want) (got := got) (by rw [h]; simp)
    rw [hm]; rfl
def implT (P : Program) (T V : TypeId) : Option Bool :=
  match semP P (Extern.Rtype.noPackMethods "a method set held against an interface's list" V), semP P (Extern.Rtype.noPackMethods "a method set held against an interface's list" T), semP P (Extern.Rtype.under T), semP P (Extern.Rtype.under V), P.info? V with
  | some _, some _, some (_, ti), some (_, vi), some i => match ti.desc, vi.desc with
    | .interface want, .interface got => some (want.all got.contains)
    | .interface want, _ => some (lackB want i.methods)
    | _, _ => some false
  | _, _, _, _, _ => none
theorem semP_info {P : Program} {t : TypeId} {i : TypeInfo} (h : P.info? t = some i) : semP P (typeInfo t) = some i := by
  show semP P (match P.info? t with | some i => pure i | none => stuck "no such type") = _
  rw [h]; rfl
theorem implT_ok {P : Program} {T V : TypeId} {b : Bool} (h : implT P T V = some b) : semP P (Extern.Rtype.implements T V) = some b := by
  unfold implT at h
  split at h
  · rename_i a1 a2 t1 ti v1 vi i h1 h2 h3 h4 h5
    unfold Extern.Rtype.implements
    rw [semP_bind, h1, Option.bind_some, semP_bind, h2, Option.bind_some, semP_bind, h3, Option.bind_some, semP_bind, h4, Option.bind_some]
    dsimp only
    generalize ti.desc = td at h
    generalize vi.desc = vd at h
    have hl : ∀ want, semP P (do pure (Instr.missingMethod want (← typeInfo V).methods).isNone) = some (lackB want i.methods) := by
      intro want
      rw [semP_bind, semP_info h5, Option.bind_some, lackB_ok]; rfl
    cases td
    case interface want =>
      cases vd
      case interface got => exact h
      all_goals exact (hl want).trans h
    all_goals exact h
  · cases h
def implsT (P : Program) (u t : TypeId) : Option Bool :=
  match semP P (Extern.Rtype.kind u), semP P (Extern.Rtype.noPackMethods "Implements" t), semP P (Extern.Rtype.noPack "Implements" u) with
  | some 20, some _, some _ => implT P u t
  | _, _, _ => none
theorem implsT_ok {P : Program} {u t : TypeId} {b : Bool} (h : implsT P u t = some b) : semP P (Extern.ReflectliteType.implements_ u t) = some b := by
  unfold implsT at h
  split at h
  · rename_i a1 a2 h1 h2 h3
    unfold Extern.ReflectliteType.implements_
    rw [semP_bind, h1, Option.bind_some]
    show semP P (do Extern.Rtype.noPackMethods "Implements" t; Extern.Rtype.noPack "Implements" u; Extern.Rtype.implements u t) = _
    rw [semP_bind, h2, Option.bind_some, semP_bind, h3, Option.bind_some]
    exact implT_ok h
  · cases h
def asgT (P : Program) (u t : TypeId) : Option Bool :=
  match (if u = t then some () else (semP P (Extern.Rtype.noPackMethods "AssignableTo" t)).bind fun _ => semP P (Extern.Rtype.noPackMethods "AssignableTo" u)), semP P (Extern.Rtype.directlyAssignable u t), implT P u t with
  | some _, some a, some b => some (a || b)
  | _, _, _ => none
theorem asgT_ok {P : Program} {u t : TypeId} {b : Bool} (h : asgT P u t = some b) : semP P (Extern.ReflectliteType.assignableTo u t) = some b := by
  unfold asgT at h
  split at h
  · rename_i a0 a1 a2 h1 h2 h3
    have fin : semP P (do pure ((← Extern.Rtype.directlyAssignable u t) || (← Extern.Rtype.implements u t))) = some b := by
      rw [semP_bind, h2, Option.bind_some, semP_bind, implT_ok h3, Option.bind_some]
      exact h
    unfold Extern.ReflectliteType.assignableTo
    by_cases hut : u = t
    · subst hut
      simp only [bne_self_eq_false, Bool.false_eq_true, if_false]
      exact fin
    · have hb : (u != t) = true := by simpa using hut
      rw [if_neg hut] at h1
      obtain ⟨x1, g1, h1⟩ := Option.bind_eq_some_iff.1 h1
      simp only [hb, if_true]
      rw [semP_bind, g1, Option.bind_some, semP_bind, h1, Option.bind_some]
      exact fin
  · cases h
noncomputable def rowRel (P : Program) (f : TypeId → TypeId → Option Bool) : FnK := ⟨fun _ _ args h => match decL args with
  | [r, .iface _ u] => match ofRtypeA P r, ofRtypeA P u with
    | some t, some u => match f u t with
      | some b => ⟨vB b, h⟩
      | none => failC h
    | _, _ => failC h
  | _ => failC h⟩

def FOk (F : CallF → Nat → List AV → AH → Option (AV × AH)) (k : FnK) : Prop := ∀ (ck : CallK) (cf : CallF), CallOk ck cf → ∀ (n : Nat) (args : List FV) (h : FH) (r : CR), r = k.run ck n args h → r.v.t ≠ 99 → badL args = false →
  h.n.dec ≤ r.h.n.dec ∧ F cf n (decL args) (decH h) = some (dec r.v, decH r.h)
theorem badFn_ok (F : CallF → Nat → List AV → AH → Option (AV × AH)) : FOk F badFn := fun _ _ _ _ _ _ r hr g => absurd (by rw [hr]; rfl) g

theorem rowIndexByte_ok (P : Program) : FOk (fun _ _ => rowA P .indexByte) rowIndexByte := by
  intro ck cf _ n args h r hr g hb
  simp only [rowIndexByte, onC_eq, lenL_eq] at hr
  obtain ⟨h1, hr⟩ := iC_inv hr g
  obtain ⟨h1, h2⟩ := andB_t h1
  obtain ⟨h2, h3⟩ := andB_t h2
  obtain ⟨h3, h4⟩ := andB_t h3
  obtain ⟨h4, h5⟩ := andB_t h4
  have h1 := beq_t h1
  rcases args with _ | ⟨x, _ | ⟨y, _ | _⟩⟩
  · cases h1
  · cases h1
  · have h2 : x.t = 3 := beq_t h2
    have h3 : y.t = 0 := beq_t h3
    have h4 : y.a = 4 := beq_t h4
    have h5 : y.b ≤ 255 := ble_t h5
    have hr : r = ⟨findB x.a x.b y.b x.a, h⟩ := hr
    rw [hr, decL_two, dec_str h2, dec_int h3, h4]
    refine ⟨Nat.le_refl _, ?_⟩
    obtain ⟨e1, _⟩ := findB_ok (n := x.a) (c := x.b) (b := y.b) (by omega) x.a (Nat.le_refl _)
    show ((semP P (Extern.BytealgIndexByte.indexByte #[.string (txt x.a x.b), .int .u8 (Int.ofNat y.b)])).bind fun v => (ofV 1 v).map (·, decH h)) = some (dec (findB x.a x.b y.b x.a), decH h)
    rw [e1, Nat.sub_self, ← List.range_eq_range']
    have hf : semP P (Extern.BytealgIndexByte.indexByte #[.string (txt x.a x.b), .int .u8 (Int.ofNat y.b)]) = semP P (match (List.range (txt x.a x.b).size).find? fun i => (txt x.a x.b)[i]! == y.b.toUInt8 with | some i => pure (goInt i) | none => pure (goInt (-1))) := rfl
    rw [hf, txt_size]
    cases (List.range x.a).find? fun i => (txt x.a x.b)[i]! == y.b.toUInt8 <;> rfl
  · cases h1

def quiet : Row → Bool
  | .valueOf | .valSet | .indexByte => false
  | _ => true
theorem row_same {P : Program} {r : Row} {args : List AV} {h h' : AH} {v : AV} (hq : quiet r = true) (hv : rowA P r args h = some (v, h')) : h' = h := by
  cases r <;> first | (cases hq; done) | skip
  case valType =>
    rcases args with _ | ⟨x, _ | ⟨y, l⟩⟩
    · cases hv
    · have hv : ((valParts P x).bind fun p => (toTypeA P p.1).map (·, h)) = some (v, h') := hv
      obtain ⟨p, _, hv⟩ := Option.bind_eq_some_iff.1 hv
      exact (map_pair hv).1
    · cases hv
  case valIsNil =>
    rcases args with _ | ⟨x, _ | ⟨y, l⟩⟩
    · cases hv
    · obtain ⟨⟨t, b, o, f⟩, _, hv⟩ := Option.bind_eq_some_iff.1 hv
      dsimp only at hv
      split at hv
      · cases hv
      · obtain ⟨w, _, hv⟩ := Option.bind_eq_some_iff.1 hv
        split at hv <;> cases hv <;> rfl
    · cases hv
  case valElem =>
    rcases args with _ | ⟨x, _ | ⟨y, l⟩⟩
    · cases hv
    · obtain ⟨⟨t, b, o, f⟩, _, hv⟩ := Option.bind_eq_some_iff.1 hv
      dsimp only at hv
      split at hv
      · cases hv
      · obtain ⟨w, _, hv⟩ := Option.bind_eq_some_iff.1 hv
        split at hv
        · exact (map_pair hv).1
        · cases hv
    · cases hv
  case typeOf =>
    rcases args with _ | ⟨x, _ | ⟨y, l⟩⟩
    · cases hv
    · cases x <;> first | (cases hv; done) | (cases hv; rfl) | exact (map_pair hv).1
    · cases x <;> cases hv
  case rElem =>
    rcases args with _ | ⟨x, _ | ⟨y, l⟩⟩
    · cases hv
    · obtain ⟨t, _, hv⟩ := Option.bind_eq_some_iff.1 hv
      split at hv
      · exact (map_pair hv).1
      · cases hv
    · cases hv
  case rComparable =>
    rcases args with _ | ⟨x, _ | ⟨y, l⟩⟩
    · cases hv
    · obtain ⟨t, _, hv⟩ := Option.bind_eq_some_iff.1 hv
      obtain ⟨i, _, hv⟩ := Option.bind_eq_some_iff.1 hv
      split at hv
      · cases hv
      · cases hv; rfl
    · cases hv
  case rImplements =>
    rcases args with _ | ⟨x, _ | ⟨y, _ | ⟨z, l⟩⟩⟩
    · cases hv
    · cases hv
    · cases y <;> first | (cases hv; done) | skip
      obtain ⟨t, _, hv⟩ := Option.bind_eq_some_iff.1 hv
      obtain ⟨i, _, hv⟩ := Option.bind_eq_some_iff.1 hv
      obtain ⟨b, _, hv⟩ := Option.bind_eq_some_iff.1 hv
      cases hv; rfl
    · cases y <;> cases hv
  case rAssignable =>
    rcases args with _ | ⟨x, _ | ⟨y, _ | ⟨z, l⟩⟩⟩
    · cases hv
    · cases hv
    · cases y <;> first | (cases hv; done) | skip
      obtain ⟨t, _, hv⟩ := Option.bind_eq_some_iff.1 hv
      obtain ⟨i, _, hv⟩ := Option.bind_eq_some_iff.1 hv
      obtain ⟨b, _, hv⟩ := Option.bind_eq_some_iff.1 hv
      cases hv; rfl
    · cases y <;> cases hv
  case abiKind =>
    rcases args with _ | ⟨x, _ | ⟨y, l⟩⟩
    · cases hv
    · cases x <;> first | (cases hv; done) | skip
      rename_i b t
      have hv : (if b = P.globals.size ∧ P.packed t = false then (semP P (Extern.Rtype.kind t)).bind fun k => some (.int .u8 k, h) else none) = some (v, h') := hv
      split at hv
      · obtain ⟨k, _, hv⟩ := Option.bind_eq_some_iff.1 hv
        cases hv; rfl
      · cases hv
    · cases x <;> cases hv

theorem rowSlow_ok (P : Program) (row : Row) (hq : quiet row = true) : FOk (fun _ _ => rowA P row) (rowSlow P row) := by
  intro ck cf _ n args h r hr g _
  simp only [rowSlow] at hr
  split at hr
  · rename_i v h' hv
    have := row_same hq hv
    rw [this] at hv
    rw [hr] at g ⊢
    refine ⟨Nat.le_refl _, ?_⟩
    show rowA P row (decL args) (decH h) = some (dec (enc v), decH h)
    rw [hv, dec_enc v g]
  · exact absurd (by rw [hr]; rfl) g

theorem rowValueOf_ok (P : Program) : FOk (fun _ _ => rowA P .valueOf) (rowValueOf P) := by
  intro ck cf _ k args h r hr g hb
  simp only [rowValueOf, onC_eq, lenL_eq] at hr
  obtain ⟨h1, hr⟩ := iC_inv hr g
  obtain ⟨h1, h2⟩ := andB_t h1
  obtain ⟨h2, h3⟩ := andB_t h2
  have h1 := beq_t h1
  rcases args with _ | ⟨v, _ | _⟩
  · cases h1
  · have h2 : v.t = 13 := beq_t h2
    obtain ⟨x, xs, hl⟩ := consB_ok (show consB v.l = true from h3)
    have hv : nthT [v] 0 = v := rfl
    rw [hv, hl] at hr
    have hx : nthT (x :: xs) 0 = x := rfl
    rw [hx] at hr
    split at hr
    · rename_i n y hn hy
      split at hr
      · exact absurd (by rw [hr]; rfl) g
      · rename_i h0
        obtain ⟨h4, hr⟩ := iC_inv hr g
        have h4 := beq_t h4
        have gc : (cellsV n x).t ≠ 99 := by omega
        obtain ⟨_, hlen, hdec, _⟩ := cells_ok rfl gc
        obtain ⟨q1, q2, q3⟩ := newC_ok hr g (x := .cells 0 [] false (dec x).cells) (by rw [← hdec]; rfl)
        refine ⟨q1, ?_⟩
        rw [decL_cons, decL_nil, dec_iface h2 hl]
        show ((sizeT P v.a).bind fun n => (mkVal P v.a (decH h).next 0 0).bind fun x' => if (dec x).cells.length = n ∧ (dec x).cells.all AV.atom = true ∧ n ≠ 0 then some (x', Vai.newRow (decH h) (dec x).cells) else none) = _
        rw [hn]
        have hy : mkVal P v.a (decH h).next 0 0 = some y := hy
        rw [hy]
        simp only [Option.bind_some]
        rw [if_pos ⟨by rw [← hdec, decC_len]; exact hlen, cells_atoms rfl gc, h0⟩, q2, q3, dec_enc y (by rw [← q2]; exact g)]
        rfl
    · exact absurd (by rw [hr]; rfl) g
  · cases h1

theorem rowSet_ok (P : Program) : FOk (fun _ _ => rowA P .valSet) (rowSet P) := by
  intro ck cf _ k args h r hr g hb
  have bad' : ∀ {p : Prop}, r = failC h → p := fun hh => absurd (by rw [hh]; rfl) g
  simp only [rowSet] at hr
  split at hr
  · rename_i x y hxy
    split at hr
    · rename_i d b o f s b' o' f' hx hy
      split at hr
      · exact bad' hr
      · rename_i hif
        split at hr
        · rename_i v n hv hass hn
          split at hr
          · rename_i z l hl
            split at hr
            · rename_i hc
              obtain ⟨q1, q2, q3⟩ := storeR_ok hr g (by simp)
              rw [dec_pth hc.2.2, encCells_ok hl] at q1
              refine ⟨by rw [q3]; exact Nat.le_refl _, ?_⟩
              rw [hxy]
              simp only [rowA, hx, hy, Option.bind_eq_bind, Option.bind_some, if_neg hif, hv, hass, storeT, hn]
              rw [if_pos ⟨hc.1, hc.2.1⟩, q1, q2]
              show some (AV.tup [], decH r.h) = some (dec (V0 16), decH r.h)
              rw [dec_tup (v := V0 16) rfl]
              show _ = some (AV.tup (decL []), decH r.h)
              rw [decL_nil]
            · exact bad' hr
          · exact bad' hr
        · exact bad' hr
    · exact bad' hr
  · exact bad' hr

theorem rowImpl_ok (P : Program) : FOk (fun _ _ => rowA P .rImplements) (rowRel P (implsT P)) := by
  intro ck cf _ k args h r hr g hb
  have bad' : ∀ {p : Prop}, r = failC h → p := fun hh => absurd (by rw [hh]; rfl) g
  simp only [rowRel] at hr
  split at hr
  · rename_i x ty y hxy
    split at hr
    · rename_i t u ht hu
      split at hr
      · rename_i b hf
        rw [hr, hxy]
        refine ⟨Nat.le_refl _, ?_⟩
        simp only [rowA, ht, hu, implsT_ok hf, Option.bind_eq_bind, Option.bind_some]
        rw [dec_vB]; rfl
      · exact bad' hr
    · exact bad' hr
  · exact bad' hr
theorem rowAsg_ok (P : Program) : FOk (fun _ _ => rowA P .rAssignable) (rowRel P (asgT P)) := by
  intro ck cf _ k args h r hr g hb
  have bad' : ∀ {p : Prop}, r = failC h → p := fun hh => absurd (by rw [hh]; rfl) g
  simp only [rowRel] at hr
  split at hr
  · rename_i x ty y hxy
    split at hr
    · rename_i t u ht hu
      split at hr
      · rename_i b hf
        rw [hr, hxy]
        refine ⟨Nat.le_refl _, ?_⟩
        simp only [rowA, ht, hu, asgT_ok hf, Option.bind_eq_bind, Option.bind_some]
        rw [dec_vB]; rfl
      · exact bad' hr
    · exact bad' hr
  · exact bad' hr

noncomputable def rowK (P : Program) (r : Row) : FnK := match r with
  | .indexByte => rowIndexByte
  | .valueOf => rowValueOf P
  | .valSet => rowSet P
  | .rImplements => rowRel P (implsT P)
  | .rAssignable => rowRel P (asgT P)
  | r => rowSlow P r
theorem rowK_ok (P : Program) (r : Row) : FOk (fun _ _ => rowA P r) (rowK P r) := by
  cases r
  case indexByte => exact rowIndexByte_ok P
  case valueOf => exact rowValueOf_ok P
  case valSet => exact rowSet_ok P
  case rImplements => exact rowImpl_ok P
  case rAssignable => exact rowAsg_ok P
  all_goals exact rowSlow_ok P _ rfl

/- code. Ways out: 0 on, 1 failed, 2 return, k + 3 out of block k -/
def exOf : Nat → Ex
  | 0 => .normal
  | 1 => .normal
  | 2 => .ret
  | k + 3 => .exit k
noncomputable def codeK (P : Program) (N : Nat) : Code → CK
  | .skip | .label _ => ⟨fun _ _ e h => ⟨0, e, h⟩⟩
  | .region _ ops draw => ⟨fun cf _ e h => (regionK P N ops draw).run cf e h⟩
  | .seq a b => ⟨fun cf n e h => RR.rec (motive := fun _ => RR) (fun x e h => iR (Nat.beq x 0) ((codeK P N b).run cf n e h) ⟨x, e, h⟩) ((codeK P N a).run cf n e h)⟩
  | .cond c a b => ⟨fun cf n e h => onR (fun t v _ _ _ _ _ => iR (Nat.beq t 2) (iR (Nat.beq v 1) ((codeK P N a).run cf n e h) ((codeK P N b).run cf n e h)) (failR e h)) ((opdK c).g e)⟩
  | .block id b => ⟨fun cf n e h => RR.rec (motive := fun _ => RR) (fun x e h => iR (Nat.beq x (Nat.add id 3)) ⟨0, e, h⟩ ⟨x, e, h⟩) ((codeK P N b).run cf n e h)⟩
  | .loop b => ⟨fun cf n e h => Nat.rec (motive := fun _ => Fr3 → FH → RR) (fun e h => failR e h) (fun _ ih e h => RR.rec (motive := fun _ => RR) (fun x e h => iR (Nat.beq x 0) (ih e h) ⟨x, e, h⟩) ((codeK P N b).run cf n e h)) n e h⟩
  | .exit id => ⟨fun _ _ e h => ⟨Nat.add id 3, e, h⟩⟩
  | .ret => ⟨fun _ _ e h => ⟨2, e, h⟩⟩
  | _ => ⟨fun _ _ e h => failR e h⟩

theorem exOf_normal {x : Nat} (h : x ≠ 1) : exOf x = .normal ↔ x = 0 := by
  match x, h with
  | 0, _ => exact ⟨fun _ => rfl, fun _ => rfl⟩
  | 1, h => exact absurd rfl h
  | 2, _ => exact ⟨fun h => (by cases h), fun h => (by cases h)⟩
  | k + 3, _ => exact ⟨fun h => (by cases h), fun h => (by cases h)⟩

def COk (P : Program) (N : Nat) (c : Code) (k : CK) : Prop :=
  ∀ (ck : CallK) (cf : CallF), CallOk ck cf → ∀ (n : Nat) (e : Fr3) (h : FH) (r : RR), r = k.run ck n e h → r.x ≠ 1 → h.n.dec ≤ r.h.n.dec ∧ evC P cf N n c (decE e) (decH h) = some (exOf r.x, decE r.e, decH r.h)

theorem iR_or {r x y : RR} {c : Bool} (h : r = iR c x y) : (c = true ∧ r = x) ∨ (c = false ∧ r = y) := by
  cases c
  · exact .inr ⟨rfl, h⟩
  · exact .inl ⟨rfl, h⟩

theorem codeK_ok (P : Program) (N : Nat) : ∀ (c : Code), COk P N c (codeK P N c)
  | .skip => fun ck cf _ n e h r hr _ => by rw [show r = ⟨0, e, h⟩ from hr]; exact ⟨Nat.le_refl _, rfl⟩
  | .label _ => fun ck cf _ n e h r hr _ => by rw [show r = ⟨0, e, h⟩ from hr]; exact ⟨Nat.le_refl _, rfl⟩
  | .exit id => fun ck cf _ n e h r hr _ => by rw [show r = ⟨id + 3, e, h⟩ from hr]; exact ⟨Nat.le_refl _, rfl⟩
  | .ret => fun ck cf _ n e h r hr _ => by rw [show r = ⟨2, e, h⟩ from hr]; exact ⟨Nat.le_refl _, rfl⟩
  | .region id ops draw => fun ck cf hck n e h r hr hx => by
    obtain ⟨q1, q2⟩ := regionK_ok P N ops draw ck cf hck e h r hr
    have hx0 : r.x = 0 := by rcases q2 with h | h; exact h; exact absurd h hx
    obtain ⟨q3, q4⟩ := q1 hx0
    refine ⟨q3, ?_⟩
    rw [hx0]
    simp only [evC, Option.bind_eq_bind]
    cases draw with
    | true => simp only [if_true] at q4 ⊢; rw [q4]; rfl
    | false => simp only [Bool.false_eq_true, if_false] at q4 ⊢; rw [q4]; rfl
  | .seq a b => fun ck cf hck n e h r hr hx => by
    have hr : r = iR (Nat.beq ((codeK P N a).run ck n e h).x 0) ((codeK P N b).run ck n ((codeK P N a).run ck n e h).e ((codeK P N a).run ck n e h).h) ((codeK P N a).run ck n e h) := hr
    generalize ha : (codeK P N a).run ck n e h = ra at hr
    rcases iR_or hr with ⟨h1, hr⟩ | ⟨h1, hr⟩
    · have h1 := beq_t h1
      obtain ⟨q1, q2⟩ := codeK_ok P N a ck cf hck n e h ra ha.symm (by omega)
      obtain ⟨q3, q4⟩ := codeK_ok P N b ck cf hck n _ _ r hr hx
      refine ⟨Nat.le_trans q1 q3, ?_⟩
      rw [h1] at q2
      simp only [evC, q2, Option.bind_eq_bind, Option.bind_some]
      exact q4
    · have h1 := beq_f h1
      rw [hr] at hx ⊢
      obtain ⟨q1, q2⟩ := codeK_ok P N a ck cf hck n e h ra ha.symm hx
      refine ⟨q1, ?_⟩
      simp only [evC, q2, Option.bind_eq_bind, Option.bind_some]
      have hn := fun hh => h1 ((exOf_normal hx).1 hh)
      split
      · rename_i he; exact absurd he hn
      · rfl
  | .cond c a b => fun ck cf hck n e h r hr hx => by
    have hr : r = onR (fun t v _ _ _ _ _ => iR (Nat.beq t 2) (iR (Nat.beq v 1) ((codeK P N a).run ck n e h) ((codeK P N b).run ck n e h)) (failR e h)) ((opdK c).g e) := hr
    rw [onR_eq] at hr
    rcases iR_or hr with ⟨h1, hr⟩ | ⟨_, hr⟩
    · have h1 := beq_t h1
      have o1 := opdK_ok c e _ rfl (by omega)
      rw [dec_bool h1] at o1
      simp only [evC, o1, Option.bind_eq_bind, Option.bind_some]
      rcases iR_or hr with ⟨h2, hr⟩ | ⟨h2, hr⟩
      · rw [h2]; exact codeK_ok P N a ck cf hck n e h r hr hx
      · rw [h2]; exact codeK_ok P N b ck cf hck n e h r hr hx
    · rw [hr] at hx; exact absurd rfl hx
  | .block id b => fun ck cf hck n e h r hr hx => by
    have hr : r = iR (Nat.beq ((codeK P N b).run ck n e h).x (Nat.add id 3)) ⟨0, ((codeK P N b).run ck n e h).e, ((codeK P N b).run ck n e h).h⟩ ((codeK P N b).run ck n e h) := hr
    generalize ha : (codeK P N b).run ck n e h = ra at hr
    rcases iR_or hr with ⟨h1, hr⟩ | ⟨h1, hr⟩
    · have h1 : ra.x = id + 3 := beq_t h1
      obtain ⟨q1, q2⟩ := codeK_ok P N b ck cf hck n e h ra ha.symm (by omega)
      rw [hr]
      refine ⟨q1, ?_⟩
      rw [h1] at q2
      simp only [evC, q2, Option.bind_eq_bind, Option.bind_some, exOf, if_true]
    · have h1 : ra.x ≠ id + 3 := beq_f h1
      rw [hr] at hx ⊢
      obtain ⟨q1, q2⟩ := codeK_ok P N b ck cf hck n e h ra ha.symm hx
      refine ⟨q1, ?_⟩
      simp only [evC, q2, Option.bind_eq_bind, Option.bind_some]
      match hxx : ra.x, h1, hx with
      | 0, _, _ => rfl
      | 1, _, hx => exact absurd rfl hx
      | 2, _, _ => rfl
      | k + 3, h1, _ =>
        simp only [exOf]
        rw [if_neg (by omega)]
  | .loop b => fun ck cf hck n e h r hr hx => by
    have hb := codeK_ok P N b ck cf hck n
    have key : ∀ (m : Nat) (e : Fr3) (h : FH) (r : RR), r = Nat.rec (motive := fun _ => Fr3 → FH → RR) (fun e h => failR e h) (fun _ ih e h => RR.rec (motive := fun _ => RR) (fun x e h => iR (Nat.beq x 0) (ih e h) ⟨x, e, h⟩) ((codeK P N b).run ck n e h)) m e h → r.x ≠ 1 →
        h.n.dec ≤ r.h.n.dec ∧ loopA (evC P cf N n b) m (decE e) (decH h) = some (exOf r.x, decE r.e, decH r.h) := by
      intro m
      induction m with
      | zero => intro e h r hr hx; rw [hr] at hx; exact absurd rfl hx
      | succ m ih =>
        intro e h r hr hx
        have hr : r = iR (Nat.beq ((codeK P N b).run ck n e h).x 0) (Nat.rec (motive := fun _ => Fr3 → FH → RR) (fun e h => failR e h) (fun _ ih e h => RR.rec (motive := fun _ => RR) (fun x e h => iR (Nat.beq x 0) (ih e h) ⟨x, e, h⟩) ((codeK P N b).run ck n e h)) m ((codeK P N b).run ck n e h).e ((codeK P N b).run ck n e h).h) ((codeK P N b).run ck n e h) := hr
        generalize ha : (codeK P N b).run ck n e h = ra at hr
        rcases iR_or hr with ⟨h1, hr⟩ | ⟨h1, hr⟩
        · have h1 := beq_t h1
          obtain ⟨q1, q2⟩ := hb e h ra ha.symm (by omega)
          obtain ⟨q3, q4⟩ := ih _ _ r hr hx
          refine ⟨Nat.le_trans q1 q3, ?_⟩
          rw [h1] at q2
          simp only [loopA, q2, Option.bind_eq_bind, Option.bind_some]
          exact q4
        · have h1 := beq_f h1
          rw [hr] at hx ⊢
          obtain ⟨q1, q2⟩ := hb e h ra ha.symm hx
          refine ⟨q1, ?_⟩
          simp only [loopA, q2, Option.bind_eq_bind, Option.bind_some]
          have hn := fun hh => h1 ((exOf_normal hx).1 hh)
          split
          · rename_i he; exact absurd he hn
          · rfl
    simp only [evC]
    exact key n e h r hr hx
  | .rangeFunc _ _ _ _ => fun ck cf _ n e h r hr hx => by rw [show r = failR e h from hr] at hx; exact absurd rfl hx
  | .scope _ => fun ck cf _ n e h r hr hx => by rw [show r = failR e h from hr] at hx; exact absurd rfl hx
  | .goto _ => fun ck cf _ n e h r hr hx => by rw [show r = failR e h from hr] at hx; exact absurd rfl hx
  | .refuse _ => fun ck cf _ n e h r hr hx => by rw [show r = failR e h from hr] at hx; exact absurd rfl hx

end Go.Fast
