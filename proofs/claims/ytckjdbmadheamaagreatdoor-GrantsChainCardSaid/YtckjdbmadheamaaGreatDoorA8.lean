/- The fast evaluator: maps, type assertions, new slices, the slow way. -/
import Derived.Test.YtckjdbmadheamaaGreatDoorA7
import Derived.Stop.Asserts
set_option linter.all false
namespace Go.Fast
open Go.Vai
variable [S : Sym]

/- maps: entries are tuples of a key and a value -/
noncomputable def okV (v : FV) : FV := onV (fun t a b c p l m => iV (Nat.ble t 15) ⟨t, a, b, c, p, l, m⟩ bad) v
theorem okV_ok {r v : FV} (h : r = okV v) (g : r.t ≠ 99) : r.t ≤ 15 ∧ r = v := by
  unfold okV at h
  rw [onV_eq, mk_eq] at h
  obtain ⟨h1, rfl⟩ := iV_inv h g
  exact ⟨ble_t h1, rfl⟩
noncomputable def findI (t a b : Nat) (l : List FV) : FV :=
  List.rec (motive := fun _ => FV) (V0 98) (fun x _ ih => onV (fun _ _ _ _ _ xl _ => onV (fun t' a' b' _ _ _ _ => iV (andB (Nat.ble t' 1) (Nat.beq a a')) (iV (andB (Nat.beq t t') (Nat.beq b b')) (okV (nthT xl 1)) ih) bad) (nthT xl 0)) x) l
noncomputable def findS (a b : Nat) (l : List FV) : FV :=
  List.rec (motive := fun _ => FV) (V0 98) (fun x _ ih => onV (fun _ _ _ _ _ xl _ => onV (fun t' a' b' _ _ _ _ => iV (Nat.beq t' 3) (iV (txtEq a b a' b') (okV (nthT xl 1)) ih) bad) (nthT xl 0)) x) l
/-- a key among entries -/
noncomputable def findK (str : Bool) (t a b : Nat) (l : List FV) : FV := Bool.rec (motive := fun _ => FV) (findI t a b l) (findS a b l) str
noncomputable def keyB (str : Bool) (t : Nat) : Bool := Bool.rec (motive := fun _ => Bool) (Nat.ble t 1) (Nat.beq t 3) str
noncomputable def keyA (str : Bool) (t a b : Nat) : AV := Bool.rec (motive := fun _ => AV) (.int (kindOf a) (zOf t b)) (.str (txt a b)) str
theorem key_dec {str : Bool} {v : FV} (h : keyB str v.t = true) : dec v = keyA str v.t v.a v.b := by
  cases str with
  | false => exact dec_z (ble_t h)
  | true => exact dec_str (beq_t h)

theorem beq_bytes (a b : ByteArray) : (a == b) = (a.toList == b.toList) := by
  rw [Bool.eq_iff_iff, beq_iff_eq (a := a.toList), ByteArray.toList_eq, ByteArray.toList_eq]
  show (a.data == b.data) = true ↔ _
  rw [beq_iff_eq]
  constructor
  · intro h; rw [h]
  · intro h; exact Array.ext' h
theorem key_eq {str : Bool} {t a b t' a' b' : Nat} (h : str = false → t ≤ 1 ∧ t' ≤ 1 ∧ a = a') :
    keyEq (keyA str t a b) (keyA str t' a' b') = some (Bool.rec (motive := fun _ => Bool) (andB (Nat.beq t t') (Nat.beq b b')) (txtEq a b a' b') str) := by
  cases str with
  | false =>
    obtain ⟨h1, h2, rfl⟩ := h rfl
    show (if kindOf a = kindOf a then some (zOf t b == zOf t' b') else none) = some (andB (Nat.beq t t') (Nat.beq b b'))
    rw [if_pos rfl, eqZ_ok h1 h2]
  | true =>
    show some (txt a b == txt a' b') = some (txtEq a b a' b')
    rw [txtEq_ok, beq_bytes]

theorem find_ok {str : Bool} {t a b : Nat} (ht : keyB str t = true) : ∀ (l : List FV) (r : FV), r = findK str t a b l → r.t ≠ 99 →
    (r.t = 98 ∧ findA (keyA str t a b) (l.map pairF) = some none) ∨ (r.t ≤ 15 ∧ findA (keyA str t a b) (l.map pairF) = some (some (dec r)))
  | [], r, hr, g => by
    left
    cases str <;> (rw [hr]; exact ⟨rfl, rfl⟩)
  | x :: l, r, hr, g => by
    cases str with
    | false =>
      have hr : r = onV (fun _ _ _ _ _ xl _ => onV (fun t' a' b' _ _ _ _ => iV (andB (Nat.ble t' 1) (Nat.beq a a')) (iV (andB (Nat.beq t t') (Nat.beq b b')) (okV (nthT xl 1)) (findK false t a b l)) bad) (nthT xl 0)) x := hr
      rw [onV_eq, onV_eq] at hr
      obtain ⟨h1, hr⟩ := iV_inv hr g
      obtain ⟨h1, h2⟩ := andB_t h1
      have hk := key_eq (str := false) (t := t) (a := a) (b := b) (b' := (nthT x.l 0).b) (fun _ => ⟨ble_t ht, ble_t h1, beq_t h2⟩)
      have hd : dec (nthT x.l 0) = keyA false (nthT x.l 0).t (nthT x.l 0).a (nthT x.l 0).b := key_dec h1
      rw [List.map_cons]
      show (_ ∧ findA _ ((dec (nthT x.l 0), dec (nthT x.l 1)) :: _) = _) ∨ (_ ∧ findA _ ((dec (nthT x.l 0), dec (nthT x.l 1)) :: _) = _)
      simp only [findA]
      rw [hd, hk]
      dsimp only
      rcases iV_or hr with ⟨h3, hr⟩ | ⟨h3, hr⟩
      · obtain ⟨h4, h5⟩ := okV_ok hr g
        rw [h3]; exact .inr ⟨h4, by rw [h5]⟩
      · rw [h3]; exact find_ok ht l r hr g
    | true =>
      have hr : r = onV (fun _ _ _ _ _ xl _ => onV (fun t' a' b' _ _ _ _ => iV (Nat.beq t' 3) (iV (txtEq a b a' b') (okV (nthT xl 1)) (findK true t a b l)) bad) (nthT xl 0)) x := hr
      rw [onV_eq, onV_eq] at hr
      obtain ⟨h1, hr⟩ := iV_inv hr g
      have hk := key_eq (str := true) (t := t) (a := a) (b := b) (t' := (nthT x.l 0).t) (a' := (nthT x.l 0).a) (b' := (nthT x.l 0).b) (fun h => by cases h)
      have hd : dec (nthT x.l 0) = keyA true (nthT x.l 0).t (nthT x.l 0).a (nthT x.l 0).b := key_dec h1
      rw [List.map_cons]
      show (_ ∧ findA _ ((dec (nthT x.l 0), dec (nthT x.l 1)) :: _) = _) ∨ (_ ∧ findA _ ((dec (nthT x.l 0), dec (nthT x.l 1)) :: _) = _)
      simp only [findA]
      rw [hd, hk]
      dsimp only
      rcases iV_or hr with ⟨h3, hr⟩ | ⟨h3, hr⟩
      · obtain ⟨h4, h5⟩ := okV_ok hr g
        rw [h3]; exact .inr ⟨h4, by rw [h5]⟩
      · rw [h3]; exact find_ok ht l r hr g

noncomputable def tupV (l : List FV) : FV := ⟨16, 0, 0, 0, p0, l, []⟩
/-- what was found, or not -/
noncomputable def gotK (ok : Bool) (z f : FV) : FV :=
  onV (fun t a b c p l m => iV (Nat.beq t 98) (Bool.rec (motive := fun _ => FV) z ⟨16, 0, 0, 0, p0, [z, vB false], []⟩ ok)
    (iV (Nat.ble t 15) (Bool.rec (motive := fun _ => FV) ⟨t, a, b, c, p, l, m⟩ ⟨16, 0, 0, 0, p0, [⟨t, a, b, c, p, l, m⟩, vB true], []⟩ ok) bad)) f
noncomputable def entK (str : Bool) (t a b tm : Nat) (p : Pth) (h : FH) : FV :=
  iV (Nat.beq tm 10) (V0 98) (iV (Nat.beq tm 9) (FO.rec (motive := fun _ => FV) (fun k _ _ c => iV (Nat.beq k 5) (findK str t a b c) bad) (hget h.h p)) bad)
noncomputable def lookupK (str ok : Bool) (z : FV) (m k : OpdK) : PK :=
  ⟨fun e h => onV (fun tm _ _ _ p _ _ => onV (fun t a b _ _ _ _ => iV (keyB str t) (gotK ok z (entK str t a b tm p h)) bad) (k.g e)) (m.g e)⟩
theorem decL_two (x y : FV) : decL [x, y] = [dec x, dec y] := by rw [decL_cons, decL_cons, decL_nil]
theorem lookupK_ok {P : Program} {t kt el : TypeId} {m k : Operand} {str ok : Bool} {z : AV} {zf : FV} {i : IntKind} (ht : P.underlying t = some (.map kt el)) (hk : P.underlying kt = (if str then some .string else some (.int i))) (hz : zeroT P el = some z) (hzf : dec zf = z) :
    POk P (.lookup t m k ok) (lookupK str ok zf (opdK m) (opdK k)) := by
  intro cf e h r hr g
  simp only [lookupK, onV_eq] at hr
  obtain ⟨h1, hr⟩ := iV_inv hr g
  have hkd := key_dec h1
  have gk : ((opdK k).g e).t ≠ 99 := by
    intro hh; rw [hh] at h1; cases str <;> cases h1
  have o2 := opdK_ok k e _ rfl gk
  have fits : keyFits P kt (dec ((opdK k).g e)) = true := by
    rw [hkd]
    cases str with
    | false => simp only [keyA, keyFits]; rw [hk]; rfl
    | true => simp only [keyA, keyFits]; rw [hk]; rfl
  generalize hf : entK str ((opdK k).g e).t ((opdK k).g e).a ((opdK k).g e).b ((opdK m).g e).t ((opdK m).g e).p h = f at hr
  have gf : f.t ≠ 99 := by
    intro hh
    simp only [gotK, onV_eq] at hr
    rw [hh] at hr
    exact g (by rw [hr]; rfl)
  have hent : ∃ am es, opd (decE e) m = some am ∧ mapOf (decH h) am = some es ∧ ((f.t = 98 ∧ findA (dec ((opdK k).g e)) es = some none) ∨ (f.t ≤ 15 ∧ findA (dec ((opdK k).g e)) es = some (some (dec f)))) := by
    unfold entK at hf
    rcases iV_or hf.symm with ⟨h2, h3⟩ | ⟨_, h3⟩
    · have h2 := beq_t h2
      have o1 := opdK_ok m e _ rfl (by omega)
      rw [dec_nilm h2] at o1
      exact ⟨_, [], o1, rfl, .inl ⟨by rw [h3]; rfl, rfl⟩⟩
    · obtain ⟨h2, h3⟩ := iV_inv h3 gf
      have h2 := beq_t h2
      have o1 := opdK_ok m e _ rfl (by omega)
      rw [dec_map h2] at o1
      have hg := decH_get h ((opdK m).g e).p
      revert h3 hg
      cases ho : hget h.h ((opdK m).g e).p with
      | mk ok z anc c =>
        intro h3 hg
        obtain ⟨h4, h3⟩ := iV_inv h3 gf
        have h4 := beq_t h4
        rw [decO_5 h4] at hg
        refine ⟨_, c.map pairF, o1, by simp only [mapOf, hg], ?_⟩
        rw [hkd]
        exact find_ok h1 c f h3 gf
  obtain ⟨am, es, o1, hes, hfind⟩ := hent
  simp only [evOp, o1, o2, Option.bind_eq_bind, Option.bind_some, lookupA, ht]
  rw [if_pos fits]
  simp only [hes, Option.bind_some]
  simp only [gotK, onV_eq, mk_eq] at hr
  rcases hfind with ⟨h2, h3⟩ | ⟨h2, h3⟩
  · rw [h3]
    rw [h2] at hr
    simp only [Option.bind_some, hz]
    cases ok with
    | false =>
      have hr : r = zf := hr
      rw [hr, hzf]; rfl
    | true =>
      have hr : r = tupV [zf, vB false] := hr
      rw [hr, show dec (tupV [zf, vB false]) = AV.tup (decL [zf, vB false]) from dec_tup rfl, decL_two, hzf, dec_vB]; rfl
  · rw [h3]
    simp only [Option.bind_some]
    have h98 : Nat.beq f.t 98 = false := by
      cases hb : Nat.beq f.t 98 with
      | false => rfl
      | true => have := beq_t hb; omega
    rw [h98, iV_f] at hr
    obtain ⟨_, hr⟩ := iV_inv hr g
    cases ok with
    | false =>
      have hr : r = f := hr
      rw [hr]; rfl
    | true =>
      have hr : r = tupV [f, vB true] := hr
      rw [hr, show dec (tupV [f, vB true]) = AV.tup (decL [f, vB true]) from dec_tup rfl, decL_two, dec_vB]; rfl

/- the entries with one written -/
noncomputable def updI (t a b : Nat) (kv : FV) (l : List FV) : FV :=
  List.rec (motive := fun _ => FV) ⟨16, 0, 0, 0, p0, [kv], []⟩ (fun x l ih => onV (fun _ _ _ _ _ xl _ => onV (fun t' a' b' _ _ _ _ => iV (andB (Nat.ble t' 1) (Nat.beq a a')) (iV (andB (Nat.beq t t') (Nat.beq b b')) ⟨16, 0, 0, 0, p0, kv :: l, []⟩
    (onV (fun t2 _ _ _ _ l2 _ => iV (Nat.beq t2 16) ⟨16, 0, 0, 0, p0, x :: l2, []⟩ bad) ih)) bad) (nthT xl 0)) x) l
noncomputable def updS (a b : Nat) (kv : FV) (l : List FV) : FV :=
  List.rec (motive := fun _ => FV) ⟨16, 0, 0, 0, p0, [kv], []⟩ (fun x l ih => onV (fun _ _ _ _ _ xl _ => onV (fun t' a' b' _ _ _ _ => iV (Nat.beq t' 3) (iV (txtEq a b a' b') ⟨16, 0, 0, 0, p0, kv :: l, []⟩
    (onV (fun t2 _ _ _ _ l2 _ => iV (Nat.beq t2 16) ⟨16, 0, 0, 0, p0, x :: l2, []⟩ bad) ih)) bad) (nthT xl 0)) x) l
noncomputable def updK (str : Bool) (t a b : Nat) (kv : FV) (l : List FV) : FV := Bool.rec (motive := fun _ => FV) (updI t a b kv l) (updS a b kv l) str
theorem upd_ok {str : Bool} {t a b : Nat} (ht : keyB str t = true) {kv : FV} {v : AV} (hkv : pairF kv = (keyA str t a b, v)) : ∀ (l : List FV) (r : FV), r = updK str t a b kv l → r.t ≠ 99 → r.t = 16 ∧ updA (keyA str t a b) v (l.map pairF) = some (r.l.map pairF)
  | [], r, hr, g => by
    have hr : r = ⟨16, 0, 0, 0, p0, [kv], []⟩ := by cases str <;> exact hr
    rw [hr]
    refine ⟨rfl, ?_⟩
    show some [(_, _)] = some [pairF kv]
    rw [hkv]
  | x :: l, r, hr, g => by
    cases str with
    | false =>
      have hr : r = onV (fun _ _ _ _ _ xl _ => onV (fun t' a' b' _ _ _ _ => iV (andB (Nat.ble t' 1) (Nat.beq a a')) (iV (andB (Nat.beq t t') (Nat.beq b b')) ⟨16, 0, 0, 0, p0, kv :: l, []⟩ (onV (fun t2 _ _ _ _ l2 _ => iV (Nat.beq t2 16) ⟨16, 0, 0, 0, p0, x :: l2, []⟩ bad) (updK false t a b kv l))) bad) (nthT xl 0)) x := hr
      rw [onV_eq, onV_eq] at hr
      obtain ⟨h1, hr⟩ := iV_inv hr g
      obtain ⟨h1, h2⟩ := andB_t h1
      have hk := key_eq (str := false) (t := t) (a := a) (b := b) (b' := (nthT x.l 0).b) (fun _ => ⟨ble_t ht, ble_t h1, beq_t h2⟩)
      have hd : dec (nthT x.l 0) = keyA false (nthT x.l 0).t (nthT x.l 0).a (nthT x.l 0).b := key_dec h1
      have e1 : pairF x = (dec (nthT x.l 0), dec (nthT x.l 1)) := rfl
      rw [List.map_cons, e1]
      simp only [updA]
      rw [hd, hk]
      dsimp only
      rcases iV_or hr with ⟨h3, hr⟩ | ⟨h3, hr⟩
      · rw [h3, hr]
        refine ⟨rfl, ?_⟩
        show some ((_, _) :: _) = some (pairF kv :: _)
        rw [hkv]
      · rw [onV_eq] at hr
        obtain ⟨h4, hr⟩ := iV_inv hr g
        have h4 := beq_t h4
        obtain ⟨_, h5⟩ := upd_ok ht hkv l _ rfl (show (updK false t a b kv l).t ≠ 99 by omega)
        rw [h3, h5, hr]
        refine ⟨rfl, ?_⟩
        show some ((_, _) :: _) = some (pairF x :: _)
        rw [e1, hd]
    | true =>
      have hr : r = onV (fun _ _ _ _ _ xl _ => onV (fun t' a' b' _ _ _ _ => iV (Nat.beq t' 3) (iV (txtEq a b a' b') ⟨16, 0, 0, 0, p0, kv :: l, []⟩ (onV (fun t2 _ _ _ _ l2 _ => iV (Nat.beq t2 16) ⟨16, 0, 0, 0, p0, x :: l2, []⟩ bad) (updK true t a b kv l))) bad) (nthT xl 0)) x := hr
      rw [onV_eq, onV_eq] at hr
      obtain ⟨h1, hr⟩ := iV_inv hr g
      have hk := key_eq (str := true) (t := t) (a := a) (b := b) (t' := (nthT x.l 0).t) (a' := (nthT x.l 0).a) (b' := (nthT x.l 0).b) (fun h => by cases h)
      have hd : dec (nthT x.l 0) = keyA true (nthT x.l 0).t (nthT x.l 0).a (nthT x.l 0).b := key_dec h1
      have e1 : pairF x = (dec (nthT x.l 0), dec (nthT x.l 1)) := rfl
      rw [List.map_cons, e1]
      simp only [updA]
      rw [hd, hk]
      dsimp only
      rcases iV_or hr with ⟨h3, hr⟩ | ⟨h3, hr⟩
      · rw [h3, hr]
        refine ⟨rfl, ?_⟩
        show some ((_, _) :: _) = some (pairF kv :: _)
        rw [hkv]
      · rw [onV_eq] at hr
        obtain ⟨h4, hr⟩ := iV_inv hr g
        have h4 := beq_t h4
        obtain ⟨_, h5⟩ := upd_ok ht hkv l _ rfl (show (updK true t a b kv l).t ≠ 99 by omega)
        rw [h3, h5, hr]
        refine ⟨rfl, ?_⟩
        show some ((_, _) :: _) = some (pairF x :: _)
        rw [e1, hd]

noncomputable def mapUpdK (str : Bool) (m k v : OpdK) : EK :=
  ⟨fun _ e h => onC (fun tm _ _ _ p _ _ => iC (Nat.beq tm 9) (onC (fun t a b c q l1 m1 => iC (keyB str t) (onC (fun tv av bv cv pv lv mv => iC (Nat.ble tv 15)
    (onO (fun ko _ _ cs => iC (Nat.beq ko 5) (onC (fun t2 _ _ _ _ l2 _ => iC (Nat.beq t2 16) ⟨V0 16, h.put p ⟨5, false, [], l2⟩⟩ (failC h))
      (updK str t a b ⟨16, 0, 0, 0, p0, [⟨t, a, b, c, q, l1, m1⟩, ⟨tv, av, bv, cv, pv, lv, mv⟩], []⟩ cs)) (failC h)) (hget h.h p)) (failC h)) (v.g e)) (failC h)) (k.g e)) (failC h)) (m.g e)⟩
theorem mapUpdK_ok {P : Program} {t kt el : TypeId} {m k v : Operand} {str : Bool} {i : IntKind} (ht : P.underlying t = some (.map kt el)) (hk : P.underlying kt = (if str then some .string else some (.int i))) :
    EOk P (.mapUpdate t m k v) (mapUpdK str (opdK m) (opdK k) (opdK v)) := by
  intro ck cf _ e h r hr g
  simp only [mapUpdK, onC_eq, onO_eq, mk_eq] at hr
  obtain ⟨h1, hr⟩ := iC_inv hr g
  obtain ⟨h2, hr⟩ := iC_inv hr g
  obtain ⟨h3, hr⟩ := iC_inv hr g
  obtain ⟨h4, hr⟩ := iC_inv hr g
  obtain ⟨h5, hr⟩ := iC_inv hr g
  have h1 := beq_t h1; have h3 := ble_t h3; have h4 := beq_t h4; have h5 := beq_t h5
  have hkd := key_dec h2
  have gk : ((opdK k).g e).t ≠ 99 := by
    intro hh; rw [hh] at h2; cases str <;> cases h2
  have o1 := opdK_ok m e _ rfl (by omega)
  have o2 := opdK_ok k e _ rfl gk
  have o3 := opdK_ok v e _ rfl (by omega)
  have fits : keyFits P kt (dec ((opdK k).g e)) = true := by
    rw [hkd]
    cases str with
    | false => simp only [keyA, keyFits]; rw [hk]; rfl
    | true => simp only [keyA, keyFits]; rw [hk]; rfl
  have hkv : pairF (⟨16, 0, 0, 0, p0, [(opdK k).g e, (opdK v).g e], []⟩ : FV) = (keyA str ((opdK k).g e).t ((opdK k).g e).a ((opdK k).g e).b, dec ((opdK v).g e)) := by
    rw [← hkd]; rfl
  obtain ⟨_, hu⟩ := upd_ok h2 hkv _ _ rfl (show (updK str ((opdK k).g e).t ((opdK k).g e).a ((opdK k).g e).b ⟨16, 0, 0, 0, p0, [(opdK k).g e, (opdK v).g e], []⟩ (hget h.h ((opdK m).g e).p).c).t ≠ 99 by omega)
  have hav : (dec ((opdK v).g e)).atom = true ∨ ∃ l, dec ((opdK v).g e) = .agg l := by
    by_cases h15 : ((opdK v).g e).t = 15
    · exact .inr ⟨_, dec_agg h15⟩
    · exact .inl (dec_atom (Nat.ble_eq_true_of_le (by omega)))
  have hev : ∀ (c : AV), (c.atom = true ∨ ∃ l, c = .agg l) → ∀ X : Option (AV × AH), (if (c.atom || c matches .agg _) then X else none) = X := by
    intro c hc X
    cases c <;> first | rfl | (rcases hc with hc | ⟨l, hc⟩ <;> cases hc)
  rw [hr]
  refine ⟨by show _ ≤ (h.put _ _).n.dec; rw [put_n]; exact Nat.le_refl _, ?_⟩
  simp only [evOp, o1, o2, o3, Option.bind_eq_bind, Option.bind_some]
  refine (hev _ hav _).trans ?_
  rw [dec_map h1]
  simp only [mapUpdA, ht]
  rw [if_pos fits, decH_get, decO_5 h4]
  simp only [hkd, hu, Option.bind_some]
  show _ = some (AV.tup (decL []), decH (h.put _ _))
  rw [decH_put _ _ (x := .map (List.map pairF _)) rfl, decL_nil]
  rfl

noncomputable def makeMapK : EK := ⟨fun _ _ h => newC h ⟨9, 0, 0, 0, h.n, [], []⟩ ⟨5, false, [], []⟩⟩
theorem makeMapK_ok {P : Program} {t : TypeId} : EOk P (.makeMap t none) makeMapK := by
  intro ck cf _ e h r hr g
  obtain ⟨h1, h2, h3⟩ := newC_ok hr g (x := .map []) rfl
  refine ⟨h1, ?_⟩
  simp only [evOp]
  rw [h2, h3]
  rfl

/- new slices -/
noncomputable def repF (z : List FV) (n : Nat) : List FV := Nat.rec (motive := fun _ => List FV) [] (fun _ ih => catL z ih) n
theorem repL_succ (z : List AV) (n : Nat) : repL z (n + 1) = z ++ repL z n := by
  unfold repL
  rw [Nat.add_mul, Nat.one_mul, Nat.add_comm (n * z.length), List.range_add, List.map_append, List.map_map]
  congr 1
  · apply List.ext_getElem?
    intro i
    rw [List.getElem?_map]
    by_cases hi : i < z.length
    · rw [List.getElem?_range hi]
      simp only [Option.map_some]
      rw [Nat.mod_eq_of_lt hi, List.getElem?_eq_getElem hi]
      rfl
    · rw [List.getElem?_eq_none (by simpa using hi), List.getElem?_eq_none (by omega)]; rfl
  · apply List.map_congr_left
    intro i _
    show ((z[(z.length + i) % z.length]?).getD .nilp) = _
    rw [Nat.add_mod_left]
theorem repF_ok {z : List FV} {za : List AV} (hz : decC z = za) (n : Nat) : decC (repF z n) = repL za n := by
  induction n with
  | zero => show decC [] = _; rw [decC_nil]; unfold repL; simp
  | succ n ih =>
    show decC (catL z (repF z n)) = _
    rw [catL_eq, decC_app, ih, hz, repL_succ]
noncomputable def makeSliceK (size : Nat) (z : List FV) (l c : OpdK) : EK :=
  ⟨fun _ e h => onC (fun t1 a1 n _ _ _ _ => onC (fun t2 a2 m _ _ _ _ => iC (andB (Nat.beq t1 0) (andB (Nat.beq t2 0) (andB (Nat.beq a1 3) (andB (Nat.beq a2 3) (andB (Nat.ble n m) (Nat.ble m 1073741824))))))
    (newC h ⟨Bool.rec (motive := fun _ => Nat) 6 7 (Nat.beq n m), 0, n, size, h.n, [], []⟩ ⟨1, false, [], repF z m⟩) (failC h)) (c.g e)) (l.g e)⟩
theorem makeSliceK_ok {P : Program} {t el : TypeId} {l c : Operand} {i : TypeInfo} {z : AV} {zf : List FV} (ht : P.underlying t = some (.slice el)) (hi : P.info? el = some i) (hz : zeroT P el = some z) (hzf : decC zf = z.cells) (hb : i.bytes ≤ 2 ^ 16) (h0 : i.size ≠ 0) :
    EOk P (.makeSlice t l c) (makeSliceK i.size zf (opdK l) (opdK c)) := by
  intro ck cf _ e h r hr g
  simp only [makeSliceK, onC_eq] at hr
  obtain ⟨h1, hr⟩ := iC_inv hr g
  obtain ⟨h1, h2⟩ := andB_t h1
  obtain ⟨h2, h3⟩ := andB_t h2
  obtain ⟨h3, h4⟩ := andB_t h3
  obtain ⟨h4, h5⟩ := andB_t h4
  obtain ⟨h5, h6⟩ := andB_t h5
  have h1 := beq_t h1; have h2 := beq_t h2; have h3 := beq_t h3; have h4 := beq_t h4; have h5 := ble_t h5; have h6 := ble_t h6
  have o1 := opdK_ok l e _ rfl (by omega)
  have o2 := opdK_ok c e _ rfl (by omega)
  obtain ⟨h7, h8, h9⟩ := newC_ok hr g (x := .cells 0 [] false (repL z.cells ((opdK c).g e).b)) (by rw [← repF_ok hzf]; rfl)
  refine ⟨h7, ?_⟩
  simp only [evOp, o1, o2, Option.bind_eq_bind, Option.bind_some, ht]
  rw [dec_int h1, dec_int h2, h3, h4]
  rw [show kindOf 3 = IntKind.i64 from rfl]
  simp only [hi, hz, Option.bind_some]
  rw [if_pos ⟨by simp, by simp; exact h5, by simp; exact h6, hb, h0⟩, h8, h9]
  show some (AV.slice _ 0 ((opdK l).g e).b i.size (decide ((((opdK l).g e).b : Int) = (((opdK c).g e).b : Int))), (decH h).new (.cells 0 [] false (repL z.cells ((opdK c).g e).b))) = _
  cases hq : Nat.beq ((opdK l).g e).b ((opdK c).g e).b with
  | true => rw [decide_eq_true (by have := beq_t hq; omega)]; rfl
  | false => rw [decide_eq_false (by have := beq_f hq; omega)]; rfl


noncomputable def clearK (size : Nat) (z : List FV) (x : OpdK) : EK :=
  ⟨fun _ e h => onC (fun t a b c p _ _ => iC (Nat.beq t 8) ⟨V0 16, h⟩ (iC (andB (orB (Nat.beq t 6) (Nat.beq t 7)) (Nat.beq c size)) (iC (Nat.beq b 0) ⟨V0 16, h⟩ (storeR p a (repF z b) (V0 16) h)) (failC h))) (x.g e)⟩
theorem dec_unit : dec (V0 16) = .tup [] := by
  rw [dec_tup (v := V0 16) rfl]
  show AV.tup (decL []) = _
  rw [decL_nil]
theorem clearK_ok {P : Program} {c : Call} {x : Operand} {t el : TypeId} {z : AV} {zf : List FV} (hc : c.callee = .builtin .clear) (ha : c.args.toList = [x]) (hts : ∃ ts, c.argTypes.toList = t :: ts)
    (ht : P.underlying t = some (.slice el)) (hz : zeroT P el = some z) (hzf : decC zf = z.cells) (h0 : z.cells.length ≠ 0) : EOk P (.call c) (clearK z.cells.length zf (opdK x)) := by
  intro ck cf _ e h r hr g
  obtain ⟨ts, hts⟩ := hts
  simp only [clearK, onC_eq] at hr
  have ev : ∀ v : AV, opd (decE e) x = some v → evOp P cf (decE e) (decH h) (.call c) = builtinA P (decH h) .clear (t :: ts) [v] := by
    intro v hv
    simp only [evOp, ha, opds, hv, Option.bind_eq_bind, Option.bind_some, Option.pure_def, hc, hts]
  rcases iC_or hr with ⟨h1, hr⟩ | ⟨_, hr⟩
  · have h1 := beq_t h1
    have o1 := opdK_ok x e _ rfl (show ((opdK x).g e).t ≠ 99 by omega)
    rw [dec_nils h1] at o1
    rw [ev _ o1, hr]
    refine ⟨Nat.le_refl _, ?_⟩
    simp only [builtinA, ht]
    show _ = some (dec (V0 16), decH h)
    rw [dec_unit]
  · obtain ⟨h1, hr⟩ := iC_inv hr g
    obtain ⟨h1, h2⟩ := andB_t h1
    have h1 := sl_tag h1; have h2 := beq_t h2
    have o1 := opdK_ok x e _ rfl (show ((opdK x).g e).t ≠ 99 by omega)
    rw [dec_sl h1] at o1
    rw [ev _ o1]
    simp only [builtinA, ht]
    rcases iC_or hr with ⟨h3, hr⟩ | ⟨h3, hr⟩
    · have h3 := beq_t h3
      rw [if_pos h3, hr]
      refine ⟨Nat.le_refl _, ?_⟩
      show _ = some (dec (V0 16), decH h)
      rw [dec_unit]; rfl
    · have h3 := beq_f h3
      have hne : repF zf ((opdK x).g e).b ≠ [] := by
        intro hh
        have hl := congrArg List.length (repF_ok hzf ((opdK x).g e).b)
        rw [hh, decC_nil] at hl
        unfold repL at hl
        rw [List.length_map, List.length_range] at hl
        have := Nat.mul_ne_zero h3 h0
        exact this hl.symm
      obtain ⟨q1, q2, q3⟩ := storeR_ok hr g hne
      refine ⟨by rw [q3]; exact Nat.le_refl _, ?_⟩
      rw [if_neg h3]
      simp only [hz, Option.bind_eq_bind, Option.bind_some]
      rw [if_neg (by rw [h2]; rintro (hh | hh); exact hh rfl; exact h0 hh), ← repF_ok hzf, q1, q2]
      simp only [Option.bind_some]
      rw [dec_unit]; rfl

/- type assertions -/
/-- has it these methods? 0: it is no type; 1: all; 2: one is missing -/
def implN (P : Program) (want : Array (String × TypeId)) (t : TypeId) : Nat :=
  match P.info? t with
  | none => 0
  | some i => match lacking want i.methods with
    | [] => 1
    | _ :: _ => 2
noncomputable def holdsK (ok : Bool) (v : FV) : FV := Bool.rec (motive := fun _ => FV) v (iV (Nat.beq v.t 99) bad ⟨16, 0, 0, 0, p0, [v, vB true], []⟩) ok
noncomputable def failsK (ok : Bool) (z : FV) : FV := Bool.rec (motive := fun _ => FV) bad ⟨16, 0, 0, 0, p0, [z, vB false], []⟩ ok
theorem holdsK_ok {ok : Bool} {v r : FV} (hr : r = holdsK ok v) (g : r.t ≠ 99) : typeAssertA.holds ok (dec v) = some (dec r) := by
  cases ok with
  | false => have hr : r = v := hr; rw [hr]; rfl
  | true =>
    have hr : r = iV (Nat.beq v.t 99) bad (tupV [v, vB true]) := hr
    rcases iV_or hr with ⟨_, h⟩ | ⟨_, h⟩
    · exact absurd (by rw [h]; rfl) g
    · rw [h, show dec (tupV [v, vB true]) = AV.tup (decL [v, vB true]) from dec_tup rfl, decL_two, dec_vB]; rfl
theorem failsK_ok {P : Program} {t : TypeId} {ok : Bool} {z : AV} {zf r : FV} (hz : ok = true → zeroT P t = some z ∧ dec zf = z) (hr : r = failsK ok zf) (g : r.t ≠ 99) : typeAssertA.fails P t ok = some (dec r) := by
  cases ok with
  | false => exact absurd (by rw [hr]; rfl) g
  | true =>
    obtain ⟨h1, h2⟩ := hz rfl
    have hr : r = tupV [zf, vB false] := hr
    rw [hr, show dec (tupV [zf, vB false]) = AV.tup (decL [zf, vB false]) from dec_tup rfl, decL_two, dec_vB, h2]
    simp only [typeAssertA.fails, h1]
    rfl
noncomputable def assertIK (P : Program) (want : Array (String × TypeId)) (ok : Bool) (z : FV) (x : OpdK) : PK :=
  ⟨fun e _ => onV (fun t a b c p l m => iV (Nat.beq t 14) (failsK ok z) (iV (andB (Nat.beq t 13) (consB l))
    (iV (Nat.beq (implN P want a) 1) (holdsK ok ⟨t, a, b, c, p, l, m⟩) (iV (Nat.beq (implN P want a) 2) (failsK ok z) bad)) bad)) (x.g e)⟩
noncomputable def assertTK (ty : Nat) (ok : Bool) (z : FV) (x : OpdK) : PK :=
  ⟨fun e _ => onV (fun t a _ _ _ l _ => iV (Nat.beq t 14) (failsK ok z) (iV (andB (Nat.beq t 13) (consB l)) (iV (Nat.beq a ty) (holdsK ok (nthT l 0)) (failsK ok z)) bad)) (x.g e)⟩
theorem assertIK_ok {P : Program} {t w : TypeId} {x : Operand} {want : Array (String × TypeId)} {ok : Bool} {z : AV} {zf : FV} (ht : P.underlying t = some (.interface want)) (hz : ok = true → zeroT P t = some z ∧ dec zf = z) :
    POk P (.typeAssert x w t ok) (assertIK P want ok zf (opdK x)) := by
  intro cf e h r hr g
  simp only [assertIK, onV_eq, mk_eq] at hr
  rcases iV_or hr with ⟨h1, hr⟩ | ⟨_, hr⟩
  · have h1 := beq_t h1
    have o1 := opdK_ok x e _ rfl (by omega)
    simp only [evOp, o1, Option.bind_eq_bind, Option.bind_some]
    rw [dec_nili h1]
    simp only [typeAssertA, ht]
    rw [failsK_ok hz hr g]; rfl
  · obtain ⟨h1, hr⟩ := iV_inv hr g
    obtain ⟨h1, h2⟩ := andB_t h1
    have h1 := beq_t h1
    obtain ⟨y, ys, hl⟩ := consB_ok h2
    have o1 := opdK_ok x e _ rfl (by omega)
    simp only [evOp, o1, Option.bind_eq_bind, Option.bind_some]
    have hd := dec_iface h1 hl
    rw [hd]
    simp only [typeAssertA, ht, Option.bind_eq_bind]
    rcases iV_or hr with ⟨h3, hr⟩ | ⟨_, hr⟩
    · have h3 := beq_t h3
      unfold implN at h3
      split at h3
      · cases h3
      · rename_i i hi
        simp only [hi, Option.bind_some]
        split at h3
        · rename_i hm
          rw [missingMethod_none hm]
          have := holdsK_ok hr g
          rw [hd] at this
          simp only [this]; rfl
        · cases h3
    · obtain ⟨h3, hr⟩ := iV_inv hr g
      have h3 := beq_t h3
      unfold implN at h3
      split at h3
      · cases h3
      · rename_i i hi
        simp only [hi, Option.bind_some]
        split at h3
        · cases h3
        · rename_i hm
          obtain ⟨m, hm⟩ := missingMethod_some (want := want) (got := i.methods) (by rw [hm]; simp)
          rw [hm]
          simp only [failsK_ok hz hr g]; rfl
theorem assertTK_ok {P : Program} {t w : TypeId} {x : Operand} {d : TypeDesc} {ok : Bool} {z : AV} {zf : FV} (ht : P.underlying t = some d) (hd : ∀ ms, d ≠ .interface ms) (hz : ok = true → zeroT P t = some z ∧ dec zf = z) :
    POk P (.typeAssert x w t ok) (assertTK t ok zf (opdK x)) := by
  intro cf e h r hr g
  simp only [assertTK, onV_eq, mk_eq] at hr
  have hA : typeAssertA P .nili t ok = typeAssertA.fails P t ok := by
    unfold typeAssertA
    rw [ht]
    cases d <;> first | rfl | exact absurd rfl (hd _)
  have hB : ∀ (u : TypeId) (v : AV), typeAssertA P (.iface u v) t ok = if u = t then typeAssertA.holds ok v else typeAssertA.fails P t ok := by
    intro u v
    unfold typeAssertA
    rw [ht]
    cases d <;> first | rfl | exact absurd rfl (hd _)
  rcases iV_or hr with ⟨h1, hr⟩ | ⟨_, hr⟩
  · have h1 := beq_t h1
    have o1 := opdK_ok x e _ rfl (by omega)
    simp only [evOp, o1, Option.bind_eq_bind, Option.bind_some]
    rw [dec_nili h1, hA, failsK_ok hz hr g]; rfl
  · obtain ⟨h1, hr⟩ := iV_inv hr g
    obtain ⟨h1, h2⟩ := andB_t h1
    have h1 := beq_t h1
    obtain ⟨y, ys, hl⟩ := consB_ok h2
    have o1 := opdK_ok x e _ rfl (by omega)
    simp only [evOp, o1, Option.bind_eq_bind, Option.bind_some]
    rw [dec_iface h1 hl, hB]
    have hy : nthT ((opdK x).g e).l 0 = y := by rw [hl]; rfl
    rw [hy] at hr
    rcases iV_or hr with ⟨h3, hr⟩ | ⟨h3, hr⟩
    · rw [if_pos (beq_t h3), holdsK_ok hr g]; rfl
    · rw [if_neg (beq_f h3), failsK_ok hz hr g]; rfl

/- the slow way -/
theorem evOp_cf {P : Program} {cf cf' : CallF} {e : Env} {h : AH} {o : Op} (hc : looksOnly P o = true) : evOp P cf e h o = evOp P cf' e h o := by
  cases o <;> try rfl
  case makeMap t r => cases r <;> rfl
  case call c =>
    simp only [evOp]
    cases hcal : c.callee with
    | builtin b => rfl
    | value f =>
      simp only [looksOnly, cls, hcal] at hc
      exact absurd hc (by decide)
    | invoke r n =>
      simp only [looksOnly, cls, hcal] at hc
      exact absurd hc (by decide)
theorem slowK_ok {P : Program} {o : Op} (hc : looksOnly P o = true) : POk P o (slowK P o) := by
  intro cf e h r hr g
  simp only [slowK] at hr
  cases hv : evOp P (fun _ _ _ => none) (decE e) (decH h) o with
  | none => rw [hv] at hr; exact absurd (by rw [hr]; rfl) g
  | some p =>
    obtain ⟨v, h'⟩ := p
    rw [hv] at hr
    dsimp only at hr
    have hs : h' = decH h := by
      simp only [looksOnly, Bool.or_eq_true, decide_eq_true_eq] at hc
      rcases hc with hc | hc
      · exact pure_same hc hv
      · exact load_same hc hv
    rw [evOp_cf (cf' := fun _ _ _ => none) hc, hv, hs, hr, dec_enc v (by rw [← hr]; exact g)]

end Go.Fast
