/- The fast evaluator: effects and new blocks. -/
import Derived.Test.YtckjdbmadheamaaGreatDoorA6
set_option linter.all false
namespace Go.Fast
open Go.Vai
variable [S : Sym]

theorem iC_t (x y : CR) : iC true x y = x := rfl
theorem iC_f (x y : CR) : iC false x y = y := rfl
theorem iC_or {r x y : CR} {c : Bool} (h : r = iC c x y) : (c = true ∧ r = x) ∨ (c = false ∧ r = y) := by
  cases c
  · exact .inr ⟨rfl, h⟩
  · exact .inl ⟨rfl, h⟩
noncomputable def failC (h : FH) : CR := ⟨bad, h⟩
theorem iC_inv {r x : CR} {c : Bool} {h : FH} (e : r = iC c x (failC h)) (g : r.v.t ≠ 99) : c = true ∧ r = x := by
  cases c
  · exact absurd (by rw [e]; rfl) g
  · exact ⟨rfl, e⟩
noncomputable def onO (f : Nat → Bool → List Pth → List FV → CR) (o : FO) : CR := FO.rec (motive := fun _ => CR) f o
theorem onO_eq (f : Nat → Bool → List Pth → List FV → CR) (o : FO) : onO f o = f o.k o.z o.anc o.c := by cases o; rfl

/- new blocks -/
noncomputable def newC (h : FH) (v : FV) (o : FO) : CR := iC h.full (failC h) ⟨v, h.new o⟩
theorem newC_ok {h : FH} {v : FV} {o : FO} {r : CR} {x : HObj} (hr : r = newC h v o) (g : r.v.t ≠ 99) (ho : decO o = some x) : h.n.dec ≤ r.h.n.dec ∧ r.v = v ∧ decH r.h = (decH h).new x := by
  rcases iC_or hr with ⟨_, h1⟩ | ⟨h1, h2⟩
  · exact absurd (by rw [h1]; rfl) g
  · rw [h2]
    exact ⟨by show _ ≤ (h.new o).n.dec; rw [new_n o h1]; omega, rfl, decH_new h ho h1⟩

noncomputable def allocK (z : List FV) : EK := ⟨fun _ _ h => newC h ⟨4, 0, 0, 0, h.n, [], []⟩ ⟨1, false, [], z⟩⟩
theorem allocK_ok {P : Program} {t : TypeId} {z : AV} {l : List FV} (hz : zeroT P t = some z) (hl : decC l = z.cells) : EOk P (.alloc t) (allocK l) := by
  intro ck cf _ e h r hr g
  obtain ⟨h1, h2, h3⟩ := newC_ok hr g (x := .cells 0 [] false z.cells) (by rw [← hl]; rfl)
  refine ⟨h1, ?_⟩
  simp only [evOp, hz, Option.bind_eq_bind, Option.bind_some]
  rw [h2, h3]
  rfl
noncomputable def boxK (n : Nat) (x : OpdK) : EK := ⟨fun _ e h => onC (fun t _ _ _ _ l _ => iC (Nat.beq t 15) (newC h ⟨4, 0, 0, 0, h.n, [], []⟩ ⟨1, false, [], l⟩) (failC h)) (cellsV n (x.g e))⟩
theorem boxK_ok {P : Program} {t : TypeId} {x : Operand} {n : Nat} (hn : sizeT P t = some n) (h0 : n ≠ 0) : EOk P (.box t x) (boxK n (opdK x)) := by
  intro ck cf _ e h r hr g
  simp only [boxK, onC_eq] at hr
  obtain ⟨h1, hr⟩ := iC_inv hr g
  have h1 := beq_t h1
  have gc : (cellsV n ((opdK x).g e)).t ≠ 99 := by omega
  obtain ⟨_, hlen, hdec, hx⟩ := cells_ok rfl gc
  have o1 := opdK_ok x e _ rfl hx
  obtain ⟨h2, h3, h4⟩ := newC_ok hr g (x := .cells 0 [] false (dec ((opdK x).g e)).cells) (by rw [← hdec]; rfl)
  refine ⟨h2, ?_⟩
  simp only [evOp, o1, hn, Option.bind_eq_bind, Option.bind_some]
  rw [if_pos ⟨by rw [← hdec, decC_len]; exact hlen, cells_atoms rfl gc, h0⟩, h3, h4]
  rfl

/- parts written over cells -/
structure PartK where
  run : Fr3 → List FV → FV
noncomputable def fillK : List (Nat × Nat × OpdK) → PartK
  | [] => ⟨fun _ l => ⟨15, 0, 0, 0, p0, l, []⟩⟩
  | (off, size, x) :: rest => ⟨fun e l => onV (fun t _ _ _ _ xs _ => iV (Nat.beq t 15) (onV (fun t2 _ _ _ _ l2 _ => iV (Nat.beq t2 15) ((fillK rest).run e l2) bad) (setV off xs l)) bad) (cellsV size (x.g e))⟩
noncomputable def partsF (place : Nat → Option (Nat × Nat)) : List (Nat × Operand) → Option (List (Nat × Nat × OpdK))
  | [] => some []
  | (i, x) :: l => match place i, partsF place l with
    | some (off, size), some r => some ((off, size, opdK x) :: r)
    | _, _ => none
theorem fillK_ok {place : Nat → Option (Nat × Nat)} : ∀ (ps : List (Nat × Operand)) (ks : List (Nat × Nat × OpdK)), partsF place ps = some ks → ∀ (e : Fr3) (l : List FV) (r : FV), r = (fillK ks).run e l → r.t ≠ 99 →
    r.t = 15 ∧ ∃ vs, partsA (decE e) ps = some vs ∧ fillA place (decC l) vs = some (decC r.l)
  | [], ks, hk, e, l, r, hr, g => by
    cases hk
    simp only [fillK] at hr
    rw [hr]
    exact ⟨rfl, [], rfl, rfl⟩
  | (i, x) :: ps, ks, hk, e, l, r, hr, g => by
    simp only [partsF] at hk
    split at hk
    · rename_i off size kr hp hrest
      cases hk
      simp only [fillK, onV_eq] at hr
      obtain ⟨h1, hr⟩ := iV_inv hr g
      obtain ⟨h2, hr⟩ := iV_inv hr g
      have h1 := beq_t h1; have h2 := beq_t h2
      have g1 : (cellsV size ((opdK x).g e)).t ≠ 99 := by omega
      have g2 : (setV off (cellsV size ((opdK x).g e)).l l).t ≠ 99 := by omega
      obtain ⟨_, hlen, hdec, hx⟩ := cells_ok rfl g1
      obtain ⟨_, hle, hset, _⟩ := set_ok rfl g2
      have o1 := opdK_ok x e _ rfl hx
      obtain ⟨ht, vs, hv, hf⟩ := fillK_ok ps kr hrest e _ r hr g
      refine ⟨ht, (i, dec ((opdK x).g e)) :: vs, ?_, ?_⟩
      · simp only [partsA, o1, hv, Option.bind_eq_bind, Option.bind_some]; rfl
      · simp only [fillA, hp]
        rw [if_pos ⟨by rw [← hdec, decC_len]; exact hlen, by rw [decC_len]; omega, cells_atoms rfl g1⟩, ← hdec, ← hset]
        exact hf
    · cases hk
noncomputable def buildK (z : List FV) (ps : PartK) : PK := ⟨fun e _ => ps.run e z⟩
theorem buildS_ok {P : Program} {t : TypeId} {ps : Array (Nat × Operand)} {z : AV} {l : List FV} {fs : Array Field} {pl : List (Nat × Nat)} {ks : List (Nat × Nat × OpdK)} (hz : zeroT P t = some z) (hl : decC l = z.cells) (ht : P.underlying t = some (.struct fs)) (hp : fieldPlaces P fs.toList = some pl) (hk : partsF (pl[·]?) ps.toList = some ks) :
    POk P (.build t ps) (buildK l (fillK ks)) := by
  intro cf e h r hr g
  obtain ⟨h1, vs, hv, hf⟩ := fillK_ok _ _ hk e l r hr g
  simp only [evOp, hv, Option.bind_eq_bind, Option.bind_some, buildA, hz, ht, hp]
  rw [← hl, hf, dec_agg h1]
  rfl
theorem buildR_ok {P : Program} {t el : TypeId} {len n : Nat} {ps : Array (Nat × Operand)} {z : AV} {l : List FV} {ks : List (Nat × Nat × OpdK)} (hz : zeroT P t = some z) (hl : decC l = z.cells) (ht : P.underlying t = some (.array len el)) (hn : sizeT P el = some n) (h0 : n ≠ 0) (hk : partsF (fun i => some (i * n, n)) ps.toList = some ks) :
    POk P (.build t ps) (buildK l (fillK ks)) := by
  intro cf e h r hr g
  obtain ⟨h1, vs, hv, hf⟩ := fillK_ok _ _ hk e l r hr g
  simp only [evOp, hv, Option.bind_eq_bind, Option.bind_some, buildA, hz, ht, hn, if_neg h0]
  rw [← hl, hf, dec_agg h1]
  rfl
noncomputable def buildSliceK (n len : Nat) (z : List FV) (ps : PartK) : EK := ⟨fun _ e h => onC (fun t _ _ _ _ l _ => iC (Nat.beq t 15) (newC h ⟨7, 0, len, n, h.n, [], []⟩ ⟨1, false, [], l⟩) (failC h)) (ps.run e z)⟩
theorem buildSliceK_ok {P : Program} {t el : TypeId} {len n : Nat} {ps : Array (Nat × Operand)} {z : AV} {l : List FV} {ks : List (Nat × Nat × OpdK)} (ht : P.underlying t = some (.slice el)) (hn : sizeT P el = some n) (h0 : ¬(n = 0 ∨ 2 ^ 24 < len * n)) (hz : zeroT P el = some z) (hl : decC l = repL z.cells len) (hk : partsF (fun i => some (i * n, n)) ps.toList = some ks) :
    EOk P (.buildSlice t len ps) (buildSliceK n len l (fillK ks)) := by
  intro ck cf _ e h r hr g
  simp only [buildSliceK, onC_eq] at hr
  obtain ⟨h1, hr⟩ := iC_inv hr g
  have h1 := beq_t h1
  obtain ⟨_, vs, hv, hf⟩ := fillK_ok _ _ hk e l _ rfl (show ((fillK ks).run e l).t ≠ 99 by omega)
  obtain ⟨h2, h3, h4⟩ := newC_ok hr g (x := .cells 0 [] false (decC ((fillK ks).run e l).l)) rfl
  refine ⟨h2, ?_⟩
  simp only [evOp, hv, Option.bind_eq_bind, Option.bind_some, buildSliceA, ht, hn, hz, if_neg h0]
  rw [← hl, hf, h3, h4]
  rfl

theorem decO_1 {o : FO} (h : o.k = 1) : decO o = some (.cells 0 (o.anc.map Pth.dec) o.z (decC o.c)) := by cases o; cases h; rfl
theorem decO_2 {o : FO} (h : o.k = 2) : decO o = some (.cells 1 (o.anc.map Pth.dec) o.z (decC o.c)) := by cases o; cases h; rfl
theorem decO_3 {o : FO} (h : o.k = 3) : decO o = some (.cells 2 (o.anc.map Pth.dec) o.z (decC o.c)) := by cases o; cases h; rfl
theorem decO_5 {o : FO} (h : o.k = 5) : decO o = some (.map (o.c.map pairF)) := by cases o; cases h; rfl
/- rows that are dead -/
noncomputable def kill1 (h : FH) (p : Pth) : FH := FO.rec (motive := fun _ => FH) (fun k z anc c => Bool.rec (motive := fun _ => FH) h (h.put p ⟨3, z, anc, c⟩) (andB (Nat.ble 1 k) (Nat.ble k 3))) (hget h.h p)
noncomputable def killL (l : List Pth) (h : FH) : FH := List.rec (motive := fun _ => FH → FH) (fun h => h) (fun p _ ih h => ih (kill1 h p)) l h
theorem decO_cells {o : FO} (h1 : 1 ≤ o.k) (h2 : o.k ≤ 3) : ∃ st, decO o = some (.cells st (o.anc.map Pth.dec) o.z (decC o.c)) := by
  unfold decO
  rcases (show o.k = 1 ∨ o.k = 2 ∨ o.k = 3 by omega) with h | h | h <;> rw [h] <;> exact ⟨_, rfl⟩
theorem decO_not {o : FO} (h : ¬(1 ≤ o.k ∧ o.k ≤ 3)) : ∀ st anc f c, decO o ≠ some (.cells st anc f c) := by
  intro st anc f c
  unfold decO
  split <;> first | omega | exact fun hh => by cases hh
theorem kill1_ok (h : FH) (p : Pth) : decH (kill1 h p) = kill (decH h) [p.dec] ∧ (kill1 h p).n = h.n := by
  unfold kill1
  simp only [kill]
  rw [decH_get]
  cases ho : hget h.h p with
  | mk k z anc c =>
    dsimp only
    cases hb : andB (Nat.ble 1 k) (Nat.ble k 3) with
    | true =>
      obtain ⟨h1, h2⟩ := andB_t hb
      obtain ⟨st, hd⟩ := decO_cells (o := ⟨k, z, anc, c⟩) (ble_t h1) (ble_t h2)
      rw [hd]
      dsimp only
      exact ⟨decH_put h p rfl, put_n h p _⟩
    | false =>
      have hn : ¬(1 ≤ k ∧ k ≤ 3) := by
        rw [andB_eq, Bool.and_eq_false_iff] at hb
        rcases hb with hb | hb
        · have := ble_f hb; omega
        · have := ble_f hb; omega
      have hd := decO_not (o := ⟨k, z, anc, c⟩) hn
      dsimp only
      refine ⟨?_, rfl⟩
      split
      · rename_i e; exact absurd e (hd _ _ _ _)
      · rfl
theorem kill_cons (h : AH) (b : Nat) (l : List Nat) : kill h (b :: l) = kill (kill h [b]) l := by
  simp only [kill]
  split <;> rfl
theorem killL_ok (l : List Pth) (h : FH) : decH (killL l h) = kill (decH h) (l.map Pth.dec) ∧ (killL l h).n = h.n := by
  induction l generalizing h with
  | nil => exact ⟨rfl, rfl⟩
  | cons p l ih =>
    obtain ⟨h1, h2⟩ := ih (kill1 h p)
    obtain ⟨h3, h4⟩ := kill1_ok h p
    refine ⟨?_, ?_⟩
    · show decH (killL l (kill1 h p)) = _
      rw [h1, h3, List.map_cons]; exact (kill_cons _ _ _).symm
    · show (killL l (kill1 h p)).n = _
      rw [h2, h4]

/- stores -/
noncomputable def storeR (p : Pth) (o : Nat) (xs : List FV) (v : FV) (h : FH) : CR :=
  onO (fun k z anc c => iC (andB (Nat.beq k 1) (notB z)) (onC (fun t3 _ _ _ _ l3 _ => iC (Nat.beq t3 15) ⟨v, (killL anc h).put p ⟨1, false, [], l3⟩⟩ (failC h)) (setV o xs c)) (failC h)) (hget h.h p)
theorem storeR_ok {p : Pth} {o : Nat} {xs : List FV} {v : FV} {h : FH} {r : CR} (hr : r = storeR p o xs v h) (g : r.v.t ≠ 99) (hx : xs ≠ []) : Vai.storeCells (decH h) p.dec o (decC xs) = some (decH r.h) ∧ r.v = v ∧ r.h.n = h.n := by
  simp only [storeR, onO_eq, onC_eq] at hr
  obtain ⟨h1, hr⟩ := iC_inv hr g
  obtain ⟨h2, hr⟩ := iC_inv hr g
  obtain ⟨h1, h3⟩ := andB_t h1
  have h1 := beq_t h1; have h2 := beq_t h2
  rw [notB_eq] at h3
  have h3 : (hget h.h p).z = false := by simpa using h3
  obtain ⟨_, hle, hset, _⟩ := set_ok rfl (show (setV o xs (hget h.h p).c).t ≠ 99 by omega)
  obtain ⟨k1, k2⟩ := killL_ok (hget h.h p).anc h
  have hd : decO (hget h.h p) = some (.cells 0 ((hget h.h p).anc.map Pth.dec) false (decC (hget h.h p).c)) := by
    rw [decO_1 h1, h3]
  refine ⟨?_, by rw [hr], by rw [hr]; show ((killL _ h).put p _).n = _; rw [put_n, k2]⟩
  unfold Vai.storeCells
  have hne : decC xs ≠ [] := by
    intro e
    have := decC_len xs
    rw [e] at this
    exact hx (List.eq_nil_of_length_eq_zero this.symm)
  rw [if_neg hne, decH_get, hd]
  dsimp only
  rw [if_pos ⟨rfl, rfl, by rw [decC_len, decC_len]; exact hle, decC_atoms _⟩, hr]
  show _ = some (decH ((killL (hget h.h p).anc h).put p ⟨1, false, [], (setV o xs (hget h.h p).c).l⟩))
  rw [decH_put _ _ (x := .cells 0 [] false (putL (decC (hget h.h p).c) o (decC xs))) (by rw [← hset]; rfl), k1]

noncomputable def storeK (n : Nat) (x y : OpdK) : EK :=
  ⟨fun _ e h => onC (fun t o _ _ p _ _ => iC (Nat.beq t 4) (onC (fun t2 _ _ _ _ l2 _ => iC (Nat.beq t2 15) (storeR p o l2 (V0 16) h) (failC h)) (cellsV n (y.g e))) (failC h)) (x.g e)⟩
theorem storeK_ok {P : Program} {t : TypeId} {x y : Operand} {n : Nat} (hn : sizeT P t = some n) (h0 : n ≠ 0) : EOk P (.store t x y) (storeK n (opdK x) (opdK y)) := by
  intro ck cf _ e h r hr g
  simp only [storeK, onC_eq] at hr
  obtain ⟨h1, hr⟩ := iC_inv hr g
  obtain ⟨h2, hr⟩ := iC_inv hr g
  have h1 := beq_t h1; have h2 := beq_t h2
  have gc : (cellsV n ((opdK y).g e)).t ≠ 99 := by omega
  obtain ⟨_, hlen, hdec, hy⟩ := cells_ok rfl gc
  have o1 := opdK_ok x e _ rfl (by omega)
  have o2 := opdK_ok y e _ rfl hy
  obtain ⟨h3, h4, h5⟩ := storeR_ok hr g (by intro e; rw [e] at hlen; exact h0 hlen.symm)
  refine ⟨by rw [h5]; exact Nat.le_refl _, ?_⟩
  simp only [evOp, o1, o2, Option.bind_eq_bind, Option.bind_some]
  rw [dec_ptr h1]
  simp only [storeT, hn, Option.bind_eq_bind, Option.bind_some]
  rw [if_pos ⟨by rw [← hdec, decC_len]; exact hlen, h0⟩, ← hdec, h3, h4]
  rfl

/- texts as bytes -/
noncomputable def bytesF (n c m : Nat) : List FV := Nat.rec (motive := fun _ => List FV) [] (fun k ih => ⟨0, 4, byteAt n c (Nat.sub n (Nat.add k 1)), 0, p0, [], []⟩ :: ih) m
theorem bytesF_ok (n c m : Nat) (h : m ≤ n) : decC (bytesF n c m) = ((txt n c).data.toList.drop (n - m)).map fun b => .int .u8 b.toNat := by
  induction m with
  | zero =>
    rw [List.drop_of_length_le (by rw [size_len, txt_size]; omega)]
    rfl
  | succ m ih =>
    have e : (txt n c).data.toList[n - (m + 1)]? = some (UInt8.ofNat (byteN n c (n - (m + 1)))) := txt_get (by omega)
    have hlt : n - (m + 1) < (txt n c).data.toList.length := by rw [size_len, txt_size]; omega
    rw [List.getElem?_eq_getElem hlt] at e
    rw [List.drop_eq_getElem_cons hlt, List.map_cons, show n - (m + 1) + 1 = n - m by omega, ← ih (by omega)]
    injection e with e
    rw [e, u8_of (byteN_lt _ _ _)]
    rfl
theorem bytesF_len (n c m : Nat) : (bytesF n c m).length = m := by
  induction m with
  | zero => rfl
  | succ m ih => show (bytesF n c m).length + 1 = _; rw [ih]
theorem bytesF_all (n c : Nat) : decC (bytesF n c n) = (txt n c).data.toList.map fun b => .int .u8 b.toNat := by
  rw [bytesF_ok n c n (Nat.le_refl _), Nat.sub_self, List.drop_zero]
noncomputable def toBytesK (x : OpdK) : EK := ⟨fun _ e h => onC (fun t a b _ _ _ _ => iC (andB (Nat.beq t 3) (Nat.ble a 1073741824)) (newC h ⟨6, 0, a, 1, h.n, [], []⟩ ⟨1, false, [], bytesF a b a⟩) (failC h)) (x.g e)⟩
theorem toBytesK_ok {P : Program} {s d el : TypeId} {x : Operand} (hs : P.underlying s = some .string) (hd : P.underlying d = some (.slice el)) (he : P.underlying el = some (.int .u8)) : EOk P (.convert s d x) (toBytesK (opdK x)) := by
  intro ck cf _ e h r hr g
  simp only [toBytesK, onC_eq] at hr
  obtain ⟨h1, hr⟩ := iC_inv hr g
  obtain ⟨h1, h2⟩ := andB_t h1
  have h1 := beq_t h1; have h2 := ble_t h2
  have o1 := opdK_ok x e _ rfl (by omega)
  obtain ⟨h3, h4, h5⟩ := newC_ok hr g (x := .cells 0 [] false ((txt ((opdK x).g e).a ((opdK x).g e).b).data.toList.map fun b => .int .u8 b.toNat)) (by rw [← bytesF_all]; rfl)
  refine ⟨h3, ?_⟩
  simp only [evOp, o1, Option.bind_eq_bind, Option.bind_some]
  rw [dec_str h1]
  simp only [convertA, hs, hd, he]
  rw [if_pos (by rw [txt_size]; exact h2), h4, h5, txt_size]
  rfl
noncomputable def textV (l : List FV) : Nat → Nat → FV := List.rec (motive := fun _ => Nat → Nat → FV) (fun n c => ⟨3, n, c, 0, p0, [], []⟩) (fun x _ ih n c => onV (fun t a b _ _ _ _ => iV (andB (Nat.beq t 0) (Nat.beq a 4)) (ih (Nat.add n 1) (Nat.add (Nat.mul c 256) (Nat.mod b 256))) bad) x) l
theorem textV_ok : ∀ (l : List FV) (n c : Nat) (r : FV), r = textV l n c → r.t ≠ 99 → ∃ bs, bytesOfL (decC l) = some bs ∧ r.t = 3 ∧ r.a = n + bs.length ∧ r.b = c * 256 ^ bs.length + codeL bs
  | [], n, c, r, hr, g => by
    have hr : r = ⟨3, n, c, 0, p0, [], []⟩ := hr
    rw [hr]
    exact ⟨[], rfl, rfl, rfl, by simp [codeL]⟩
  | x :: l, n, c, r, hr, g => by
    have hr : r = onV (fun t a b _ _ _ _ => iV (andB (Nat.beq t 0) (Nat.beq a 4)) (textV l (Nat.add n 1) (Nat.add (Nat.mul c 256) (Nat.mod b 256))) bad) x := hr
    rw [onV_eq] at hr
    obtain ⟨h1, hr⟩ := iV_inv hr g
    obtain ⟨h1, h2⟩ := andB_t h1
    have h1 := beq_t h1; have h2 := beq_t h2
    obtain ⟨bs, e1, e2, e3, e4⟩ := textV_ok l _ _ r hr g
    refine ⟨UInt8.ofNat x.b :: bs, ?_, e2, ?_, ?_⟩
    · show bytesOfL (cellOf x.t (dec x) :: decC l) = _
      rw [cell_of (by rw [h1]; rfl), dec_int h1, h2]
      show bytesOfL (.int .u8 (Int.ofNat x.b) :: decC l) = _
      simp only [bytesOfL, e1, Option.bind_eq_bind, Option.bind_some]
      rfl
    · rw [e3, List.length_cons]
      show n + 1 + _ = _
      omega
    · rw [e4, codeL_cons, List.length_cons, UInt8.toNat_ofNat', Nat.pow_succ, show (2 : Nat) ^ 8 = 256 from rfl]
      show (c * 256 + x.b % 256) * _ + _ = _
      rw [Nat.add_mul, Nat.mul_assoc, Nat.mul_comm 256]
      omega
noncomputable def toTextK (x : OpdK) : PK :=
  ⟨fun e h => onV (fun t a b c p _ _ => iV (Nat.beq t 8) ⟨3, 0, 0, 0, p0, [], []⟩ (iV (andB (orB (Nat.beq t 6) (Nat.beq t 7)) (andB (Nat.beq c 1) (Nat.ble 1 b)))
    (live (hget h.h p) fun cc => onV (fun t2 _ _ _ _ l2 _ => iV (Nat.beq t2 15) (textV l2 0 0) bad) (takeV b (dropL a cc))) bad)) (x.g e)⟩
theorem toTextK_ok {P : Program} {s d el : TypeId} {x : Operand} (hs : P.underlying s = some (.slice el)) (hd : P.underlying d = some .string) (he : P.underlying el = some (.int .u8)) : POk P (.convert s d x) (toTextK (opdK x)) := by
  intro cf e h r hr g
  simp only [toTextK, onV_eq] at hr
  rcases iV_or hr with ⟨h1, hr⟩ | ⟨_, hr⟩
  · have h1 := beq_t h1
    have o1 := opdK_ok x e _ rfl (by omega)
    simp only [evOp, o1, Option.bind_eq_bind, Option.bind_some]
    rw [dec_nils h1, hr]
    simp only [convertA, hs, hd, he]
    rfl
  · obtain ⟨h1, hr⟩ := iV_inv hr g
    obtain ⟨h1, h2⟩ := andB_t h1
    obtain ⟨h2, h3⟩ := andB_t h2
    have h1 := sl_tag h1; have h2 := beq_t h2; have h3 := ble_t h3
    have o1 := opdK_ok x e _ rfl (by omega)
    obtain ⟨hrow, hr⟩ := live_ok hr g
    obtain ⟨h4, hr⟩ := iV_inv hr g
    have h4 := beq_t h4
    obtain ⟨hc, _, _⟩ := cut_ok rfl (show ((opdK x).g e).b ≠ 0 by omega) (show (takeV ((opdK x).g e).b (dropL ((opdK x).g e).a (hget h.h ((opdK x).g e).p).c)).t ≠ 99 by omega)
    obtain ⟨bs, e1, e2, e3, e4⟩ := textV_ok _ _ _ _ hr g
    simp only [evOp, o1, Option.bind_eq_bind, Option.bind_some]
    rw [dec_sl h1, h2]
    simp only [convertA, hs, hd, he, Option.bind_eq_bind, Option.bind_some, hrow, hc, e1]
    rw [dec_str e2, e3, e4, Nat.zero_add, Nat.zero_mul, Nat.zero_add, txt_list]
    rfl

/- appends and copies -/
/-- the cells of what is appended -/
noncomputable def srcV (h : FH) (size : Nat) (v : FV) : FV :=
  onV (fun t a b c p _ _ => iV (Nat.beq t 8) (V0 15) (iV (orB (Nat.beq t 6) (Nat.beq t 7)) (iV (Nat.beq c size) (iV (Nat.beq b 0) (V0 15) (live (hget h.h p) fun cc => takeV (Nat.mul b size) (dropL a cc))) bad)
    (iV (andB (Nat.beq t 3) (andB (Nat.beq size 1) (Nat.ble a 1073741824))) ⟨15, 0, 0, 0, p0, bytesF a b a, []⟩ bad))) v
theorem srcV_ok {h : FH} {size : Nat} {v r : FV} (hr : r = srcV h size v) (g : r.t ≠ 99) (h0 : size ≠ 0) : r.t = 15 ∧ v.t ≠ 99 ∧ ∃ n, srcCells (decH h) size (dec v) = some (n, decC r.l) ∧ r.l.length = n * size := by
  simp only [srcV, onV_eq] at hr
  rcases iV_or hr with ⟨h1, hr⟩ | ⟨_, hr⟩
  · have h1 := beq_t h1
    rw [dec_nils h1, hr]
    exact ⟨rfl, by omega, 0, rfl, by simp [V0]⟩
  · rcases iV_or hr with ⟨h1, hr⟩ | ⟨_, hr⟩
    · obtain ⟨h2, hr⟩ := iV_inv hr g
      have h1 := sl_tag h1; have h2 := beq_t h2
      rw [dec_sl h1]
      rcases iV_or hr with ⟨h3, hr⟩ | ⟨h3, hr⟩
      · have h3 := beq_t h3
        rw [hr, h3]
        refine ⟨rfl, by omega, 0, ?_, by simp [V0]⟩
        simp only [srcCells]
        rw [if_neg (fun hh => hh h2), if_pos trivial]
        rfl
      · have h3 := beq_f h3
        obtain ⟨hrow, hr⟩ := live_ok hr g
        have hne : v.b * size ≠ 0 := Nat.mul_ne_zero h3 h0
        obtain ⟨hc, ht, hl⟩ := cut_ok hr hne g
        change cutL _ _ (v.b * size) = _ at hc
        refine ⟨ht, by omega, v.b, ?_, hl⟩
        simp only [srcCells]
        rw [if_neg (fun hh => hh h2), if_neg h3]
        simp only [hrow, hc, Option.bind_eq_bind, Option.bind_some]
        rfl
    · obtain ⟨h1, hr⟩ := iV_inv hr g
      obtain ⟨h1, h2⟩ := andB_t h1
      obtain ⟨h2, h3⟩ := andB_t h2
      have h1 := beq_t h1; have h2 := beq_t h2; have h3 := ble_t h3
      rw [dec_str h1, hr]
      refine ⟨rfl, by omega, v.a, ?_, by show (bytesF v.a v.b v.a).length = _; rw [bytesF_len, h2, Nat.mul_one]⟩
      simp only [srcCells, txt_size]
      rw [if_pos ⟨h2, h3⟩]
      show _ = some (v.a, decC (bytesF v.a v.b v.a))
      rw [bytesF_all]

noncomputable def appO (size : Nat) (t a b : Nat) (p : Pth) (w : FV) (new : List FV) (h : FH) : CR :=
  onO (fun k z anc cs => iC (andB (andB (Nat.ble 1 k) (Nat.ble k 2)) (orB (notB (Nat.beq b 0)) (Nat.ble a (lenL cs))))
    (onC (fun t2 _ _ _ _ old _ => iC (Nat.beq t2 15)
      (iC (Nat.beq t 7) (newC h w ⟨1, false, [], catL old new⟩)
        (iC (andB (Nat.beq k 1) (notB z))
          (iC (Nat.beq (Nat.add a (Nat.mul b size)) (lenL cs))
            (newC (h.put p ⟨2, z, anc, cs⟩) w ⟨1, false, p :: anc, catL old new⟩)
            (newC (killL (p :: anc) h) w ⟨1, false, [], catL old new⟩))
          (failC h))) (failC h)) (takeV (Nat.mul b size) (dropL a cs))) (failC h)) (hget h.h p)
noncomputable def appG (size : Nat) (s : FV) (new : List FV) (h : FH) : CR :=
  onC (fun t a b c p l m =>
    iC (Nat.beq t 8) (iC (Nat.beq (lenL new) 0) ⟨V0 8, h⟩ (iC (Nat.ble (Nat.div (lenL new) size) 1073741824) (newC h ⟨6, 0, Nat.div (lenL new) size, size, h.n, [], []⟩ ⟨1, false, [], new⟩) (failC h)))
    (iC (andB (orB (Nat.beq t 6) (Nat.beq t 7)) (andB (Nat.beq c size) (Nat.ble (Nat.add b (Nat.div (lenL new) size)) 1073741824)))
      (iC (Nat.beq (lenL new) 0) ⟨⟨t, a, b, c, p, l, m⟩, h⟩ (appO size t a b p ⟨6, 0, Nat.add b (Nat.div (lenL new) size), size, h.n, [], []⟩ new h)) (failC h))) s
noncomputable def appendK (size : Nat) (x y : OpdK) : EK :=
  ⟨fun _ e h => onC (fun ts _ _ _ _ new _ => iC (Nat.beq ts 15) (appG size (x.g e) new h) (failC h)) (srcV h size (y.g e))⟩

theorem put_full (h : FH) (p : Pth) (o : FO) : (h.put p o).full = h.full := by unfold FH.full; rw [put_n]
theorem appendK_ok {P : Program} {c : Call} {x y : Operand} {t u el : TypeId} {d : TypeDesc} {i : TypeInfo} (hc : c.callee = .builtin .append) (ha : c.args.toList = [x, y]) (hts : c.argTypes.toList = [t, u])
    (ht : P.underlying t = some (.slice el)) (hu : P.underlying u = some d) (hd : ∀ k, d ≠ .int k) (hi : P.info? el = some i) (hsz : ¬(i.size = 0 ∨ i.bytes = 0 ∨ 2 ^ 16 < i.bytes ∨ (zeroT P el).isNone = true)) :
    EOk P (.call c) (appendK i.size (opdK x) (opdK y)) := by
  intro ck cf _ e h r hr g
  have h0 : i.size ≠ 0 := fun hh => hsz (.inl hh)
  simp only [appendK, onC_eq] at hr
  obtain ⟨h1, hr⟩ := iC_inv hr g
  have h1 := beq_t h1
  obtain ⟨_, hy, n, hsrc, hlen⟩ := srcV_ok rfl (show (srcV h i.size ((opdK y).g e)).t ≠ 99 by omega) h0
  generalize hnew : (srcV h i.size ((opdK y).g e)).l = new at *
  have o2 := opdK_ok y e _ rfl hy
  have hn : new.length / i.size = n := by rw [hlen]; exact Nat.mul_div_cancel _ (by omega)
  have hn0 : new.length = 0 ↔ n = 0 := by
    rw [hlen]
    constructor
    · intro hh; rcases Nat.mul_eq_zero.1 hh with h | h; exact h; exact absurd h h0
    · intro hh; rw [hh, Nat.zero_mul]
  simp only [appG, onC_eq, mk_eq, lenL_eq] at hr
  have hN : Nat.div new.length i.size = n := hn
  rw [hN] at hr
  have ev : ∀ v : AV, opd (decE e) x = some v → evOp P cf (decE e) (decH h) (.call c) = appendA P (decH h) t u v (dec ((opdK y).g e)) := by
    intro v hv
    simp only [evOp, ha, opds, hv, o2, Option.bind_eq_bind, Option.bind_some, Option.pure_def, hc, hts, builtinA]
  have hdi : ∀ {α : Type} (a b : α), (if (match d with | .int _ => true | _ => false) = true then a else b) = b := by
    intro α a b
    cases d <;> first | rfl | exact absurd rfl (hd _)
  rcases iC_or hr with ⟨h2, hr⟩ | ⟨_, hr⟩
  · have h2 := beq_t h2
    have o1 := opdK_ok x e _ rfl (show ((opdK x).g e).t ≠ 99 by omega)
    rw [dec_nils h2] at o1
    rw [ev _ o1]
    unfold appendA
    rw [ht, hu]
    simp only [hi, hdi, if_neg hsz, hsrc, Option.bind_eq_bind, Option.bind_some, Bool.false_eq_true, if_false]
    rcases iC_or hr with ⟨h3, hr⟩ | ⟨h3, hr⟩
    · rw [if_pos (hn0.1 (beq_t h3)), hr]
      exact ⟨Nat.le_refl _, rfl⟩
    · obtain ⟨h4, hr⟩ := iC_inv hr g
      have h4 := ble_t h4
      rw [if_neg (fun hh => beq_f h3 (hn0.2 hh)), if_neg (show ¬ most < n by unfold most; omega)]
      obtain ⟨h5, h6, h7⟩ := newC_ok hr g (x := .cells 0 [] false (decC new)) rfl
      exact ⟨h5, by rw [h6, h7]; rfl⟩
  · obtain ⟨h2, hr⟩ := iC_inv hr g
    obtain ⟨h2, h3⟩ := andB_t h2
    obtain ⟨h3, h4⟩ := andB_t h3
    have h2 := sl_tag h2; have h3 := beq_t h3; have h4 : _ + _ ≤ _ := ble_t h4
    have o1 := opdK_ok x e _ rfl (show ((opdK x).g e).t ≠ 99 by omega)
    have o1' := o1
    rw [dec_sl h2] at o1
    rw [ev _ o1]
    unfold appendA
    rw [ht, hu]
    simp only [hi, hdi, if_neg hsz, hsrc, Option.bind_eq_bind, Option.bind_some, Bool.false_eq_true, if_false]
    rw [if_neg (show ¬(((opdK x).g e).c ≠ i.size ∨ most < ((opdK x).g e).b + n) by rintro (hh | hh); exact hh h3; unfold most at hh; omega)]
    rcases iC_or hr with ⟨h5, hr⟩ | ⟨h5, hr⟩
    · rw [if_pos (hn0.1 (beq_t h5)), hr]
      refine ⟨Nat.le_refl _, ?_⟩
      rw [← dec_sl h2]
    · rw [if_neg (fun hh => beq_f h5 (hn0.2 hh))]
      generalize hs : (opdK x).g e = s at *
      simp only [appO, onO_eq, onC_eq, lenL_eq, catL_eq] at hr
      obtain ⟨h6, hr⟩ := iC_inv hr g
      obtain ⟨h7, hr⟩ := iC_inv hr g
      obtain ⟨h6, h8⟩ := andB_t h6
      obtain ⟨h6, h9⟩ := andB_t h6
      have h6 := ble_t h6; have h9 := ble_t h9; have h7 := beq_t h7
      generalize ho : hget h.h s.p = o at *
      have hcut : cutL (decC o.c) s.a (s.b * i.size) = some (decC (takeV (Nat.mul s.b i.size) (dropL s.a o.c)).l) := by
        by_cases hb : s.b = 0
        · rw [orB_eq, notB_eq, hb] at h8
          have h8 : s.a ≤ o.c.length := by
            rcases Bool.or_eq_true_iff.1 h8 with hh | hh
            · cases hh
            · exact ble_t hh
          rw [hb]
          have e0 : takeV (Nat.mul 0 i.size) (dropL s.a o.c) = V0 15 := by
            rw [show Nat.mul 0 i.size = 0 from Nat.zero_mul _]; rfl
          rw [e0]
          unfold cutL
          rw [decC_len, Nat.zero_mul, if_pos (by omega)]
          rfl
        · exact (cut_ok rfl (Nat.mul_ne_zero hb h0) (show (takeV (Nat.mul s.b i.size) (dropL s.a o.c)).t ≠ 99 by omega)).1
      generalize hold : (takeV (Nat.mul s.b i.size) (dropL s.a o.c)).l = old at *
      have hw : ∀ hh : FH, dec (⟨6, 0, Nat.add s.b n, i.size, hh.n, [], []⟩ : FV) = .slice hh.n.dec 0 (s.b + n) i.size false := fun _ => rfl
      rw [decH_get, ho]
      have hst : ∃ st, decO o = some (.cells st (o.anc.map Pth.dec) o.z (decC o.c)) ∧ st ≠ 2 ∧ (o.k = 1 ↔ st = 0) := by
        rcases (show o.k = 1 ∨ o.k = 2 by omega) with hk | hk
        · exact ⟨0, decO_1 hk, by decide, by rw [hk]; decide⟩
        · exact ⟨1, decO_2 hk, by decide, by rw [hk]; decide⟩
      obtain ⟨st, hd1, hd2, hd3⟩ := hst
      rw [hd1]
      dsimp only
      rw [if_neg hd2]
      simp only [hcut, Option.bind_some]
      rcases iC_or hr with ⟨h10, hr⟩ | ⟨h10, hr⟩
      · rw [h10, if_pos rfl]
        obtain ⟨h5, h6, h7⟩ := newC_ok hr g (x := .cells 0 [] false (decC old ++ decC new)) (by rw [← decC_app]; rfl)
        exact ⟨h5, by rw [h6, h7, hw]; rfl⟩
      · rw [h10, if_neg (by decide)]
        obtain ⟨h11, hr⟩ := iC_inv hr g
        obtain ⟨h11, h12⟩ := andB_t h11
        rw [notB_eq] at h12
        have h12 : o.z = false := by simpa using h12
        rw [if_pos ⟨hd3.1 (beq_t h11), h12⟩]
        rcases iC_or hr with ⟨h13, hr⟩ | ⟨h13, hr⟩
        · have h13 : s.a + s.b * i.size = o.c.length := beq_t h13
          rw [if_pos (by rw [decC_len]; exact h13)]
          obtain ⟨h5, h6, h7⟩ := newC_ok hr g (x := .cells 0 (s.p.dec :: o.anc.map Pth.dec) false (decC old ++ decC new)) (by rw [← decC_app]; rfl)
          rw [put_n] at h5
          rw [decH_put h s.p (x := .cells 1 (o.anc.map Pth.dec) o.z (decC o.c)) rfl] at h7
          exact ⟨h5, by rw [h6, h7, hw]; rfl⟩
        · have h13 := beq_f h13
          rw [if_neg (by rw [decC_len]; exact h13)]
          obtain ⟨h5, h6, h7⟩ := newC_ok hr g (x := .cells 0 [] false (decC old ++ decC new)) (by rw [← decC_app]; rfl)
          obtain ⟨k1, k2⟩ := killL_ok (s.p :: o.anc) h
          rw [k2] at h5
          rw [k1] at h7
          exact ⟨h5, by rw [h6, h7, hw]; rfl⟩

noncomputable def copyK (size : Nat) (x y : OpdK) : EK :=
  ⟨fun _ e h => onC (fun ts _ _ _ _ new _ => iC (Nat.beq ts 15)
    (onC (fun t a b c p _ _ => iC (andB (orB (Nat.beq t 6) (Nat.beq t 7)) (Nat.beq c size))
      (Bool.rec (motive := fun _ => CR)
        (iC (Nat.beq b 0) ⟨vI 3 0, h⟩ (onC (fun t2 _ _ _ _ l2 _ => iC (Nat.beq t2 15) (storeR p a l2 (vI 3 b) h) (failC h)) (takeV (Nat.mul b size) new)))
        (iC (Nat.beq (lenL new) 0) ⟨vI 3 0, h⟩ (storeR p a new (vI 3 (Nat.div (lenL new) size)) h)) (Nat.ble (Nat.div (lenL new) size) b)) (failC h)) (x.g e)) (failC h)) (srcV h size (y.g e))⟩
theorem copyK_ok {P : Program} {c : Call} {x y : Operand} {t el : TypeId} {n : Nat} (hc : c.callee = .builtin .copy) (ha : c.args.toList = [x, y]) (hts : ∃ ts, c.argTypes.toList = t :: ts)
    (ht : P.underlying t = some (.slice el)) (hn : sizeT P el = some n) (h0 : n ≠ 0) : EOk P (.call c) (copyK n (opdK x) (opdK y)) := by
  intro ck cf _ e h r hr g
  obtain ⟨ts, hts⟩ := hts
  simp only [copyK, onC_eq] at hr
  obtain ⟨h1, hr⟩ := iC_inv hr g
  have h1 := beq_t h1
  obtain ⟨_, hy, m, hsrc, hlen⟩ := srcV_ok rfl (show (srcV h n ((opdK y).g e)).t ≠ 99 by omega) h0
  generalize hnew : (srcV h n ((opdK y).g e)).l = new at *
  obtain ⟨h2, hr⟩ := iC_inv hr g
  obtain ⟨h2, h3⟩ := andB_t h2
  have h2 := sl_tag h2; have h3 := beq_t h3
  have o1 := opdK_ok x e _ rfl (show ((opdK x).g e).t ≠ 99 by omega)
  have o2 := opdK_ok y e _ rfl hy
  have hm : new.length / n = m := by rw [hlen]; exact Nat.mul_div_cancel _ (by omega)
  rw [dec_sl h2] at o1
  generalize (opdK x).g e = s at *
  have ev : evOp P cf (decE e) (decH h) (.call c) = (Vai.storeCells (decH h) s.p.dec s.a ((decC new).take (min m s.b * n))).bind fun h' => some (.int .i64 (min m s.b : Nat), h') := by
    simp only [evOp, ha, opds, o1, o2, Option.bind_eq_bind, Option.bind_some, Option.pure_def, hc, hts, builtinA, ht, hn, if_neg h0, hsrc]
    rw [if_neg (fun hh => hh h3)]
  rw [ev]
  have hM : Nat.div (lenL new) n = m := by rw [lenL_eq]; exact hm
  rw [hM, lenL_eq] at hr
  cases hb : Nat.ble m s.b with
  | true =>
    rw [hb] at hr
    have hb := ble_t hb
    rw [Nat.min_eq_left hb, List.take_of_length_le (by rw [decC_len, hlen]; exact Nat.le_refl _)]
    rcases iC_or (show r = iC (Nat.beq new.length 0) ⟨vI 3 0, h⟩ (storeR s.p s.a new (vI 3 m) h) from hr) with ⟨h4, hr⟩ | ⟨h4, hr⟩
    · have h4 := beq_t h4
      have : new = [] := List.eq_nil_of_length_eq_zero h4
      rw [this]
      have m0 : m = 0 := by rw [← hm, h4]; exact Nat.zero_div _
      rw [hr, m0]
      exact ⟨Nat.le_refl _, rfl⟩
    · have h4 := beq_f h4
      obtain ⟨h5, h6, h7⟩ := storeR_ok hr g (by intro e; rw [e] at h4; exact h4 rfl)
      rw [h5, h6]
      exact ⟨by rw [h7]; exact Nat.le_refl _, rfl⟩
  | false =>
    rw [hb] at hr
    have hb := ble_f hb
    rw [Nat.min_eq_right (by omega)]
    rcases iC_or (show r = iC (Nat.beq s.b 0) ⟨vI 3 0, h⟩ (iC (Nat.beq (takeV (Nat.mul s.b n) new).t 15) (storeR s.p s.a (takeV (Nat.mul s.b n) new).l (vI 3 s.b) h) (failC h)) from hr) with ⟨h4, hr⟩ | ⟨h4, hr⟩
    · have h4 := beq_t h4
      rw [h4, Nat.zero_mul, hr]
      exact ⟨Nat.le_refl _, rfl⟩
    · have h4 := beq_f h4
      obtain ⟨h8, hr⟩ := iC_inv hr g
      have h8 := beq_t h8
      have e8 := takeV_eq (Nat.mul s.b n) new
      have hp : s.b * n ≠ 0 := Nat.mul_ne_zero h4 h0
      have hle : Nat.mul s.b n ≤ new.length := by rw [hlen]; exact Nat.mul_le_mul_right _ (by omega)
      rw [if_pos hle] at e8
      rw [e8] at hr
      obtain ⟨h5, h6, h7⟩ := storeR_ok hr g (by
        intro e
        have := congrArg List.length (show new.take (Nat.mul s.b n) = [] from e)
        rw [List.length_take, Nat.min_eq_left hle] at this
        exact hp this)
      have e9 : decC (ag (new.take (Nat.mul s.b n))).l = (decC new).take (s.b * n) := decC_take _ _
      rw [e9] at h5
      rw [h5, h6]
      exact ⟨by rw [h7]; exact Nat.le_refl _, rfl⟩

/- calls -/
noncomputable def callK (g : Nat) (a : ArgK) : EK := ⟨fun cf e h => iC (badL (a.run e)) (failC h) (cf g (a.run e) h)⟩
theorem callK_ok {P : Program} {c : Call} {g : Nat} (hc : c.callee = .value (.func g)) : EOk P (.call c) (callK g (argsK (c.args.toList.map opdK))) := by
  intro ck cf hok e h r hr gd
  simp only [callK] at hr
  rcases iC_or hr with ⟨_, hr⟩ | ⟨h1, hr⟩
  · exact absurd (by rw [hr]; rfl) gd
  · obtain ⟨h2, h3⟩ := hok _ _ _ _ hr gd h1
    refine ⟨h2, ?_⟩
    simp only [evOp, argsK_ok e _ h1, Option.bind_eq_bind, Option.bind_some, hc, opd, callValue, List.nil_append, List.append_nil, h3]
noncomputable def callVK (x : OpdK) (a : ArgK) : EK := ⟨fun cf e h => onC (fun t g _ _ _ l m => iC (andB (Nat.beq t 11) (andB (notB (badL l)) (andB (notB (badL m)) (notB (badL (a.run e)))))) (cf g (catL (catL l (a.run e)) m) h) (failC h)) (x.g e)⟩
theorem badL_app {l m : List FV} (h1 : badL l = false) (h2 : badL m = false) : badL (l ++ m) = false := by
  induction l with
  | nil => exact h2
  | cons x l ih =>
    rw [badL_cons, Bool.or_eq_false_iff] at h1
    rw [List.cons_append, badL_cons, Bool.or_eq_false_iff]
    exact ⟨h1.1, ih h1.2⟩
theorem notB_t {b : Bool} (h : notB b = true) : b = false := by rw [notB_eq] at h; simpa using h
theorem callVK_ok {P : Program} {c : Call} {x : Operand} (hc : c.callee = .value x) : EOk P (.call c) (callVK (opdK x) (argsK (c.args.toList.map opdK))) := by
  intro ck cf hok e h r hr gd
  simp only [callVK, onC_eq, catL_eq] at hr
  obtain ⟨h1, hr⟩ := iC_inv hr gd
  obtain ⟨h1, h2⟩ := andB_t h1
  obtain ⟨h2, h3⟩ := andB_t h2
  obtain ⟨h3, h4⟩ := andB_t h3
  have h1 := beq_t h1; have h2 := notB_t h2; have h3 := notB_t h3; have h4 := notB_t h4
  have o1 := opdK_ok x e _ rfl (by omega)
  obtain ⟨h5, h6⟩ := hok _ _ _ _ hr gd (badL_app (badL_app h2 h4) h3)
  refine ⟨h5, ?_⟩
  simp only [evOp, argsK_ok e _ h4, o1, Option.bind_eq_bind, Option.bind_some, hc]
  rw [dec_func h1]
  simp only [callValue]
  rw [← decL_app, ← decL_app, h6]

/-- the method of that name of values of a type, plus 1; 0: there is none that is its own -/
def methN (P : Program) (name : String) (t : TypeId) : Nat :=
  match P.info? t with
  | none => 0
  | some i => match i.methods.find? (·.name == name) with
    | none => 0
    | some m => match m.path.toList, m.func with
      | [], some (f, p) => match P.underlying t, p with
        | some (.pointer _), true => f + 1
        | some (.pointer _), false => 0
        | some _, false => f + 1
        | _, _ => 0
      | _, _ => 0
theorem methN_ok {P : Program} {name : String} {t : TypeId} {f : Nat} (h : methN P name t = f + 1) (v : AV) : methodA P t v name = some (f, v) := by
  unfold methN at h
  unfold methodA
  split at h
  · cases h
  · rename_i i hi
    split at h
    · cases h
    · rename_i m hm
      split at h
      · rename_i f' p hp hf
        simp only [hi, hm, hp, hf, followA, Option.bind_eq_bind, Option.bind_some]
        split at h
        · rename_i hu; rw [hu]; cases h; rfl
        · cases h
        · rename_i d hnp hu; rw [hu]; cases h
          cases d <;> first | rfl | exact absurd rfl (hnp _)
        · cases h
      · cases h
noncomputable def methS (P : Program) (name : String) (ty : Nat) (v : FV) (as : List FV) (cf : CallK) (h : FH) : CR :=
  match methodA P ty (dec v) name with
  | some (g, r) => iC (andB (notB (Nat.beq (enc r).t 99)) (notB (badL as))) (cf g (enc r :: as) h) (failC h)
  | none => failC h
noncomputable def methK (P : Program) (name : String) (x : OpdK) (a : ArgK) : EK :=
  ⟨fun cf e h => onC (fun t ty _ _ _ l _ => iC (andB (Nat.beq t 13) (andB (consB l) (notB (Nat.beq (nthT l 0).t 99))))
    (iC (Nat.beq (methN P name ty) 0) (methS P name ty (nthT l 0) (a.run e) cf h) (iC (notB (badL (a.run e))) (cf (Nat.pred (methN P name ty)) (nthT l 0 :: a.run e) h) (failC h))) (failC h)) (x.g e)⟩
theorem methK_ok {P : Program} {c : Call} {x : Operand} {name : String} (hc : c.callee = .invoke x name) : EOk P (.call c) (methK P name (opdK x) (argsK (c.args.toList.map opdK))) := by
  intro ck cf hok e h r hr gd
  simp only [methK, onC_eq] at hr
  obtain ⟨h1, hr⟩ := iC_inv hr gd
  obtain ⟨h1, h2⟩ := andB_t h1
  obtain ⟨h2, h4⟩ := andB_t h2
  have h1 := beq_t h1; have h4 := beq_f (notB_t h4)
  obtain ⟨y, ys, hl⟩ := consB_ok h2
  have hy : nthT ((opdK x).g e).l 0 = y := by rw [hl]; rfl
  rw [hy] at hr h4
  have o1 := opdK_ok x e _ rfl (by omega)
  rw [dec_iface h1 hl] at o1
  have bcons : ∀ (z : FV) (l : List FV), z.t ≠ 99 → badL l = false → badL (z :: l) = false := by
    intro z l hz hb
    rw [badL_cons, hb, Bool.or_false]
    cases hq : Nat.beq z.t 99 with
    | false => rfl
    | true => exact absurd (beq_t hq) hz
  rcases iC_or hr with ⟨_, hr⟩ | ⟨h3, hr⟩
  · unfold methS at hr
    split at hr
    · rename_i g rv hm
      obtain ⟨h5, hr⟩ := iC_inv hr gd
      obtain ⟨h5, h6⟩ := andB_t h5
      have h5 := beq_f (notB_t h5); have h6 := notB_t h6
      obtain ⟨q1, q2⟩ := hok g _ _ _ hr gd (bcons _ _ h5 h6)
      refine ⟨q1, ?_⟩
      simp only [evOp, argsK_ok e _ h6, o1, Option.bind_eq_bind, Option.bind_some, hc, hm]
      rw [decL_cons, dec_enc rv h5] at q2
      exact q2
    · exact absurd (by rw [hr]; rfl) gd
  · obtain ⟨h5, hr⟩ := iC_inv hr gd
    have h3 := beq_f h3; have h5 := notB_t h5
    obtain ⟨f, hf⟩ : ∃ f, methN P name ((opdK x).g e).a = f + 1 := ⟨methN P name ((opdK x).g e).a - 1, by omega⟩
    rw [hf] at hr
    obtain ⟨h6, h7⟩ := hok f _ _ _ hr gd (bcons _ _ h4 h5)
    refine ⟨h6, ?_⟩
    simp only [evOp, argsK_ok e _ h5, o1, Option.bind_eq_bind, Option.bind_some, hc]
    simp only [methN_ok hf, Option.bind_some]
    rw [decL_cons] at h7
    exact h7

end Go.Fast
