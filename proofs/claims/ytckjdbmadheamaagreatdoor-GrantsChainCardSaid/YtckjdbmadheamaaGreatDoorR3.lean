/- What new rows, stores and appends do to the relation. -/
import Derived.Test.YtckjdbmadheamaaGreatDoorR2
set_option linter.all false
namespace Go.Vai

def Phi.upd (φ : Phi) (A : Nat) (loc : Loc) : Phi := fun x => if x = A then some loc else φ x
theorem Phi.upd_self (φ : Phi) (A : Nat) (loc : Loc) : φ.upd A loc A = some loc := by simp [Phi.upd]
theorem Phi.upd_ne (φ : Phi) {A B : Nat} (loc : Loc) (h : B ≠ A) : φ.upd A loc B = φ B := by simp [Phi.upd, h]
theorem RelM.fresh {φ : Phi} {h : AH} {w : World} (r : RelM φ h w) : φ h.next = none := by
  cases e : φ h.next with
  | none => rfl
  | some l => have := r.dom _ _ e; omega
theorem RelM.le_upd {φ : Phi} {h : AH} {w : World} (r : RelM φ h w) (loc : Loc) : Phi.le φ (φ.upd h.next loc) := fun A l e => by
  have := r.dom A l e
  rw [Phi.upd_ne _ _ (by omega)]; exact e

theorem AH.put_self (h : AH) (b : Nat) (o : HObj) : (h.put b o).get b = some o := by simp [AH.put]
theorem AH.put_ne (h : AH) {b A : Nat} (o : HObj) (e : A ≠ b) : (h.put b o).get A = h.get A := by simp [AH.put, e]
theorem AH.new_self (h : AH) (o : HObj) : (h.new o).get h.next = some o := by simp [AH.new]
theorem AH.new_ne (h : AH) {A : Nat} (o : HObj) (e : A ≠ h.next) : (h.new o).get A = h.get A := by simp [AH.new, e]
theorem AH.put_next (h : AH) (b : Nat) (o : HObj) : (h.put b o).next = h.next := rfl
theorem AH.new_next (h : AH) (o : HObj) : (h.new o).next = h.next + 1 := rfl

theorem ObjR.keep {φ φ' : Phi} {w w' : World} {loc : Loc} {o : HObj} (r : ObjR φ w loc o) (hle : Phi.le φ φ') (hw : ∀ x, w.heap[loc.blk]? = some x → w'.heap[loc.blk]? = some x) : ObjR φ' w' loc o := by
  cases o with
  | cells st anc fro c =>
    rcases r with h | ⟨a, b, c', cs, el, fr, h1, h2, h3, h4⟩
    · exact .inl h
    · refine .inr ⟨a, b, fun X hX e => ?_, cs, el, fr, hw _ h1, h2, fun i x hx => ?_, h4⟩
      · cases e' : φ X with
        | none => exact c' X hX e'
        | some l => rw [hle _ _ e'] at e; cases e
      · obtain ⟨v, hv, hr⟩ := h3 i x hx
        exact ⟨v, hv, hr.mono hle⟩
  | map es =>
    obtain ⟨es', ck, h1, h2, h3⟩ := r
    exact ⟨es', ck, hw _ h1, h2, fun i k x m hx hm => ⟨(h3 i k x m hx hm).1, (h3 i k x m hx hm).2.mono hle⟩⟩

theorem ObjR.lt {φ : Phi} {w : World} {loc : Loc} {o : HObj} (r : ObjR φ w loc o) (h : ∀ anc f c, o ≠ .cells 2 anc f c) : loc.blk < w.heap.size := by
  cases o with
  | cells st anc fro c =>
    rcases r with h' | ⟨_, _, _, cs, el, fr, h1, _⟩
    · subst h'; exact absurd rfl (h _ _ _)
    · exact (Array.getElem?_eq_some_iff.1 h1).1
  | map es =>
    obtain ⟨es', ck, h1, _⟩ := r
    exact (Array.getElem?_eq_some_iff.1 h1).1

theorem push_old {a : Array Obj} {o x : Obj} {i : Nat} (h : a[i]? = some x) : (a.push o)[i]? = some x := by
  have := (Array.getElem?_eq_some_iff.1 h).1
  rw [Array.getElem?_push, if_neg (by omega)]; exact h

/-- a new row in a new block -/
theorem step_new {φ : Phi} {h : AH} {w w' : World} (r : RelM φ h w) {na : List Nat} {c : List AV} {cs : Array Value} {el : TypeId} {fr : Nat × Nat} {lim : Nat}
    (hat : c.all AV.atom = true) (hlim : lim ≤ cs.size) (hc : c.length ≤ lim) (hv : ∀ (i : Nat) (x : AV), c[i]? = some x → ∃ v, cs[i]? = some v ∧ VR φ x v)
    (hf : ∀ (i : Nat), i < lim → ¬(fr.1 ≤ i ∧ i < fr.2)) (hna : ∀ X ∈ na, X < h.next ∧ φ X ≠ none ∧ ∀ sx nx fx cx, h.get X = some (.cells sx nx fx cx) → sx ≠ 0)
    (hw : w'.heap = w.heap.push (.cells cs el fr)) (h1 : w'.os = w.os) (h2 : w'.tape = w.tape) (h3 : w'.output = w.output) :
    StepR φ (φ.upd h.next ⟨w.heap.size, 0, lim⟩) h (h.new (.cells 0 na false c)) w w' where
  ext := r.le_upd _
  next := by simp [AH.new]
  size := by rw [hw]; simp
  os := h1
  tape := h2
  output := h3
  old A hA e := by rw [Phi.upd_ne _ _ (by omega), AH.new_ne _ _ (by omega)]; exact ⟨e, rfl⟩
  frame x hx _ := by rw [hw, Array.getElem?_push, if_neg (by omega)]
  own A loc o e hlt := by
    by_cases hA : A = h.next
    · subst hA
      rw [Phi.upd_self] at e; cases e
      simp at hlt
    · rw [Phi.upd_ne _ _ hA] at e
      refine ⟨A, loc, ?_, e, rfl⟩
      simpa [Own, AH.new_ne _ _ hA] using o
  live A loc o e hlt := by
    by_cases hA : A = h.next
    · subst hA
      rw [Phi.upd_self] at e; cases e
      simp at hlt
    · rw [Phi.upd_ne _ _ hA] at e
      refine ⟨A, loc, ?_, e, rfl⟩
      simpa [Live, AH.new_ne _ _ hA] using o
  rel := by
    have hle := r.le_upd (φ := φ) ⟨w.heap.size, 0, lim⟩
    refine ⟨fun A loc e => ?_, fun A o e => ?_, fun A o loc g e => ?_, fun A B sa na' fa ca sb nb fb cb la lb ga gb ha hb ea eb hbl => ?_, fun A sa na' fa ca g X hX => ?_, fun A X sa na' fa ca sx nx fx cx ga ha hX gx => ?_, fun A B ea eb la lb ga gb e1 e2 hbl => ?_⟩
    · by_cases hA : A = h.next
      · subst hA; simp [AH.new]
      · rw [Phi.upd_ne _ _ hA] at e; have := r.dom _ _ e; simp [AH.new]; omega
    · by_cases hA : A = h.next
      · subst hA; simp [AH.new]
      · rw [AH.new_ne _ _ hA] at e; have := r.hdom _ _ e; simp [AH.new]; omega
    · by_cases hA : A = h.next
      · subst hA
        rw [AH.new_self] at g; cases g
        rw [Phi.upd_self] at e; cases e
        refine .inr ⟨hat, hc, fun X hX e => ?_, cs, el, fr, ?_, by simpa using hlim, fun i x hx => ?_, fun _ i hi => by simpa using hf i hi⟩
        · have := (hna X hX)
          rw [Phi.upd_ne _ _ (by omega)] at e
          exact this.2.1 e
        · rw [hw]; simp
        · obtain ⟨v, hv1, hv2⟩ := hv i x hx
          exact ⟨v, by simpa using hv1, hv2.mono hle⟩
      · rw [AH.new_ne _ _ hA] at g
        rw [Phi.upd_ne _ _ hA] at e
        exact (r.blk A o loc g e).keep hle (fun x hx => by rw [hw]; exact push_old hx)
    · by_cases hA : A = h.next <;> by_cases hB : B = h.next
      · exact .inl (hA.trans hB.symm)
      · subst hA
        rw [AH.new_ne _ _ hB] at gb
        rw [Phi.upd_self] at ea; cases ea
        rw [Phi.upd_ne _ _ hB] at eb
        have := (r.blk B _ lb gb eb).lt (fun _ _ _ e => by cases e; exact hb rfl)
        simp at hbl; omega
      · subst hB
        rw [AH.new_ne _ _ hA] at ga
        rw [Phi.upd_self] at eb; cases eb
        rw [Phi.upd_ne _ _ hA] at ea
        have := (r.blk A _ la ga ea).lt (fun _ _ _ e => by cases e; exact ha rfl)
        simp at hbl; omega
      · rw [AH.new_ne _ _ hA] at ga
        rw [AH.new_ne _ _ hB] at gb
        rw [Phi.upd_ne _ _ hA] at ea
        rw [Phi.upd_ne _ _ hB] at eb
        exact r.apart A B sa na' fa ca sb nb fb cb la lb ga gb ha hb ea eb hbl
    · by_cases hA : A = h.next
      · subst hA
        rw [AH.new_self] at g; cases g
        have := (hna X hX).1
        simp [AH.new]; omega
      · rw [AH.new_ne _ _ hA] at g; have := r.anclt A _ _ _ _ g X hX; simp [AH.new]; omega
    · by_cases hA : A = h.next
      · subst hA
        rw [AH.new_self] at ga; cases ga
        have := hna X hX
        rw [AH.new_ne _ _ (by omega)] at gx
        exact this.2.2 _ _ _ _ gx
      · rw [AH.new_ne _ _ hA] at ga
        have := r.anclt A _ _ _ _ ga X hX
        rw [AH.new_ne _ _ (by omega)] at gx
        exact r.elder A X _ _ _ _ _ _ _ _ ga ha hX gx
    · by_cases hA : A = h.next
      · subst hA; rw [AH.new_self] at ga; cases ga
      · by_cases hB : B = h.next
        · subst hB; rw [AH.new_self] at gb; cases gb
        · rw [AH.new_ne _ _ hA] at ga
          rw [AH.new_ne _ _ hB] at gb
          rw [Phi.upd_ne _ _ hA] at e1
          rw [Phi.upd_ne _ _ hB] at e2
          exact r.maps A B ea eb la lb ga gb e1 e2 hbl

/-- a new map -/
theorem step_new_map {φ : Phi} {h : AH} {w w' : World} (r : RelM φ h w) (ck : Nat)
    (hw : w'.heap = w.heap.push (.map #[] ck)) (h1 : w'.os = w.os) (h2 : w'.tape = w.tape) (h3 : w'.output = w.output) :
    StepR φ (φ.upd h.next ⟨w.heap.size, 0, 0⟩) h (h.new (.map [])) w w' where
  ext := r.le_upd _
  next := by simp [AH.new]
  size := by rw [hw]; simp
  os := h1
  tape := h2
  output := h3
  old A hA e := by rw [Phi.upd_ne _ _ (by omega), AH.new_ne _ _ (by omega)]; exact ⟨e, rfl⟩
  frame x hx _ := by rw [hw, Array.getElem?_push, if_neg (by omega)]
  own A loc o e hlt := by
    by_cases hA : A = h.next
    · subst hA
      rw [Phi.upd_self] at e; cases e
      simp at hlt
    · rw [Phi.upd_ne _ _ hA] at e
      refine ⟨A, loc, ?_, e, rfl⟩
      simpa [Own, AH.new_ne _ _ hA] using o
  live A loc o e hlt := by
    by_cases hA : A = h.next
    · subst hA
      rw [Phi.upd_self] at e; cases e
      simp at hlt
    · rw [Phi.upd_ne _ _ hA] at e
      refine ⟨A, loc, ?_, e, rfl⟩
      simpa [Live, AH.new_ne _ _ hA] using o
  rel := by
    have hle := r.le_upd (φ := φ) ⟨w.heap.size, 0, 0⟩
    refine ⟨fun A loc e => ?_, fun A o e => ?_, fun A o loc g e => ?_, fun A B sa na' fa ca sb nb fb cb la lb ga gb ha hb ea eb hbl => ?_, fun A sa na' fa ca g X hX => ?_, fun A X sa na' fa ca sx nx fx cx ga ha hX gx => ?_, fun A B ea eb la lb ga gb e1 e2 hbl => ?_⟩
    · by_cases hA : A = h.next
      · subst hA; simp [AH.new]
      · rw [Phi.upd_ne _ _ hA] at e; have := r.dom _ _ e; simp [AH.new]; omega
    · by_cases hA : A = h.next
      · subst hA; simp [AH.new]
      · rw [AH.new_ne _ _ hA] at e; have := r.hdom _ _ e; simp [AH.new]; omega
    · by_cases hA : A = h.next
      · subst hA
        rw [AH.new_self] at g; cases g
        rw [Phi.upd_self] at e; cases e
        exact ⟨#[], ck, by rw [hw]; simp, rfl, fun i k x m hx _ => by simp at hx⟩
      · rw [AH.new_ne _ _ hA] at g
        rw [Phi.upd_ne _ _ hA] at e
        exact (r.blk A o loc g e).keep hle (fun x hx => by rw [hw]; exact push_old hx)
    · by_cases hA : A = h.next
      · subst hA; rw [AH.new_self] at ga; cases ga
      · by_cases hB : B = h.next
        · subst hB; rw [AH.new_self] at gb; cases gb
        · rw [AH.new_ne _ _ hA] at ga
          rw [AH.new_ne _ _ hB] at gb
          rw [Phi.upd_ne _ _ hA] at ea
          rw [Phi.upd_ne _ _ hB] at eb
          exact r.apart A B sa na' fa ca sb nb fb cb la lb ga gb ha hb ea eb hbl
    · by_cases hA : A = h.next
      · subst hA; rw [AH.new_self] at g; cases g
      · rw [AH.new_ne _ _ hA] at g; have := r.anclt A _ _ _ _ g X hX; simp [AH.new]; omega
    · by_cases hA : A = h.next
      · subst hA; rw [AH.new_self] at ga; cases ga
      · rw [AH.new_ne _ _ hA] at ga
        have := r.anclt A _ _ _ _ ga X hX
        rw [AH.new_ne _ _ (by omega)] at gx
        exact r.elder A X _ _ _ _ _ _ _ _ ga ha hX gx
    · by_cases hA : A = h.next <;> by_cases hB : B = h.next
      · exact hA.trans hB.symm
      · subst hA
        rw [AH.new_ne _ _ hB] at gb
        rw [Phi.upd_self] at e1; cases e1
        rw [Phi.upd_ne _ _ hB] at e2
        have := (r.blk B _ lb gb e2).lt (fun _ _ _ e => by cases e)
        simp at hbl; omega
      · subst hB
        rw [AH.new_ne _ _ hA] at ga
        rw [Phi.upd_self] at e2; cases e2
        rw [Phi.upd_ne _ _ hA] at e1
        have := (r.blk A _ la ga e1).lt (fun _ _ _ e => by cases e)
        simp at hbl; omega
      · rw [AH.new_ne _ _ hA] at ga
        rw [AH.new_ne _ _ hB] at gb
        rw [Phi.upd_ne _ _ hA] at e1
        rw [Phi.upd_ne _ _ hB] at e2
        exact r.maps A B ea eb la lb ga gb e1 e2 hbl

/- rows that are dead from now on -/
theorem kill_next (h : AH) (l : List Nat) : (kill h l).next = h.next := by
  induction l generalizing h with
  | nil => rfl
  | cons b l ih => unfold kill; split <;> rw [ih]; rfl

theorem kill_get (l : List Nat) : ∀ (h : AH) (A : Nat), (kill h l).get A = match h.get A with
    | some (.cells st anc f c) => some (.cells (if A ∈ l then 2 else st) anc f c)
    | o => o := by
  induction l with
  | nil => intro h A; simp [kill]; cases h.get A with | none => rfl | some o => cases o <;> rfl
  | cons b l ih =>
    intro h A
    unfold kill
    split
    · rename_i st anc f c hb
      rw [ih]
      by_cases hA : A = b
      · subst hA
        rw [AH.put_self, hb]
        simp
      · rw [AH.put_ne _ _ hA]
        simp [hA]
    · rename_i hb
      rw [ih]
      by_cases hA : A = b
      · subst hA
        cases hg : h.get A with
        | none => rfl
        | some o => cases o with
          | cells st anc f c => exact absurd hg (hb st anc f c)
          | map es => rfl
      · cases hg : h.get A with
        | none => rfl
        | some o => cases o with
          | cells st anc f c => simp [hA]
          | map es => rfl

theorem kill_cells {h : AH} {l : List Nat} {A st : Nat} {anc : List Nat} {f : Bool} {c : List AV} (g : (kill h l).get A = some (.cells st anc f c)) :
    ∃ st', h.get A = some (.cells st' anc f c) ∧ st = (if A ∈ l then 2 else st') := by
  rw [kill_get] at g
  cases hg : h.get A with
  | none => rw [hg] at g; cases g
  | some o => cases o with
    | cells st' anc' f' c' => rw [hg] at g; simp at g; obtain ⟨rfl, rfl, rfl, rfl⟩ := g; exact ⟨st', rfl, rfl⟩
    | map es => rw [hg] at g; cases g
theorem kill_map {h : AH} {l : List Nat} {A : Nat} {es : List (AV × AV)} : (kill h l).get A = some (.map es) ↔ h.get A = some (.map es) := by
  rw [kill_get]
  cases hg : h.get A with
  | none => simp
  | some o => cases o <;> simp

theorem step_kill {φ : Phi} {h : AH} {w : World} (r : RelM φ h w) {l : List Nat} (hl : ∀ X ∈ l, φ X ≠ none) : StepR φ φ h (kill h l) w w where
  ext := Phi.le_refl φ
  next := by rw [kill_next]; exact Nat.le_refl _
  size := Nat.le_refl _
  os := rfl
  tape := rfl
  output := rfl
  old A hA e := by
    refine ⟨e, ?_⟩
    rw [kill_get]
    have : A ∉ l := fun hm => hl A hm e
    cases hg : h.get A with
    | none => rfl
    | some o => cases o <;> simp [this]
  frame _ _ _ := rfl
  own A loc o e _ := by
    refine ⟨A, loc, ?_, e, rfl⟩
    rcases o with ⟨anc, c, g⟩ | ⟨es, g⟩
    · obtain ⟨st', g', hs⟩ := kill_cells g
      split at hs
      · cases hs
      · subst hs; exact .inl ⟨anc, c, g'⟩
    · exact .inr ⟨es, kill_map.1 g⟩
  live A loc o e _ := by
    refine ⟨A, loc, ?_, e, rfl⟩
    rcases o with ⟨st, anc, f, c, g, h2⟩ | ⟨es, g⟩
    · obtain ⟨st', g', hs⟩ := kill_cells g
      split at hs
      · exact absurd hs h2
      · subst hs; exact .inl ⟨st, anc, f, c, g', h2⟩
    · exact .inr ⟨es, kill_map.1 g⟩
  rel := by
    refine ⟨fun A loc e => by rw [kill_next]; exact r.dom A loc e, fun A o e => ?_, fun A o loc g e => ?_, fun A B sa na' fa ca sb nb fb cb la lb ga gb ha hb ea eb hbl => ?_, fun A sa na' fa ca g X hX => ?_, fun A X sa na' fa ca sx nx fx cx ga ha hX gx => ?_, fun A B ea eb la lb ga gb e1 e2 hbl => ?_⟩
    · rw [kill_next]
      cases o with
      | cells st anc f c => obtain ⟨st', g', _⟩ := kill_cells e; exact r.hdom A _ g'
      | map es => exact r.hdom A _ (kill_map.1 e)
    · cases o with
      | cells st anc f c =>
        obtain ⟨st', g', hs⟩ := kill_cells g
        have := r.blk A _ loc g' e
        split at hs
        · exact .inl hs
        · subst hs; exact this
      | map es => exact r.blk A _ loc (kill_map.1 g) e
    · obtain ⟨sa', ga', hsa⟩ := kill_cells ga
      obtain ⟨sb', gb', hsb⟩ := kill_cells gb
      have h1 : sa' ≠ 2 := by intro e; subst e; split at hsa <;> exact ha hsa
      have h2 : sb' ≠ 2 := by intro e; subst e; split at hsb <;> exact hb hsb
      exact r.apart A B sa' na' fa ca sb' nb fb cb la lb ga' gb' h1 h2 ea eb hbl
    · obtain ⟨st', g', _⟩ := kill_cells g
      rw [kill_next]; exact r.anclt A _ _ _ _ g' X hX
    · obtain ⟨sa', ga', hsa⟩ := kill_cells ga
      obtain ⟨sx', gx', hsx⟩ := kill_cells gx
      have h1 : sa' ≠ 2 := by intro e; subst e; split at hsa <;> exact ha hsa
      have h2 := r.elder A X _ _ _ _ _ _ _ _ ga' h1 hX gx'
      split at hsx
      · subst hsx; simp
      · subst hsx; exact h2
    · exact r.maps A B ea eb la lb (kill_map.1 ga) (kill_map.1 gb) e1 e2 hbl

/-- nobody alive but b lies in b's block -/
def Excl (φ : Phi) (h : AH) (b : Nat) (blk : Nat) : Prop := ∀ A sa na fa ca la, h.get A = some (.cells sa na fa ca) → sa ≠ 2 → φ A = some la → la.blk = blk → A = b

theorem excl_kill {φ : Phi} {h : AH} {w : World} (r : RelM φ h w) {b : Nat} {anc : List Nat} {f : Bool} {c : List AV} {loc : Loc} (hb : h.get b = some (.cells 0 anc f c)) (e : φ b = some loc) :
    Excl φ (kill h anc) b loc.blk := by
  intro A sa na fa ca la ga ha ea hbl
  obtain ⟨sa', ga', hsa⟩ := kill_cells ga
  have h1 : sa' ≠ 2 := by intro e; subst e; split at hsa <;> exact ha hsa
  rcases r.apart A b sa' na fa ca 0 anc f c la loc ga' hb h1 (by simp) ea e hbl with h2 | ⟨h2, _⟩ | ⟨h2, _⟩
  · exact h2
  · rw [if_pos h2] at hsa; exact absurd hsa ha
  · exact absurd rfl (r.elder A b _ _ _ _ _ _ _ _ ga' h1 h2 hb)

/-- a row of one's own gets other cells -/
theorem step_put {φ : Phi} {h : AH} {w w' : World} (r : RelM φ h w) {b : Nat} {anc : List Nat} {c c' : List AV} {loc : Loc} {cs' : Array Value} {el : TypeId} {fr : Nat × Nat} {cs : Array Value}
    (hb : h.get b = some (.cells 0 anc false c)) (e : φ b = some loc) (hx : Excl φ h b loc.blk) (hwb : w.heap[loc.blk]? = some (.cells cs el fr)) (hlen : c'.length ≤ loc.lim) (hat : c'.all AV.atom = true)
    (hsz : loc.base + loc.lim ≤ cs'.size) (hv : ∀ (i : Nat) (x : AV), c'[i]? = some x → ∃ v, cs'[loc.base + i]? = some v ∧ VR φ x v)
    (hw : w'.heap = w.heap.setIfInBounds loc.blk (.cells cs' el fr)) (h1 : w'.os = w.os) (h2 : w'.tape = w.tape) (h3 : w'.output = w.output) :
    StepR φ φ h (h.put b (.cells 0 [] false c')) w w' := by
  have hlt : loc.blk < w.heap.size := (Array.getElem?_eq_some_iff.1 hwb).1
  have hfz : ∀ i, i < loc.lim → ¬(fr.1 ≤ loc.base + i ∧ loc.base + i < fr.2) := by
    rcases r.blk b _ loc hb e with h2 | ⟨_, _, _, cs0, el0, fr0, g1, _, _, g4⟩
    · cases h2
    · rw [hwb] at g1; cases g1; exact g4 rfl
  have hother : ∀ k, k ≠ loc.blk → w'.heap[k]? = w.heap[k]? := fun k hk => by rw [hw, Array.getElem?_setIfInBounds_ne (Ne.symm hk)]
  have hmapne : ∀ (A : Nat) (es : List (AV × AV)) (la : Loc), h.get A = some (.map es) → φ A = some la → la.blk ≠ loc.blk := fun A es la g ea hh => by
    obtain ⟨es', ck, q, _⟩ := r.blk A _ la g ea
    rw [hh, hwb] at q; cases q
  refine ⟨Phi.le_refl φ, ?_, Nat.le_refl _, fun A hA e' => ?_, by rw [hw]; simp, fun x hx' hn => ?_, fun A la o ea _ => ?_, fun A la o ea _ => ?_, h1, h2, h3⟩
  · refine ⟨r.dom, fun A o g => ?_, fun A o la g ea => ?_, fun A B sa na' fa ca sb nb fb cb la lb ga gb ha hbb ea eb hbl => ?_, fun A sa na' fa ca g X hX => ?_, fun A X sa na' fa ca sx nx fx cx ga ha hX gx => ?_, fun A B ea eb la lb ga gb e1 e2 hbl => ?_⟩
    · by_cases hA : A = b
      · subst hA; exact r.hdom _ _ hb
      · rw [AH.put_ne _ _ hA] at g; exact r.hdom _ _ g
    · by_cases hA : A = b
      · subst hA
        rw [AH.put_self] at g; cases g
        rw [e] at ea; cases ea
        refine .inr ⟨hat, hlen, (fun X hX => by cases hX), cs', el, fr, ?_, hsz, hv, fun _ => hfz⟩
        rw [hw, Array.getElem?_setIfInBounds_self_of_lt hlt]
      · rw [AH.put_ne _ _ hA] at g
        cases o with
        | cells st na fa ca =>
          by_cases hst : st = 2
          · exact .inl hst
          · have hne : la.blk ≠ loc.blk := fun hh => hA (hx A st na fa ca la g hst ea hh)
            exact (r.blk A _ la g ea).keep (Phi.le_refl φ) (fun x hx' => by rw [hother _ hne]; exact hx')
        | map es => exact (r.blk A _ la g ea).keep (Phi.le_refl φ) (fun x hx' => by rw [hother _ (hmapne A es la g ea)]; exact hx')
    · by_cases hA : A = b <;> by_cases hB : B = b
      · exact .inl (hA.trans hB.symm)
      · subst hA
        rw [AH.put_ne _ _ hB] at gb
        rw [e] at ea; cases ea
        exact absurd (hx B sb nb fb cb lb gb hbb eb hbl.symm) hB
      · subst hB
        rw [AH.put_ne _ _ hA] at ga
        rw [e] at eb; cases eb
        exact absurd (hx A sa na' fa ca la ga ha ea hbl) hA
      · rw [AH.put_ne _ _ hA] at ga
        rw [AH.put_ne _ _ hB] at gb
        exact r.apart A B sa na' fa ca sb nb fb cb la lb ga gb ha hbb ea eb hbl
    · by_cases hA : A = b
      · subst hA; rw [AH.put_self] at g; cases g; cases hX
      · rw [AH.put_ne _ _ hA] at g; exact r.anclt A _ _ _ _ g X hX
    · by_cases hA : A = b
      · subst hA; rw [AH.put_self] at ga; cases ga; cases hX
      · rw [AH.put_ne _ _ hA] at ga
        by_cases hXb : X = b
        · subst hXb
          exact absurd rfl (r.elder A X _ _ _ _ _ _ _ _ ga ha hX hb)
        · rw [AH.put_ne _ _ hXb] at gx
          exact r.elder A X _ _ _ _ _ _ _ _ ga ha hX gx
    · by_cases hA : A = b
      · subst hA; rw [AH.put_self] at ga; cases ga
      · by_cases hB : B = b
        · subst hB; rw [AH.put_self] at gb; cases gb
        · rw [AH.put_ne _ _ hA] at ga
          rw [AH.put_ne _ _ hB] at gb
          exact r.maps A B ea eb la lb ga gb e1 e2 hbl
  · have hne : A ≠ b := fun hh => by subst hh; rw [e] at e'; cases e'
    exact ⟨e', AH.put_ne _ _ hne⟩
  · exact hother x (fun hh => hn b loc e hh.symm (.inl ⟨anc, c, hb⟩))
  · by_cases hA : A = b
    · subst hA; exact ⟨A, la, .inl ⟨anc, c, hb⟩, ea, rfl⟩
    · refine ⟨A, la, ?_, ea, rfl⟩
      simpa [Own, AH.put_ne _ _ hA] using o
  · by_cases hA : A = b
    · subst hA; exact ⟨A, la, .inl ⟨0, anc, false, c, hb, by simp⟩, ea, rfl⟩
    · refine ⟨A, la, ?_, ea, rfl⟩
      simpa [Live, AH.put_ne _ _ hA] using o

/-- a row may only be read from now on -/
theorem step_ro {φ : Phi} {h : AH} {w : World} (r : RelM φ h w) {b : Nat} {anc : List Nat} {f : Bool} {c : List AV} (hb : h.get b = some (.cells 0 anc f c)) (e : φ b ≠ none) :
    StepR φ φ h (h.put b (.cells 1 anc f c)) w w := by
  refine ⟨Phi.le_refl φ, ?_, Nat.le_refl _, fun A hA e' => ?_, Nat.le_refl _, fun x hx' hn => rfl, fun A la o ea _ => ?_, fun A la o ea _ => ?_, rfl, rfl, rfl⟩
  · have key : ∀ A sa na fa ca, (h.put b (.cells 1 anc f c)).get A = some (.cells sa na fa ca) → ∃ s0, h.get A = some (.cells s0 na fa ca) ∧ ((A = b ∧ sa = 1 ∧ s0 = 0) ∨ (A ≠ b ∧ sa = s0)) := fun A sa na fa ca g => by
      by_cases hA : A = b
      · subst hA; rw [AH.put_self] at g; cases g; exact ⟨0, hb, .inl ⟨rfl, rfl, rfl⟩⟩
      · rw [AH.put_ne _ _ hA] at g; exact ⟨sa, g, .inr ⟨hA, rfl⟩⟩
    have keym : ∀ A es, (h.put b (.cells 1 anc f c)).get A = some (.map es) → h.get A = some (.map es) := fun A es g => by
      by_cases hA : A = b
      · subst hA; rw [AH.put_self] at g; cases g
      · rw [AH.put_ne _ _ hA] at g; exact g
    refine ⟨r.dom, fun A o g => ?_, fun A o la g ea => ?_, fun A B sa na' fa ca sb nb fb cb la lb ga gb ha hbb ea eb hbl => ?_, fun A sa na' fa ca g X hX => ?_, fun A X sa na' fa ca sx nx fx cx ga ha hX gx => ?_, fun A B ea eb la lb ga gb e1 e2 hbl => ?_⟩
    · cases o with
      | cells st na fa ca => obtain ⟨s0, g', _⟩ := key A _ _ _ _ g; exact r.hdom A _ g'
      | map es => exact r.hdom A _ (keym A es g)
    · cases o with
      | cells st na fa ca =>
        obtain ⟨s0, g', h'⟩ := key A _ _ _ _ g
        have := r.blk A _ la g' ea
        rcases h' with ⟨_, h1, h2⟩ | ⟨_, h1⟩
        · subst h1; subst h2
          rcases this with h3 | h3
          · cases h3
          · exact .inr h3
        · subst h1; exact this
      | map es => exact r.blk A _ la (keym A es g) ea
    · obtain ⟨sa', ga', h'⟩ := key A _ _ _ _ ga
      obtain ⟨sb', gb', h''⟩ := key B _ _ _ _ gb
      refine r.apart A B sa' na' fa ca sb' nb fb cb la lb ga' gb' ?_ ?_ ea eb hbl
      · rcases h' with ⟨_, _, h2⟩ | ⟨_, h1⟩ <;> omega
      · rcases h'' with ⟨_, _, h2⟩ | ⟨_, h1⟩ <;> omega
    · obtain ⟨s0, g', _⟩ := key A _ _ _ _ g; exact r.anclt A _ _ _ _ g' X hX
    · obtain ⟨sa', ga', h'⟩ := key A _ _ _ _ ga
      obtain ⟨sx', gx', h''⟩ := key X _ _ _ _ gx
      have hs : sa' ≠ 2 := by rcases h' with ⟨_, _, h2⟩ | ⟨_, h1⟩ <;> omega
      have := r.elder A X _ _ _ _ _ _ _ _ ga' hs hX gx'
      rcases h'' with ⟨_, h1, h2⟩ | ⟨_, h1⟩ <;> omega
    · exact r.maps A B ea eb la lb (keym A _ ga) (keym B _ gb) e1 e2 hbl
  · have hne : A ≠ b := fun hh => by subst hh; exact e e'
    exact ⟨e', AH.put_ne _ _ hne⟩
  · have hA : A ≠ b := fun hh => by
      subst hh
      rcases o with ⟨_, _, g⟩ | ⟨_, g⟩ <;> rw [AH.put_self] at g <;> cases g
    refine ⟨A, la, ?_, ea, rfl⟩
    simpa [Own, AH.put_ne _ _ hA] using o
  · by_cases hA : A = b
    · subst hA; exact ⟨A, la, .inl ⟨0, anc, f, c, hb, by simp⟩, ea, rfl⟩
    · refine ⟨A, la, ?_, ea, rfl⟩
      simpa [Live, AH.put_ne _ _ hA] using o

/-- a map of one's own gets other entries -/
theorem step_map {φ : Phi} {h : AH} {w w' : World} (r : RelM φ h w) {b : Nat} {es es2 : List (AV × AV)} {loc : Loc} {en en2 : Array MapEntry} {ck ck2 : Nat}
    (hb : h.get b = some (.map es)) (e : φ b = some loc) (hwb : w.heap[loc.blk]? = some (.map en ck)) (hlen : es2.length = en2.size)
    (hv : ∀ (i : Nat) (k x : AV) (m : MapEntry), es2[i]? = some (k, x) → en2[i]? = some m → val? k = some m.key ∧ VR φ x m.val)
    (hw : w'.heap = w.heap.setIfInBounds loc.blk (.map en2 ck2)) (h1 : w'.os = w.os) (h2 : w'.tape = w.tape) (h3 : w'.output = w.output) :
    StepR φ φ h (h.put b (.map es2)) w w' := by
  have hlt : loc.blk < w.heap.size := (Array.getElem?_eq_some_iff.1 hwb).1
  have hother : ∀ k, k ≠ loc.blk → w'.heap[k]? = w.heap[k]? := fun k hk => by rw [hw, Array.getElem?_setIfInBounds_ne (Ne.symm hk)]
  have hcellne : ∀ (A st : Nat) (na : List Nat) (fa : Bool) (ca : List AV) (la : Loc), h.get A = some (.cells st na fa ca) → st ≠ 2 → φ A = some la → la.blk ≠ loc.blk := fun A st na fa ca la g hs ea hh => by
    rcases r.blk A _ la g ea with h2 | ⟨_, _, _, cs, el, fr, q, _⟩
    · exact hs h2
    · rw [hh, hwb] at q; cases q
  have keyc : ∀ A sa na fa ca, (h.put b (.map es2)).get A = some (.cells sa na fa ca) → h.get A = some (.cells sa na fa ca) := fun A sa na fa ca g => by
    by_cases hA : A = b
    · subst hA; rw [AH.put_self] at g; cases g
    · rw [AH.put_ne _ _ hA] at g; exact g
  have keym : ∀ A es', (h.put b (.map es2)).get A = some (.map es') → ∃ es0, h.get A = some (.map es0) := fun A es' g => by
    by_cases hA : A = b
    · subst hA; exact ⟨_, hb⟩
    · rw [AH.put_ne _ _ hA] at g; exact ⟨_, g⟩
  refine ⟨Phi.le_refl φ, ?_, Nat.le_refl _, fun A hA e' => ?_, by rw [hw]; simp, fun x hx' hn => ?_, fun A la o ea _ => ?_, fun A la o ea _ => ?_, h1, h2, h3⟩
  · refine ⟨r.dom, fun A o g => ?_, fun A o la g ea => ?_, fun A B sa na' fa ca sb nb fb cb la lb ga gb ha hbb ea eb hbl => r.apart A B sa na' fa ca sb nb fb cb la lb (keyc _ _ _ _ _ ga) (keyc _ _ _ _ _ gb) ha hbb ea eb hbl,
      fun A sa na' fa ca g X hX => r.anclt A _ _ _ _ (keyc _ _ _ _ _ g) X hX, fun A X sa na' fa ca sx nx fx cx ga ha hX gx => r.elder A X _ _ _ _ _ _ _ _ (keyc _ _ _ _ _ ga) ha hX (keyc _ _ _ _ _ gx), fun A B ea eb la lb ga gb e1 e2 hbl => ?_⟩
    · cases o with
      | cells st na fa ca => exact r.hdom A _ (keyc _ _ _ _ _ g)
      | map es' => obtain ⟨es0, g'⟩ := keym A _ g; exact r.hdom A _ g'
    · cases o with
      | cells st na fa ca =>
        by_cases hs : st = 2
        · exact .inl hs
        · exact (r.blk A _ la (keyc _ _ _ _ _ g) ea).keep (Phi.le_refl φ) (fun x hx => by rw [hother _ (hcellne A st na fa ca la (keyc _ _ _ _ _ g) hs ea)]; exact hx)
      | map es' =>
        by_cases hA : A = b
        · subst hA
          rw [AH.put_self] at g; cases g
          rw [e] at ea; cases ea
          exact ⟨en2, ck2, by rw [hw, Array.getElem?_setIfInBounds_self_of_lt hlt], hlen, hv⟩
        · rw [AH.put_ne _ _ hA] at g
          exact (r.blk A _ la g ea).keep (Phi.le_refl φ) (fun x hx => by rw [hother _ (fun hh => hA (r.maps A b _ _ la loc g hb ea e hh))]; exact hx)
    · obtain ⟨a0, ga'⟩ := keym A _ ga
      obtain ⟨b0, gb'⟩ := keym B _ gb
      exact r.maps A B a0 b0 la lb ga' gb' e1 e2 hbl
  · have hne : A ≠ b := fun hh => by subst hh; rw [e] at e'; cases e'
    exact ⟨e', AH.put_ne _ _ hne⟩
  · exact hother x (fun hh => hn b loc e hh.symm (.inr ⟨es, hb⟩))
  · by_cases hA : A = b
    · subst hA; exact ⟨A, la, .inr ⟨es, hb⟩, ea, rfl⟩
    · refine ⟨A, la, ?_, ea, rfl⟩
      simpa [Own, AH.put_ne _ _ hA] using o
  · by_cases hA : A = b
    · subst hA; exact ⟨A, la, .inr ⟨es, hb⟩, ea, rfl⟩
    · refine ⟨A, la, ?_, ea, rfl⟩
      simpa [Live, AH.put_ne _ _ hA] using o

end Go.Vai
