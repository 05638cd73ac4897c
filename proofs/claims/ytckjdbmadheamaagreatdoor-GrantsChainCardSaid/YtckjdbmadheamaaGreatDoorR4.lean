/- A row appended to in place; the model's stores and appends, run. -/
import Derived.Test.YtckjdbmadheamaaGreatDoorR3
set_option linter.all false
namespace Go.Vai

/-- a new row in the block of an elder one, whose cells stay -/
theorem step_in {φ : Phi} {h0 h : AH} {w w' : World} (s : StepR φ φ h0 h w w) {B : Nat} {lB loc : Loc} (oB : Own h0 B) (eB : φ B = some lB) (hBl : lB.blk = loc.blk)
    {na : List Nat} {c : List AV} {cs cs' : Array Value} {el : TypeId} {fr : Nat × Nat}
    (hat : c.all AV.atom = true) (hc : c.length ≤ loc.lim) (hwb : w.heap[loc.blk]? = some (.cells cs el fr)) (hsz : cs'.size = cs.size) (hlim : loc.base + loc.lim ≤ cs.size)
    (hv : ∀ (i : Nat) (x : AV), c[i]? = some x → ∃ v, cs'[loc.base + i]? = some v ∧ VR φ x v)
    (hf : ∀ (i : Nat), i < loc.lim → ¬(fr.1 ≤ loc.base + i ∧ loc.base + i < fr.2)) (hna : ∀ X ∈ na, X < h.next ∧ φ X ≠ none ∧ ∀ sx nx fx cx, h.get X = some (.cells sx nx fx cx) → sx ≠ 0)
    (hoth : ∀ A sa n f ca la, h.get A = some (.cells sa n f ca) → sa ≠ 2 → φ A = some la → la.blk = loc.blk → A ∈ na ∧ la.base + ca.length ≤ loc.base + c.length ∧ ∀ (i : Nat), i < ca.length → cs'[la.base + i]? = cs[la.base + i]?)
    (hw : w'.heap = w.heap.setIfInBounds loc.blk (.cells cs' el fr)) (h1 : w'.os = w.os) (h2 : w'.tape = w.tape) (h3 : w'.output = w.output) :
    StepR φ (φ.upd h.next loc) h0 (h.new (.cells 0 na false c)) w w' := by
  have r := s.rel
  have hle := r.le_upd (φ := φ) loc
  have hlt : loc.blk < w.heap.size := (Array.getElem?_eq_some_iff.1 hwb).1
  have hother : ∀ k, k ≠ loc.blk → w'.heap[k]? = w.heap[k]? := fun k hk => by rw [hw, Array.getElem?_setIfInBounds_ne (Ne.symm hk)]
  have hself : w'.heap[loc.blk]? = some (.cells cs' el fr) := by rw [hw, Array.getElem?_setIfInBounds_self_of_lt hlt]
  refine ⟨hle, ?_, Nat.le_trans s.next (by simp [AH.new]), fun A hA e => ?_, by rw [hw]; simp, fun x hx hn => ?_, fun A la o ea hl => ?_, fun A la o ea hl => ?_, h1, h2, h3⟩
  · refine ⟨fun A la e => ?_, fun A o e => ?_, fun A o la g e => ?_, fun A C sa na' fa ca sb nb fb cb la lb ga gb ha hb ea eb hbl => ?_, fun A sa na' fa ca g X hX => ?_, fun A X sa na' fa ca sx nx fx cx ga ha hX gx => ?_, fun A C ea eb la lb ga gb e1 e2 hbl => ?_⟩
    · by_cases hA : A = h.next
      · subst hA; simp [AH.new]
      · rw [Phi.upd_ne _ _ hA] at e; have := r.dom _ _ e; simp [AH.new]; omega
    · by_cases hA : A = h.next
      · subst hA; simp [AH.new]
      · rw [AH.new_ne _ _ hA] at e; have := r.hdom _ _ e; simp [AH.new]; omega
    · by_cases hA : A = h.next
      · subst hA
        rw [AH.new_self] at g; cases g
        rw [Phi.upd_self] at e; cases e
        refine .inr ⟨hat, hc, fun X hX e => ?_, cs', el, fr, hself, by omega, fun i x hx => ?_, fun _ => hf⟩
        · have := (hna X hX)
          rw [Phi.upd_ne _ _ (by omega)] at e
          exact this.2.1 e
        · obtain ⟨v, hv1, hv2⟩ := hv i x hx
          exact ⟨v, hv1, hv2.mono hle⟩
      · rw [AH.new_ne _ _ hA] at g
        rw [Phi.upd_ne _ _ hA] at e
        have hr := r.blk A o la g e
        by_cases hb : la.blk = loc.blk
        · cases o with
          | cells st n f ca =>
            rcases hr with h' | ⟨a, b, c', cs0, el0, fr0, g1, g2, g3, g4⟩
            · exact .inl h'
            · by_cases hst : st = 2
              · exact .inl hst
              obtain ⟨_, _, hsame⟩ := hoth A st n f ca la g hst e hb
              rw [hb, hwb] at g1; cases g1
              refine .inr ⟨a, b, fun X hX e' => ?_, cs', el, fr, by rw [hb]; exact hself, by omega, fun i x hx => ?_, g4⟩
              · cases e'' : φ X with
                | none => exact c' X hX e''
                | some l => rw [hle _ _ e''] at e'; cases e'
              · obtain ⟨v, hv1, hv2⟩ := g3 i x hx
                have hil : i < ca.length := by
                  rcases Nat.lt_or_ge i ca.length with h'' | h''
                  · exact h''
                  · rw [List.getElem?_eq_none h''] at hx; cases hx
                exact ⟨v, by rw [hsame i hil]; exact hv1, hv2.mono hle⟩
          | map es =>
            obtain ⟨es', ck, q, _⟩ := hr
            rw [hb, hwb] at q; cases q
        · exact hr.keep hle (fun x hx => by rw [hother _ hb]; exact hx)
    · by_cases hA : A = h.next <;> by_cases hB : C = h.next
      · exact .inl (hA.trans hB.symm)
      · subst hA
        rw [AH.new_self] at ga; cases ga
        rw [AH.new_ne _ _ hB] at gb
        rw [Phi.upd_self] at ea; cases ea
        rw [Phi.upd_ne _ _ hB] at eb
        obtain ⟨q1, q2, _⟩ := hoth C sb nb fb cb lb gb hb eb hbl.symm
        exact .inr (.inr ⟨q1, q2⟩)
      · subst hB
        rw [AH.new_self] at gb; cases gb
        rw [AH.new_ne _ _ hA] at ga
        rw [Phi.upd_self] at eb; cases eb
        rw [Phi.upd_ne _ _ hA] at ea
        obtain ⟨q1, q2, _⟩ := hoth A sa na' fa ca la ga ha ea hbl
        exact .inr (.inl ⟨q1, q2⟩)
      · rw [AH.new_ne _ _ hA] at ga
        rw [AH.new_ne _ _ hB] at gb
        rw [Phi.upd_ne _ _ hA] at ea
        rw [Phi.upd_ne _ _ hB] at eb
        exact r.apart A C sa na' fa ca sb nb fb cb la lb ga gb ha hb ea eb hbl
    · by_cases hA : A = h.next
      · subst hA
        rw [AH.new_self] at g; cases g
        have := (hna X hX).1
        simp [AH.new]; omega
      · rw [AH.new_ne _ _ hA] at g; have := r.anclt A _ _ _ _ g X hX; simp [AH.new]; omega
    · by_cases hA : A = h.next
      · subst hA
        rw [AH.new_self] at ga; cases ga
        have := hna X hX
        rw [AH.new_ne _ _ (by omega)] at gx
        exact this.2.2 _ _ _ _ gx
      · rw [AH.new_ne _ _ hA] at ga
        have := r.anclt A _ _ _ _ ga X hX
        rw [AH.new_ne _ _ (by omega)] at gx
        exact r.elder A X _ _ _ _ _ _ _ _ ga ha hX gx
    · by_cases hA : A = h.next
      · subst hA; rw [AH.new_self] at ga; cases ga
      · by_cases hB : C = h.next
        · subst hB; rw [AH.new_self] at gb; cases gb
        · rw [AH.new_ne _ _ hA] at ga
          rw [AH.new_ne _ _ hB] at gb
          rw [Phi.upd_ne _ _ hA] at e1
          rw [Phi.upd_ne _ _ hB] at e2
          exact r.maps A C ea eb la lb ga gb e1 e2 hbl
  · obtain ⟨e1, g1⟩ := s.old A hA e
    have := s.next
    rw [Phi.upd_ne _ _ (by omega), AH.new_ne _ _ (by omega)]
    exact ⟨e1, g1⟩
  · exact hother x (fun hh => hn B lB eB (by omega) oB)
  · by_cases hA : A = h.next
    · subst hA
      rw [Phi.upd_self] at ea; cases ea
      exact ⟨B, lB, oB, eB, hBl⟩
    · rw [Phi.upd_ne _ _ hA] at ea
      exact s.own A la (by simpa [Own, AH.new_ne _ _ hA] using o) ea hl
  · by_cases hA : A = h.next
    · subst hA
      rw [Phi.upd_self] at ea; cases ea
      exact ⟨B, lB, oB.live, eB, hBl⟩
    · rw [Phi.upd_ne _ _ hA] at ea
      exact s.live A la (by simpa [Live, AH.new_ne _ _ hA] using o) ea hl

/- cells written one by one -/
def putA (cs : Array Value) : Nat → List Value → Array Value
  | _, [] => cs
  | o, v :: vs => putA (cs.setIfInBounds o v) (o + 1) vs

theorem putA_size (vs : List Value) : ∀ (cs : Array Value) (o : Nat), (putA cs o vs).size = cs.size := by
  induction vs with
  | nil => intro cs o; rfl
  | cons v vs ih => intro cs o; rw [putA, ih]; simp

theorem putA_get (vs : List Value) : ∀ (cs : Array Value) (o i : Nat), o + vs.length ≤ cs.size → (putA cs o vs)[i]? = if o ≤ i ∧ i < o + vs.length then vs[i - o]? else cs[i]? := by
  induction vs with
  | nil => intro cs o i _; rw [if_neg (by simp only [List.length_nil]; omega)]; rfl
  | cons v vs ih =>
    intro cs o i hle
    simp only [List.length_cons] at hle
    rw [putA, ih _ _ _ (by simp; omega)]
    by_cases h1 : i = o
    · subst h1
      rw [if_neg (by omega), Array.getElem?_setIfInBounds_self_of_lt (by omega), if_pos (by simp)]
      simp
    · by_cases h2 : o + 1 ≤ i ∧ i < o + 1 + vs.length
      · rw [if_pos h2, if_pos (by simp; omega)]
        rw [show i - o = (i - (o + 1)) + 1 from by omega]
        simp
      · rw [if_neg h2, if_neg (by simp; omega), Array.getElem?_setIfInBounds_ne (Ne.symm h1)]

def World.setBlk (w : World) (b : Nat) (o : Obj) : World := { w with heap := w.heap.setIfInBounds b o }

theorem setCell_blk {w : World} {b o : Nat} {v : Value} {cs : Array Value} {el : TypeId} {fr : Nat × Nat} (h : w.heap[b]? = some (.cells cs el fr)) :
    w.setCell ⟨b, o, none⟩ v = World.setBlk w b (.cells (cs.setIfInBounds o v) el fr) := by
  have hlt := (Array.getElem?_eq_some_iff.1 h).1
  unfold World.setCell World.setBlk
  congr 1
  apply Array.ext_getElem?
  intro i
  rw [Array.getElem?_modify]
  by_cases hi : b = i
  · subst hi
    rw [Array.getElem?_setIfInBounds_self_of_lt hlt, h]
    simp
  · rw [Array.getElem?_setIfInBounds_ne hi]
    simp [hi]

theorem setBlk_get {w : World} {b : Nat} {x o : Obj} (h : w.heap[b]? = some x) : (World.setBlk w b o).heap[b]? = some o := by
  have hlt := (Array.getElem?_eq_some_iff.1 h).1
  simp [World.setBlk, Array.getElem?_setIfInBounds_self_of_lt hlt]
theorem setBlk_set (w : World) (b : Nat) (x o : Obj) : World.setBlk (World.setBlk w b x) b o = World.setBlk w b o := by
  simp [World.setBlk]
theorem setBlk_same {w : World} {b : Nat} {x : Obj} (h : w.heap[b]? = some x) : World.setBlk w b x = w := by
  have hlt := (Array.getElem?_eq_some_iff.1 h).1
  unfold World.setBlk
  have : w.heap.setIfInBounds b x = w.heap := by
    apply Array.ext_getElem?
    intro i
    by_cases hi : b = i
    · subst hi; rw [Array.getElem?_setIfInBounds_self_of_lt hlt, h]
    · rw [Array.getElem?_setIfInBounds_ne hi]
  rw [this]

theorem run_storeCells {P : Program} {b o : Nat} {el : TypeId} {fr : Nat × Nat} : ∀ (vs : List Value) (i : Nat) (w : World) (cs : Array Value), w.heap[b]? = some (.cells cs el fr) → o + i + vs.length ≤ cs.size →
    (∀ v ∈ vs, v.oneCell' = true) → (∀ j, j < vs.length → ¬(fr.1 ≤ o + i + j ∧ o + i + j < fr.2)) → (Go.storeCells ⟨b, o, none⟩ vs i).run P w = .ok () (World.setBlk w b (.cells (putA cs (o + i) vs) el fr)) := by
  intro vs
  induction vs with
  | nil =>
    intro i w cs h _ _ _
    simp only [Go.storeCells, Sem.run_pure, putA]
    rw [setBlk_same h]
  | cons v vs ih =>
    intro i w cs h hle h1 hf
    simp only [List.length_cons] at hle hf
    simp only [Go.storeCells, Sem.run_bind]
    have hcell : w.cell? ⟨b, o + i, none⟩ = some cs[o + i] := by
      rw [cell_row h]; exact Array.getElem?_eq_getElem (by omega)
    have hfr : w.frozen? ⟨b, o + i, none⟩ = false := by
      have := hf 0 (by omega)
      simp only [World.frozen?, h]
      simp at this ⊢
      intro h0
      have := this h0
      omega
    rw [add_none, run_store _ _ _ _ _ (h1 v (by simp)), hcell]
    simp only [hfr, Bool.false_eq_true, if_false, Result.andThen_ok]
    rw [setCell_blk h]
    rw [ih (i + 1) _ (cs.setIfInBounds (o + i) v) (setBlk_get h) (by simp; omega) (fun u hu => h1 u (by simp [hu])) (fun j hj => by
      have := hf (j + 1) (by omega)
      rw [show o + (i + 1) + j = o + i + (j + 1) from by omega]; exact this)]
    rw [setBlk_set, show o + (i + 1) = o + i + 1 from by omega]
    rfl

theorem putL_get {α : Type} {c xs : List α} {o : Nat} (h : o + xs.length ≤ c.length) (i : Nat) : (putL c o xs)[i]? = if o ≤ i ∧ i < o + xs.length then xs[i - o]? else c[i]? := by
  unfold putL
  rcases Nat.lt_or_ge i o with h1 | h1
  · rw [if_neg (by omega), List.append_assoc, List.getElem?_append_left (by simp; omega), List.getElem?_take, if_pos h1]
  · rw [List.append_assoc, List.getElem?_append_right (by simp; omega)]
    simp only [List.length_take, Nat.min_eq_left (show o ≤ c.length by omega)]
    rcases Nat.lt_or_ge i (o + xs.length) with h2 | h2
    · rw [if_pos ⟨h1, h2⟩, List.getElem?_append_left (by omega)]
    · rw [if_neg (by omega), List.getElem?_append_right (by omega), List.getElem?_drop]
      congr 1; omega
theorem putL_length {α : Type} {c xs : List α} {o : Nat} (h : o + xs.length ≤ c.length) : (putL c o xs).length = c.length := by
  unfold putL; simp; omega

/-- a store, run -/
theorem run_store_cells {P : Program} {φ : Phi} {h h' : AH} {w : World} (r : RelM φ h w) {b o : Nat} {loc : Loc} {xs : List AV} {vs : List Value} (hb : φ b = some loc) (hs : storeCells h b o xs = some h') (hv : VRL φ xs vs) :
    ∃ w', (Go.storeCells ⟨loc.blk, loc.base + o, none⟩ vs).run P w = .ok () w' ∧ StepR φ φ h h' w w' := by
  unfold storeCells at hs
  split at hs
  · rename_i he
    subst he
    cases hs
    rw [hv.nil_right]
    exact ⟨w, rfl, StepR.refl r⟩
  · split at hs
    · rename_i st anc fro c hg
      split at hs
      · rename_i hcond
        obtain ⟨rfl, rfl, hle, hat⟩ := hcond
        cases hs
        have hk := step_kill r (l := anc) (fun X hX e => by
          rcases r.blk b _ loc hg hb with h2 | ⟨_, _, h3, _⟩
          · cases h2
          · exact h3 X hX e)
        have hgk : ∃ s', (kill h anc).get b = some (.cells s' anc false c) ∧ (s' = 0 ∨ s' = 2) := by
          rw [kill_get, hg]; simp only; split <;> exact ⟨_, rfl, by simp⟩
        have hnot : b ∉ anc := fun hm => by
          exact absurd rfl (r.elder b b _ _ _ _ _ _ _ _ hg (by simp) hm hg)
        have hgk : (kill h anc).get b = some (.cells 0 anc false c) := by rw [kill_get, hg]; simp [hnot]
        rcases hk.rel.blk b _ loc hgk hb with h2 | ⟨hca, hcl, _, cs, el, fr, g1, g2, g3, g4⟩
        · cases h2
        · have hlen := hv.1
          refine ⟨World.setBlk w loc.blk (.cells (putA cs (loc.base + o) vs) el fr), ?_, ?_⟩
          · have := run_storeCells (P := P) (b := loc.blk) (o := loc.base + o) vs 0 w cs g1 (by omega) (hv.oneCell hat) (fun j hj => by
              have := g4 rfl (o + j) (by omega)
              rw [show loc.base + o + 0 + j = loc.base + (o + j) from by omega]; exact this)
            simpa using this
          · refine hk.trans (step_put hk.rel hgk hb (excl_kill r hg hb) g1 (by rw [putL_length hle]; exact hcl) ?_ (by rw [putA_size]; exact g2) (fun i x hx => ?_) rfl rfl rfl rfl)
            · rw [List.all_eq_true] at hca hat ⊢
              intro x hx
              unfold putL at hx
              simp only [List.mem_append] at hx
              rcases hx with (hx | hx) | hx
              · exact hca x (List.mem_of_mem_take hx)
              · exact hat x hx
              · exact hca x (List.mem_of_mem_drop hx)
            · rw [putL_get hle] at hx
              rw [putA_get _ _ _ _ (by omega)]
              by_cases hi : o ≤ i ∧ i < o + xs.length
              · rw [if_pos hi] at hx
                rw [if_pos (by omega)]
                obtain ⟨v, hv1, hv2⟩ := hv.get hx
                exact ⟨v, by rw [show loc.base + i - (loc.base + o) = i - o from by omega]; exact hv1, hv2⟩
              · rw [if_neg hi] at hx
                rw [if_neg (by omega)]
                exact g3 i x hx
      · cases hs
    · cases hs

theorem run_storeT {P : Program} {φ : Phi} {h h' : AH} {w : World} (r : RelM φ h w) {t : TypeId} {b o : Nat} {loc : Loc} {a : AV} {v : Value} (hb : φ b = some loc) (hs : storeT P h t b o a = some h') (hv : VR φ a v) :
    ∃ w', (storeVar t ⟨loc.blk, loc.base + o, none⟩ v).run P w = .ok () w' ∧ StepR φ φ h h' w w' := by
  unfold storeT at hs
  simp only [Option.bind_eq_bind, Option.bind_eq_some_iff] at hs
  obtain ⟨n, hn, hs⟩ := hs
  split at hs
  · rename_i hc
    obtain ⟨hl, h0⟩ := hc
    have hne : a.cells ≠ [] := fun e => by rw [e] at hl; simp at hl; omega
    have hvr := hv.cells hne
    obtain ⟨w', hrun, hst⟩ := run_store_cells (P := P) r hb hs hvr
    refine ⟨w', ?_, hst⟩
    have hsz : v.cells.size = n := by have := hvr.1; simp at this; omega
    simp only [storeVar, Sem.run_bind, run_sizeOf hn, Result.andThen_ok, hsz, ne_eq, not_true, if_false, Sem.run_ite]
    exact hrun
  · cases hs

end Go.Vai
