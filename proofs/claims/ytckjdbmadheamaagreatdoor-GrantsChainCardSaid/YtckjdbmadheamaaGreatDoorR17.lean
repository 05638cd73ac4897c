/- The relation where blocks are not laid yet, or were laid early. -/
import Derived.Test.YtckjdbmadheamaaGreatDoorR16
set_option linter.all false
namespace Go.Vai

def Phi.cut (φ : Phi) (n : Nat) : Phi := fun A => if A < n then φ A else none
theorem Phi.cut_lt (φ : Phi) {n A : Nat} (h : A < n) : φ.cut n A = φ A := by simp [Phi.cut, h]
theorem Phi.cut_ge (φ : Phi) {n A : Nat} (h : n ≤ A) : φ.cut n A = none := by simp [Phi.cut, Nat.not_lt.2 h]
theorem Phi.cut_le (φ : Phi) (n : Nat) : Phi.le (φ.cut n) φ := fun A l e => by
  unfold Phi.cut at e
  split at e
  · exact e
  · cases e
theorem Phi.cut_mono {φ φ' : Phi} (n : Nat) (h : Phi.le φ φ') : Phi.le (φ.cut n) (φ'.cut n) := fun A l e => by
  unfold Phi.cut at e ⊢
  split at e
  · rw [if_pos ‹_›]; exact h _ _ e
  · cases e
theorem Phi.cut_some {φ : Phi} {n A : Nat} {l : Loc} (h : φ.cut n A = some l) : A < n ∧ φ A = some l := by
  unfold Phi.cut at h
  split at h
  · exact ⟨‹_›, h⟩
  · cases h
theorem Phi.cut_upd {φ : Phi} {n A : Nat} (l : Loc) (h : A < n) : (φ.upd A l).cut n = (φ.cut n).upd A l := by
  funext x
  by_cases hx : x = A
  · subst hx; rw [Phi.cut_lt _ h, Phi.upd_self, Phi.upd_self]
  · rw [Phi.upd_ne _ _ hx]
    rcases Nat.lt_or_ge x n with h' | h'
    · rw [Phi.cut_lt _ h', Phi.cut_lt _ h', Phi.upd_ne _ _ hx]
    · rw [Phi.cut_ge _ h', Phi.cut_ge _ h']
theorem Phi.cut_upd_ge {φ : Phi} {n A : Nat} (l : Loc) (h : n ≤ A) : (φ.upd A l).cut n = φ.cut n := by
  funext x
  rcases Nat.lt_or_ge x n with h' | h'
  · rw [Phi.cut_lt _ h', Phi.cut_lt _ h', Phi.upd_ne _ _ (by omega)]
  · rw [Phi.cut_ge _ h', Phi.cut_ge _ h']

theorem belowL_get {n : Nat} : ∀ {l : List AV} {i : Nat} {x : AV}, belowL n l = true → l[i]? = some x → below n x = true
  | [], i, x, _, hx => by simp at hx
  | a :: l, 0, x, h, hx => by
    simp [belowL] at h hx
    subst hx; exact h.1
  | a :: l, i + 1, x, h, hx => by
    simp [belowL] at h
    exact belowL_get (i := i) h.2 (by simpa using hx)

theorem VR.cut {φ : Phi} {n : Nat} {a : AV} {v : Value} (r : VR φ a v) : Go.Vai.below n a = true → VR (φ.cut n) a v := by
  induction r with
  | int k n => exact fun _ => .int k n
  | bool b => exact fun _ => .bool b
  | str s => exact fun _ => .str s
  | ptr e => exact fun h => .ptr (by rw [Phi.cut_lt _ (by simpa [Go.Vai.below] using h)]; exact e)
  | nilp => exact fun _ => .nilp
  | slice e a b c d => exact fun h => .slice (by rw [Phi.cut_lt _ (by simpa [Go.Vai.below] using h)]; exact e) a b c d
  | nils => exact fun _ => .nils
  | map e => exact fun h => .map (by rw [Phi.cut_lt _ (by simpa [Go.Vai.below] using h)]; exact e)
  | nilm => exact fun _ => .nilm
  | func e1 _ e2 _ i1 i2 =>
    intro h
    simp [Go.Vai.below] at h
    exact .func e1 (fun i x v hx hv => i1 i x v hx hv (belowL_get h.1 hx)) e2 (fun i x v hx hv => i2 i x v hx hv (belowL_get h.2 hx))
  | nilf => exact fun _ => .nilf
  | iface _ i => exact fun h => .iface (i (by simpa [Go.Vai.below] using h))
  | nili => exact fun _ => .nili
  | agg e _ ha i =>
    intro h
    simp [Go.Vai.below] at h
    exact .agg e (fun j x v hx hv => i j x v hx hv (belowL_get h hx)) ha
  | tup e _ i =>
    intro h
    simp [Go.Vai.below] at h
    exact .tup e (fun j x v hx hv => i j x v hx hv (belowL_get h hx))

/-- an object as it is first laid -/
def Fresh : HObj → Prop
  | .cells st anc _ _ => st = 0 ∧ anc = []
  | .map es => es = []

theorem NewR.fresh {φ : Phi} {obj : HObj} {ro : Obj} {lim : Nat} (h : NewR φ obj ro lim) : Fresh obj := by
  cases obj with
  | cells st anc fro c => exact ⟨h.1, h.2.1⟩
  | map es => exact h.1

theorem NewR.mono {φ φ' : Phi} (k : Phi.le φ φ') {obj : HObj} {ro : Obj} {lim : Nat} (h : NewR φ obj ro lim) : NewR φ' obj ro lim := by
  cases obj with
  | cells st anc fro c =>
    obtain ⟨h1, h2, h3, h4, h5, cs, el, fr, h6, h7, h8, h9⟩ := h
    exact ⟨h1, h2, h3, h4, h5, cs, el, fr, h6, h7, fun i x hx => let ⟨v, hv, hr⟩ := h8 i x hx; ⟨v, hv, hr.mono k⟩, h9⟩
  | map es => exact h

theorem NewR.cut {φ : Phi} {obj : HObj} {ro : Obj} {lim n : Nat} (h : NewR φ obj ro lim) (hb : ∀ st anc f c, obj = .cells st anc f c → belowL n c = true) : NewR (φ.cut n) obj ro lim := by
  cases obj with
  | cells st anc fro c =>
    obtain ⟨h1, h2, h3, h4, h5, cs, el, fr, h6, h7, h8, h9⟩ := h
    exact ⟨h1, h2, h3, h4, h5, cs, el, fr, h6, h7, fun i x hx => let ⟨v, hv, hr⟩ := h8 i x hx; ⟨v, hv, hr.cut (belowL_get (hb _ _ _ _ rfl) hx)⟩, h9⟩
  | map es => exact h

theorem NewR.lays {φ : Phi} {obj : HObj} {ro : Obj} {blk lim : Nat} {w : World} (h : NewR φ obj ro lim) (hw : w.heap[blk]? = some ro) : ObjR φ w ⟨blk, 0, lim⟩ obj := by
  cases obj with
  | cells st anc fro c =>
    obtain ⟨rfl, rfl, rfl, h4, h5, cs, el, fr, rfl, h7, h8, h9⟩ := h
    exact .inr ⟨h4, h5, (fun X hX => by cases hX), cs, el, fr, hw, by simpa using h7, fun i x hx => by simpa using h8 i x hx, fun _ i hi => by simpa using h9 i hi⟩
  | map es =>
    obtain ⟨rfl, rfl, ck, rfl⟩ := h
    exact ⟨#[], ck, hw, rfl, fun i k x m hx _ => by simp at hx⟩

section
variable {φ : Phi} {h : AH} {w w' : World}

/-- a block that is not laid yet -/
theorem rel_skip (r : RelM φ h w) {obj : HObj} (hf : Fresh obj) : RelM φ (h.new obj) w := by
  have hne : ∀ A loc, φ A = some loc → A ≠ h.next := fun A loc e hh => by have := r.dom A loc e; omega
  refine ⟨fun A loc e => ?_, fun A o e => ?_, fun A o loc g e => ?_, fun A B sa na' fa ca sb nb fb cb la lb ga gb ha hb ea eb hbl => ?_, fun A sa na' fa ca g X hX => ?_, fun A X sa na' fa ca sx nx fx cx ga ha hX gx => ?_, fun A B ea eb la lb ga gb e1 e2 hbl => ?_⟩
  · have := r.dom _ _ e; simp [AH.new]; omega
  · by_cases hA : A = h.next
    · subst hA; simp [AH.new]
    · rw [AH.new_ne _ _ hA] at e; have := r.hdom _ _ e; simp [AH.new]; omega
  · rw [AH.new_ne _ _ (hne _ _ e)] at g
    exact r.blk A o loc g e
  · rw [AH.new_ne _ _ (hne _ _ ea)] at ga
    rw [AH.new_ne _ _ (hne _ _ eb)] at gb
    exact r.apart A B sa na' fa ca sb nb fb cb la lb ga gb ha hb ea eb hbl
  · by_cases hA : A = h.next
    · subst hA
      rw [AH.new_self] at g; cases g
      rw [hf.2] at hX; cases hX
    · rw [AH.new_ne _ _ hA] at g; have := r.anclt A _ _ _ _ g X hX; simp [AH.new]; omega
  · by_cases hA : A = h.next
    · subst hA
      rw [AH.new_self] at ga; cases ga
      rw [hf.2] at hX; cases hX
    · rw [AH.new_ne _ _ hA] at ga
      have := r.anclt A _ _ _ _ ga X hX
      rw [AH.new_ne _ _ (by omega)] at gx
      exact r.elder A X _ _ _ _ _ _ _ _ ga ha hX gx
  · rw [AH.new_ne _ _ (hne _ _ e1)] at ga
    rw [AH.new_ne _ _ (hne _ _ e2)] at gb
    exact r.maps A B ea eb la lb ga gb e1 e2 hbl

/-- a block that was not laid yet is found -/
theorem rel_bind (r : RelM φ h w) {A : Nat} {obj : HObj} {ro : Obj} {blk lim : Nat} (hA : A < h.next) (hg : h.get A = some obj) (he : φ A = none) (hw : w.heap[blk]? = some ro) (hn : NewR (φ.upd A ⟨blk, 0, lim⟩) obj ro lim)
    (hno : ∀ B l, Live h B → φ B = some l → l.blk ≠ blk) : RelM (φ.upd A ⟨blk, 0, lim⟩) h w := by
  have hle : Phi.le φ (φ.upd A ⟨blk, 0, lim⟩) := fun B l e => by
    by_cases hB : B = A
    · subst hB; rw [he] at e; cases e
    · rw [Phi.upd_ne _ _ hB]; exact e
  refine ⟨fun B loc e => ?_, r.hdom, fun B o loc g e => ?_, fun B C sa na' fa ca sb nb fb cb la lb ga gb ha hb ea eb hbl => ?_, r.anclt, r.elder, fun B C ea eb la lb ga gb e1 e2 hbl => ?_⟩
  · by_cases hB : B = A
    · subst hB; exact hA
    · rw [Phi.upd_ne _ _ hB] at e; exact r.dom _ _ e
  · by_cases hB : B = A
    · subst hB
      rw [hg] at g; cases g
      rw [Phi.upd_self] at e; cases e
      exact hn.lays hw
    · rw [Phi.upd_ne _ _ hB] at e
      exact (r.blk B o loc g e).keep hle (fun x hx => hx)
  · by_cases hB : B = A <;> by_cases hC : C = A
    · exact .inl (hB.trans hC.symm)
    · subst hB
      rw [Phi.upd_self] at ea; cases ea
      rw [Phi.upd_ne _ _ hC] at eb
      exact absurd hbl.symm (hno C lb (.inl ⟨_, _, _, _, gb, hb⟩) eb)
    · subst hC
      rw [Phi.upd_self] at eb; cases eb
      rw [Phi.upd_ne _ _ hB] at ea
      exact absurd hbl (hno B la (.inl ⟨_, _, _, _, ga, ha⟩) ea)
    · rw [Phi.upd_ne _ _ hB] at ea
      rw [Phi.upd_ne _ _ hC] at eb
      exact r.apart B C sa na' fa ca sb nb fb cb la lb ga gb ha hb ea eb hbl
  · by_cases hB : B = A <;> by_cases hC : C = A
    · exact hB.trans hC.symm
    · subst hB
      rw [Phi.upd_self] at e1; cases e1
      rw [Phi.upd_ne _ _ hC] at e2
      exact absurd hbl.symm (hno C lb (.inr ⟨_, gb⟩) e2)
    · subst hC
      rw [Phi.upd_self] at e2; cases e2
      rw [Phi.upd_ne _ _ hB] at e1
      exact absurd hbl (hno B la (.inr ⟨_, ga⟩) e1)
    · rw [Phi.upd_ne _ _ hB] at e1
      rw [Phi.upd_ne _ _ hC] at e2
      exact r.maps B C ea eb la lb ga gb e1 e2 hbl

/-- a world with more in it -/
theorem rel_grow (r : RelM φ h w) (hw : ∀ (i : Nat) (x : Obj), w.heap[i]? = some x → w'.heap[i]? = some x) : RelM φ h w' :=
  ⟨r.dom, r.hdom, fun A o loc g e => (r.blk A o loc g e).keep (Phi.le_refl φ) (hw _), r.apart, r.anclt, r.elder, r.maps⟩

theorem live_lt (r : RelM φ h w) {A : Nat} {loc : Loc} (hl : Live h A) (e : φ A = some loc) : loc.blk < w.heap.size := by
  rcases hl with ⟨st, anc, f, c, g, h2⟩ | ⟨es, g⟩
  · exact (r.blk A _ loc g e).lt (fun _ _ _ hh => by cases hh; exact h2 rfl)
  · exact (r.blk A _ loc g e).lt (fun _ _ _ hh => by cases hh)

theorem live_new {obj : HObj} {A : Nat} (hA : A ≠ h.next) : Live (h.new obj) A ↔ Live h A := by simp [Live, AH.new_ne _ _ hA]
theorem own_new {obj : HObj} {A : Nat} (hA : A ≠ h.next) : Own (h.new obj) A ↔ Own h A := by simp [Own, AH.new_ne _ _ hA]

end

section
variable {φ0 φ : Phi} {h0 h : AH} {w0 w w' : World}

theorem step_skip (s : StepR φ0 φ h0 h w0 w) {obj : HObj} (hf : Fresh obj) : StepR φ0 φ h0 (h.new obj) w0 w := by
  have hne : ∀ A loc, φ A = some loc → A ≠ h.next := fun A loc e hh => by have := s.rel.dom A loc e; omega
  refine ⟨s.ext, rel_skip s.rel hf, Nat.le_trans s.next (by simp [AH.new]), fun A hA e => ?_, s.size, s.frame, fun A loc o e hl => ?_, fun A loc o e hl => ?_, s.os, s.tape, s.output⟩
  · obtain ⟨e1, g1⟩ := s.old A hA e
    have := s.next
    rw [AH.new_ne _ _ (by omega)]
    exact ⟨e1, g1⟩
  · exact s.own A loc ((own_new (hne _ _ e)).1 o) e hl
  · exact s.live A loc ((live_new (hne _ _ e)).1 o) e hl

theorem step_bind (s : StepR φ0 φ h0 h w0 w) {A : Nat} {obj : HObj} {ro : Obj} {blk lim : Nat} (hA : A < h.next) (hA0 : h0.next ≤ A) (hg : h.get A = some obj) (he : φ A = none) (hw : w.heap[blk]? = some ro) (hn : NewR (φ.upd A ⟨blk, 0, lim⟩) obj ro lim)
    (hno : ∀ B l, Live h B → φ B = some l → l.blk ≠ blk) (hb0 : w0.heap.size ≤ blk) : StepR φ0 (φ.upd A ⟨blk, 0, lim⟩) h0 h w0 w := by
  have hle : Phi.le φ (φ.upd A ⟨blk, 0, lim⟩) := fun B l e => by
    by_cases hB : B = A
    · subst hB; rw [he] at e; cases e
    · rw [Phi.upd_ne _ _ hB]; exact e
  refine ⟨Phi.le_trans s.ext hle, rel_bind s.rel hA hg he hw hn hno, s.next, fun B hB e => ?_, s.size, s.frame, fun B loc o e hl => ?_, fun B loc o e hl => ?_, s.os, s.tape, s.output⟩
  · rw [Phi.upd_ne _ _ (by omega)]
    exact s.old B hB e
  · by_cases hB : B = A
    · subst hB; rw [Phi.upd_self] at e; cases e; simp at hl; omega
    · rw [Phi.upd_ne _ _ hB] at e; exact s.own B loc o e hl
  · by_cases hB : B = A
    · subst hB; rw [Phi.upd_self] at e; cases e; simp at hl; omega
    · rw [Phi.upd_ne _ _ hB] at e; exact s.live B loc o e hl

theorem step_grow (s : StepR φ0 φ h0 h w0 w) {ro : Obj} (hw : w'.heap = w.heap.push ro) (h1 : w'.os = w.os) (h2 : w'.tape = w.tape) (h3 : w'.output = w.output) : StepR φ0 φ h0 h w0 w' := by
  refine ⟨s.ext, rel_grow s.rel (fun i x hx => by rw [hw]; exact push_old hx), s.next, s.old, ?_, fun r hr hn => ?_, s.own, s.live, h1.trans s.os, h2.trans s.tape, h3.trans s.output⟩
  · have := s.size; rw [hw]; simp; omega
  · have := s.size
    rw [hw, Array.getElem?_push, if_neg (by omega)]
    exact s.frame r hr hn

end
end Go.Vai
