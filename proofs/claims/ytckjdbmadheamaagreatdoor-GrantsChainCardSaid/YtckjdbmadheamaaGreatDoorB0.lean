/- From a run of the fast evaluator to a law of the program: the first memory, the call, what stays. -/
import Derived.Test.YtckjdbmadheamaaGreatDoorA12
import Derived.WalkKit
import Derived.ProofKit
import Derived.OpenShut
import Derived.ChangeSame
import Derived.Deep.DeepHandedRow
import Derived.Lib.LaidTab
set_option linter.all false
namespace Go.Fast
open Go.Vai Go.ChangeShapes Go.WideShapes Go.ChangeAt Go.RowKit
variable [S : Sym]

/-- package-level variables: their numbers and cells -/
noncomputable def gH (l : List (Nat × List FV)) : HeT := List.rec (motive := fun _ => HeT) HeTz (fun x _ ih => hset ih (pth x.1) ⟨2, true, [], x.2⟩) l
noncomputable def h0 (l : List (Nat × List FV)) : FH := ⟨pth 1000, gH l⟩
noncomputable def limOf (l : List (Nat × List FV)) (g : Nat) : Nat := List.rec (motive := fun _ => Nat) 0 (fun x _ ih => Bool.rec (motive := fun _ => Nat) ih (lenL x.2) (Nat.beq x.1 g)) l
noncomputable def phi0 (l : List (Nat × List FV)) : Phi := fun g => if g < 1000 then some ⟨g, 0, limOf l g⟩ else none

theorem He1z_g (d : D8) : (He1At d).g He1z = noFO := by cases d <;> rfl
theorem He2z_g (d : D8) : (He2At d).g He2z = He1z := by cases d <;> rfl
theorem He3z_g (d : D8) : (He3At d).g He3z = He2z := by cases d <;> rfl
theorem He4z_g (d : D8) : (He4At d).g He4z = He3z := by cases d <;> rfl
theorem He5z_g (d : D8) : (He5At d).g He5z = He4z := by cases d <;> rfl
theorem He6z_g (d : D8) : (He6At d).g He6z = He5z := by cases d <;> rfl
theorem HeTz_get (p : Pth) : hget HeTz p = noFO := by
  unfold hget HeTz
  rw [He6z_g, He5z_g, He4z_g, He3z_g, He2z_g, He1z_g]
theorem gH_get : ∀ (l : List (Nat × List FV)), (∀ x ∈ l, x.1 < 1000) → ∀ b, b < top → hget (gH l) (pth b) = noFO ∨ ∃ x ∈ l, b = x.1 ∧ hget (gH l) (pth b) = ⟨2, true, [], x.2⟩
  | [], _, b, _ => .inl (HeTz_get _)
  | x :: l, hl, b, hb => by
    have hx : x.1 < top := Nat.lt_trans (hl x (by simp)) (by decide)
    show hget (hset (gH l) (pth x.1) ⟨2, true, [], x.2⟩) (pth b) = _ ∨ ∃ y ∈ x :: l, b = y.1 ∧ hget (hset (gH l) (pth x.1) ⟨2, true, [], x.2⟩) (pth b) = _
    by_cases hbx : b = x.1
    · rw [hbx, hget_same]
      exact .inr ⟨x, by simp, rfl, rfl⟩
    · rw [hget_other]
      · rcases gH_get l (fun y hy => hl y (by simp [hy])) b hb with h | ⟨y, hy, e1, e2⟩
        · exact .inl h
        · exact .inr ⟨y, by simp [hy], e1, e2⟩
      · intro hh
        apply hbx
        rw [← dec_pth hb, ← dec_pth hx, hh]

/-- the variables hold these cells in a world -/
structure Laid (l : List (Nat × List FV)) (W : World) : Prop where
  lt : ∀ x ∈ l, x.1 < 1000
  lim : ∀ x ∈ l, limOf l x.1 = x.2.length
  cells : ∀ x ∈ l, ∃ cs el fr, W.heap[x.1]? = some (.cells cs el fr) ∧ x.2.length ≤ cs.size ∧ ∀ (i : Nat) (v : AV), (decC x.2)[i]? = some v → ∃ u, cs[i]? = some u ∧ VR (phi0 l) v u

theorem h0_get {l : List (Nat × List FV)} (hl : ∀ x ∈ l, x.1 < 1000) {A : Nat} {o : HObj} (h : (decH (h0 l)).get A = some o) : ∃ x ∈ l, A = x.1 ∧ o = .cells 1 [] true (decC x.2) := by
  have h : (if A < top then decO (hget (gH l) (pth A)) else none) = some o := h
  split at h
  · rename_i hA
    rcases gH_get l hl A hA with e | ⟨x, hx, e1, e2⟩
    · rw [e] at h; cases h
    · rw [e2] at h
      exact ⟨x, hx, e1, (Option.some.inj h).symm⟩
  · cases h
theorem phi0_some {l : List (Nat × List FV)} {A : Nat} {loc : Vai.Loc} (h : phi0 l A = some loc) : A < 1000 ∧ loc = ⟨A, 0, limOf l A⟩ := by
  unfold phi0 at h
  split at h
  · rename_i hA; exact ⟨hA, (Option.some.inj h).symm⟩
  · cases h
theorem h0_next (l : List (Nat × List FV)) : (decH (h0 l)).next = 1000 := dec_pth (show 1000 < top by decide)

theorem rel0 {l : List (Nat × List FV)} {W : World} (L : Laid l W) : RelM (phi0 l) (decH (h0 l)) W where
  dom A loc h := by rw [h0_next]; exact (phi0_some h).1
  hdom A o h := by
    obtain ⟨x, hx, rfl, _⟩ := h0_get L.lt h
    rw [h0_next]; exact L.lt x hx
  blk A o loc h hp := by
    obtain ⟨x, hx, rfl, rfl⟩ := h0_get L.lt h
    obtain ⟨_, rfl⟩ := phi0_some hp
    obtain ⟨cs, el, fr, c1, c2, c3⟩ := L.cells x hx
    refine .inr ⟨decC_atoms _, ?_, fun X hX => (by cases hX), cs, el, fr, c1, ?_, ?_, fun h => (by cases h)⟩
    · show (decC x.2).length ≤ limOf l x.1
      rw [decC_len, L.lim x hx]; exact Nat.le_refl _
    · show 0 + limOf l x.1 ≤ cs.size
      rw [L.lim x hx]; omega
    · intro i v hv
      obtain ⟨u, h1, h2⟩ := c3 i v hv
      exact ⟨u, by show cs[0 + i]? = _; rw [Nat.zero_add]; exact h1, h2⟩
  apart A B sa na fa ca sb nb fb cb la lb hA hB _ _ pA pB he := by
    left
    obtain ⟨_, rfl⟩ := phi0_some pA
    obtain ⟨_, rfl⟩ := phi0_some pB
    exact he
  anclt A sa na fa ca hA X hX := by
    obtain ⟨x, hx, rfl, e⟩ := h0_get L.lt hA
    cases e; cases hX
  elder A X sa na fa ca sx nx fx cx hA _ hX := by
    obtain ⟨x, hx, rfl, e⟩ := h0_get L.lt hA
    cases e; cases hX
  maps A B ea eb la lb hA := by
    obtain ⟨x, hx, rfl, e⟩ := h0_get L.lt hA
    cases e

theorem glob0 (l : List (Nat × List FV)) : GlobR (phi0 l) := fun g hg => ⟨limOf l g, by unfold phi0; rw [if_pos hg]⟩

noncomputable def vT (v : FV) : Bool := andB (Nat.beq v.t 2) (Nat.beq v.a 1)
theorem vT_ok {v : FV} (h : vT v = true) : v.t ≠ 99 ∧ dec v = .bool true := by
  obtain ⟨h1, h2⟩ := andB_t h
  have h1 := beq_t h1
  exact ⟨by omega, by rw [dec_bool h1, h2]⟩

/-- A LAW OUT OF A RUN: it returns true, and nothing that was there is other than it was. -/
theorem law_calls {P : Program} {ext : FuncId → Option Row} {orc : Orc} (St : Setting P ext) (ho : OrcOk P ext orc) {k : Nat} {f : FuncId} {fn : Func} {c : Code} {args : List FV} {l : List (Nat × List FV)} {vs : Array Value} {W : World}
    (hf : P.funcs[f]? = some fn) (hc : fn.body = some c) (hrun : vT (evK P ext orc k f args (h0 l)).v = true) (hb : badL args = false) (hargs : VRL (phi0 l) (decL args) vs.toList) (L : Laid l W) :
    Calls P f vs W fun e W' => e = .returned (.bool true) ∧ W'.os = W.os ∧ W'.output = W.output ∧ ∀ r, r < W.heap.size → W'.heap[r]? = W.heap[r]? := by
  obtain ⟨g, hd⟩ := vT_ok hrun
  have hev := evF_of_evK ho rfl g hb
  rw [hd] at hev
  have hcalls := calls_of_evF St hf hc hev (glob0 l) (rel0 L) hargs
  refine hcalls.mono fun e W' he => ?_
  cases e with
  | returned u =>
    obtain ⟨φ', st, hv⟩ := he
    cases hv
    refine ⟨rfl, st.os, st.output, fun r hr => st.frame r hr fun A loc hA _ hown => ?_⟩
    rcases hown with ⟨anc, c, h⟩ | ⟨es, h⟩
    · obtain ⟨x, _, _, e⟩ := h0_get L.lt h; cases e
    · obtain ⟨x, _, _, e⟩ := h0_get L.lt h; cases e
  | _ => exact he.elim

/-- what a law says of its call, where nothing that was there is other than it was -/
theorem post_kept {H : Type} {enc : TypeId × Value → H} {P : Program} {f : Func} {s : ChangeSpec} {apart fresh handsOn again : Bool} {W W' : World} {args : Array Value} {v : Value} {ds gs : List (DataW H)} {before pa pv : List MemPlace}
    (hW : DataW.Whole enc P f.params.toList s.vars apart W args.toList ds gs before)
    (hres : ∀ (b : Nat) (sp : Nat → Bool) (hd : Bool), DataW.TrodAll enc P W' b sp hd f.resultTypes.toList (v.resultList f.resultTypes.size) (s.fn H (ds ++ gs)).results [])
    (hargs : ∀ sp : Nat → Bool, (∀ p ∈ before, sp p.block = true) → DataW.TrodAll enc P W' 0 sp true f.params.toList args.toList (s.fn H (ds ++ gs)).args pa)
    (hvars : ∀ sp : Nat → Bool, (∀ p ∈ before, sp p.block = true) → DataW.TrodVars enc P W' sp s.vars (s.fn H (ds ++ gs)).vars pv)
    (hps : before = pa ++ pv) (hos : W'.os = W.os) (hout : W'.output = W.output) (hheap : ∀ r, r < W.heap.size → W'.heap[r]? = W.heap[r]?)
    (hok : ∀ (j : Nat) (t : TypeId) (r : Value), f.resultTypes[j]? = some t → (v.resultList f.resultTypes.size)[j]? = some r → Value.okWide P W' .any 0 t r) :
    s.post enc P f apart fresh handsOn again W args v W' := by
  have hold : ∀ p ∈ before, (fun b => decide (b < W.heap.size)) p.block = true := fun p hp => by simpa using hW.lt p hp
  have hk : W.keptBut W' (· ∈ before) := by
    refine ⟨hos, hout, fun i hi => ?_⟩
    rw [hheap i hi]
    cases hh : W.heap[i]? with
    | none => rfl
    | some o => cases o with
      | cells c t fr => exact ⟨rfl, rfl, rfl, fun j _ => rfl⟩
      | map es clock => exact .inr ⟨rfl, rfl⟩
      | _ => rfl
  refine ⟨ds, gs, before, [], pa, pv, hW, hres _ _ _, hargs _ hold, hvars _ hold, World.keptBut_mono (fun p hp => ⟨hp, ?_⟩) hk, fun _ => ?_⟩
  · rw [hps, List.mem_append] at hp
    exact Or.inr hp
  · have hlt := hW.lt
    obtain ⟨_, _, _, _, _, hz, hn⟩ := hW
    refine ⟨hok, _, _, ([] ++ pa) ++ pv, ⟨[] ++ pa, pv, trodAll_append (hargs _ (fun _ _ => rfl)) (hres _ _ _), hvars _ (fun _ _ => rfl), rfl, ?_, ?_⟩, ?_⟩
    · intro b off hp
      have hp' : MemPlace.cell b off ∈ before := by rw [hps]; simpa using hp
      have hb : b < W.heap.size := hlt _ hp'
      have hfz : ∀ sp, W'.frozen? ⟨b, off, sp⟩ = W.frozen? ⟨b, off, sp⟩ := fun sp => by
        unfold World.frozen?
        rw [hheap b hb]
      rw [hfz]
      exact hz b off hp'
    · intro ha
      have := hn ha
      rw [hps] at this
      simpa using this
    · intro p hp _
      rw [hps]
      simpa using hp

/-- a number that is not known -/
noncomputable def symV (k : Nat) : FV := ⟨12, 0, 0, Nat.add k 1, p0, [], []⟩
theorem dec_symV (k : Nat) : dec (symV k) = .int .i64 (S.n k) := dec_sym rfl rfl

end Go.Fast
