/- For all arguments the law RightsForms of the given program returns true: rules that are no rights are told, which one, and why. The runs of the law, one for each way in which the arguments part, are reckoned by the kernel, through an evaluator that is proved to agree with the model. -/
import Derived.Test.YtckjdbmadheamaaGreatDoorRightsFormsR0
import Derived.Test.YtckjdbmadheamaaGreatDoorRightsFormsR1
import Derived.Test.YtckjdbmadheamaaGreatDoorRightsFormsR2
import Derived.Test.YtckjdbmadheamaaGreatDoorRightsFormsR3
import Derived.Test.YtckjdbmadheamaaGreatDoorRightsFormsR4
import Derived.Test.YtckjdbmadheamaaGreatDoorRightsFormsR5
import Derived.Test.YtckjdbmadheamaaGreatDoorRightsFormsR6
import Derived.Test.YtckjdbmadheamaaGreatDoorRightsFormsR7
import Derived.Test.YtckjdbmadheamaaGreatDoorRightsFormsR8
set_option linter.all false
namespace Go.Proofs.YtckjdbmadheamaaGreatDoor.rightsForms
open Go Go.Vai Go.Fast Go.ChangeShapes Go.WideShapes Go.ChangeAt Go.RowKit

abbrev sym (n0 : Int) : Sym := ⟨fun k => (match k with | 0 => n0 | _ => 0), fun _ _ => (2, 0), fun _ _ h => absurd h (by decide)⟩
abbrev Good (vs : Array Value) (W : World) : Prop := Calls Tryz.prog 6 vs W fun e W' => e = .returned (.bool true) ∧ W'.os = W.os ∧ W'.output = W.output ∧ ∀ r, r < W.heap.size → W'.heap[r]? = W.heap[r]?
theorem of_run {W : World} (hL : laidMetH Tryz.prog laidAll W) (n0 : Int) (t : List (Nat × Nat × Nat)) (argsF : List FV) (ha : @decL (sym n0) argsF = [.int .i64 n0]) (hb : badL argsF = false) (hrun : vT (@evK (sym n0) Tryz.prog extF (orcW (resT t)) 400 6 argsF (h0 vars)).v = true)
    (ht : ∀ x ∈ t, 1 ≤ x.2.1 ∧ x.2.1 < 4611686018427387904 ∧ (sym n0).n x.1 % (x.2.1 : Int) = ((x.2.2 - 1 : Nat) : Int)) : Good #[.int .i64 n0] W := by
  let S : Sym := sym n0
  exact law_calls setting (orcW_ok (resT_ok t ht)) Tryz.func6 rfl hrun hb (by rw [ha]; exact .cons (.int _ _) (.nil)) (laid_vars hL)

theorem good {W : World} (hL : laidMetH Tryz.prog laidAll W) (n0 : Int) : Good #[.int .i64 n0] W := by
  have h0 : n0 % 9 = 0 ∨ n0 % 9 = 1 ∨ n0 % 9 = 2 ∨ n0 % 9 = 3 ∨ n0 % 9 = 4 ∨ n0 % 9 = 5 ∨ n0 % 9 = 6 ∨ n0 % 9 = 7 ∨ n0 % 9 = 8 := by omega
  rcases h0 with e0 | e0 | e0 | e0 | e0 | e0 | e0 | e0 | e0
  · refine of_run hL n0 [(0, 9, 1)] [symV 0] (by simp only [decL_cons, decL_nil, dec_symV] <;> rfl) rfl (@run0 (sym n0)) ?_
    intro x hx
    simp only [List.mem_cons, List.mem_nil_iff, or_false] at hx
    rcases hx with rfl
    · exact ⟨by decide, by decide, by show n0 % ((9 : Nat) : Int) = ((1 - 1 : Nat) : Int); simpa using e0⟩
  · refine of_run hL n0 [(0, 9, 2)] [symV 0] (by simp only [decL_cons, decL_nil, dec_symV] <;> rfl) rfl (@run1 (sym n0)) ?_
    intro x hx
    simp only [List.mem_cons, List.mem_nil_iff, or_false] at hx
    rcases hx with rfl
    · exact ⟨by decide, by decide, by show n0 % ((9 : Nat) : Int) = ((2 - 1 : Nat) : Int); simpa using e0⟩
  · refine of_run hL n0 [(0, 9, 3)] [symV 0] (by simp only [decL_cons, decL_nil, dec_symV] <;> rfl) rfl (@run2 (sym n0)) ?_
    intro x hx
    simp only [List.mem_cons, List.mem_nil_iff, or_false] at hx
    rcases hx with rfl
    · exact ⟨by decide, by decide, by show n0 % ((9 : Nat) : Int) = ((3 - 1 : Nat) : Int); simpa using e0⟩
  · refine of_run hL n0 [(0, 9, 4)] [symV 0] (by simp only [decL_cons, decL_nil, dec_symV] <;> rfl) rfl (@run3 (sym n0)) ?_
    intro x hx
    simp only [List.mem_cons, List.mem_nil_iff, or_false] at hx
    rcases hx with rfl
    · exact ⟨by decide, by decide, by show n0 % ((9 : Nat) : Int) = ((4 - 1 : Nat) : Int); simpa using e0⟩
  · refine of_run hL n0 [(0, 9, 5)] [symV 0] (by simp only [decL_cons, decL_nil, dec_symV] <;> rfl) rfl (@run4 (sym n0)) ?_
    intro x hx
    simp only [List.mem_cons, List.mem_nil_iff, or_false] at hx
    rcases hx with rfl
    · exact ⟨by decide, by decide, by show n0 % ((9 : Nat) : Int) = ((5 - 1 : Nat) : Int); simpa using e0⟩
  · refine of_run hL n0 [(0, 9, 6)] [symV 0] (by simp only [decL_cons, decL_nil, dec_symV] <;> rfl) rfl (@run5 (sym n0)) ?_
    intro x hx
    simp only [List.mem_cons, List.mem_nil_iff, or_false] at hx
    rcases hx with rfl
    · exact ⟨by decide, by decide, by show n0 % ((9 : Nat) : Int) = ((6 - 1 : Nat) : Int); simpa using e0⟩
  · refine of_run hL n0 [(0, 9, 7)] [symV 0] (by simp only [decL_cons, decL_nil, dec_symV] <;> rfl) rfl (@run6 (sym n0)) ?_
    intro x hx
    simp only [List.mem_cons, List.mem_nil_iff, or_false] at hx
    rcases hx with rfl
    · exact ⟨by decide, by decide, by show n0 % ((9 : Nat) : Int) = ((7 - 1 : Nat) : Int); simpa using e0⟩
  · refine of_run hL n0 [(0, 9, 8)] [symV 0] (by simp only [decL_cons, decL_nil, dec_symV] <;> rfl) rfl (@run7 (sym n0)) ?_
    intro x hx
    simp only [List.mem_cons, List.mem_nil_iff, or_false] at hx
    rcases hx with rfl
    · exact ⟨by decide, by decide, by show n0 % ((9 : Nat) : Int) = ((8 - 1 : Nat) : Int); simpa using e0⟩
  · refine of_run hL n0 [(0, 9, 9)] [symV 0] (by simp only [decL_cons, decL_nil, dec_symV] <;> rfl) rfl (@run8 (sym n0)) ?_
    intro x hx
    simp only [List.mem_cons, List.mem_nil_iff, or_false] at hx
    rcases hx with rfl
    · exact ⟨by decide, by decide, by show n0 % ((9 : Nat) : Int) = ((9 - 1 : Nat) : Int); simpa using e0⟩


set_option maxRecDepth 100000 in
theorem contract (H : Type) (enc : TypeId × Value → H) (W : World) (base : Nat) (args : Array Value) (ds gs : List (DataW H)) (before : List MemPlace)
    (hval : ∀ (j : Nat) t v, Tryz.f6.params[j]? = some t → args[j]? = some v → Value.okWide Tryz.prog W .any base t v)
    (hW : DataW.Whole enc Tryz.prog Tryz.f6.params.toList Rows.rightsFormsSpec.vars false W args.toList ds gs before) (hL : laidMetH Tryz.prog Rows.rightsFormsRow.laid W) :
    Calls Tryz.prog 6 args W fun e W' => ∃ v, e = .returned v ∧ Rows.rightsFormsSpec.post enc Tryz.prog Tryz.f6 false true false false W args v W' := by
  have hW' := hW
  obtain ⟨p, q, hA0, hV, rfl, hfz, hnd⟩ := hW
  have hA : DataW.TrodAll enc Tryz.prog W 0 (fun _ => true) true Tryz.f6.params.toList args.toList ds p := hA0
  rw [Tryz.params6] at hA hval
  obtain ⟨v0, vs0, d0, ds0, p0, q0, hargs, rfl, rfl, t0, r0⟩ := trodAll_cons hA
  obtain ⟨rfl, rfl, rfl⟩ := trodAll_nil r0
  obtain rfl : args = #[v0] := by cases args; simp_all
  obtain ⟨rfl, rfl⟩ := trodVars_none hV
  obtain ⟨n0, rfl, rfl, rfl, w0⟩ := open_int Tryz.underlying3 (hval 0 3 v0 rfl rfl) t0
  clear hA0
  simp only [List.append_nil] at hW'
  refine (good hL n0).mono fun e W' ⟨he, hos, hout, hheap⟩ => ?_
  subst he
  exact ⟨_, rfl, post_kept (S := sym n0) (pa := []) (pv := []) hW' (fun _ _ _ => trodAll_cons_mk (shut_bool Tryz.underlying4 _) trodAll_mk0) (fun _ _ => trodAll_cons_mk (shut_int Tryz.underlying3 w0) (trodAll_mk0)) (fun _ _ => rfl) rfl
    hos hout hheap (ok_one (by kernel_rfl) rfl (okWide_bool_mk Tryz.underlying4 _))⟩

theorem reads (os : Os) {H : Type} (enc : TypeId × Value → H) : ∃ places, DataW.whole enc Tryz.prog ((laidWorld os).forCall (fun _ _ => 0) ⟨#[], #[.int .i64 0], []⟩).memory Tryz.f6.params.toList Rows.rightsFormsSpec.vars false (#[.int .i64 0] : Array Value).toList 8 = some ([.lit (.int .i64 0)], [], places) :=
  ⟨[], by kernel_rfl⟩

set_option maxRecDepth 100000 in
set_option maxHeartbeats 0 in
theorem lifted (os : Os) (started : os.Started) (H : Type) (enc : TypeId × Value → H) (F : Stop.Interp) :
    ReturnsInHanded {} Tryz.checked os 6 .any ((OpenSpec.ofChange Rows.rightsFormsSpec).preRow enc Tryz.prog Tryz.f6 Rows.rightsFormsRow.domain false Rows.rightsFormsRow.laid) (((OpenSpec.ofChange Rows.rightsFormsSpec).at F).post enc Tryz.prog Tryz.f6 false true false false) := by
  obtain ⟨places, hx⟩ := reads os enc
  refine returnsInHanded_of_row (C := Tryz.checked) (s := OpenSpec.ofChange Rows.rightsFormsSpec) own started (by kernel_rfl) Tryz.func6
    (witness_row_at (enc := enc) (C := Tryz.checked) false (laidWorld os) #[.int .i64 0] rfl (by kernel_rfl) (by kernel_rfl) (by kernel_rfl)
      (OpenSpec.preRow_of_cond 8 hx (by kernel_rfl) (fun k hk => by cases hk) (by kernel_rfl) (laid_met os _))) ?_
  intro W base args ds gs before hval hW _ _ _ hL _ _
  exact contract H enc W base args ds gs before hval hW hL

theorem and2 {a b : Bool} (h : a = true) (k : b = true) : (a && b) = true := by rw [h, k]; rfl
set_option maxHeartbeats 0 in
theorem facts : joinedFacts Tryz.pinned.checked.prog 6 Tryz.f6 (OpenSpec.ofChange Rows.rightsFormsSpec).bare Rows.rightsFormsRow = true := by
  unfold joinedFacts
  refine and2 (and2 (and2 (and2 (and2 (and2 (and2 (and2 (and2 (and2 (and2 (and2 (and2 (and2 (and2 (and2 (and2 (and2 (and2 (and2 (and2 (and2 (and2 (and2 (and2 (and2 (and2 (and2 (and2 (and2 (and2 (?_) ?_) ?_) ?_) ?_) ?_) ?_) ?_) ?_) ?_) ?_) ?_) ?_) ?_) ?_) ?_) ?_) ?_) ?_) ?_) ?_) ?_) ?_) ?_) ?_) ?_) ?_) ?_) ?_) ?_) ?_) ?_
  all_goals as_aux_lemma => kernel_rfl
theorem named : Tryz.pinned.checked.prog.funcNamed Rows.rightsFormsRow.func = some 6 := by kernel_rfl
theorem instanceFact : Tryz.f6.isInstance Tryz.pinned.checked.prog Rows.rightsFormsRow.origin Rows.rightsFormsRow.targs := of_decide_eq_true (by kernel_rfl)
set_option maxHeartbeats 0 in
theorem wrapperFact : Tryz.f6.isWrapper Tryz.pinned.checked.prog Rows.rightsFormsRow.wrapper Rows.rightsFormsRow.mainSum := by
  unfold Func.isWrapper
  rw [if_neg (of_decide_eq_false (by as_aux_lemma => kernel_rfl))]
  exact ⟨rfl, rfl⟩

theorem said : Rows.RightsFormsSaid :=
  OpenClaim.holds_of_cond 6 Tryz.f6 rfl rfl rfl rfl rfl rfl rfl ⟨rfl, rfl, rfl, rfl, rfl⟩ rfl rfl rfl rfl rfl named Tryz.func6 facts instanceFact wrapperFact
    (fun os started H enc _ F => by rw [OpenClaim.pre_eq_preRow]; exact lifted os started H enc F)

theorem plain (f : FuncId) (fn : Func) (hf : Tryz.pinned.checked.prog.funcNamed "imprimatur/imprimaturlaw11.RightsForms" = some f) (hfn : Tryz.pinned.checked.prog.funcs[f]? = some fn) :
    true = Tryz.pinned.checked.prog.looks [] ∧ ∀ (j : Nat) t, fn.params[j]? = some t → Tryz.pinned.checked.prog.wantsStandIn t = false := by
  obtain rfl : f = 6 := Option.some.inj ((show Tryz.prog.funcNamed "imprimatur/imprimaturlaw11.RightsForms" = some 6 by kernel_rfl).symm.trans hf) |>.symm
  obtain rfl : fn = Tryz.f6 := (Option.some.inj (Tryz.func6.symm.trans hfn)).symm
  refine ⟨by kernel_rfl, fun j t ht => ?_⟩
  rw [Tryz.params6] at ht
  have hm : t ∈ #[3].toList := Array.mem_toList_iff.2 (Array.mem_of_getElem? ht)
  simp only [List.mem_cons, List.mem_nil_iff, or_false] at hm
  obtain rfl := hm
  exact (show Tryz.prog.wantsStandIn 3 = false by kernel_rfl)

set_option maxHeartbeats 0 in
theorem card : Rows.RightsFormsCardSaid :=
  Claim7.holds_tied_plain_at .later [] _ _ _ _ said (fun _ h => by cases h) (by as_aux_lemma => kernel_rfl) (fun _ h => by cases h) rightsForms_row_tie rfl ⟨rfl, rfl⟩ (by as_aux_lemma => kernel_rfl) rfl plain (by as_aux_lemma => kernel_rfl)
#print axioms card
end Go.Proofs.YtckjdbmadheamaaGreatDoor.rightsForms
