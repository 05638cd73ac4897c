/- For all arguments the law GrantsChain of the given program returns true: a role goes from hand to hand as deep as its rule says; a grant given back takes the rest along. The runs of the law, one for each way in which the arguments part, are reckoned by the kernel, through an evaluator that is proved to agree with the model. -/
import Derived.Test.YtckjdbmadheamaaGreatDoorGrantsChainR0
import Derived.Test.YtckjdbmadheamaaGreatDoorGrantsChainR1
import Derived.Test.YtckjdbmadheamaaGreatDoorGrantsChainR2
import Derived.Test.YtckjdbmadheamaaGreatDoorGrantsChainR3
import Derived.Test.YtckjdbmadheamaaGreatDoorGrantsChainR4
import Derived.Test.YtckjdbmadheamaaGreatDoorGrantsChainR5
import Derived.Test.YtckjdbmadheamaaGreatDoorGrantsChainR6
import Derived.Test.YtckjdbmadheamaaGreatDoorGrantsChainR7
import Derived.Test.YtckjdbmadheamaaGreatDoorGrantsChainR8
import Derived.Test.YtckjdbmadheamaaGreatDoorGrantsChainR9
set_option linter.all false
namespace Go.Proofs.YtckjdbmadheamaaGreatDoor.grantsChain
open Go Go.Vai Go.Fast Go.ChangeShapes Go.WideShapes Go.ChangeAt Go.RowKit

abbrev sym (n0 : Int) (n1 : Int) (n2 : Int) : Sym := ⟨fun k => (match k with | 0 => n0 | 1 => n1 | 2 => n2 | _ => 0), fun _ _ => (2, 0), fun _ _ h => absurd h (by decide)⟩
abbrev Good (vs : Array Value) (W : World) : Prop := Calls Tryz.prog 11 vs W fun e W' => e = .returned (.bool true) ∧ W'.os = W.os ∧ W'.output = W.output ∧ ∀ r, r < W.heap.size → W'.heap[r]? = W.heap[r]?
theorem of_run {W : World} (hL : laidMetH Tryz.prog laidAll W) (n0 : Int) (n1 : Int) (n2 : Int) (t : List (Nat × Nat × Nat)) (argsF : List FV) (ha : @decL (sym n0 n1 n2) argsF = [.int .i64 n0, .int .i64 n1, .int .i64 n2]) (hb : badL argsF = false) (hrun : vT (@evK (sym n0 n1 n2) Tryz.prog extF (orcW (resT t)) 400 11 argsF (h0 vars)).v = true)
    (ht : ∀ x ∈ t, 1 ≤ x.2.1 ∧ x.2.1 < 4611686018427387904 ∧ (sym n0 n1 n2).n x.1 % (x.2.1 : Int) = ((x.2.2 - 1 : Nat) : Int)) : Good #[.int .i64 n0, .int .i64 n1, .int .i64 n2] W := by
  let S : Sym := sym n0 n1 n2
  exact law_calls setting (orcW_ok (resT_ok t ht)) Tryz.func11 rfl hrun hb (by rw [ha]; exact .cons (.int _ _) (.cons (.int _ _) (.cons (.int _ _) (.nil)))) (laid_vars hL)

theorem good {W : World} (hL : laidMetH Tryz.prog laidAll W) (n0 : Int) (n1 : Int) (n2 : Int) : Good #[.int .i64 n0, .int .i64 n1, .int .i64 n2] W := by
  have h0 : n0 % 3 = 0 ∨ n0 % 3 = 1 ∨ n0 % 3 = 2 := by omega
  rcases h0 with e0 | e0 | e0
  · have h1 : n1 % 10 = 0 ∨ n1 % 10 = 1 ∨ n1 % 10 = 2 ∨ n1 % 10 = 3 ∨ n1 % 10 = 4 ∨ n1 % 10 = 5 ∨ n1 % 10 = 6 ∨ n1 % 10 = 7 ∨ n1 % 10 = 8 ∨ n1 % 10 = 9 := by omega
    rcases h1 with e1 | e1 | e1 | e1 | e1 | e1 | e1 | e1 | e1 | e1
    · refine of_run hL n0 n1 n2 [(0, 3, 1), (1, 10, 1)] [symV 0, symV 1, symV 2] (by simp only [decL_cons, decL_cons, decL_cons, decL_nil, dec_symV, dec_symV, dec_symV] <;> rfl) rfl (@run0 (sym n0 n1 n2)) ?_
      intro x hx
      simp only [List.mem_cons, List.mem_nil_iff, or_false] at hx
      rcases hx with rfl | rfl
      · exact ⟨by decide, by decide, by show n0 % ((3 : Nat) : Int) = ((1 - 1 : Nat) : Int); simpa using e0⟩
      · exact ⟨by decide, by decide, by show n1 % ((10 : Nat) : Int) = ((1 - 1 : Nat) : Int); simpa using e1⟩
    · refine of_run hL n0 n1 n2 [(0, 3, 1), (1, 10, 2)] [symV 0, symV 1, symV 2] (by simp only [decL_cons, decL_cons, decL_cons, decL_nil, dec_symV, dec_symV, dec_symV] <;> rfl) rfl (@run1 (sym n0 n1 n2)) ?_
      intro x hx
      simp only [List.mem_cons, List.mem_nil_iff, or_false] at hx
      rcases hx with rfl | rfl
      · exact ⟨by decide, by decide, by show n0 % ((3 : Nat) : Int) = ((1 - 1 : Nat) : Int); simpa using e0⟩
      · exact ⟨by decide, by decide, by show n1 % ((10 : Nat) : Int) = ((2 - 1 : Nat) : Int); simpa using e1⟩
    · refine of_run hL n0 n1 n2 [(0, 3, 1), (1, 10, 3)] [symV 0, symV 1, symV 2] (by simp only [decL_cons, decL_cons, decL_cons, decL_nil, dec_symV, dec_symV, dec_symV] <;> rfl) rfl (@run2 (sym n0 n1 n2)) ?_
      intro x hx
      simp only [List.mem_cons, List.mem_nil_iff, or_false] at hx
      rcases hx with rfl | rfl
      · exact ⟨by decide, by decide, by show n0 % ((3 : Nat) : Int) = ((1 - 1 : Nat) : Int); simpa using e0⟩
      · exact ⟨by decide, by decide, by show n1 % ((10 : Nat) : Int) = ((3 - 1 : Nat) : Int); simpa using e1⟩
    · refine of_run hL n0 n1 n2 [(0, 3, 1), (1, 10, 4)] [symV 0, symV 1, symV 2] (by simp only [decL_cons, decL_cons, decL_cons, decL_nil, dec_symV, dec_symV, dec_symV] <;> rfl) rfl (@run3 (sym n0 n1 n2)) ?_
      intro x hx
      simp only [List.mem_cons, List.mem_nil_iff, or_false] at hx
      rcases hx with rfl | rfl
      · exact ⟨by decide, by decide, by show n0 % ((3 : Nat) : Int) = ((1 - 1 : Nat) : Int); simpa using e0⟩
      · exact ⟨by decide, by decide, by show n1 % ((10 : Nat) : Int) = ((4 - 1 : Nat) : Int); simpa using e1⟩
    · refine of_run hL n0 n1 n2 [(0, 3, 1), (1, 10, 5)] [symV 0, symV 1, symV 2] (by simp only [decL_cons, decL_cons, decL_cons, decL_nil, dec_symV, dec_symV, dec_symV] <;> rfl) rfl (@run4 (sym n0 n1 n2)) ?_
      intro x hx
      simp only [List.mem_cons, List.mem_nil_iff, or_false] at hx
      rcases hx with rfl | rfl
      · exact ⟨by decide, by decide, by show n0 % ((3 : Nat) : Int) = ((1 - 1 : Nat) : Int); simpa using e0⟩
      · exact ⟨by decide, by decide, by show n1 % ((10 : Nat) : Int) = ((5 - 1 : Nat) : Int); simpa using e1⟩
    · refine of_run hL n0 n1 n2 [(0, 3, 1), (1, 10, 6)] [symV 0, symV 1, symV 2] (by simp only [decL_cons, decL_cons, decL_cons, decL_nil, dec_symV, dec_symV, dec_symV] <;> rfl) rfl (@run5 (sym n0 n1 n2)) ?_
      intro x hx
      simp only [List.mem_cons, List.mem_nil_iff, or_false] at hx
      rcases hx with rfl | rfl
      · exact ⟨by decide, by decide, by show n0 % ((3 : Nat) : Int) = ((1 - 1 : Nat) : Int); simpa using e0⟩
      · exact ⟨by decide, by decide, by show n1 % ((10 : Nat) : Int) = ((6 - 1 : Nat) : Int); simpa using e1⟩
    · refine of_run hL n0 n1 n2 [(0, 3, 1), (1, 10, 7)] [symV 0, symV 1, symV 2] (by simp only [decL_cons, decL_cons, decL_cons, decL_nil, dec_symV, dec_symV, dec_symV] <;> rfl) rfl (@run6 (sym n0 n1 n2)) ?_
      intro x hx
      simp only [List.mem_cons, List.mem_nil_iff, or_false] at hx
      rcases hx with rfl | rfl
      · exact ⟨by decide, by decide, by show n0 % ((3 : Nat) : Int) = ((1 - 1 : Nat) : Int); simpa using e0⟩
      · exact ⟨by decide, by decide, by show n1 % ((10 : Nat) : Int) = ((7 - 1 : Nat) : Int); simpa using e1⟩
    · refine of_run hL n0 n1 n2 [(0, 3, 1), (1, 10, 8)] [symV 0, symV 1, symV 2] (by simp only [decL_cons, decL_cons, decL_cons, decL_nil, dec_symV, dec_symV, dec_symV] <;> rfl) rfl (@run7 (sym n0 n1 n2)) ?_
      intro x hx
      simp only [List.mem_cons, List.mem_nil_iff, or_false] at hx
      rcases hx with rfl | rfl
      · exact ⟨by decide, by decide, by show n0 % ((3 : Nat) : Int) = ((1 - 1 : Nat) : Int); simpa using e0⟩
      · exact ⟨by decide, by decide, by show n1 % ((10 : Nat) : Int) = ((8 - 1 : Nat) : Int); simpa using e1⟩
    · refine of_run hL n0 n1 n2 [(0, 3, 1), (1, 10, 9)] [symV 0, symV 1, symV 2] (by simp only [decL_cons, decL_cons, decL_cons, decL_nil, dec_symV, dec_symV, dec_symV] <;> rfl) rfl (@run8 (sym n0 n1 n2)) ?_
      intro x hx
      simp only [List.mem_cons, List.mem_nil_iff, or_false] at hx
      rcases hx with rfl | rfl
      · exact ⟨by decide, by decide, by show n0 % ((3 : Nat) : Int) = ((1 - 1 : Nat) : Int); simpa using e0⟩
      · exact ⟨by decide, by decide, by show n1 % ((10 : Nat) : Int) = ((9 - 1 : Nat) : Int); simpa using e1⟩
    · refine of_run hL n0 n1 n2 [(0, 3, 1), (1, 10, 10)] [symV 0, symV 1, symV 2] (by simp only [decL_cons, decL_cons, decL_cons, decL_nil, dec_symV, dec_symV, dec_symV] <;> rfl) rfl (@run9 (sym n0 n1 n2)) ?_
      intro x hx
      simp only [List.mem_cons, List.mem_nil_iff, or_false] at hx
      rcases hx with rfl | rfl
      · exact ⟨by decide, by decide, by show n0 % ((3 : Nat) : Int) = ((1 - 1 : Nat) : Int); simpa using e0⟩
      · exact ⟨by decide, by decide, by show n1 % ((10 : Nat) : Int) = ((10 - 1 : Nat) : Int); simpa using e1⟩
  · have h1 : n1 % 10 = 0 ∨ n1 % 10 = 1 ∨ n1 % 10 = 2 ∨ n1 % 10 = 3 ∨ n1 % 10 = 4 ∨ n1 % 10 = 5 ∨ n1 % 10 = 6 ∨ n1 % 10 = 7 ∨ n1 % 10 = 8 ∨ n1 % 10 = 9 := by omega
    rcases h1 with e1 | e1 | e1 | e1 | e1 | e1 | e1 | e1 | e1 | e1
    · have h2 : n2 % 2 = 0 ∨ n2 % 2 = 1 := by omega
      rcases h2 with e2 | e2
      · refine of_run hL n0 n1 n2 [(0, 3, 2), (1, 10, 1), (2, 2, 1)] [symV 0, symV 1, symV 2] (by simp only [decL_cons, decL_cons, decL_cons, decL_nil, dec_symV, dec_symV, dec_symV] <;> rfl) rfl (@run10 (sym n0 n1 n2)) ?_
        intro x hx
        simp only [List.mem_cons, List.mem_nil_iff, or_false] at hx
        rcases hx with rfl | rfl | rfl
        · exact ⟨by decide, by decide, by show n0 % ((3 : Nat) : Int) = ((2 - 1 : Nat) : Int); simpa using e0⟩
        · exact ⟨by decide, by decide, by show n1 % ((10 : Nat) : Int) = ((1 - 1 : Nat) : Int); simpa using e1⟩
        · exact ⟨by decide, by decide, by show n2 % ((2 : Nat) : Int) = ((1 - 1 : Nat) : Int); simpa using e2⟩
      · refine of_run hL n0 n1 n2 [(0, 3, 2), (1, 10, 1), (2, 2, 2)] [symV 0, symV 1, symV 2] (by simp only [decL_cons, decL_cons, decL_cons, decL_nil, dec_symV, dec_symV, dec_symV] <;> rfl) rfl (@run11 (sym n0 n1 n2)) ?_
        intro x hx
        simp only [List.mem_cons, List.mem_nil_iff, or_false] at hx
        rcases hx with rfl | rfl | rfl
        · exact ⟨by decide, by decide, by show n0 % ((3 : Nat) : Int) = ((2 - 1 : Nat) : Int); simpa using e0⟩
        · exact ⟨by decide, by decide, by show n1 % ((10 : Nat) : Int) = ((1 - 1 : Nat) : Int); simpa using e1⟩
        · exact ⟨by decide, by decide, by show n2 % ((2 : Nat) : Int) = ((2 - 1 : Nat) : Int); simpa using e2⟩
    · have h2 : n2 % 2 = 0 ∨ n2 % 2 = 1 := by omega
      rcases h2 with e2 | e2
      · refine of_run hL n0 n1 n2 [(0, 3, 2), (1, 10, 2), (2, 2, 1)] [symV 0, symV 1, symV 2] (by simp only [decL_cons, decL_cons, decL_cons, decL_nil, dec_symV, dec_symV, dec_symV] <;> rfl) rfl (@run12 (sym n0 n1 n2)) ?_
        intro x hx
        simp only [List.mem_cons, List.mem_nil_iff, or_false] at hx
        rcases hx with rfl | rfl | rfl
        · exact ⟨by decide, by decide, by show n0 % ((3 : Nat) : Int) = ((2 - 1 : Nat) : Int); simpa using e0⟩
        · exact ⟨by decide, by decide, by show n1 % ((10 : Nat) : Int) = ((2 - 1 : Nat) : Int); simpa using e1⟩
        · exact ⟨by decide, by decide, by show n2 % ((2 : Nat) : Int) = ((1 - 1 : Nat) : Int); simpa using e2⟩
      · refine of_run hL n0 n1 n2 [(0, 3, 2), (1, 10, 2), (2, 2, 2)] [symV 0, symV 1, symV 2] (by simp only [decL_cons, decL_cons, decL_cons, decL_nil, dec_symV, dec_symV, dec_symV] <;> rfl) rfl (@run13 (sym n0 n1 n2)) ?_
        intro x hx
        simp only [List.mem_cons, List.mem_nil_iff, or_false] at hx
        rcases hx with rfl | rfl | rfl
        · exact ⟨by decide, by decide, by show n0 % ((3 : Nat) : Int) = ((2 - 1 : Nat) : Int); simpa using e0⟩
        · exact ⟨by decide, by decide, by show n1 % ((10 : Nat) : Int) = ((2 - 1 : Nat) : Int); simpa using e1⟩
        · exact ⟨by decide, by decide, by show n2 % ((2 : Nat) : Int) = ((2 - 1 : Nat) : Int); simpa using e2⟩
    · have h2 : n2 % 2 = 0 ∨ n2 % 2 = 1 := by omega
      rcases h2 with e2 | e2
      · refine of_run hL n0 n1 n2 [(0, 3, 2), (1, 10, 3), (2, 2, 1)] [symV 0, symV 1, symV 2] (by simp only [decL_cons, decL_cons, decL_cons, decL_nil, dec_symV, dec_symV, dec_symV] <;> rfl) rfl (@run14 (sym n0 n1 n2)) ?_
        intro x hx
        simp only [List.mem_cons, List.mem_nil_iff, or_false] at hx
        rcases hx with rfl | rfl | rfl
        · exact ⟨by decide, by decide, by show n0 % ((3 : Nat) : Int) = ((2 - 1 : Nat) : Int); simpa using e0⟩
        · exact ⟨by decide, by decide, by show n1 % ((10 : Nat) : Int) = ((3 - 1 : Nat) : Int); simpa using e1⟩
        · exact ⟨by decide, by decide, by show n2 % ((2 : Nat) : Int) = ((1 - 1 : Nat) : Int); simpa using e2⟩
      · refine of_run hL n0 n1 n2 [(0, 3, 2), (1, 10, 3), (2, 2, 2)] [symV 0, symV 1, symV 2] (by simp only [decL_cons, decL_cons, decL_cons, decL_nil, dec_symV, dec_symV, dec_symV] <;> rfl) rfl (@run15 (sym n0 n1 n2)) ?_
        intro x hx
        simp only [List.mem_cons, List.mem_nil_iff, or_false] at hx
        rcases hx with rfl | rfl | rfl
        · exact ⟨by decide, by decide, by show n0 % ((3 : Nat) : Int) = ((2 - 1 : Nat) : Int); simpa using e0⟩
        · exact ⟨by decide, by decide, by show n1 % ((10 : Nat) : Int) = ((3 - 1 : Nat) : Int); simpa using e1⟩
        · exact ⟨by decide, by decide, by show n2 % ((2 : Nat) : Int) = ((2 - 1 : Nat) : Int); simpa using e2⟩
    · have h2 : n2 % 2 = 0 ∨ n2 % 2 = 1 := by omega
      rcases h2 with e2 | e2
      · refine of_run hL n0 n1 n2 [(0, 3, 2), (1, 10, 4), (2, 2, 1)] [symV 0, symV 1, symV 2] (by simp only [decL_cons, decL_cons, decL_cons, decL_nil, dec_symV, dec_symV, dec_symV] <;> rfl) rfl (@run16 (sym n0 n1 n2)) ?_
        intro x hx
        simp only [List.mem_cons, List.mem_nil_iff, or_false] at hx
        rcases hx with rfl | rfl | rfl
        · exact ⟨by decide, by decide, by show n0 % ((3 : Nat) : Int) = ((2 - 1 : Nat) : Int); simpa using e0⟩
        · exact ⟨by decide, by decide, by show n1 % ((10 : Nat) : Int) = ((4 - 1 : Nat) : Int); simpa using e1⟩
        · exact ⟨by decide, by decide, by show n2 % ((2 : Nat) : Int) = ((1 - 1 : Nat) : Int); simpa using e2⟩
      · refine of_run hL n0 n1 n2 [(0, 3, 2), (1, 10, 4), (2, 2, 2)] [symV 0, symV 1, symV 2] (by simp only [decL_cons, decL_cons, decL_cons, decL_nil, dec_symV, dec_symV, dec_symV] <;> rfl) rfl (@run17 (sym n0 n1 n2)) ?_
        intro x hx
        simp only [List.mem_cons, List.mem_nil_iff, or_false] at hx
        rcases hx with rfl | rfl | rfl
        · exact ⟨by decide, by decide, by show n0 % ((3 : Nat) : Int) = ((2 - 1 : Nat) : Int); simpa using e0⟩
        · exact ⟨by decide, by decide, by show n1 % ((10 : Nat) : Int) = ((4 - 1 : Nat) : Int); simpa using e1⟩
        · exact ⟨by decide, by decide, by show n2 % ((2 : Nat) : Int) = ((2 - 1 : Nat) : Int); simpa using e2⟩
    · have h2 : n2 % 2 = 0 ∨ n2 % 2 = 1 := by omega
      rcases h2 with e2 | e2
      · refine of_run hL n0 n1 n2 [(0, 3, 2), (1, 10, 5), (2, 2, 1)] [symV 0, symV 1, symV 2] (by simp only [decL_cons, decL_cons, decL_cons, decL_nil, dec_symV, dec_symV, dec_symV] <;> rfl) rfl (@run18 (sym n0 n1 n2)) ?_
        intro x hx
        simp only [List.mem_cons, List.mem_nil_iff, or_false] at hx
        rcases hx with rfl | rfl | rfl
        · exact ⟨by decide, by decide, by show n0 % ((3 : Nat) : Int) = ((2 - 1 : Nat) : Int); simpa using e0⟩
        · exact ⟨by decide, by decide, by show n1 % ((10 : Nat) : Int) = ((5 - 1 : Nat) : Int); simpa using e1⟩
        · exact ⟨by decide, by decide, by show n2 % ((2 : Nat) : Int) = ((1 - 1 : Nat) : Int); simpa using e2⟩
      · refine of_run hL n0 n1 n2 [(0, 3, 2), (1, 10, 5), (2, 2, 2)] [symV 0, symV 1, symV 2] (by simp only [decL_cons, decL_cons, decL_cons, decL_nil, dec_symV, dec_symV, dec_symV] <;> rfl) rfl (@run19 (sym n0 n1 n2)) ?_
        intro x hx
        simp only [List.mem_cons, List.mem_nil_iff, or_false] at hx
        rcases hx with rfl | rfl | rfl
        · exact ⟨by decide, by decide, by show n0 % ((3 : Nat) : Int) = ((2 - 1 : Nat) : Int); simpa using e0⟩
        · exact ⟨by decide, by decide, by show n1 % ((10 : Nat) : Int) = ((5 - 1 : Nat) : Int); simpa using e1⟩
        · exact ⟨by decide, by decide, by show n2 % ((2 : Nat) : Int) = ((2 - 1 : Nat) : Int); simpa using e2⟩
    · have h2 : n2 % 2 = 0 ∨ n2 % 2 = 1 := by omega
      rcases h2 with e2 | e2
      · refine of_run hL n0 n1 n2 [(0, 3, 2), (1, 10, 6), (2, 2, 1)] [symV 0, symV 1, symV 2] (by simp only [decL_cons, decL_cons, decL_cons, decL_nil, dec_symV, dec_symV, dec_symV] <;> rfl) rfl (@run20 (sym n0 n1 n2)) ?_
        intro x hx
        simp only [List.mem_cons, List.mem_nil_iff, or_false] at hx
        rcases hx with rfl | rfl | rfl
        · exact ⟨by decide, by decide, by show n0 % ((3 : Nat) : Int) = ((2 - 1 : Nat) : Int); simpa using e0⟩
        · exact ⟨by decide, by decide, by show n1 % ((10 : Nat) : Int) = ((6 - 1 : Nat) : Int); simpa using e1⟩
        · exact ⟨by decide, by decide, by show n2 % ((2 : Nat) : Int) = ((1 - 1 : Nat) : Int); simpa using e2⟩
      · refine of_run hL n0 n1 n2 [(0, 3, 2), (1, 10, 6), (2, 2, 2)] [symV 0, symV 1, symV 2] (by simp only [decL_cons, decL_cons, decL_cons, decL_nil, dec_symV, dec_symV, dec_symV] <;> rfl) rfl (@run21 (sym n0 n1 n2)) ?_
        intro x hx
        simp only [List.mem_cons, List.mem_nil_iff, or_false] at hx
        rcases hx with rfl | rfl | rfl
        · exact ⟨by decide, by decide, by show n0 % ((3 : Nat) : Int) = ((2 - 1 : Nat) : Int); simpa using e0⟩
        · exact ⟨by decide, by decide, by show n1 % ((10 : Nat) : Int) = ((6 - 1 : Nat) : Int); simpa using e1⟩
        · exact ⟨by decide, by decide, by show n2 % ((2 : Nat) : Int) = ((2 - 1 : Nat) : Int); simpa using e2⟩
    · have h2 : n2 % 2 = 0 ∨ n2 % 2 = 1 := by omega
      rcases h2 with e2 | e2
      · refine of_run hL n0 n1 n2 [(0, 3, 2), (1, 10, 7), (2, 2, 1)] [symV 0, symV 1, symV 2] (by simp only [decL_cons, decL_cons, decL_cons, decL_nil, dec_symV, dec_symV, dec_symV] <;> rfl) rfl (@run22 (sym n0 n1 n2)) ?_
        intro x hx
        simp only [List.mem_cons, List.mem_nil_iff, or_false] at hx
        rcases hx with rfl | rfl | rfl
        · exact ⟨by decide, by decide, by show n0 % ((3 : Nat) : Int) = ((2 - 1 : Nat) : Int); simpa using e0⟩
        · exact ⟨by decide, by decide, by show n1 % ((10 : Nat) : Int) = ((7 - 1 : Nat) : Int); simpa using e1⟩
        · exact ⟨by decide, by decide, by show n2 % ((2 : Nat) : Int) = ((1 - 1 : Nat) : Int); simpa using e2⟩
      · refine of_run hL n0 n1 n2 [(0, 3, 2), (1, 10, 7), (2, 2, 2)] [symV 0, symV 1, symV 2] (by simp only [decL_cons, decL_cons, decL_cons, decL_nil, dec_symV, dec_symV, dec_symV] <;> rfl) rfl (@run23 (sym n0 n1 n2)) ?_
        intro x hx
        simp only [List.mem_cons, List.mem_nil_iff, or_false] at hx
        rcases hx with rfl | rfl | rfl
        · exact ⟨by decide, by decide, by show n0 % ((3 : Nat) : Int) = ((2 - 1 : Nat) : Int); simpa using e0⟩
        · exact ⟨by decide, by decide, by show n1 % ((10 : Nat) : Int) = ((7 - 1 : Nat) : Int); simpa using e1⟩
        · exact ⟨by decide, by decide, by show n2 % ((2 : Nat) : Int) = ((2 - 1 : Nat) : Int); simpa using e2⟩
    · have h2 : n2 % 2 = 0 ∨ n2 % 2 = 1 := by omega
      rcases h2 with e2 | e2
      · refine of_run hL n0 n1 n2 [(0, 3, 2), (1, 10, 8), (2, 2, 1)] [symV 0, symV 1, symV 2] (by simp only [decL_cons, decL_cons, decL_cons, decL_nil, dec_symV, dec_symV, dec_symV] <;> rfl) rfl (@run24 (sym n0 n1 n2)) ?_
        intro x hx
        simp only [List.mem_cons, List.mem_nil_iff, or_false] at hx
        rcases hx with rfl | rfl | rfl
        · exact ⟨by decide, by decide, by show n0 % ((3 : Nat) : Int) = ((2 - 1 : Nat) : Int); simpa using e0⟩
        · exact ⟨by decide, by decide, by show n1 % ((10 : Nat) : Int) = ((8 - 1 : Nat) : Int); simpa using e1⟩
        · exact ⟨by decide, by decide, by show n2 % ((2 : Nat) : Int) = ((1 - 1 : Nat) : Int); simpa using e2⟩
      · refine of_run hL n0 n1 n2 [(0, 3, 2), (1, 10, 8), (2, 2, 2)] [symV 0, symV 1, symV 2] (by simp only [decL_cons, decL_cons, decL_cons, decL_nil, dec_symV, dec_symV, dec_symV] <;> rfl) rfl (@run25 (sym n0 n1 n2)) ?_
        intro x hx
        simp only [List.mem_cons, List.mem_nil_iff, or_false] at hx
        rcases hx with rfl | rfl | rfl
        · exact ⟨by decide, by decide, by show n0 % ((3 : Nat) : Int) = ((2 - 1 : Nat) : Int); simpa using e0⟩
        · exact ⟨by decide, by decide, by show n1 % ((10 : Nat) : Int) = ((8 - 1 : Nat) : Int); simpa using e1⟩
        · exact ⟨by decide, by decide, by show n2 % ((2 : Nat) : Int) = ((2 - 1 : Nat) : Int); simpa using e2⟩
    · have h2 : n2 % 2 = 0 ∨ n2 % 2 = 1 := by omega
      rcases h2 with e2 | e2
      · refine of_run hL n0 n1 n2 [(0, 3, 2), (1, 10, 9), (2, 2, 1)] [symV 0, symV 1, symV 2] (by simp only [decL_cons, decL_cons, decL_cons, decL_nil, dec_symV, dec_symV, dec_symV] <;> rfl) rfl (@run26 (sym n0 n1 n2)) ?_
        intro x hx
        simp only [List.mem_cons, List.mem_nil_iff, or_false] at hx
        rcases hx with rfl | rfl | rfl
        · exact ⟨by decide, by decide, by show n0 % ((3 : Nat) : Int) = ((2 - 1 : Nat) : Int); simpa using e0⟩
        · exact ⟨by decide, by decide, by show n1 % ((10 : Nat) : Int) = ((9 - 1 : Nat) : Int); simpa using e1⟩
        · exact ⟨by decide, by decide, by show n2 % ((2 : Nat) : Int) = ((1 - 1 : Nat) : Int); simpa using e2⟩
      · refine of_run hL n0 n1 n2 [(0, 3, 2), (1, 10, 9), (2, 2, 2)] [symV 0, symV 1, symV 2] (by simp only [decL_cons, decL_cons, decL_cons, decL_nil, dec_symV, dec_symV, dec_symV] <;> rfl) rfl (@run27 (sym n0 n1 n2)) ?_
        intro x hx
        simp only [List.mem_cons, List.mem_nil_iff, or_false] at hx
        rcases hx with rfl | rfl | rfl
        · exact ⟨by decide, by decide, by show n0 % ((3 : Nat) : Int) = ((2 - 1 : Nat) : Int); simpa using e0⟩
        · exact ⟨by decide, by decide, by show n1 % ((10 : Nat) : Int) = ((9 - 1 : Nat) : Int); simpa using e1⟩
        · exact ⟨by decide, by decide, by show n2 % ((2 : Nat) : Int) = ((2 - 1 : Nat) : Int); simpa using e2⟩
    · have h2 : n2 % 2 = 0 ∨ n2 % 2 = 1 := by omega
      rcases h2 with e2 | e2
      · refine of_run hL n0 n1 n2 [(0, 3, 2), (1, 10, 10), (2, 2, 1)] [symV 0, symV 1, symV 2] (by simp only [decL_cons, decL_cons, decL_cons, decL_nil, dec_symV, dec_symV, dec_symV] <;> rfl) rfl (@run28 (sym n0 n1 n2)) ?_
        intro x hx
        simp only [List.mem_cons, List.mem_nil_iff, or_false] at hx
        rcases hx with rfl | rfl | rfl
        · exact ⟨by decide, by decide, by show n0 % ((3 : Nat) : Int) = ((2 - 1 : Nat) : Int); simpa using e0⟩
        · exact ⟨by decide, by decide, by show n1 % ((10 : Nat) : Int) = ((10 - 1 : Nat) : Int); simpa using e1⟩
        · exact ⟨by decide, by decide, by show n2 % ((2 : Nat) : Int) = ((1 - 1 : Nat) : Int); simpa using e2⟩
      · refine of_run hL n0 n1 n2 [(0, 3, 2), (1, 10, 10), (2, 2, 2)] [symV 0, symV 1, symV 2] (by simp only [decL_cons, decL_cons, decL_cons, decL_nil, dec_symV, dec_symV, dec_symV] <;> rfl) rfl (@run29 (sym n0 n1 n2)) ?_
        intro x hx
        simp only [List.mem_cons, List.mem_nil_iff, or_false] at hx
        rcases hx with rfl | rfl | rfl
        · exact ⟨by decide, by decide, by show n0 % ((3 : Nat) : Int) = ((2 - 1 : Nat) : Int); simpa using e0⟩
        · exact ⟨by decide, by decide, by show n1 % ((10 : Nat) : Int) = ((10 - 1 : Nat) : Int); simpa using e1⟩
        · exact ⟨by decide, by decide, by show n2 % ((2 : Nat) : Int) = ((2 - 1 : Nat) : Int); simpa using e2⟩
  · have h1 : n1 % 10 = 0 ∨ n1 % 10 = 1 ∨ n1 % 10 = 2 ∨ n1 % 10 = 3 ∨ n1 % 10 = 4 ∨ n1 % 10 = 5 ∨ n1 % 10 = 6 ∨ n1 % 10 = 7 ∨ n1 % 10 = 8 ∨ n1 % 10 = 9 := by omega
    rcases h1 with e1 | e1 | e1 | e1 | e1 | e1 | e1 | e1 | e1 | e1
    · have h2 : n2 % 2 = 0 ∨ n2 % 2 = 1 := by omega
      rcases h2 with e2 | e2
      · refine of_run hL n0 n1 n2 [(0, 3, 3), (1, 10, 1), (2, 2, 1)] [symV 0, symV 1, symV 2] (by simp only [decL_cons, decL_cons, decL_cons, decL_nil, dec_symV, dec_symV, dec_symV] <;> rfl) rfl (@run30 (sym n0 n1 n2)) ?_
        intro x hx
        simp only [List.mem_cons, List.mem_nil_iff, or_false] at hx
        rcases hx with rfl | rfl | rfl
        · exact ⟨by decide, by decide, by show n0 % ((3 : Nat) : Int) = ((3 - 1 : Nat) : Int); simpa using e0⟩
        · exact ⟨by decide, by decide, by show n1 % ((10 : Nat) : Int) = ((1 - 1 : Nat) : Int); simpa using e1⟩
        · exact ⟨by decide, by decide, by show n2 % ((2 : Nat) : Int) = ((1 - 1 : Nat) : Int); simpa using e2⟩
      · refine of_run hL n0 n1 n2 [(0, 3, 3), (1, 10, 1), (2, 2, 2)] [symV 0, symV 1, symV 2] (by simp only [decL_cons, decL_cons, decL_cons, decL_nil, dec_symV, dec_symV, dec_symV] <;> rfl) rfl (@run31 (sym n0 n1 n2)) ?_
        intro x hx
        simp only [List.mem_cons, List.mem_nil_iff, or_false] at hx
        rcases hx with rfl | rfl | rfl
        · exact ⟨by decide, by decide, by show n0 % ((3 : Nat) : Int) = ((3 - 1 : Nat) : Int); simpa using e0⟩
        · exact ⟨by decide, by decide, by show n1 % ((10 : Nat) : Int) = ((1 - 1 : Nat) : Int); simpa using e1⟩
        · exact ⟨by decide, by decide, by show n2 % ((2 : Nat) : Int) = ((2 - 1 : Nat) : Int); simpa using e2⟩
    · have h2 : n2 % 2 = 0 ∨ n2 % 2 = 1 := by omega
      rcases h2 with e2 | e2
      · refine of_run hL n0 n1 n2 [(0, 3, 3), (1, 10, 2), (2, 2, 1)] [symV 0, symV 1, symV 2] (by simp only [decL_cons, decL_cons, decL_cons, decL_nil, dec_symV, dec_symV, dec_symV] <;> rfl) rfl (@run32 (sym n0 n1 n2)) ?_
        intro x hx
        simp only [List.mem_cons, List.mem_nil_iff, or_false] at hx
        rcases hx with rfl | rfl | rfl
        · exact ⟨by decide, by decide, by show n0 % ((3 : Nat) : Int) = ((3 - 1 : Nat) : Int); simpa using e0⟩
        · exact ⟨by decide, by decide, by show n1 % ((10 : Nat) : Int) = ((2 - 1 : Nat) : Int); simpa using e1⟩
        · exact ⟨by decide, by decide, by show n2 % ((2 : Nat) : Int) = ((1 - 1 : Nat) : Int); simpa using e2⟩
      · refine of_run hL n0 n1 n2 [(0, 3, 3), (1, 10, 2), (2, 2, 2)] [symV 0, symV 1, symV 2] (by simp only [decL_cons, decL_cons, decL_cons, decL_nil, dec_symV, dec_symV, dec_symV] <;> rfl) rfl (@run33 (sym n0 n1 n2)) ?_
        intro x hx
        simp only [List.mem_cons, List.mem_nil_iff, or_false] at hx
        rcases hx with rfl | rfl | rfl
        · exact ⟨by decide, by decide, by show n0 % ((3 : Nat) : Int) = ((3 - 1 : Nat) : Int); simpa using e0⟩
        · exact ⟨by decide, by decide, by show n1 % ((10 : Nat) : Int) = ((2 - 1 : Nat) : Int); simpa using e1⟩
        · exact ⟨by decide, by decide, by show n2 % ((2 : Nat) : Int) = ((2 - 1 : Nat) : Int); simpa using e2⟩
    · have h2 : n2 % 2 = 0 ∨ n2 % 2 = 1 := by omega
      rcases h2 with e2 | e2
      · refine of_run hL n0 n1 n2 [(0, 3, 3), (1, 10, 3), (2, 2, 1)] [symV 0, symV 1, symV 2] (by simp only [decL_cons, decL_cons, decL_cons, decL_nil, dec_symV, dec_symV, dec_symV] <;> rfl) rfl (@run34 (sym n0 n1 n2)) ?_
        intro x hx
        simp only [List.mem_cons, List.mem_nil_iff, or_false] at hx
        rcases hx with rfl | rfl | rfl
        · exact ⟨by decide, by decide, by show n0 % ((3 : Nat) : Int) = ((3 - 1 : Nat) : Int); simpa using e0⟩
        · exact ⟨by decide, by decide, by show n1 % ((10 : Nat) : Int) = ((3 - 1 : Nat) : Int); simpa using e1⟩
        · exact ⟨by decide, by decide, by show n2 % ((2 : Nat) : Int) = ((1 - 1 : Nat) : Int); simpa using e2⟩
      · refine of_run hL n0 n1 n2 [(0, 3, 3), (1, 10, 3), (2, 2, 2)] [symV 0, symV 1, symV 2] (by simp only [decL_cons, decL_cons, decL_cons, decL_nil, dec_symV, dec_symV, dec_symV] <;> rfl) rfl (@run35 (sym n0 n1 n2)) ?_
        intro x hx
        simp only [List.mem_cons, List.mem_nil_iff, or_false] at hx
        rcases hx with rfl | rfl | rfl
        · exact ⟨by decide, by decide, by show n0 % ((3 : Nat) : Int) = ((3 - 1 : Nat) : Int); simpa using e0⟩
        · exact ⟨by decide, by decide, by show n1 % ((10 : Nat) : Int) = ((3 - 1 : Nat) : Int); simpa using e1⟩
        · exact ⟨by decide, by decide, by show n2 % ((2 : Nat) : Int) = ((2 - 1 : Nat) : Int); simpa using e2⟩
    · have h2 : n2 % 2 = 0 ∨ n2 % 2 = 1 := by omega
      rcases h2 with e2 | e2
      · refine of_run hL n0 n1 n2 [(0, 3, 3), (1, 10, 4), (2, 2, 1)] [symV 0, symV 1, symV 2] (by simp only [decL_cons, decL_cons, decL_cons, decL_nil, dec_symV, dec_symV, dec_symV] <;> rfl) rfl (@run36 (sym n0 n1 n2)) ?_
        intro x hx
        simp only [List.mem_cons, List.mem_nil_iff, or_false] at hx
        rcases hx with rfl | rfl | rfl
        · exact ⟨by decide, by decide, by show n0 % ((3 : Nat) : Int) = ((3 - 1 : Nat) : Int); simpa using e0⟩
        · exact ⟨by decide, by decide, by show n1 % ((10 : Nat) : Int) = ((4 - 1 : Nat) : Int); simpa using e1⟩
        · exact ⟨by decide, by decide, by show n2 % ((2 : Nat) : Int) = ((1 - 1 : Nat) : Int); simpa using e2⟩
      · refine of_run hL n0 n1 n2 [(0, 3, 3), (1, 10, 4), (2, 2, 2)] [symV 0, symV 1, symV 2] (by simp only [decL_cons, decL_cons, decL_cons, decL_nil, dec_symV, dec_symV, dec_symV] <;> rfl) rfl (@run37 (sym n0 n1 n2)) ?_
        intro x hx
        simp only [List.mem_cons, List.mem_nil_iff, or_false] at hx
        rcases hx with rfl | rfl | rfl
        · exact ⟨by decide, by decide, by show n0 % ((3 : Nat) : Int) = ((3 - 1 : Nat) : Int); simpa using e0⟩
        · exact ⟨by decide, by decide, by show n1 % ((10 : Nat) : Int) = ((4 - 1 : Nat) : Int); simpa using e1⟩
        · exact ⟨by decide, by decide, by show n2 % ((2 : Nat) : Int) = ((2 - 1 : Nat) : Int); simpa using e2⟩
    · have h2 : n2 % 2 = 0 ∨ n2 % 2 = 1 := by omega
      rcases h2 with e2 | e2
      · refine of_run hL n0 n1 n2 [(0, 3, 3), (1, 10, 5), (2, 2, 1)] [symV 0, symV 1, symV 2] (by simp only [decL_cons, decL_cons, decL_cons, decL_nil, dec_symV, dec_symV, dec_symV] <;> rfl) rfl (@run38 (sym n0 n1 n2)) ?_
        intro x hx
        simp only [List.mem_cons, List.mem_nil_iff, or_false] at hx
        rcases hx with rfl | rfl | rfl
        · exact ⟨by decide, by decide, by show n0 % ((3 : Nat) : Int) = ((3 - 1 : Nat) : Int); simpa using e0⟩
        · exact ⟨by decide, by decide, by show n1 % ((10 : Nat) : Int) = ((5 - 1 : Nat) : Int); simpa using e1⟩
        · exact ⟨by decide, by decide, by show n2 % ((2 : Nat) : Int) = ((1 - 1 : Nat) : Int); simpa using e2⟩
      · refine of_run hL n0 n1 n2 [(0, 3, 3), (1, 10, 5), (2, 2, 2)] [symV 0, symV 1, symV 2] (by simp only [decL_cons, decL_cons, decL_cons, decL_nil, dec_symV, dec_symV, dec_symV] <;> rfl) rfl (@run39 (sym n0 n1 n2)) ?_
        intro x hx
        simp only [List.mem_cons, List.mem_nil_iff, or_false] at hx
        rcases hx with rfl | rfl | rfl
        · exact ⟨by decide, by decide, by show n0 % ((3 : Nat) : Int) = ((3 - 1 : Nat) : Int); simpa using e0⟩
        · exact ⟨by decide, by decide, by show n1 % ((10 : Nat) : Int) = ((5 - 1 : Nat) : Int); simpa using e1⟩
        · exact ⟨by decide, by decide, by show n2 % ((2 : Nat) : Int) = ((2 - 1 : Nat) : Int); simpa using e2⟩
    · have h2 : n2 % 2 = 0 ∨ n2 % 2 = 1 := by omega
      rcases h2 with e2 | e2
      · refine of_run hL n0 n1 n2 [(0, 3, 3), (1, 10, 6), (2, 2, 1)] [symV 0, symV 1, symV 2] (by simp only [decL_cons, decL_cons, decL_cons, decL_nil, dec_symV, dec_symV, dec_symV] <;> rfl) rfl (@run40 (sym n0 n1 n2)) ?_
        intro x hx
        simp only [List.mem_cons, List.mem_nil_iff, or_false] at hx
        rcases hx with rfl | rfl | rfl
        · exact ⟨by decide, by decide, by show n0 % ((3 : Nat) : Int) = ((3 - 1 : Nat) : Int); simpa using e0⟩
        · exact ⟨by decide, by decide, by show n1 % ((10 : Nat) : Int) = ((6 - 1 : Nat) : Int); simpa using e1⟩
        · exact ⟨by decide, by decide, by show n2 % ((2 : Nat) : Int) = ((1 - 1 : Nat) : Int); simpa using e2⟩
      · refine of_run hL n0 n1 n2 [(0, 3, 3), (1, 10, 6), (2, 2, 2)] [symV 0, symV 1, symV 2] (by simp only [decL_cons, decL_cons, decL_cons, decL_nil, dec_symV, dec_symV, dec_symV] <;> rfl) rfl (@run41 (sym n0 n1 n2)) ?_
        intro x hx
        simp only [List.mem_cons, List.mem_nil_iff, or_false] at hx
        rcases hx with rfl | rfl | rfl
        · exact ⟨by decide, by decide, by show n0 % ((3 : Nat) : Int) = ((3 - 1 : Nat) : Int); simpa using e0⟩
        · exact ⟨by decide, by decide, by show n1 % ((10 : Nat) : Int) = ((6 - 1 : Nat) : Int); simpa using e1⟩
        · exact ⟨by decide, by decide, by show n2 % ((2 : Nat) : Int) = ((2 - 1 : Nat) : Int); simpa using e2⟩
    · have h2 : n2 % 2 = 0 ∨ n2 % 2 = 1 := by omega
      rcases h2 with e2 | e2
      · refine of_run hL n0 n1 n2 [(0, 3, 3), (1, 10, 7), (2, 2, 1)] [symV 0, symV 1, symV 2] (by simp only [decL_cons, decL_cons, decL_cons, decL_nil, dec_symV, dec_symV, dec_symV] <;> rfl) rfl (@run42 (sym n0 n1 n2)) ?_
        intro x hx
        simp only [List.mem_cons, List.mem_nil_iff, or_false] at hx
        rcases hx with rfl | rfl | rfl
        · exact ⟨by decide, by decide, by show n0 % ((3 : Nat) : Int) = ((3 - 1 : Nat) : Int); simpa using e0⟩
        · exact ⟨by decide, by decide, by show n1 % ((10 : Nat) : Int) = ((7 - 1 : Nat) : Int); simpa using e1⟩
        · exact ⟨by decide, by decide, by show n2 % ((2 : Nat) : Int) = ((1 - 1 : Nat) : Int); simpa using e2⟩
      · refine of_run hL n0 n1 n2 [(0, 3, 3), (1, 10, 7), (2, 2, 2)] [symV 0, symV 1, symV 2] (by simp only [decL_cons, decL_cons, decL_cons, decL_nil, dec_symV, dec_symV, dec_symV] <;> rfl) rfl (@run43 (sym n0 n1 n2)) ?_
        intro x hx
        simp only [List.mem_cons, List.mem_nil_iff, or_false] at hx
        rcases hx with rfl | rfl | rfl
        · exact ⟨by decide, by decide, by show n0 % ((3 : Nat) : Int) = ((3 - 1 : Nat) : Int); simpa using e0⟩
        · exact ⟨by decide, by decide, by show n1 % ((10 : Nat) : Int) = ((7 - 1 : Nat) : Int); simpa using e1⟩
        · exact ⟨by decide, by decide, by show n2 % ((2 : Nat) : Int) = ((2 - 1 : Nat) : Int); simpa using e2⟩
    · have h2 : n2 % 2 = 0 ∨ n2 % 2 = 1 := by omega
      rcases h2 with e2 | e2
      · refine of_run hL n0 n1 n2 [(0, 3, 3), (1, 10, 8), (2, 2, 1)] [symV 0, symV 1, symV 2] (by simp only [decL_cons, decL_cons, decL_cons, decL_nil, dec_symV, dec_symV, dec_symV] <;> rfl) rfl (@run44 (sym n0 n1 n2)) ?_
        intro x hx
        simp only [List.mem_cons, List.mem_nil_iff, or_false] at hx
        rcases hx with rfl | rfl | rfl
        · exact ⟨by decide, by decide, by show n0 % ((3 : Nat) : Int) = ((3 - 1 : Nat) : Int); simpa using e0⟩
        · exact ⟨by decide, by decide, by show n1 % ((10 : Nat) : Int) = ((8 - 1 : Nat) : Int); simpa using e1⟩
        · exact ⟨by decide, by decide, by show n2 % ((2 : Nat) : Int) = ((1 - 1 : Nat) : Int); simpa using e2⟩
      · refine of_run hL n0 n1 n2 [(0, 3, 3), (1, 10, 8), (2, 2, 2)] [symV 0, symV 1, symV 2] (by simp only [decL_cons, decL_cons, decL_cons, decL_nil, dec_symV, dec_symV, dec_symV] <;> rfl) rfl (@run45 (sym n0 n1 n2)) ?_
        intro x hx
        simp only [List.mem_cons, List.mem_nil_iff, or_false] at hx
        rcases hx with rfl | rfl | rfl
        · exact ⟨by decide, by decide, by show n0 % ((3 : Nat) : Int) = ((3 - 1 : Nat) : Int); simpa using e0⟩
        · exact ⟨by decide, by decide, by show n1 % ((10 : Nat) : Int) = ((8 - 1 : Nat) : Int); simpa using e1⟩
        · exact ⟨by decide, by decide, by show n2 % ((2 : Nat) : Int) = ((2 - 1 : Nat) : Int); simpa using e2⟩
    · have h2 : n2 % 2 = 0 ∨ n2 % 2 = 1 := by omega
      rcases h2 with e2 | e2
      · refine of_run hL n0 n1 n2 [(0, 3, 3), (1, 10, 9), (2, 2, 1)] [symV 0, symV 1, symV 2] (by simp only [decL_cons, decL_cons, decL_cons, decL_nil, dec_symV, dec_symV, dec_symV] <;> rfl) rfl (@run46 (sym n0 n1 n2)) ?_
        intro x hx
        simp only [List.mem_cons, List.mem_nil_iff, or_false] at hx
        rcases hx with rfl | rfl | rfl
        · exact ⟨by decide, by decide, by show n0 % ((3 : Nat) : Int) = ((3 - 1 : Nat) : Int); simpa using e0⟩
        · exact ⟨by decide, by decide, by show n1 % ((10 : Nat) : Int) = ((9 - 1 : Nat) : Int); simpa using e1⟩
        · exact ⟨by decide, by decide, by show n2 % ((2 : Nat) : Int) = ((1 - 1 : Nat) : Int); simpa using e2⟩
      · refine of_run hL n0 n1 n2 [(0, 3, 3), (1, 10, 9), (2, 2, 2)] [symV 0, symV 1, symV 2] (by simp only [decL_cons, decL_cons, decL_cons, decL_nil, dec_symV, dec_symV, dec_symV] <;> rfl) rfl (@run47 (sym n0 n1 n2)) ?_
        intro x hx
        simp only [List.mem_cons, List.mem_nil_iff, or_false] at hx
        rcases hx with rfl | rfl | rfl
        · exact ⟨by decide, by decide, by show n0 % ((3 : Nat) : Int) = ((3 - 1 : Nat) : Int); simpa using e0⟩
        · exact ⟨by decide, by decide, by show n1 % ((10 : Nat) : Int) = ((9 - 1 : Nat) : Int); simpa using e1⟩
        · exact ⟨by decide, by decide, by show n2 % ((2 : Nat) : Int) = ((2 - 1 : Nat) : Int); simpa using e2⟩
    · have h2 : n2 % 2 = 0 ∨ n2 % 2 = 1 := by omega
      rcases h2 with e2 | e2
      · refine of_run hL n0 n1 n2 [(0, 3, 3), (1, 10, 10), (2, 2, 1)] [symV 0, symV 1, symV 2] (by simp only [decL_cons, decL_cons, decL_cons, decL_nil, dec_symV, dec_symV, dec_symV] <;> rfl) rfl (@run48 (sym n0 n1 n2)) ?_
        intro x hx
        simp only [List.mem_cons, List.mem_nil_iff, or_false] at hx
        rcases hx with rfl | rfl | rfl
        · exact ⟨by decide, by decide, by show n0 % ((3 : Nat) : Int) = ((3 - 1 : Nat) : Int); simpa using e0⟩
        · exact ⟨by decide, by decide, by show n1 % ((10 : Nat) : Int) = ((10 - 1 : Nat) : Int); simpa using e1⟩
        · exact ⟨by decide, by decide, by show n2 % ((2 : Nat) : Int) = ((1 - 1 : Nat) : Int); simpa using e2⟩
      · refine of_run hL n0 n1 n2 [(0, 3, 3), (1, 10, 10), (2, 2, 2)] [symV 0, symV 1, symV 2] (by simp only [decL_cons, decL_cons, decL_cons, decL_nil, dec_symV, dec_symV, dec_symV] <;> rfl) rfl (@run49 (sym n0 n1 n2)) ?_
        intro x hx
        simp only [List.mem_cons, List.mem_nil_iff, or_false] at hx
        rcases hx with rfl | rfl | rfl
        · exact ⟨by decide, by decide, by show n0 % ((3 : Nat) : Int) = ((3 - 1 : Nat) : Int); simpa using e0⟩
        · exact ⟨by decide, by decide, by show n1 % ((10 : Nat) : Int) = ((10 - 1 : Nat) : Int); simpa using e1⟩
        · exact ⟨by decide, by decide, by show n2 % ((2 : Nat) : Int) = ((2 - 1 : Nat) : Int); simpa using e2⟩


set_option maxRecDepth 100000 in
theorem contract (H : Type) (enc : TypeId × Value → H) (W : World) (base : Nat) (args : Array Value) (ds gs : List (DataW H)) (before : List MemPlace)
    (hval : ∀ (j : Nat) t v, Tryz.f11.params[j]? = some t → args[j]? = some v → Value.okWide Tryz.prog W .any base t v)
    (hW : DataW.Whole enc Tryz.prog Tryz.f11.params.toList Rows.grantsChainSpec.vars false W args.toList ds gs before) (hL : laidMetH Tryz.prog Rows.grantsChainRow.laid W) :
    Calls Tryz.prog 11 args W fun e W' => ∃ v, e = .returned v ∧ Rows.grantsChainSpec.post enc Tryz.prog Tryz.f11 false true false false W args v W' := by
  have hW' := hW
  obtain ⟨p, q, hA0, hV, rfl, hfz, hnd⟩ := hW
  have hA : DataW.TrodAll enc Tryz.prog W 0 (fun _ => true) true Tryz.f11.params.toList args.toList ds p := hA0
  rw [Tryz.params11] at hA hval
  obtain ⟨v0, vs0, d0, ds0, p0, q0, hargs, rfl, rfl, t0, r0⟩ := trodAll_cons hA
  obtain ⟨v1, vs1, d1, ds1, p1, q1, rfl, rfl, rfl, t1, r1⟩ := trodAll_cons r0
  obtain ⟨v2, vs2, d2, ds2, p2, q2, rfl, rfl, rfl, t2, r2⟩ := trodAll_cons r1
  obtain ⟨rfl, rfl, rfl⟩ := trodAll_nil r2
  obtain rfl : args = #[v0, v1, v2] := by cases args; simp_all
  obtain ⟨rfl, rfl⟩ := trodVars_none hV
  obtain ⟨n0, rfl, rfl, rfl, w0⟩ := open_int Tryz.underlying3 (hval 0 3 v0 rfl rfl) t0
  obtain ⟨n1, rfl, rfl, rfl, w1⟩ := open_int Tryz.underlying3 (hval 1 3 v1 rfl rfl) t1
  obtain ⟨n2, rfl, rfl, rfl, w2⟩ := open_int Tryz.underlying3 (hval 2 3 v2 rfl rfl) t2
  clear hA0
  simp only [List.append_nil] at hW'
  refine (good hL n0 n1 n2).mono fun e W' ⟨he, hos, hout, hheap⟩ => ?_
  subst he
  exact ⟨_, rfl, post_kept (S := sym n0 n1 n2) (pa := []) (pv := []) hW' (fun _ _ _ => trodAll_cons_mk (shut_bool Tryz.underlying4 _) trodAll_mk0) (fun _ _ => trodAll_cons_mk (shut_int Tryz.underlying3 w0) (trodAll_cons_mk (shut_int Tryz.underlying3 w1) (trodAll_cons_mk (shut_int Tryz.underlying3 w2) (trodAll_mk0)))) (fun _ _ => rfl) rfl
    hos hout hheap (ok_one (by kernel_rfl) rfl (okWide_bool_mk Tryz.underlying4 _))⟩

theorem reads (os : Os) {H : Type} (enc : TypeId × Value → H) : ∃ places, DataW.whole enc Tryz.prog ((laidWorld os).forCall (fun _ _ => 0) ⟨#[], #[.int .i64 0, .int .i64 0, .int .i64 0], []⟩).memory Tryz.f11.params.toList Rows.grantsChainSpec.vars false (#[.int .i64 0, .int .i64 0, .int .i64 0] : Array Value).toList 8 = some ([.lit (.int .i64 0), .lit (.int .i64 0), .lit (.int .i64 0)], [], places) :=
  ⟨[], by kernel_rfl⟩

set_option maxRecDepth 100000 in
set_option maxHeartbeats 0 in
theorem lifted (os : Os) (started : os.Started) (H : Type) (enc : TypeId × Value → H) (F : Stop.Interp) :
    ReturnsInHanded {} Tryz.checked os 11 .any ((OpenSpec.ofChange Rows.grantsChainSpec).preRow enc Tryz.prog Tryz.f11 Rows.grantsChainRow.domain false Rows.grantsChainRow.laid) (((OpenSpec.ofChange Rows.grantsChainSpec).at F).post enc Tryz.prog Tryz.f11 false true false false) := by
  obtain ⟨places, hx⟩ := reads os enc
  refine returnsInHanded_of_row (C := Tryz.checked) (s := OpenSpec.ofChange Rows.grantsChainSpec) own started (by kernel_rfl) Tryz.func11
    (witness_row_at (enc := enc) (C := Tryz.checked) false (laidWorld os) #[.int .i64 0, .int .i64 0, .int .i64 0] rfl (by kernel_rfl) (by kernel_rfl) (by kernel_rfl)
      (OpenSpec.preRow_of_cond 8 hx (by kernel_rfl) (fun k hk => by cases hk) (by kernel_rfl) (laid_met os _))) ?_
  intro W base args ds gs before hval hW _ _ _ hL _ _
  exact contract H enc W base args ds gs before hval hW hL

theorem and2 {a b : Bool} (h : a = true) (k : b = true) : (a && b) = true := by rw [h, k]; rfl
set_option maxHeartbeats 0 in
theorem facts : joinedFacts Tryz.pinned.checked.prog 11 Tryz.f11 (OpenSpec.ofChange Rows.grantsChainSpec).bare Rows.grantsChainRow = true := by
  unfold joinedFacts
  refine and2 (and2 (and2 (and2 (and2 (and2 (and2 (and2 (and2 (and2 (and2 (and2 (and2 (and2 (and2 (and2 (and2 (and2 (and2 (and2 (and2 (and2 (and2 (and2 (and2 (and2 (and2 (and2 (and2 (and2 (and2 (?_) ?_) ?_) ?_) ?_) ?_) ?_) ?_) ?_) ?_) ?_) ?_) ?_) ?_) ?_) ?_) ?_) ?_) ?_) ?_) ?_) ?_) ?_) ?_) ?_) ?_) ?_) ?_) ?_) ?_) ?_) ?_
  all_goals as_aux_lemma => kernel_rfl
theorem named : Tryz.pinned.checked.prog.funcNamed Rows.grantsChainRow.func = some 11 := by kernel_rfl
theorem instanceFact : Tryz.f11.isInstance Tryz.pinned.checked.prog Rows.grantsChainRow.origin Rows.grantsChainRow.targs := of_decide_eq_true (by kernel_rfl)
set_option maxHeartbeats 0 in
theorem wrapperFact : Tryz.f11.isWrapper Tryz.pinned.checked.prog Rows.grantsChainRow.wrapper Rows.grantsChainRow.mainSum := by
  unfold Func.isWrapper
  rw [if_neg (of_decide_eq_false (by as_aux_lemma => kernel_rfl))]
  exact ⟨rfl, rfl⟩

theorem said : Rows.GrantsChainSaid :=
  OpenClaim.holds_of_cond 11 Tryz.f11 rfl rfl rfl rfl rfl rfl rfl ⟨rfl, rfl, rfl, rfl, rfl⟩ rfl rfl rfl rfl rfl named Tryz.func11 facts instanceFact wrapperFact
    (fun os started H enc _ F => by rw [OpenClaim.pre_eq_preRow]; exact lifted os started H enc F)

theorem plain (f : FuncId) (fn : Func) (hf : Tryz.pinned.checked.prog.funcNamed "imprimatur/imprimaturlaw12.GrantsChain" = some f) (hfn : Tryz.pinned.checked.prog.funcs[f]? = some fn) :
    true = Tryz.pinned.checked.prog.looks [] ∧ ∀ (j : Nat) t, fn.params[j]? = some t → Tryz.pinned.checked.prog.wantsStandIn t = false := by
  obtain rfl : f = 11 := Option.some.inj ((show Tryz.prog.funcNamed "imprimatur/imprimaturlaw12.GrantsChain" = some 11 by kernel_rfl).symm.trans hf) |>.symm
  obtain rfl : fn = Tryz.f11 := (Option.some.inj (Tryz.func11.symm.trans hfn)).symm
  refine ⟨by kernel_rfl, fun j t ht => ?_⟩
  rw [Tryz.params11] at ht
  have hm : t ∈ #[3, 3, 3].toList := Array.mem_toList_iff.2 (Array.mem_of_getElem? ht)
  simp only [List.mem_cons, List.mem_nil_iff, or_false] at hm
  rcases hm with rfl | rfl | rfl
  · exact (show Tryz.prog.wantsStandIn 3 = false by kernel_rfl)
  · exact (show Tryz.prog.wantsStandIn 3 = false by kernel_rfl)
  · exact (show Tryz.prog.wantsStandIn 3 = false by kernel_rfl)

set_option maxHeartbeats 0 in
theorem card : Rows.GrantsChainCardSaid :=
  Claim7.holds_tied_plain_at .later [] _ _ _ _ said (fun _ h => by cases h) (by as_aux_lemma => kernel_rfl) (fun _ h => by cases h) grantsChain_row_tie rfl ⟨rfl, rfl⟩ (by as_aux_lemma => kernel_rfl) rfl plain (by as_aux_lemma => kernel_rfl)
#print axioms card
end Go.Proofs.YtckjdbmadheamaaGreatDoor.grantsChain
