/- Functions: what the abstract machine says of a call, the model does, whatever is drawn. -/
import Derived.Test.YtckjdbmadheamaaGreatDoorR21
set_option linter.all false
namespace Go.Vai

structure Setting (P : Program) (ext : FuncId → Option Row) : Prop where
  order : P.follows .mixedOrders = true
  glob : P.globals.size < 1000
  row : ∀ (f : FuncId) (r : Row), ext f = some r → ∃ fn, P.funcs[f]? = some fn ∧ fn.body = none ∧ fn.name = rowName r ∧ Extern.allNextRows.lookup fn.origin = none
  names : ∀ (f : FuncId) (fn : Func), P.funcs[f]? = some fn → (fn.name == "runtime.NumGoroutine") = false

theorem enter_R {φ : Phi} {tmps : Array Value} : ∀ (l : List AV) (i : Nat), (∀ (j : Nat) (x : AV), l[j]? = some x → ∃ u, tmps[i + j]? = some u ∧ VR φ x u) → EnvR φ (enterE l i) tmps
  | [], i, _ => fun t x hx => by cases hx
  | v :: l, i, h => fun t x hx => by
    simp only [enterE] at hx
    split at hx
    · rename_i ht
      cases hx
      subst ht
      simpa using h 0 v rfl
    · refine enter_R l (i + 1) (fun j y hy => ?_) t x hx
      have := h (j + 1) y (by simpa using hy)
      rw [show i + 1 + j = i + (j + 1) from by omega]
      exact this

theorem sim_F {P : Program} {ext : FuncId → Option Row} (S : Setting P ext) : ∀ n, SimF P (evF P ext n) := by
  intro n
  induction n with
  | zero => intro f args h v h' hv; cases hv
  | succ n ih =>
    intro f args h v h' hv φ w vs hg r hvs
    simp only [evF] at hv
    cases hx : ext f with
    | some row =>
      rw [hx] at hv
      dsimp only at hv
      obtain ⟨fn, hf, hb, hnm, hor⟩ := S.row f row hx
      obtain ⟨u, w', φ', hrun, hst, hvr⟩ := rowA_R (P := P) S.glob hg r hv hvs
      have : (callFunc f vs).run P w = .ok (.value u) w' := by
        simp only [callFunc, Sem.run_bind, run_program, Result.andThen_ok, hf, S.names f fn hf, hb, Option.isNone_none, Bool.false_eq_true, if_false, if_true, findNext_row hnm hor, find_row hnm]
        simp [mark, Sem.run, hrun]
      rw [this]
      exact ⟨φ', hst, hvr⟩
    | none =>
      rw [hx] at hv
      simp only [Option.bind_eq_bind] at hv
      obtain ⟨fn, hf, hv⟩ := Option.bind_eq_some_iff.1 hv
      obtain ⟨c, hc, hv⟩ := Option.bind_eq_some_iff.1 hv
      split at hv
      · cases hv
      rename_i hlen
      obtain ⟨r0, hr0, hfin⟩ := Option.bind_eq_some_iff.1 hv
      have : (callFunc f vs).run P w = .ok (.enter f vs) w := by
        simp only [callFunc, Sem.run_bind, run_program, Result.andThen_ok, hf, S.names f fn hf, hc, Option.isNone_some, Bool.false_eq_true, if_false]
        rfl
      rw [this]
      obtain ⟨x, e', h1⟩ := r0
      have hsz : vs.size = args.length := by have := hvs.1; simpa using this.symm
      refine calls_of_wp hf hc (sim_code (N := fn.ntmps) ih S.order n c _ h x e' h1 φ _ w _ hr0 ?_ ?_ hg r (fun φ' a' w' s1 s2 s3 s4 => ?_))
      · refine enter_R args 0 (fun j y hy => ?_)
        obtain ⟨u, hu, hr⟩ := hvs.get hy
        refine ⟨u, ?_, hr⟩
        have hlt := (List.getElem?_eq_some_iff.1 hu).1
        dsimp only
        rw [Nat.zero_add, Array.getElem?_append_left (by simpa using hlt)]
        simpa using hu
      · simp; omega
      · obtain ⟨rfl, hxx, u, hu, hrun⟩ := sim_results (P := P) hfin s2 s1.rel
        dsimp only at hxx
        rcases hxx with rfl | rfl <;> exact ⟨s4, u, hrun, φ', s1, hu⟩

/-- what the abstract machine says of a call of a function with a body -/
theorem calls_of_evF {P : Program} {ext : FuncId → Option Row} (S : Setting P ext) {n : Nat} {f : FuncId} {fn : Func} {c : Code} {args : List AV} {h h' : AH} {v : AV} {φ : Phi} {w : World} {vs : Array Value} (hf : P.funcs[f]? = some fn) (hc : fn.body = some c)
    (hv : evF P ext n f args h = some (v, h')) (hg : GlobR φ) (r : RelM φ h w) (hvs : VRL φ args vs.toList) :
    Calls P f vs w fun | .returned u, w' => ∃ φ', StepR φ φ' h h' w w' ∧ VR φ' v u | _, _ => False := by
  have h1 := sim_F S n f args h v h' hv φ w vs hg r hvs
  have : (callFunc f vs).run P w = .ok (.enter f vs) w := by
    simp only [callFunc, Sem.run_bind, run_program, Result.andThen_ok, hf, S.names f fn hf, hc, Option.isNone_some, Bool.false_eq_true, if_false]
    rfl
  rw [this] at h1
  exact h1

#print axioms calls_of_evF

end Go.Vai
