/- A region that draws its order, whole; code; functions: what the abstract machine says, the model does. -/
import Derived.Test.YtckjdbmadheamaaGreatDoorR20
set_option linter.all false
namespace Go.Vai

section
variable {P : Program} {callF : CallF} {N : Nat} {ops : Array Oper} {E : Nat → Env} {H : Nat → AH} {V : Nat → AV} {ran : Nat → Bool}
variable {φ0 : Phi} {a0 : Act} {w0 : World}

theorem inv_start (D : Drawn P callF N ops E H V ran) (r0 : RelM φ0 (H 0) w0) (he : EnvR φ0 (E 0) a0.tmps) : Inv P callF ops E H V ran φ0 a0 w0 (fun _ => false) 0 φ0 a0 w0 := by
  have hcut : φ0.cut (H 0).next = φ0 := by
    funext A
    rcases Nat.lt_or_ge A (H 0).next with h | h
    · exact Phi.cut_lt _ h
    · rw [Phi.cut_ge _ h]
      cases hA : φ0 A with
      | none => rfl
      | some l => have := r0.dom A l hA; omega
  refine ⟨Nat.zero_le _, fun j o _ h => by simp at h, fun i o _ _ _ => by simp, by rw [hcut]; exact StepR.refl r0, ⟨fun i o d _ h => by simp at h, fun t x hx _ => he t x hx⟩, rfl, rfl, fun i o hi hc hr _ => ?_, fun i o _ _ _ h => by simp at h, fun A loc e hA => ?_, fun A B la lb ea hA => ?_, fun i o hi hc hr _ hle => ?_⟩
  · refine ⟨?_, fun h => by omega⟩
    have hi' := (Array.getElem?_eq_some_iff.1 hi).1
    have := D.mono (Nat.zero_le i) (by omega)
    cases hA : φ0 (H i).next with
    | none => rfl
    | some l => have := r0.dom _ l hA; omega
  · have := r0.dom A loc e; omega
  · have := r0.dom A la ea; omega
  · have : i = 0 := by omega
    subst this
    exact ⟨_, (D.tr.step 0 o (by simpa using hi)).2.1 hr⟩

theorem inv_end (D : Drawn P callF N ops E H V ran) {L : Nat → Bool} {m : Nat} {Φ : Phi} {a : Act} {w : World} (I : Inv P callF ops E H V ran φ0 a0 w0 L m Φ a w) (hall : ∀ i, i < ops.size → L i = true) :
    StepR φ0 Φ (H 0) (H ops.size) w0 w ∧ EnvR Φ (E ops.size) a.tmps ∧ a.tmps.size = a0.tmps.size ∧ a.defers = a0.defers := by
  obtain ⟨m', I', hstop⟩ := I.adv D (ops.size - m) m (Nat.le_refl _)
  have hm : m' = ops.size := by
    rcases Nat.lt_or_ge m' ops.size with h | h
    · exfalso
      have hom : ops[m']? = some ops[m'] := by simp
      obtain ⟨c1, c2⟩ := hstop _ hom
      have := (I'.eff m' _ hom c1 c2).1 (hall m' h)
      omega
    · have := I'.mle; omega
  subst hm
  have hcut : Φ.cut (H ops.size).next = Φ := by
    funext A
    rcases Nat.lt_or_ge A (H ops.size).next with h | h
    · exact Phi.cut_lt _ h
    · rw [Phi.cut_ge _ h]
      cases hA : Φ A with
      | none => rfl
      | some l =>
        obtain ⟨k, ok, _, _, h1, _, _, _, h5, _⟩ := I'.ex A l hA h
        have := (Array.getElem?_eq_some_iff.1 h1).1
        omega
  have hst := I'.st
  rw [hcut] at hst
  refine ⟨hst, fun t x hx => ?_, I'.sz, I'.df⟩
  by_cases hex : ∃ (j : Nat) (oj : Oper), ops[j]? = some oj ∧ oj.dst = some t
  · obtain ⟨j, oj, hj, hd⟩ := hex
    have hj' := (Array.getElem?_eq_some_iff.1 hj).1
    rw [D.env1 hj hd hj' (Nat.le_refl _)] at hx
    cases hx
    exact I'.slots.vals j oj t hj (hall j hj') hd
  · have hno : ∀ (j : Nat) (oj : Oper), ops[j]? = some oj → oj.dst ≠ some t := fun j oj hj hd => hex ⟨j, oj, hj, hd⟩
    rw [D.env2 (Nat.le_refl _) (fun j oj _ hj => hno j oj hj)] at hx
    exact I'.slots.olds t x hx (fun j oj hj _ => hno j oj hj)

theorem listed_all (hok : Okay P ops) {listed : Array Bool} (hsz : listed.size = ops.size) (h : Region.ready .any ops listed = []) : ∀ i, i < ops.size → listed.getD i false = true := by
  intro i
  induction i using Nat.strongRecOn with
  | ind i ih =>
    intro hi
    have ho : ops[i]? = some ops[i] := by simp
    cases hl : listed.getD i false with
    | true => rfl
    | false =>
      have : i ∈ Region.ready .any ops listed := by
        rw [mem_ready]
        refine ⟨?_, _, ho, fun e he hb => ?_⟩
        · have hlt : i < listed.size := by omega
          simp [hlt] at hl ⊢
          exact hl
        · have := hok.edge i _ ho e he hb
          exact ih e.on this (by omega)
      rw [h] at this; cases this

theorem draw_any (D : Drawn P callF N ops E H V ran) (hF : SimF P callF) (hg : GlobR φ0) (r0 : RelM φ0 (H 0) w0) (hN : N ≤ a0.tmps.size) {Q : Exit → Act → World → Prop}
    (hQ : ∀ Φ a w, StepR φ0 Φ (H 0) (H ops.size) w0 w → EnvR Φ (E ops.size) a.tmps → a.tmps.size = a0.tmps.size → a.defers = a0.defers → Q .normal a w) :
    ∀ (fuel : Nat) (listed : Array Bool) (m : Nat) (Φ : Phi) (a : Act) (w : World), listed.size = ops.size → listed.count false ≤ fuel → Inv P callF ops E H V ran φ0 a0 w0 (fun j => listed.getD j false) m Φ a w →
      wpAny P .any ops Q fuel listed a w := by
  intro fuel
  induction fuel with
  | zero =>
    intro listed m Φ a w hsz hcount I
    have hall : ∀ i, i < ops.size → listed.getD i false = true := fun i hi => by
      have hlt : i < listed.size := by omega
      have : false ∉ listed := by
        have h0 : listed.count false = 0 := by omega
        exact Array.count_eq_zero.1 h0
      cases hl : listed[i] with
      | true => simp [hlt, hl]
      | false => exact absurd (hl ▸ Array.getElem_mem hlt) this
    refine ⟨?_, ?_⟩
    · rw [List.eq_nil_iff_forall_not_mem]
      intro i hi
      obtain ⟨h1, o, ho, _⟩ := mem_ready.1 hi
      have hlt := (Array.getElem?_eq_some_iff.1 ho).1
      have h2 := hall i hlt
      have hlt' : i < listed.size := by omega
      simp [hlt'] at h1 h2
      rw [h1] at h2; cases h2
    · obtain ⟨h1, h2, h3, h4⟩ := inv_end D I hall
      exact hQ Φ a w h1 h2 h3 h4
  | succ fuel ih =>
    intro listed m Φ a w hsz hcount I
    refine ⟨fun hr => ?_, fun i hi => ?_⟩
    · obtain ⟨h1, h2, h3, h4⟩ := inv_end D I (listed_all D.ok hsz hr)
      exact hQ Φ a w h1 h2 h3 h4
    · obtain ⟨h1, o, ho, hall⟩ := mem_ready.1 hi
      have hlt := (Array.getElem?_eq_some_iff.1 ho).1
      have hlt' : i < listed.size := by omega
      have hun : listed[i] = false := by simpa [hlt'] using h1
      obtain ⟨m', I', hstop⟩ := I.adv D (ops.size - m) m (Nat.le_refl _)
      refine I'.step D hF hg r0 hN hstop ⟨ho, by simp [hlt', hun], hall⟩ (fun m2 Φ2 a2 w2 I2 => ?_)
      refine ih _ m2 Φ2 a2 w2 (by simp [hsz]) ?_ ?_
      · rw [Array.setIfInBounds, dif_pos hlt', Array.count_set hlt']
        have : 0 < listed.count false := Array.count_pos_iff.2 (hun ▸ Array.getElem_mem hlt')
        simp [hun]
        omega
      · have : (fun j => (listed.setIfInBounds i true).getD j false) = updL (fun j => listed.getD j false) i := by
          funext j
          unfold updL
          by_cases hj : j = i
          · subst hj; simp [hlt']
          · simp [hj, Array.getElem?_setIfInBounds_ne (Ne.symm hj)]
        rw [this]
        exact I2

end

def exOf : Ex → Exit
  | .normal => .normal
  | .exit k => .exit k
  | .ret => .ret

section
variable {P : Program} {callF : CallF} {N : Nat}

theorem sim_draw (hF : SimF P callF) (hm : P.follows .mixedOrders = true) {id : Nat} {ops : Array Oper} {e e' : Env} {h h' : AH} {φ : Phi} {a : Act} {w : World} {Q : Exit → Act → World → Prop} (hv : evDraw P callF N ops e h = some (e', h'))
    (he : EnvR φ e a.tmps) (hN : N ≤ a.tmps.size) (hg : GlobR φ) (r : RelM φ h w)
    (hQ : ∀ φ' a' w', StepR φ φ' h h' w w' → EnvR φ' e' a'.tmps → a'.tmps.size = a.tmps.size → a'.defers = a.defers → Q .normal a' w') : (Code.region id ops true).wp P Q a w := by
  obtain ⟨E, H, V, ran, D, rfl, rfl, rfl, rfl⟩ := evDraw_spec hv
  refine wp_region_any hm ?_
  have r' : RelM φ (H 0) { w with drawn := w.drawn + 1 } := rel_grow r (fun i x hx => hx)
  refine draw_any (φ0 := φ) (a0 := a) (w0 := { w with drawn := w.drawn + 1 }) D hF hg r' hN (fun Φ a2 w2 s1 s2 s3 s4 => ?_) ops.size (Array.replicate ops.size false) 0 φ a _ (by simp) (by simp) ?_
  · refine hQ Φ a2 w2 ?_ s2 s3 s4
    exact ⟨s1.ext, s1.rel, s1.next, s1.old, s1.size, s1.frame, s1.own, s1.live, s1.os, s1.tape, s1.output⟩
  · have : (fun j => (Array.replicate ops.size false).getD j false) = fun _ => false := by
      funext j
      by_cases hj : j < ops.size <;> simp [hj]
    rw [this]
    exact inv_start D r' he

theorem sim_region (hF : SimF P callF) {id : Nat} {ops : Array Oper} {e e' : Env} {h h' : AH} {φ : Phi} {a : Act} {w : World} {Q : Exit → Act → World → Prop} (hv : evOps P callF N ops ops.toList e h = some (e', h'))
    (he : EnvR φ e a.tmps) (hN : N ≤ a.tmps.size) (hg : GlobR φ) (r : RelM φ h w)
    (hQ : ∀ φ' a' w', StepR φ φ' h h' w w' → EnvR φ' e' a'.tmps → a'.tmps.size = a.tmps.size → a'.defers = a.defers → Q .normal a' w') : (Code.region id ops false).wp P Q a w := by
  refine wp_region ?_
  have := sim_ops (P := P) (ops := ops) (Q := Q) hF ops.toList 0 e e' h h' φ a w (by simp) hv he hN hg r hQ
  rw [List.range_eq_range']
  simpa using this

/-- a loop, by the number of its rounds -/
theorem wp_loop_n {c : Code} {Q : Exit → Act → World → Prop} (R : Nat → Act → World → Prop) (zero : ∀ a w, ¬ R 0 a w) (round : ∀ n a w, R (n + 1) a w → c.wp P (Exit.then (R n) Q) a w) {n : Nat} {a : Act} {w : World} (h : R n a w) : (Code.loop c).wp P Q a w := by
  intro b k cs
  have key : ∀ n a w, R n a w → ∃ e a' w', Q e a' w' ∧ Arrives P (lone (b.at a (.code c :: .inLoop c :: k)) cs w) b k cs e a' w' := by
    intro n
    induction n with
    | zero => intro a w h; exact absurd h (zero a w)
    | succ n ih =>
      intro a w h
      obtain ⟨e, a₁, w₁, hq, harr⟩ := round n a w h b (.inLoop c :: k) cs
      cases e with
      | normal =>
        obtain ⟨e₂, a₂, w₂, hq₂, harr₂⟩ := ih a₁ w₁ hq
        exact ⟨e₂, a₂, w₂, hq₂, .of_steps (Steps.trans harr (.one step_inLoop)) harr₂⟩
      | exit id => exact ⟨_, a₁, w₁, hq, .pass (x := .inLoop c) rfl (fun _ _ => .inl (by simp)) harr⟩
      | goto l => exact ⟨_, a₁, w₁, hq, .pass (x := .inLoop c) rfl (fun _ _ => .inl (by simp)) harr⟩
      | ret => exact ⟨_, a₁, w₁, hq, .pass (x := .inLoop c) rfl (fun _ _ => .inl (by simp)) harr⟩
      | panic ch => exact ⟨_, a₁, w₁, hq, .pass (x := .inLoop c) rfl (fun _ _ => .inl (by simp)) harr⟩
      | outgrown => exact ⟨_, a₁, w₁, hq, .pass (x := .inLoop c) rfl (fun _ _ => .inl (by simp)) harr⟩
  obtain ⟨e, a', w', hq, harr⟩ := key n a w h
  exact ⟨e, a', w', hq, .of_steps (.one step_loop) harr⟩

theorem sim_code (hF : SimF P callF) (hm : P.follows .mixedOrders = true) (n : Nat) : ∀ (c : Code) (e : Env) (h : AH) (x : Ex) (e' : Env) (h' : AH) (φ : Phi) (a : Act) (w : World) (Q : Exit → Act → World → Prop), evC P callF N n c e h = some (x, e', h') →
    EnvR φ e a.tmps → N ≤ a.tmps.size → GlobR φ → RelM φ h w →
    (∀ φ' a' w', StepR φ φ' h h' w w' → EnvR φ' e' a'.tmps → a'.tmps.size = a.tmps.size → a'.defers = a.defers → Q (exOf x) a' w') → c.wp P Q a w := by
  intro c
  induction c with
  | skip =>
    intro e h x e' h' φ a w Q hv he hN hg r hQ
    cases hv
    exact wp_skip (hQ φ a w (StepR.refl r) he rfl rfl)
  | label l =>
    intro e h x e' h' φ a w Q hv he hN hg r hQ
    cases hv
    exact wp_label (hQ φ a w (StepR.refl r) he rfl rfl)
  | exit id =>
    intro e h x e' h' φ a w Q hv he hN hg r hQ
    cases hv
    exact wp_exit (hQ φ a w (StepR.refl r) he rfl rfl)
  | ret =>
    intro e h x e' h' φ a w Q hv he hN hg r hQ
    cases hv
    exact wp_ret (hQ φ a w (StepR.refl r) he rfl rfl)
  | region id ops draw =>
    intro e h x e' h' φ a w Q hv he hN hg r hQ
    simp only [evC, Option.bind_eq_bind] at hv
    cases draw with
    | true =>
      obtain ⟨⟨e1, h1⟩, h2, hv⟩ := Option.bind_eq_some_iff.1 (show (evDraw P callF N ops e h).bind _ = _ from hv)
      cases hv
      exact sim_draw hF hm h2 he hN hg r hQ
    | false =>
      obtain ⟨⟨e1, h1⟩, h2, hv⟩ := Option.bind_eq_some_iff.1 (show (evOps P callF N ops ops.toList e h).bind _ = _ from hv)
      cases hv
      exact sim_region hF h2 he hN hg r hQ
  | seq y z ihy ihz =>
    intro e h x e' h' φ a w Q hv he hN hg r hQ
    simp only [evC, Option.bind_eq_bind] at hv
    obtain ⟨⟨x1, e1, h1⟩, h2, hv⟩ := Option.bind_eq_some_iff.1 hv
    refine wp_seq (ihy e h x1 e1 h1 φ a w _ h2 he hN hg r (fun φ1 a1 w1 s1 s2 s3 s4 => ?_))
    cases x1 with
    | normal =>
      exact ihz e1 h1 x e' h' φ1 a1 w1 Q hv s2 (by rw [s3]; exact hN) (hg.mono s1.ext) s1.rel (fun φ2 a2 w2 t1 t2 t3 t4 => hQ φ2 a2 w2 (s1.trans t1) t2 (t3.trans s3) (t4.trans s4))
    | exit k => cases hv; exact hQ φ1 a1 w1 s1 s2 s3 s4
    | ret => cases hv; exact hQ φ1 a1 w1 s1 s2 s3 s4
  | cond c y z ihy ihz =>
    intro e h x e' h' φ a w Q hv he hN hg r hQ
    simp only [evC, Option.bind_eq_bind] at hv
    obtain ⟨b, hb, hv⟩ := Option.bind_eq_some_iff.1 hv
    have hbr := opd_R he hg hb
    split at hv
    · exact wp_cond_true hbr.bool_inv (ihy e h x e' h' φ a w Q hv he hN hg r hQ)
    · exact wp_cond_false hbr.bool_inv (ihz e h x e' h' φ a w Q hv he hN hg r hQ)
    · cases hv
  | block id b ih =>
    intro e h x e' h' φ a w Q hv he hN hg r hQ
    simp only [evC, Option.bind_eq_bind] at hv
    obtain ⟨⟨x1, e1, h1⟩, h2, hv⟩ := Option.bind_eq_some_iff.1 hv
    refine wp_block (ih e h x1 e1 h1 φ a w _ h2 he hN hg r (fun φ1 a1 w1 s1 s2 s3 s4 => ?_))
    cases x1 with
    | normal => cases hv; exact hQ φ1 a1 w1 s1 s2 s3 s4
    | ret => cases hv; exact hQ φ1 a1 w1 s1 s2 s3 s4
    | exit k =>
      dsimp only at hv
      simp only [exOf, Exit.inBlock]
      split at hv
      · rename_i hk
        cases hv
        rw [if_pos hk]
        exact hQ φ1 a1 w1 s1 s2 s3 s4
      · rename_i hk
        cases hv
        rw [if_neg hk]
        exact hQ φ1 a1 w1 s1 s2 s3 s4
  | loop b ih =>
    intro e h x e' h' φ a w Q hv he hN hg r hQ
    simp only [evC] at hv
    refine wp_loop_n (fun k a1 w1 => ∃ φ1 e1 h1, loopA (evC P callF N n b) k e1 h1 = some (x, e', h') ∧ StepR φ φ1 h h1 w w1 ∧ EnvR φ1 e1 a1.tmps ∧ a1.tmps.size = a.tmps.size ∧ a1.defers = a.defers) ?_ ?_ ⟨φ, e, h, hv, StepR.refl r, he, rfl, rfl⟩
    · rintro a1 w1 ⟨φ1, e1, h1, h2, _⟩
      cases h2
    · rintro k a1 w1 ⟨φ1, e1, h1, h2, s1, s2, s3, s4⟩
      simp only [loopA, Option.bind_eq_bind] at h2
      obtain ⟨⟨x2, e2, h3⟩, h4, h2⟩ := Option.bind_eq_some_iff.1 h2
      refine ih e1 h1 x2 e2 h3 φ1 a1 w1 _ h4 s2 (by rw [s3]; exact hN) (hg.mono s1.ext) s1.rel (fun φ2 a2 w2 t1 t2 t3 t4 => ?_)
      cases x2 with
      | normal => exact ⟨φ2, e2, h3, h2, s1.trans t1, t2, t3.trans s3, t4.trans s4⟩
      | exit q => cases h2; exact hQ φ2 a2 w2 (s1.trans t1) t2 (t3.trans s3) (t4.trans s4)
      | ret => cases h2; exact hQ φ2 a2 w2 (s1.trans t1) t2 (t3.trans s3) (t4.trans s4)
  | _ => intro e h x e' h' φ a w Q hv; cases hv

def resV (tmps : Array Value) : ResultVar → Sem Value
  | .tmp t => pure (tmps.getD t undef)
  | .cell a t => do loadVar t (← asAddr (tmps.getD a undef))

theorem run_mapM {e : Env} {h : AH} {φ : Phi} {tmps : Array Value} {w : World} (he : EnvR φ e tmps) (r : RelM φ h w) : ∀ (l : List ResultVar) (vs : List AV), resultsA P e h l = some vs →
    ∃ us, VRL φ vs us ∧ (l.mapM (resV tmps)).run P w = .ok us w
  | [], vs, hv => by
    cases hv
    exact ⟨[], .nil, rfl⟩
  | .tmp t :: l, vs, hv => by
    simp only [resultsA, Option.bind_eq_bind, Option.pure_def] at hv
    obtain ⟨v, h1, hv⟩ := Option.bind_eq_some_iff.1 hv
    obtain ⟨q, h2, hv⟩ := Option.bind_eq_some_iff.1 hv
    cases hv
    obtain ⟨us, hus, hrun⟩ := run_mapM he r l q h2
    obtain ⟨u, hu, hr⟩ := he t v h1
    refine ⟨u :: us, .cons hr hus, ?_⟩
    have hd : (resV tmps (.tmp t)).run P w = .ok u w := by
      simp only [resV, Array.getD_eq_getD_getElem?, hu, Option.getD_some, Sem.run_pure]
    simp only [List.mapM_cons, Sem.run_bind, hd, Sem.run_pure, Result.andThen_ok, hrun]
  | .cell a t :: l, vs, hv => by
    simp only [resultsA, Option.bind_eq_bind, Option.pure_def] at hv
    obtain ⟨p, h1, hv⟩ := Option.bind_eq_some_iff.1 hv
    split at hv
    · obtain ⟨v, h3, hv⟩ := Option.bind_eq_some_iff.1 hv
      obtain ⟨q, h2, hv⟩ := Option.bind_eq_some_iff.1 hv
      cases hv
      obtain ⟨us, hus, hrun⟩ := run_mapM he r l q h2
      obtain ⟨u, hu, hr⟩ := he a _ h1
      obtain ⟨loc, hb, rfl⟩ := hr.ptr_inv
      obtain ⟨u2, hrun2, hr2⟩ := run_loadT (P := P) r hb h3
      refine ⟨u2 :: us, .cons hr2 hus, ?_⟩
      have hd : (resV tmps (.cell a t)).run P w = .ok u2 w := by
        simp only [resV, Array.getD_eq_getD_getElem?, hu, Option.getD_some, asAddr, Sem.run_bind, Sem.run_pure, Result.andThen_ok, hrun2]
      simp only [List.mapM_cons, Sem.run_bind, hd, Sem.run_pure, Result.andThen_ok, hrun]
    · cases hv

theorem sim_results {fn : Func} {r0 : Ex × Env × AH} {v : AV} {h' : AH} {φ : Phi} {tmps : Array Value} {w : World} (hv : finishA P fn r0 = some (v, h')) (he : EnvR φ r0.2.1 tmps) (r : RelM φ r0.2.2 w) :
    h' = r0.2.2 ∧ (r0.1 = .normal ∨ r0.1 = .ret) ∧ ∃ u, VR φ v u ∧ (results fn tmps).run P w = .ok u w := by
  unfold finishA at hv
  have hx : r0.1 = .normal ∨ r0.1 = .ret := by
    cases h : r0.1 with
    | normal => exact .inl rfl
    | ret => exact .inr rfl
    | exit k => rw [h] at hv; cases hv
  have hv' : ((resultsA P r0.2.1 r0.2.2 fn.results.toList).bind fun l => match l with
      | [v] => some (v, r0.2.2)
      | l => some (.tup l, r0.2.2)) = some (v, h') := by
    rcases hx with h | h <;> rw [h] at hv <;> exact hv
  obtain ⟨l, hl, hv2⟩ := Option.bind_eq_some_iff.1 hv'
  obtain ⟨us, hus, hrun⟩ := run_mapM he r _ _ hl
  have hres : (results fn tmps).run P w = .ok (if h : us.toArray.size = 1 then us.toArray[0] else .tuple us.toArray) w := by
    have h0 : results fn tmps = (do
        let vs ← fn.results.mapM (resV tmps)
        pure (if h : vs.size = 1 then vs[0] else .tuple vs)) := rfl
    rw [h0, Sem.run_bind, Array.mapM_eq_mapM_toList, Sem.run_map, hrun]
    rfl
  split at hv2
  · cases hv2
    refine ⟨rfl, hx, ?_⟩
    obtain ⟨u, l2, rfl, hu, h2⟩ := hus.uncons
    cases h2.nil_right
    exact ⟨u, hu, by rw [hres]; rfl⟩
  · rename_i hne
    cases hv2
    refine ⟨rfl, hx, .tuple us.toArray, VR.tup_of hus, ?_⟩
    rw [hres, dif_neg]
    intro h1
    have : us.length = 1 := by simpa using h1
    rw [← hus.1] at this
    match l, this with
    | [x], _ => exact hne x rfl

end
end Go.Vai
