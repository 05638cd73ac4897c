/- Effects and calls: what an operation comes to, once what it calls has returned. -/
import Derived.Test.YtckjdbmadheamaaGreatDoorR13
set_option linter.all false
namespace Go.Vai

/-- what a word of the model comes to, once what it enters has returned -/
def After (P : Program) (R : Value → World → Prop) : Result Next → Prop
  | .ok (.value u) w' => R u w'
  | .ok .skip w' => R undef w'
  | .ok (.enter f args) w' => Calls P f args w' fun
      | .returned v, w'' => R v w''
      | _, _ => False
  | _ => False

theorem After.mono {P : Program} {R R' : Value → World → Prop} {x : Result Next} (h : After P R x) (k : ∀ u w, R u w → R' u w) : After P R' x := by
  cases x with
  | halt q w => exact h
  | ok n w =>
    cases n <;> first | exact h | exact k _ _ h | skip
    exact Calls.mono h fun e w' => by cases e <;> first | exact k _ _ | exact id

theorem After.upon {P : Program} {o : Oper} {a : Act} {next : Act → World → Prop} {Q : Exit → Act → World → Prop} {x : Result Next} (h : After P (fun u w' => next (a.put o.dst u) w') x) : o.upon P a next Q x := by
  cases x with
  | halt q w => exact h.elim
  | ok n w =>
    cases n <;> first | exact h | exact h.elim | skip
    exact Calls.mono h fun e w' => by cases e <;> first | exact id | exact False.elim

/-- what a call of the abstract machine says of the model's call -/
def SimF (P : Program) (callF : CallF) : Prop := ∀ f args h v h', callF f args h = some (v, h') → ∀ (φ : Phi) (w : World) (vs : Array Value), GlobR φ → RelM φ h w → VRL φ args vs.toList →
  After P (fun u w' => ∃ φ', StepR φ φ' h h' w w' ∧ VR φ' v u) ((callFunc f vs).run P w)

theorem cons_get (x : Value) (vs : Array Value) : (#[x] ++ vs)[0]? = some x := by
  cases vs; simp
theorem cons_rest (x : Value) (vs : Array Value) : (#[x] ++ vs).extract 1 (#[x] ++ vs).size = vs := by
  cases vs with | mk l => simp

section
variable {φ : Phi} {e : Env} {a : Act} {P : Program} {callF : CallF}

theorem follow_R : ∀ (path : List FieldStep) (t : TypeId) (v : AV) (u : Value) (xt : TypeId) (x : AV), followA P path t v = some (xt, x) → VR φ v u →
    ∃ u', VR φ x u' ∧ ∀ w, (follow path t (.val u)).run P w = .ok (xt, .val u') w
  | [], t, v, u, xt, x, h, hr => by
    cases h
    exact ⟨u, hr, fun w => rfl⟩
  | s :: rest, t, v, u, xt, x, h, hr => by
    unfold followA at h
    split at h
    · rename_i l fs hde hfs
      simp only [Option.bind_eq_bind] at h
      obtain ⟨f, hf, h⟩ := Option.bind_eq_some_iff.1 h
      obtain ⟨y, hy, h⟩ := Option.bind_eq_some_iff.1 h
      obtain ⟨cs, rfl, hcs, hat⟩ := hr.agg_inv
      obtain ⟨yu, hyr, hyrun⟩ := run_part (P := P) hcs hat hy
      obtain ⟨u', hu', hrun⟩ := follow_R rest f.type y yu xt x h hyr
      refine ⟨u', hu', fun w => ?_⟩
      simp only [follow, Sem.run_bind, run_underlying' hfs, Result.andThen_ok, hf, hde, Bool.false_eq_true, if_false, hyrun, hrun]
    · cases h

theorem method_R {t : TypeId} {v x : AV} {u : Value} {name : String} {g : FuncId} (h : methodA P t v name = some (g, x)) (hr : VR φ v u) (n : Nat) :
    ∃ xu, VR φ x xu ∧ ∀ w, (method (n + 1) t u name).run P w = .ok (g, xu) w := by
  unfold methodA at h
  simp only [Option.bind_eq_bind] at h
  obtain ⟨i, hi, h⟩ := Option.bind_eq_some_iff.1 h
  obtain ⟨m, hm, h⟩ := Option.bind_eq_some_iff.1 h
  obtain ⟨⟨xt, y⟩, hy, h⟩ := Option.bind_eq_some_iff.1 h
  obtain ⟨⟨f, p⟩, hp, h⟩ := Option.bind_eq_some_iff.1 h
  obtain ⟨u', hu', hrun⟩ := follow_R _ _ _ _ _ _ hy hr
  dsimp only at h
  split at h
  · rename_i el hd
    cases h
    refine ⟨u', hu', fun w => ?_⟩
    simp only [method, typeInfo, Sem.run_bind, run_program, hi, Result.andThen_ok, hm, hrun, hp, receiverAt, run_underlying' hd, Place.get, Sem.run_pure]
  · cases h
  · rename_i d hne hd
    cases h
    refine ⟨u', hu', fun w => ?_⟩
    simp only [method, typeInfo, Sem.run_bind, run_program, hi, Result.andThen_ok, hm, hrun, hp, receiverAt, run_underlying' hd, Place.get, Sem.run_pure]
  · cases h

theorem callMethod_R (hF : SimF P callF) {h h' : AH} {w : World} (hg : GlobR φ) (r : RelM φ h w) {t : TypeId} {x v rv : AV} {u : Value} {name : String} {g : FuncId} {args : List AV} {vs : Array Value}
    (hm : methodA P t x name = some (g, rv)) (hx : VR φ x u) (hvs : VRL φ args vs.toList) (hv : callF g (rv :: args) h = some (v, h')) :
    After P (fun u w' => ∃ φ', StepR φ φ' h h' w w' ∧ VR φ' v u) ((callMethod (.iface t u) name vs).run P w) := by
  obtain ⟨ru, hru, hrun⟩ := method_R hm hx (P.types.size + 99)
  have := hF g (rv :: args) h v h' hv φ w (#[ru] ++ vs) hg r (by simpa using VRL.cons hru hvs)
  simp only [callMethod, Sem.run_bind, run_program, Result.andThen_ok]
  rw [show P.types.size + Made.depth = P.types.size + 99 + 1 from rfl, hrun]
  exact this

theorem append_inv {h h' : AH} {ts : List TypeId} {vs : List AV} {v : AV} (hv : builtinA P h .append ts vs = some (v, h')) : ∃ t u s x, ts = [t, u] ∧ vs = [s, x] ∧ appendA P h t u s x = some (v, h') := by
  rcases ts with _ | ⟨t, _ | ⟨u, _ | _⟩⟩ <;> rcases vs with _ | ⟨s, _ | ⟨x, _ | _⟩⟩ <;> first | (cases hv; done) | exact ⟨t, u, s, x, rfl, rfl, hv⟩

theorem copy_inv {h h' : AH} {ts : List TypeId} {vs : List AV} {v : AV} (hv : builtinA P h .copy ts vs = some (v, h')) : ∃ t us el d s, ts = t :: us ∧ vs = [d, s] ∧ P.underlying t = some (.slice el) ∧ (do
        let size ← sizeT P el
        if size = 0 then none else
        let (n, l) ← srcCells h size s
        match d with
        | .slice b o len sz _ =>
          if sz ≠ size then none else do
          let h' ← storeCells h b o (l.take (min n len * size))
          pure (AV.int .i64 (min n len : Nat), h')
        | .nils => pure (AV.int .i64 0, h)
        | _ => none) = some (v, h') := by
  rcases ts with _ | ⟨t, us⟩ <;> rcases vs with _ | ⟨s, _ | ⟨x, _ | _⟩⟩ <;> first | (cases hv; done) | skip
  unfold builtinA at hv
  dsimp only at hv
  split at hv
  · exact ⟨t, us, _, s, x, rfl, rfl, ‹_›, hv⟩
  · cases hv

theorem clear_inv {h h' : AH} {ts : List TypeId} {vs : List AV} {v : AV} (hv : builtinA P h .clear ts vs = some (v, h')) : ∃ t us x, ts = t :: us ∧ vs = [x] ∧ clearP P h t x = some (v, h') := by
  rcases ts with _ | ⟨t, us⟩ <;> rcases vs with _ | ⟨x, _ | _⟩ <;> first | (cases hv; done) | skip
  exact ⟨t, us, x, rfl, rfl, hv⟩

theorem sim_eff {o : Oper} {h h' : AH} {w : World} {v : AV} (hF : SimF P callF) (he : EnvR φ e a.tmps) (hg : GlobR φ) (r : RelM φ h w) (hc : cls P o.op = .eff) (hv : evOp P callF e h o.op = some (v, h')) :
    After P (fun u w' => ∃ φ', StepR φ φ' h h' w w' ∧ VR φ' v u) ((execOp a.eval o).run P w) := by
  obtain ⟨dst, op, type, pos, after, guard⟩ := o
  cases op <;> simp only [cls] at hc <;> first | (cases hc; done) | (cases hv; done) | skip
  case store t p x =>
    simp only [evOp, Option.bind_eq_bind] at hv
    obtain ⟨y, hy, hv⟩ := Option.bind_eq_some_iff.1 hv
    obtain ⟨q, hq, hv⟩ := Option.bind_eq_some_iff.1 hv
    split at hv
    · rename_i b o
      simp only [Option.map_eq_some_iff, Prod.mk.injEq] at hv
      obtain ⟨h2, hst, rfl, rfl⟩ := hv
      obtain ⟨loc, hb, hu⟩ := (opd_R he hg hq).ptr_inv
      obtain ⟨w', hrun, hs⟩ := run_storeT (P := P) r hb hst (opd_R he hg hy)
      simp only [execOp, hu, Instr.storeAt, Instr.sureAddr, Sem.run_bind, Sem.run_pure, Result.andThen_ok, hrun]
      exact ⟨φ, hs, by simpa [undef] using VR.tup_of (φ := φ) .nil⟩
    · cases hv
  case mapUpdate t m k x =>
    simp only [evOp, Option.bind_eq_bind] at hv
    obtain ⟨y, hy, hv⟩ := Option.bind_eq_some_iff.1 hv
    obtain ⟨q, hq, hv⟩ := Option.bind_eq_some_iff.1 hv
    obtain ⟨z, hz, hv⟩ := Option.bind_eq_some_iff.1 hv
    cases hst : mapUpdA P h t y q z with
    | none => rw [hst] at hv; simp at hv
    | some h2 =>
      rw [hst] at hv
      simp at hv
      obtain ⟨_, rfl, rfl⟩ := hv
      obtain ⟨w', hrun, hs⟩ := sim_mapUpdate (P := P) r (opd_R he hg hy) (opd_R he hg hq) (opd_R he hg hz) hst
      simp only [execOp, Sem.run_bind, hrun, Result.andThen_ok]
      exact ⟨φ, hs, by simpa [undef] using VR.tup_of (φ := φ) .nil⟩
  case convert s d x =>
    simp only [evOp, Option.bind_eq_bind] at hv
    obtain ⟨p, hp, hv⟩ := Option.bind_eq_some_iff.1 hv
    have hr := opd_R he hg hp
    unfold convertA at hv
    split at hv
    · rename_i sd k k' n hs hd
      rw [hs, hd] at hc; cases sd <;> cases hc
    · rename_i sd st hs hd
      cases hv
      have hrun : (execOp a.eval ⟨dst, .convert s d x, type, pos, after, guard⟩).run P w = .ok (.value (.string st)) w := by
        simp only [execOp, convert, hr.str_inv, Sem.run_bind, run_underlying' hs, run_underlying' hd, Result.andThen_ok]
        cases sd <;> rfl
      rw [hrun]
      exact ⟨φ, StepR.refl r, .str _⟩
    · rename_i el st hs hd
      rw [hs, hd] at hc; cases hc
    · rename_i el hs hd
      rw [hs, hd] at hc; cases hc
    · rename_i el b o len sz tight hs hd
      rw [hs, hd] at hc; cases hc
    · cases hv
  case call c =>
    simp only [evOp, Option.bind_eq_bind] at hv
    obtain ⟨vs, hvs, hv⟩ := Option.bind_eq_some_iff.1 hv
    have hr := opds_R he hg _ _ hvs
    have hmap : (c.args.map a.eval).toList = c.args.toList.map a.eval := by simp
    rw [← hmap] at hr
    split at hv
    · rename_i b hb
      rw [hb] at hc
      rw [run_builtin rfl hb]
      cases b <;> first | (cases hc; done) | skip
      case append =>
        obtain ⟨t, u, s, x, hts, rfl, hv2⟩ := append_inv hv
        obtain ⟨su, l1, e1, hs, hr⟩ := hr.uncons
        obtain ⟨xu, l2, rfl, hx, hr⟩ := hr.uncons
        cases hr.nil_right
        obtain ⟨u', w', φ', hrun, hst, hvr⟩ := sim_append (ty := type) r hv2 hs hx
        have e2 : c.argTypes = #[t, u] := by rw [← Array.toList_inj, hts]
        have e3 : c.args.map a.eval = #[su, xu] := by rw [← Array.toList_inj, e1]
        simp only [builtin, Sem.run_bind, e2, e3, hrun, Result.andThen_ok]
        exact ⟨φ', hst, hvr⟩
      case copy =>
        obtain ⟨t, us, el, d, s, hts, rfl, hd, hv2⟩ := copy_inv hv
        obtain ⟨su, l1, e1, hs, hr⟩ := hr.uncons
        obtain ⟨xu, l2, rfl, hx, hr⟩ := hr.uncons
        obtain ⟨u', w', hrun, hst, hvr⟩ := sim_copy (P := P) (ty := type) (ts := c.argTypes) (args := c.args.map a.eval) r (by rw [← Array.getElem?_toList, hts]; rfl) (by rw [← Array.getElem?_toList, e1]; rfl) (by rw [← Array.getElem?_toList, e1]; rfl) hs hx hd hv2
        simp only [builtin, Sem.run_bind, hrun, Result.andThen_ok]
        exact ⟨φ, hst, hvr⟩
      case clear =>
        obtain ⟨t, us, x, hts, rfl, hv2⟩ := clear_inv hv
        obtain ⟨su, l1, e1, hs, hr⟩ := hr.uncons
        obtain ⟨u', w', hrun, hst, hvr⟩ := sim_clear (P := P) (ty := type) (ts := c.argTypes) (args := c.args.map a.eval) r (by rw [← Array.getElem?_toList, hts]; rfl) (by rw [← Array.getElem?_toList, e1]; rfl) hs hv2
        simp only [builtin, Sem.run_bind, hrun, Result.andThen_ok]
        exact ⟨φ, hst, hvr⟩
      all_goals first
        | (simp [builtinA] at hv; done)
        | (exfalso; dsimp only at hc; split at hc <;> cases hc)
    · rename_i f hb
      obtain ⟨fv, hf, hv⟩ := Option.bind_eq_some_iff.1 hv
      have hfr := opd_R he hg hf
      unfold callValue at hv
      split at hv
      · rename_i g first captured
        obtain ⟨f', c', hu, hf', hc'⟩ := hfr.func_inv
        have := hF g _ h v h' hv φ w (f' ++ c.args.map a.eval ++ c') hg r (by simpa using (hf'.append hr).append hc')
        simp only [execOp, resolve, hb, hu, Deferred.ofValue, Sem.run_bind, Sem.run_pure, Result.andThen_ok, invoke]
        exact this
      · rename_i name first captured
        obtain ⟨f', c', hu, hf', hc'⟩ := hfr.func_inv
        have hall := hf'.append hr
        split at hv
        · rename_i t x rest hl
          simp only [Option.bind_eq_bind] at hv
          obtain ⟨⟨g, rv⟩, hm, hv⟩ := Option.bind_eq_some_iff.1 hv
          rw [hl] at hall
          obtain ⟨iu, us, e1, hiu, hus⟩ := hall.uncons
          obtain ⟨xu, rfl, hxu⟩ := hiu.iface_inv
          have e2 : f' ++ c.args.map a.eval = #[.iface t xu] ++ us.toArray := by rw [← Array.toList_inj]; simpa using e1
          have := callMethod_R hF hg r (vs := us.toArray) hm hxu (by simpa using hus) hv
          simp only [execOp, resolve, hb, hu, Deferred.ofValue, Sem.run_bind, Sem.run_pure, Result.andThen_ok, invoke, e2]
          rw [cons_get, cons_rest]
          exact this
        · cases hv
      · cases hv
    · rename_i x name hb
      obtain ⟨fv, hf, hv⟩ := Option.bind_eq_some_iff.1 hv
      have hfr := opd_R he hg hf
      split at hv
      · rename_i t y
        obtain ⟨⟨g, rv⟩, hm, hv⟩ := Option.bind_eq_some_iff.1 hv
        obtain ⟨xu, hu, hxu⟩ := hfr.iface_inv
        have := callMethod_R hF hg r (vs := c.args.map a.eval) hm hxu hr hv
        simp only [execOp, resolve, hb, hu, Sem.run_bind, Sem.run_pure, Result.andThen_ok, invoke]
        rw [cons_get, cons_rest]
        exact this
      · cases hv

end
end Go.Vai
