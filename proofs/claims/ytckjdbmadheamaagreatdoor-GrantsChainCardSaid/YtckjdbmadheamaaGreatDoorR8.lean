/- Pure operations together; operations that read; operations that lay a new block. -/
import Derived.Test.YtckjdbmadheamaaGreatDoorR7
set_option linter.all false
namespace Go.Vai

section
variable {φ : Phi} {e : Env} {a : Act} {P : Program}

/-- an operation that comes to a value, in whatever world -/
def GivesN (P : Program) (φ : Phi) (s : Sem Next) (v : AV) : Prop := ∃ u, VR φ v u ∧ ∀ w, s.run P w = .ok (.value u) w

theorem Gives.next {s : Sem Value} {v : AV} (h : Gives P φ s v) : GivesN P φ (do pure (.value (← s))) v := by
  obtain ⟨u, hu, hr⟩ := h
  exact ⟨u, hu, fun w => by rw [Sem.run_bind, hr w]; rfl⟩

theorem gives_unary {op : UnOp} {x v : AV} {u r : Value} {y : Value} (hx : VR φ x u) (h1 : val? x = some y) (h2 : semP P (Op.unary op y) = some r) (h3 : ofV 1 r = some v) : Gives P φ (Op.unary op u) v := by
  cases val?_eq h1 hx
  exact ⟨r, ofV_VR 1 _ _ h3, fun w => semP_run h2 w⟩

theorem vals?_toArray {l : List AV} {us vs : List Value} (h : vals? l = some us) (r : VRL φ l vs) : us.toArray = vs.toArray := by rw [vals?_eq h r]

theorem min_any (ts ts' : Array TypeId) (t t' : TypeId) (args : Array Value) : Builtin.min_ ts t args = Builtin.min_ ts' t' args := rfl
theorem max_any (ts ts' : Array TypeId) (t t' : TypeId) (args : Array Value) : Builtin.max_ ts t args = Builtin.max_ ts' t' args := rfl

theorem run_builtin {b : Builtin} {c : Call} {o : Oper} (ho : o.op = .call c) (hb : c.callee = .builtin b) :
    execOp a.eval o = builtin b c.argTypes o.type (c.args.map fun | .const _ => true | _ => false) (c.args.map a.eval) := by
  unfold execOp
  rw [ho]
  simp only [resolve, hb]
  rfl

theorem opd_map {x : Operand} {h h' : AH} {v : AV} (hh : (opd e x).map (·, h) = some (v, h')) : h' = h ∧ opd e x = some v := by
  simp only [Option.map_eq_some_iff, Prod.mk.injEq] at hh
  obtain ⟨u, hu, rfl, rfl⟩ := hh
  exact ⟨rfl, hu⟩

theorem map_pair {α β : Type} {x : Option α} {h h' : β} {v : α} (hh : x.map (·, h) = some (v, h')) : h' = h ∧ x = some v := by
  simp only [Option.map_eq_some_iff, Prod.mk.injEq] at hh
  obtain ⟨u, hu, rfl, rfl⟩ := hh
  exact ⟨rfl, hu⟩

theorem sim_len_pure {ts : Array TypeId} {t0 : TypeId} {x v : AV} {h : AH} {args : Array Value} {t : TypeId} {u : Value} (ht : ts[0]? = some t) (hu : args[0]? = some u) (hx : VR φ x u)
    (hl : lenA P h t x = some v) (hmap : ∀ k el, P.underlying t ≠ some (.map k el)) : Gives P φ (Builtin.len_ ts t0 args) v := by
  unfold lenA at hl
  split at hl
  · rename_i s hd; cases hl; cases hx.str_inv
    exact ⟨_, .int _ _, fun w => by simp [Builtin.len_, ht, hu, run_underlying' hd, goInt]⟩
  · rename_i el b o len sz tight hd; cases hl; obtain ⟨loc, ra, cap, _, rfl, _⟩ := hx.slice_inv
    exact ⟨_, .int _ _, fun w => by simp [Builtin.len_, ht, hu, run_underlying' hd, goInt]⟩
  · rename_i el hd; cases hl; cases hx.nils_inv
    exact ⟨_, .int _ _, fun w => by simp [Builtin.len_, ht, hu, run_underlying' hd, goInt]⟩
  · rename_i k el hd; exact absurd hd (hmap k el)
  · rename_i k el r hd; exact absurd hd (hmap k el)
  · rename_i n el hd; cases hl
    refine ⟨.int .i64 n, .int _ _, fun w => ?_⟩
    simp only [Builtin.len_, ht, hu, Sem.run_bind, run_underlying' hd, Result.andThen_ok]
    cases u <;> rfl
  · rename_i el hd
    split at hl
    · rename_i n el' hd'
      cases hl
      refine ⟨.int .i64 n, .int _ _, fun w => ?_⟩
      simp only [Builtin.len_, ht, hu, Sem.run_bind, run_underlying' hd, Result.andThen_ok]
      cases u <;> (simp only [Sem.run_bind, run_underlying' hd', Result.andThen_ok]; rfl)
    · cases hl
  · cases hl

theorem sim_pure {o : Oper} {callF : CallF} {h h' : AH} {v : AV} (he : EnvR φ e a.tmps) (hg : GlobR φ) (hc : cls P o.op = .pure) (hv : evOp P callF e h o.op = some (v, h')) :
    h' = h ∧ GivesN P φ (execOp a.eval o) v := by
  obtain ⟨dst, op, type, pos, after, guard⟩ := o
  cases op <;> simp only [cls] at hc <;> first | (cases hc; done) | skip
  case move x =>
    obtain ⟨rfl, hx⟩ := map_pair hv
    exact ⟨rfl, _, opd_R he hg hx, fun w => rfl⟩
  case assign x =>
    obtain ⟨rfl, hx⟩ := map_pair hv
    exact ⟨rfl, _, opd_R he hg hx, fun w => rfl⟩
  case pick c x y =>
    simp only [evOp, Option.bind_eq_bind, Option.bind_eq_some_iff] at hv
    obtain ⟨b, hb, hv⟩ := hv
    have hbr := opd_R he hg hb
    split at hv
    · obtain ⟨rfl, hx⟩ := map_pair hv
      refine ⟨rfl, _, opd_R he hg hx, fun w => ?_⟩
      simp [execOp, hbr.bool_inv, asBool]
    · obtain ⟨rfl, hx⟩ := map_pair hv
      refine ⟨rfl, _, opd_R he hg hx, fun w => ?_⟩
      simp [execOp, hbr.bool_inv, asBool]
    · cases hv
  case build t parts =>
    simp only [evOp, Option.bind_eq_bind, Option.bind_eq_some_iff] at hv
    obtain ⟨ps, hps, hv⟩ := hv
    obtain ⟨rfl, hx⟩ := map_pair hv
    exact ⟨rfl, (gives_build he hg hps hx).next⟩
  case nilCheck x =>
    simp only [evOp, Option.bind_eq_bind, Option.bind_eq_some_iff] at hv
    obtain ⟨y, hy, hv⟩ := hv
    have hr := opd_R he hg hy
    split at hv <;> first | (cases hv; done) | skip
    rename_i h1 h2 h3 h4
    cases hv
    refine ⟨rfl, _, hr, fun w => ?_⟩
    simp only [execOp]
    generalize a.eval x = u at hr
    cases hr <;> first
      | rfl
      | (exact absurd rfl h1)
      | (exact absurd rfl h2)
      | (exact absurd rfl h3)
      | skip
    rename_i f _ _ _ _ _ _ _ _
    cases f <;> first
      | rfl
      | exact absurd rfl (h4 _ _ _)
  case binOp op t x y yt =>
    simp only [evOp, Option.bind_eq_bind, Option.bind_eq_some_iff] at hv
    obtain ⟨p, hp, q, hq, hv⟩ := hv
    obtain ⟨rfl, hx⟩ := map_pair hv
    exact ⟨rfl, (gives_bin hx (opd_R he hg hp) (opd_R he hg hq)).next⟩
  case unOp op t x =>
    simp only [evOp, Option.bind_eq_bind, Option.bind_eq_some_iff] at hv
    obtain ⟨p, hp, y, hy, r, hr, hv⟩ := hv
    obtain ⟨rfl, hx⟩ := map_pair hv
    exact ⟨rfl, (gives_unary (opd_R he hg hp) hy hr hx).next⟩
  case convert s d x =>
    simp only [evOp, Option.bind_eq_bind, Option.bind_eq_some_iff] at hv
    obtain ⟨p, hp, hv⟩ := hv
    have hr := opd_R he hg hp
    unfold convertA at hv
    split at hv
    · rename_i sd k k' n hs hd
      cases hv
      refine ⟨rfl, _, .int _ _, fun w => ?_⟩
      simp only [execOp, convert, hr.int_inv, Sem.run_bind, run_underlying' hs, run_underlying' hd, Result.andThen_ok]
      cases sd <;> rfl
    · rename_i sd st hs hd
      cases hv
      refine ⟨rfl, _, .str _, fun w => ?_⟩
      simp only [execOp, convert, hr.str_inv, Sem.run_bind, run_underlying' hs, run_underlying' hd, Result.andThen_ok]
      cases sd <;> rfl
    · rename_i el st hs hd
      rw [hs, hd] at hc
      cases hc
    · rename_i el hs hd
      rw [hs, hd] at hc
      cases hc
    · rename_i el b o len sz tight hs hd
      rw [hs, hd] at hc
      cases hc
    · cases hv
  case makeInterface t x =>
    simp only [evOp, Option.bind_eq_bind, Option.bind_eq_some_iff] at hv
    obtain ⟨p, hp, hv⟩ := hv
    have hr := opd_R he hg hp
    split at hv
    · cases hv
    · rename_i d hne hd
      cases hv
      refine ⟨rfl, _, .iface hr, fun w => ?_⟩
      simp only [execOp, Instr.makeInterface, Sem.run_bind, run_underlying' hd, Result.andThen_ok]
      cases d <;> first | rfl | (exact absurd hd (by simpa using hne _))
    · cases hv
  case makeFunc f x y =>
    simp only [evOp, Option.bind_eq_bind, Option.bind_eq_some_iff, Option.pure_def, Option.some.injEq, Prod.mk.injEq] at hv
    obtain ⟨p, hp, q, hq, rfl, rfl⟩ := hv
    have h1 := opds_R he hg _ _ hp
    have h2 := opds_R he hg _ _ hq
    refine ⟨rfl, .func f (x.map a.eval) (y.map a.eval), ?_, fun w => rfl⟩
    exact .func (by simpa using h1.1) (fun i x v hx hv => h1.2 i x v hx (by simpa using hv)) (by simpa using h2.1) (fun i x v hx hv => h2.2 i x v hx (by simpa using hv))
  case slice t x lo hi mx =>
    simp only [evOp, Option.bind_eq_bind, Option.bind_eq_some_iff] at hv
    obtain ⟨p, hp, l, hl, u, hu, m, hm, hv⟩ := hv
    obtain ⟨rfl, hx⟩ := map_pair hv
    exact ⟨rfl, (gives_slice (opd_R he hg hp) (optd_R he hg hl) (optd_R he hg hu) (optd_R he hg hm) hx).next⟩
  case fieldAddr s x f =>
    simp only [evOp, Option.bind_eq_bind, Option.bind_eq_some_iff] at hv
    obtain ⟨p, hp, hv⟩ := hv
    split at hv
    · obtain ⟨rfl, hx⟩ := map_pair hv
      exact ⟨rfl, (gives_fieldAddr (opd_R he hg hp) hx).next⟩
    · cases hv
  case field t x f =>
    simp only [evOp, Option.bind_eq_bind, Option.bind_eq_some_iff] at hv
    obtain ⟨p, hp, hv⟩ := hv
    split at hv
    · rename_i l fs hfs
      simp only [Option.bind_eq_some_iff] at hv
      obtain ⟨fd, hfd, hv⟩ := hv
      obtain ⟨rfl, hx⟩ := map_pair hv
      exact ⟨rfl, (gives_field hfs hfd (opd_R he hg hp) hx).next⟩
    · cases hv
  case indexAddr t x y =>
    simp only [evOp, Option.bind_eq_bind, Option.bind_eq_some_iff] at hv
    obtain ⟨p, hp, q, hq, hv⟩ := hv
    obtain ⟨rfl, hx⟩ := map_pair hv
    exact ⟨rfl, (gives_indexAddr (opd_R he hg hp) (opd_R he hg hq) hx).next⟩
  case index t x y =>
    simp only [evOp, Option.bind_eq_bind, Option.bind_eq_some_iff] at hv
    obtain ⟨p, hp, q, hq, hv⟩ := hv
    obtain ⟨rfl, hx⟩ := map_pair hv
    exact ⟨rfl, (gives_index (opd_R he hg hp) (opd_R he hg hq) hx).next⟩
  case typeAssert x xt t ok =>
    simp only [evOp, Option.bind_eq_bind, Option.bind_eq_some_iff] at hv
    obtain ⟨p, hp, hv⟩ := hv
    obtain ⟨rfl, hx⟩ := map_pair hv
    exact ⟨rfl, (gives_typeAssert (opd_R he hg hp) hx).next⟩
  case extract x i =>
    simp only [evOp, Option.bind_eq_bind, Option.bind_eq_some_iff] at hv
    obtain ⟨p, hp, hv⟩ := hv
    split at hv
    · obtain ⟨rfl, hx⟩ := map_pair hv
      obtain ⟨cs, hcs, hl⟩ := (opd_R he hg hp).tup_inv
      obtain ⟨u, hu, hr⟩ := hl.get hx
      refine ⟨rfl, u, hr, fun w => ?_⟩
      simp only [execOp, Instr.extract, hcs]
      rw [show cs[i]? = some u from by simpa using hu]
      rfl
    · cases hv
  case call c =>
    simp only [evOp, Option.bind_eq_bind, Option.bind_eq_some_iff] at hv
    obtain ⟨vs, hvs, hv⟩ := hv
    have hr := opds_R he hg _ _ hvs
    have hmap : (c.args.map a.eval).toList = c.args.toList.map a.eval := by simp
    split at hv
    · rename_i b hb
      rw [hb] at hc
      rw [run_builtin rfl hb]
      cases b <;> first | (cases hc; done) | skip
      case len =>
        cases hts : c.argTypes.toList with
        | nil => rw [hts] at hv; cases hv
        | cons t ts =>
          cases vs with
          | nil => rw [hts] at hv; cases hv
          | cons x xs =>
            rw [hts] at hv
            cases xs with
            | cons y ys => cases hv
            | nil =>
            obtain ⟨rfl, hl⟩ := map_pair (show (lenA P h t x).map (·, h) = some (v, h') from hv)
            obtain ⟨u, us, hus, hxu, _⟩ := hr.uncons
            have ht : c.argTypes[0]? = some t := by rw [← Array.getElem?_toList, hts]; rfl
            have hu : (c.args.map a.eval)[0]? = some u := by rw [← Array.getElem?_toList, hmap, hus]; rfl
            refine ⟨rfl, (sim_len_pure ht hu hxu hl (fun k el hh => ?_)).next⟩
            rw [ht] at hc
            simp only [Option.bind_some, hh] at hc
            cases hc
      case min =>
        simp only [builtinA, Option.bind_eq_bind, Option.bind_eq_some_iff, Option.pure_def, Option.some.injEq, Prod.mk.injEq] at hv
        obtain ⟨us, hus, r, hr', y, hy, rfl, rfl⟩ := hv
        refine ⟨rfl, Gives.next ⟨r, ofV_VR 1 _ _ hy, fun w => ?_⟩⟩
        rw [min_any _ #[] _ 0, show c.args.map a.eval = (c.args.map a.eval).toList.toArray from rfl, hmap, vals?_eq hus hr]
        exact semP_run hr' w
      case max =>
        simp only [builtinA, Option.bind_eq_bind, Option.bind_eq_some_iff, Option.pure_def, Option.some.injEq, Prod.mk.injEq] at hv
        obtain ⟨us, hus, r, hr', y, hy, rfl, rfl⟩ := hv
        refine ⟨rfl, Gives.next ⟨r, ofV_VR 1 _ _ hy, fun w => ?_⟩⟩
        rw [max_any _ #[] _ 0, show c.args.map a.eval = (c.args.map a.eval).toList.toArray from rfl, hmap, vals?_eq hus hr]
        exact semP_run hr' w
    · rename_i hb
      rw [hb] at hc; cases hc
    · rename_i hb
      rw [hb] at hc; cases hc

end
end Go.Vai
