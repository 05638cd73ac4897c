/- Operations that only reckon: what the abstract machine says the model says, in whatever world. -/
import Derived.Test.YtckjdbmadheamaaGreatDoorR4
import Derived.Laws.Entries
set_option linter.all false
namespace Go.Vai

def GlobR (φ : Phi) : Prop := ∀ g, g < 1000 → ∃ lim, φ g = some ⟨g, 0, lim⟩
theorem GlobR.mono {φ φ' : Phi} (h : GlobR φ) (k : Phi.le φ φ') : GlobR φ' := fun g hg => let ⟨l, e⟩ := h g hg; ⟨l, k _ _ e⟩

section
variable {φ : Phi} {e : Env} {a : Act} {P : Program}

theorem opd_R (he : EnvR φ e a.tmps) (hg : GlobR φ) {x : Operand} {v : AV} (h : opd e x = some v) : VR φ v (a.eval x) := by
  cases x with
  | tmp t =>
    obtain ⟨u, hu, hr⟩ := he t v h
    simp [Act.eval, hu]
    exact hr
  | const c => exact ofV_VR 4 c v h
  | global g =>
    simp only [opd] at h
    split at h
    · cases h
      rename_i hlt
      obtain ⟨lim, hl⟩ := hg g hlt
      have := VR.ptr (φ := φ) (b := g) (o := 0) hl
      simpa [Act.eval] using this
    · cases h
  | func f =>
    simp only [opd] at h
    cases h
    exact .func rfl (fun i x v h => by simp at h) rfl (fun i x v h => by simp at h)

theorem opds_R (he : EnvR φ e a.tmps) (hg : GlobR φ) : ∀ (l : List Operand) (vs : List AV), opds e l = some vs → VRL φ vs (l.map a.eval)
  | [], vs, h => by simp [opds] at h; subst h; exact .nil
  | x :: l, vs, h => by
    simp only [opds, Option.pure_def, Option.bind_eq_bind, Option.bind_eq_some_iff, Option.some.injEq] at h
    obtain ⟨v, hv, r, hr, rfl⟩ := h
    exact .cons (opd_R he hg hv) (opds_R he hg l r hr)

theorem opd_congr {e e' : Env} {x : Operand} (h : ∀ t, x = .tmp t → e t = e' t) : opd e x = opd e' x := by
  cases x <;> first | rfl | exact h _ rfl
theorem opds_congr {e e' : Env} : ∀ (l : List Operand), (∀ x ∈ l, ∀ t, x = .tmp t → e t = e' t) → opds e l = opds e' l
  | [], _ => rfl
  | x :: l, h => by
    simp only [opds]
    rw [opd_congr (h x (by simp)), opds_congr l (fun y hy => h y (by simp [hy]))]
theorem optd_congr {e e' : Env} {x : Option Operand} (h : ∀ y, x = some y → ∀ t, y = .tmp t → e t = e' t) : optd e x = optd e' x := by
  cases x with
  | none => rfl
  | some y => simp only [optd]; rw [opd_congr (h y rfl)]
theorem partsA_congr {e e' : Env} : ∀ (l : List (Nat × Operand)), (∀ p ∈ l, ∀ t, p.2 = .tmp t → e t = e' t) → partsA e l = partsA e' l
  | [], _ => rfl
  | (i, x) :: l, h => by
    simp only [partsA]
    rw [opd_congr (h (i, x) (by simp)), partsA_congr l (fun y hy => h y (by simp [hy]))]

/-- an operation looks at its operands alone -/
theorem evOp_congr {P : Program} {callF : CallF} {e e' : Env} {h : AH} {o : Op} (hh : ∀ x ∈ o.operands, ∀ t, x = .tmp t → e t = e' t) : evOp P callF e h o = evOp P callF e' h o := by
  cases o <;> simp only [Op.operands] at hh
  case move x => simp only [evOp]; rw [opd_congr (hh x (by simp))]
  case assign x => simp only [evOp]; rw [opd_congr (hh x (by simp))]
  case pick c a b => simp only [evOp]; rw [opd_congr (hh c (by simp)), opd_congr (hh a (by simp)), opd_congr (hh b (by simp))]
  case alloc t => rfl
  case box t x => simp only [evOp]; rw [opd_congr (hh x (by simp))]
  case build t ps =>
    simp only [evOp]; rw [partsA_congr ps.toList (fun p hp => hh p.2 (by simp; exact ⟨p.1, by simpa using hp⟩))]
  case buildSlice t n ps =>
    simp only [evOp]; rw [partsA_congr ps.toList (fun p hp => hh p.2 (by simp; exact ⟨p.1, by simpa using hp⟩))]
  case load t x => simp only [evOp]; rw [opd_congr (hh x (by simp))]
  case store t x y => simp only [evOp]; rw [opd_congr (hh x (by simp)), opd_congr (hh y (by simp))]
  case nilCheck x => simp only [evOp]; rw [opd_congr (hh x (by simp))]
  case binOp op t x y yt => simp only [evOp]; rw [opd_congr (hh x (by simp)), opd_congr (hh y (by simp))]
  case unOp op t x => simp only [evOp]; rw [opd_congr (hh x (by simp))]
  case convert s d x => simp only [evOp]; rw [opd_congr (hh x (by simp))]
  case makeInterface t x => simp only [evOp]; rw [opd_congr (hh x (by simp))]
  case makeFunc f x y => simp only [evOp]; rw [opds_congr x.toList (fun z hz => hh z (by simp at hz ⊢; exact .inl hz)), opds_congr y.toList (fun z hz => hh z (by simp at hz ⊢; exact .inr hz))]
  case makeMap t r => cases r <;> rfl
  case makeSlice t l c => simp only [evOp]; rw [opd_congr (hh l (by simp)), opd_congr (hh c (by simp))]
  case slice t x lo hi mx =>
    simp only [evOp]
    rw [opd_congr (hh x (by simp)), optd_congr (x := lo) (fun y hy => hh y (by simp [hy])), optd_congr (x := hi) (fun y hy => hh y (by simp [hy])), optd_congr (x := mx) (fun y hy => hh y (by simp [hy]))]
  case fieldAddr s x f => simp only [evOp]; rw [opd_congr (hh x (by simp))]
  case field s x f => simp only [evOp]; rw [opd_congr (hh x (by simp))]
  case indexAddr t x y => simp only [evOp]; rw [opd_congr (hh x (by simp)), opd_congr (hh y (by simp))]
  case index t x y => simp only [evOp]; rw [opd_congr (hh x (by simp)), opd_congr (hh y (by simp))]
  case lookup t x y ok => simp only [evOp]; rw [opd_congr (hh x (by simp)), opd_congr (hh y (by simp))]
  case mapUpdate t x y z => simp only [evOp]; rw [opd_congr (hh x (by simp)), opd_congr (hh y (by simp)), opd_congr (hh z (by simp))]
  case typeAssert x t u ok => simp only [evOp]; rw [opd_congr (hh x (by simp))]
  case extract x i => simp only [evOp]; rw [opd_congr (hh x (by simp))]
  case call c =>
    simp only [evOp]
    rw [opds_congr c.args.toList (fun z hz => hh z (by simp [Call.operands]; exact .inr (by simpa using hz)))]
    cases hc : c.callee with
    | builtin b => rfl
    | value f => dsimp only; rw [opd_congr (hh f (by simp [Call.operands, hc]))]
    | invoke r n => dsimp only; rw [opd_congr (hh r (by simp [Call.operands, hc]))]
  all_goals rfl

/-- what a pure operation comes to: a value, in whatever world -/
def Gives (P : Program) (φ : Phi) (s : Sem Value) (v : AV) : Prop := ∃ u, VR φ v u ∧ ∀ w, s.run P w = .ok u w

theorem VR.int_inv {k : IntKind} {n : Int} {v : Value} (h : VR φ (.int k n) v) : v = .int k n := by cases h; rfl
theorem VR.bool_inv {b : Bool} {v : Value} (h : VR φ (.bool b) v) : v = .bool b := by cases h; rfl
theorem VR.str_inv {s : ByteArray} {v : Value} (h : VR φ (.str s) v) : v = .string s := by cases h; rfl
theorem VR.iface_inv {t : TypeId} {x : AV} {v : Value} (h : VR φ (.iface t x) v) : ∃ u, v = .iface t u ∧ VR φ x u := by cases h; exact ⟨_, rfl, ‹_›⟩
theorem VR.ptr_inv {b o : Nat} {v : Value} (h : VR φ (.ptr b o) v) : ∃ loc, φ b = some loc ∧ v = .pointer (some ⟨loc.blk, loc.base + o, none⟩) := by cases h; exact ⟨_, ‹_›, rfl⟩
theorem VR.slice_inv {b o len sz : Nat} {tight : Bool} {v : Value} (h : VR φ (.slice b o len sz tight) v) : ∃ loc ra cap, φ b = some loc ∧ v = .slice (some ra) len cap ∧ len ≤ cap ∧ (tight = true → cap = len) ∧ (cap = 0 ∨ ra = ⟨loc.blk, loc.base + o, none⟩) ∧ o + cap * sz ≤ loc.lim := by
  cases h; exact ⟨_, _, _, ‹_›, rfl, ‹_›, ‹_›, ‹_›, ‹_›⟩
theorem VR.nilp_inv {v : Value} (h : VR φ .nilp v) : v = .pointer none := by cases h; rfl
theorem VR.nils_inv {v : Value} (h : VR φ .nils v) : v = .slice none 0 0 := by cases h; rfl
theorem VR.nili_inv {v : Value} (h : VR φ .nili v) : v = .nilIface := by cases h; rfl
theorem VR.nilm_inv {v : Value} (h : VR φ .nilm v) : v = .map none := by cases h; rfl
theorem VR.nilf_inv {v : Value} (h : VR φ .nilf v) : v = .nilFunc := by cases h; rfl
theorem VR.map_inv {r : Nat} {v : Value} (h : VR φ (.map r) v) : ∃ loc, φ r = some loc ∧ v = .map (some loc.blk) := by cases h; exact ⟨_, ‹_›, rfl⟩
theorem VR.func_inv {f : Fn} {x y : List AV} {v : Value} (h : VR φ (.func f x y) v) : ∃ x' y', v = .func f x' y' ∧ VRL φ x x'.toList ∧ VRL φ y y'.toList := by
  cases h with
  | func e1 h1 e2 h2 => exact ⟨_, _, rfl, ⟨by simpa using e1, fun i x v hx hv => h1 i x v hx (by simpa using hv)⟩, ⟨by simpa using e2, fun i x v hx hv => h2 i x v hx (by simpa using hv)⟩⟩

theorem scalarV_eq {x : AV} {u v : Value} (h : scalarV x = some u) (r : VR φ x v) : v = u := by
  unfold scalarV at h
  split at h
  · simp only [Option.map_eq_some_iff] at h
    obtain ⟨vs, hvs, rfl⟩ := h
    obtain ⟨cs, rfl, hl, _⟩ := r.agg_inv
    have := vals?_eq hvs hl
    rw [← this]
  · exact val?_eq h r

theorem run_equal_nil {t : TypeId} {d : TypeDesc} {x y : AV} {u v : Value} {b : Bool} (hd : P.underlying t = some d) (hf : binA.nilFits d x = true) (hn : nilEq x y = some b) (hx : VR φ x u) (hy : VR φ y v) (w : World) :
    (Op.equal t u v).run P w = .ok b w := by
  suffices key : ∀ n, (Op.equalIn (n + 1) t u v).run P w = .ok b w from key 9999
  intro n
  unfold Op.equalIn
  rw [Sem.run_bind, run_underlying' hd, Result.andThen_ok]
  unfold nilEq at hn
  split at hn
  · obtain ⟨l, _, rfl⟩ := hx.ptr_inv; cases hy.nilp_inv; cases hn
    cases d <;> first | rfl | cases hf
  · cases hx.nilp_inv; obtain ⟨l, _, rfl⟩ := hy.ptr_inv; cases hn
    cases d <;> first | rfl | cases hf
  · obtain ⟨l, ra, cap, _, rfl, _⟩ := hx.slice_inv; cases hy.nils_inv; cases hn
    cases d <;> first | rfl | cases hf
  · cases hx.nils_inv; obtain ⟨l, ra, cap, _, rfl, _⟩ := hy.slice_inv; cases hn
    cases d <;> first | rfl | cases hf
  · obtain ⟨l, _, rfl⟩ := hx.map_inv; cases hy.nilm_inv; cases hn
    cases d <;> first | rfl | cases hf
  · cases hx.nilm_inv; obtain ⟨l, _, rfl⟩ := hy.map_inv; cases hn
    cases d <;> first | rfl | cases hf
  · obtain ⟨_, _, rfl, _⟩ := hx.func_inv; cases hy.nilf_inv; cases hn
    cases d <;> first | rfl | cases hf
  · cases hx.nilf_inv; obtain ⟨_, _, rfl, _⟩ := hy.func_inv; cases hn
    cases d <;> first | rfl | cases hf
  · obtain ⟨_, rfl, _⟩ := hx.iface_inv; cases hy.nili_inv; cases hn
    cases d <;> first | rfl | cases hf
  · cases hx.nili_inv; obtain ⟨_, rfl, _⟩ := hy.iface_inv; cases hn
    cases d <;> first | rfl | cases hf
  · obtain ⟨_, rfl, _⟩ := hx.iface_inv; obtain ⟨_, rfl, _⟩ := hy.iface_inv
    split at hn
    · cases hn
    · cases hn
      rename_i hne
      cases d <;> first | (cases hf; done) | (show (if _ ≠ _ then _ else _ : Sem Bool).run P w = _; rw [if_pos hne]; rfl)
  · cases hn

theorem nilEq_guard {op : BinOp} {t : TypeId} {x y : Operand} {p q : AV} {u v : Value} {b : Bool} (hn : nilEq p q = some b) (hx : VR φ p u) (hy : VR φ q v) (w : World) :
    (eqGuard op t x y u v).run P w = .ok () w := by
  have : ∀ (s : Sem Unit), (∀ w, s.run P w = .ok () w) → s.run P w = .ok () w := fun s h => h w
  unfold eqGuard
  unfold nilEq at hn
  split at hn <;> first | (cases hn; done) | skip
  all_goals
    first
      | (obtain ⟨l, _, rfl⟩ := hx.ptr_inv; cases hy.nilp_inv; cases op <;> simp)
      | (cases hx.nilp_inv; obtain ⟨l, _, rfl⟩ := hy.ptr_inv; cases op <;> simp)
      | (obtain ⟨l, ra, cap, _, rfl, _⟩ := hx.slice_inv; cases hy.nils_inv; cases op <;> simp)
      | (cases hx.nils_inv; obtain ⟨l, ra, cap, _, rfl, _⟩ := hy.slice_inv; cases op <;> simp)
      | (obtain ⟨l, _, rfl⟩ := hx.map_inv; cases hy.nilm_inv; cases op <;> simp)
      | (cases hx.nilm_inv; obtain ⟨l, _, rfl⟩ := hy.map_inv; cases op <;> simp)
      | (obtain ⟨_, _, rfl, _⟩ := hx.func_inv; cases hy.nilf_inv; cases op <;> simp)
      | (cases hx.nilf_inv; obtain ⟨_, _, rfl, _⟩ := hy.func_inv; cases op <;> simp)
      | (obtain ⟨_, rfl, _⟩ := hx.iface_inv; cases hy.nili_inv; cases op <;> simp)
      | (cases hx.nili_inv; obtain ⟨_, rfl, _⟩ := hy.iface_inv; cases op <;> simp)
      | (obtain ⟨_, rfl, _⟩ := hx.iface_inv; obtain ⟨_, rfl, _⟩ := hy.iface_inv; cases op <;> simp)

theorem binOp_nil {op : BinOp} {t : TypeId} {p q : AV} {u v : Value} {b : Bool} (hop : op = .eql ∨ op = .neq) (hn : nilEq p q = some b) (hx : VR φ p u) (hy : VR φ q v) (w : World)
    (hr : (Op.equal t u v).run P w = .ok b w) : (binOp op t u v).run P w = .ok (.bool (if op = .eql then b else !b)) w := by
  unfold nilEq at hn
  split at hn <;> first | (cases hn; done) | skip
  all_goals
    first
      | (obtain ⟨l, _, rfl⟩ := hx.ptr_inv; cases hy.nilp_inv)
      | (cases hx.nilp_inv; obtain ⟨l, _, rfl⟩ := hy.ptr_inv)
      | (obtain ⟨l, ra, cap, _, rfl, _⟩ := hx.slice_inv; cases hy.nils_inv)
      | (cases hx.nils_inv; obtain ⟨l, ra, cap, _, rfl, _⟩ := hy.slice_inv)
      | (obtain ⟨l, _, rfl⟩ := hx.map_inv; cases hy.nilm_inv)
      | (cases hx.nilm_inv; obtain ⟨l, _, rfl⟩ := hy.map_inv)
      | (obtain ⟨_, _, rfl, _⟩ := hx.func_inv; cases hy.nilf_inv)
      | (cases hx.nilf_inv; obtain ⟨_, _, rfl, _⟩ := hy.func_inv)
      | (obtain ⟨_, rfl, _⟩ := hx.iface_inv; cases hy.nili_inv)
      | (cases hx.nili_inv; obtain ⟨_, rfl, _⟩ := hy.iface_inv)
      | (obtain ⟨_, rfl, _⟩ := hx.iface_inv; obtain ⟨_, rfl, _⟩ := hy.iface_inv)
  all_goals
    rcases hop with rfl | rfl <;> simp [binOp, hr]

theorem gives_bin {op : BinOp} {t : TypeId} {x y : Operand} {p q r : AV} {u v : Value} (h : binA P op t x y p q = some r) (hx : VR φ p u) (hy : VR φ q v) :
    Gives P φ (do eqGuard op t x y u v; binOp op t u v) r := by
  unfold binA at h
  split at h
  · rename_i u' v' hu hv
    cases scalarV_eq hu hx
    cases scalarV_eq hv hy
    simp only [Option.bind_eq_bind, Option.bind_eq_some_iff] at h
    obtain ⟨res, hres, hof⟩ := h
    exact ⟨res, ofV_VR 1 _ _ hof, fun w => semP_run hres w⟩
  · split at h
    · rename_i b d hn hd
      split at h
      · cases h
        rename_i hfit
        refine ⟨.bool b, .bool b, fun w => ?_⟩
        rw [Sem.run_bind, nilEq_guard hn hx hy w, Result.andThen_ok]
        have := binOp_nil (op := .eql) (t := t) (.inl rfl) hn hx hy w (run_equal_nil hd hfit hn hx hy w)
        simpa using this
      · cases h
    · rename_i b d hn hd
      split at h
      · cases h
        rename_i hfit
        refine ⟨.bool (!b), .bool _, fun w => ?_⟩
        rw [Sem.run_bind, nilEq_guard hn hx hy w, Result.andThen_ok]
        have := binOp_nil (op := .neq) (t := t) (.inr rfl) hn hx hy w (run_equal_nil hd hfit hn hx hy w)
        simpa using this
      · cases h
    · cases h

end
end Go.Vai
