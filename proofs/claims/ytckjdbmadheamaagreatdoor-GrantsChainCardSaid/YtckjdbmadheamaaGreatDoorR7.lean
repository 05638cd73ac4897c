/- Pure operations: slices, assertions, and all of them together. -/
import Derived.Test.YtckjdbmadheamaaGreatDoorR6
set_option linter.all false
namespace Go.Vai

section
variable {φ : Phi} {e : Env} {a : Act} {P : Program}

def OptR (φ : Phi) : Option AV → Option Value → Prop
  | none, none => True
  | some x, some v => VR φ x v
  | _, _ => False

theorem optd_R (he : EnvR φ e a.tmps) (hg : GlobR φ) {x : Option Operand} {v : Option AV} (h : optd e x = some v) : OptR φ v (x.map a.eval) := by
  cases x with
  | none => simp [optd] at h; subst h; trivial
  | some y =>
    simp only [optd, Option.map_eq_some_iff] at h
    obtain ⟨u, hu, rfl⟩ := h
    exact opd_R he hg hu

theorem run_bound {y y' d n : Nat} {x : AV} {u : Value} {code : BoundsCode} (h : boundA y d (some x) = some n) (hx : VR φ x u) (hy : y ≤ y') (w : World) : (Instr.sliceBound u y' code).run P w = .ok n w ∧ n ≤ y := by
  unfold boundA at h
  split at h
  · cases ‹some x = none›
  · rename_i k i he
    cases he
    cases hx.int_inv
    split at h
    · rename_i hc
      cases h
      refine ⟨?_, by omega⟩
      simp only [Instr.sliceBound, asIntOf, Sem.run_bind, Sem.run_pure, Result.andThen_ok]
      rw [if_pos ⟨hc.1, by omega⟩]
      rfl
    · cases h
  · cases h

theorem run_bounds {isSlice : Bool} {len cap h l m : Nat} {lo hi mx : Option AV} {lo' hi' mx' : Option Value} (hlo : OptR φ lo lo') (hhi : OptR φ hi hi') (hmx : OptR φ mx mx') (hlc : len ≤ cap)
    (hm : (mx = none ∧ m = cap) ∨ (∃ x, mx = some x ∧ boundA len len (some x) = some m ∧ hi ≠ none))
    (hh : boundA (if mx = none then len else m) len hi = some h) (hl : boundA h 0 lo = some l) (w : World) : (Instr.sliceBounds isSlice len cap lo' hi' mx').run P w = .ok (l, h, m) w ∧ l ≤ h ∧ h ≤ m ∧ m ≤ cap := by
  cases mx with
  | none =>
    cases mx' with
    | some _ => cases hmx
    | none =>
      have hm : m = cap := by
        rcases hm with ⟨_, h0⟩ | ⟨x, hx, _⟩
        · exact h0
        · cases hx
      subst hm
      cases hi with
      | none =>
        cases hi' with
        | some _ => cases hhi
        | none =>
          simp [boundA] at hh
          subst hh
          cases lo with
          | none =>
            cases lo' with
            | some _ => cases hlo
            | none =>
              simp [boundA] at hl; subst hl
              exact ⟨by simp [Instr.sliceBounds], by omega, hlc, by omega⟩
          | some x =>
            cases lo' with
            | none => cases hlo
            | some u =>
              obtain ⟨h1, h2⟩ := run_bound (P := P) (code := .sliceB) hl hlo (Nat.le_refl _) w
              refine ⟨?_, h2, hlc, by omega⟩
              simp [Instr.sliceBounds, h1]
      | some z =>
        cases hi' with
        | none => cases hhi
        | some v =>
          have hb : ∀ code, (Instr.sliceBound v m code).run P w = .ok h w ∧ h ≤ len := fun code => run_bound (P := P) (y := len) (by simpa using hh) hhi hlc w
          have hle := (hb .sliceB).2
          cases lo with
          | none =>
            cases lo' with
            | some _ => cases hlo
            | none =>
              simp [boundA] at hl; subst hl
              exact ⟨by simp [Instr.sliceBounds, (hb _).1], by omega, by omega, by omega⟩
          | some x =>
            cases lo' with
            | none => cases hlo
            | some u =>
              obtain ⟨h1, h2⟩ := run_bound (P := P) (code := .sliceB) hl hlo (Nat.le_refl _) w
              exact ⟨by simp [Instr.sliceBounds, (hb _).1, h1], h2, by omega, by omega⟩
  | some y =>
    cases mx' with
    | none => cases hmx
    | some q =>
      rcases hm with ⟨h0, _⟩ | ⟨x, hx, hmb, hne⟩
      · cases h0
      cases hx
      have hq : ∀ code, (Instr.sliceBound q cap code).run P w = .ok m w ∧ m ≤ len := fun code => run_bound (P := P) hmb hmx hlc w
      have hml := (hq .sliceB).2
      cases hi with
      | none => exact absurd rfl hne
      | some z =>
        cases hi' with
        | none => cases hhi
        | some v =>
          have hb : ∀ code, (Instr.sliceBound v m code).run P w = .ok h w ∧ h ≤ m := fun code => run_bound (P := P) (y := m) (by simpa using hh) hhi (Nat.le_refl _) w
          have hle := (hb .sliceB).2
          cases lo with
          | none =>
            cases lo' with
            | some _ => cases hlo
            | none =>
              simp [boundA] at hl; subst hl
              exact ⟨by simp [Instr.sliceBounds, (hb _).1, (hq _).1], by omega, by omega, by omega⟩
          | some x =>
            cases lo' with
            | none => cases hlo
            | some u =>
              have h1 : ∀ code, (Instr.sliceBound u h code).run P w = .ok l w ∧ l ≤ h := fun code => run_bound (P := P) hl hlo (Nat.le_refl _) w
              exact ⟨by simp [Instr.sliceBounds, (hb _).1, (hq _).1, (h1 _).1], (h1 .sliceB).2, by omega, by omega⟩

theorem gives_slice {t : TypeId} {x v : AV} {u : Value} {lo hi mx : Option AV} {lo' hi' mx' : Option Value} (hx : VR φ x u) (hlo : OptR φ lo lo') (hhi : OptR φ hi hi') (hmx : OptR φ mx mx')
    (h : sliceA P t x lo hi mx = some v) : Gives P φ (Instr.sliceAt t u lo' hi' mx') v := by
  unfold sliceA at h
  split at h
  · rename_i s hs
    cases hx.str_inv
    simp only [Option.bind_eq_bind] at h
    split at h
    · cases h
    · rename_i hm0
      have hm0 : mx = none := by cases mx <;> simp_all
      subst hm0
      simp only [Option.pure_def, Option.bind_eq_some_iff, Option.some.injEq] at h
      obtain ⟨hb, hh, l, hl, rfl⟩ := h
      cases mx' with
      | some _ => cases hmx
      | none =>
        refine ⟨_, .str _, fun w => ?_⟩
        obtain ⟨hr, _⟩ := run_bounds (P := P) (isSlice := false) (m := s.size) hlo hhi (mx := none) (mx' := none) trivial (Nat.le_refl _) (.inl ⟨rfl, rfl⟩) (by simpa using hh) hl w
        simp [Instr.sliceAt, Instr.slice, run_underlying' hs, hr]
  · rename_i el b o len sz tight hel
    simp only [Option.bind_eq_bind, Option.bind_eq_some_iff] at h
    obtain ⟨n, hn, h⟩ := h
    split at h
    · cases h
    rename_i hnsz
    have hnsz : n = sz := by omega
    subst hnsz
    obtain ⟨loc, ra, cap, hb, rfl, hlc, htight, hra, hlim⟩ := hx.slice_inv
    have main : ∀ (m hh l : Nat) (tt : Bool), m ≤ cap → hh ≤ m → l ≤ hh → (tt = true → m = hh) → VR φ (.slice b (o + l * n) (hh - l) n tt) (.slice (if m = l then some ra else (some ra).map (·.add (l * n))) (hh - l) (m - l)) := by
      intro m hh l tt h1 h2 h3 h4
      have hmul : l * n + (m - l) * n ≤ cap * n := by
        rw [← Nat.add_mul]
        exact Nat.mul_le_mul_right n (by omega)
      by_cases hml : m = l
      · rw [if_pos hml]
        exact .slice hb (by omega) (fun ht => by have := h4 ht; omega) (.inl (by omega)) (by omega)
      · rw [if_neg hml]
        refine .slice hb (by omega) (fun ht => by have := h4 ht; omega) (.inr ?_) (by omega)
        rcases hra with h0 | rfl
        · omega
        · show Addr.add _ _ = _
          rw [add_none, Nat.add_assoc]
    split at h
    · simp only [Option.pure_def, Option.bind_eq_some_iff, Option.some.injEq] at h
      obtain ⟨hv, hh, l, hl, rfl⟩ := h
      cases mx' with
      | some _ => cases hmx
      | none =>
        have hr := fun w => run_bounds (P := P) (isSlice := true) (m := cap) hlo hhi (mx := none) (mx' := none) trivial hlc (.inl ⟨rfl, rfl⟩) (by simpa using hh) hl w
        have hle : hv ≤ len := by
          cases hi with
          | none => simp [boundA] at hh; omega
          | some z => cases hi' with
            | none => cases hhi
            | some q => exact (run_bound (P := P) (code := .sliceB) hh hhi (Nat.le_refl _) default).2
        refine ⟨_, main cap hv l _ (Nat.le_refl _) (hr default).2.2.1 (hr default).2.1 (fun ht => ?_), fun w => ?_⟩
        · simp at ht; have := htight ht.1; omega
        · simp [Instr.sliceAt, Instr.slice, run_underlying' hel, (hr w).1, run_sizeOf hn]
    · rename_i y
      simp only [Option.bind_eq_some_iff] at h
      obtain ⟨m, hm, h⟩ := h
      split at h
      · cases h
      rename_i hin
      simp only [Option.pure_def, Option.bind_eq_some_iff, Option.some.injEq] at h
      obtain ⟨hv, hh, l, hl, rfl⟩ := h
      cases mx' with
      | none => cases hmx
      | some q =>
        have hr := fun w => run_bounds (P := P) (isSlice := true) (m := m) hlo hhi (mx := some y) (mx' := some q) hmx hlc (.inr ⟨y, rfl, hm, fun e => by simp [e] at hin⟩) (by simpa using hh) hl w
        refine ⟨_, main m hv l _ (hr default).2.2.2 (hr default).2.2.1 (hr default).2.1 (fun ht => by simpa using ht), fun w => ?_⟩
        simp [Instr.sliceAt, Instr.slice, run_underlying' hel, (hr w).1, run_sizeOf hn]
  · rename_i el hel
    cases hx.nils_inv
    simp only [Option.bind_eq_bind] at h
    split at h
    · cases h
    · rename_i hm0
      have hm0 : mx = none := by cases mx <;> simp_all
      subst hm0
      simp only [Option.pure_def, Option.bind_eq_some_iff, Option.some.injEq] at h
      obtain ⟨n, hsz, hb, hh, l, hl, rfl⟩ := h
      cases mx' with
      | some _ => cases hmx
      | none =>
        refine ⟨_, .nils, fun w => ?_⟩
        obtain ⟨hr, h1, h2, h3⟩ := run_bounds (P := P) (isSlice := true) (len := 0) (cap := 0) (m := 0) hlo hhi (mx := none) (mx' := none) trivial (Nat.le_refl _) (.inl ⟨rfl, rfl⟩) (by simpa using hh) hl w
        have : l = 0 := by omega
        subst this
        have : hb = 0 := by omega
        subst this
        simp [Instr.sliceAt, Instr.slice, run_underlying' hel, hr, run_sizeOf hsz]
  · cases h

theorem gives_typeAssert {x v : AV} {u : Value} {xt t : TypeId} {ok : Bool} (hx : VR φ x u) (h : typeAssertA P x t ok = some v) : Gives P φ (Instr.typeAssert u xt t ok) v := by
  have hold : ∀ {y : AV} {r : Value}, VR φ y r → typeAssertA.holds ok y = some v → ∃ r', VR φ v r' ∧ r' = (if ok then .tuple #[r, .bool true] else r) := by
    intro y r hy hh
    simp only [typeAssertA.holds, Option.some.injEq] at hh
    subst hh
    cases ok with
    | true =>
      have := VR.tup_of (VRL.cons hy (VRL.cons (VR.bool (φ := φ) true) VRL.nil))
      exact ⟨_, by simpa using this, rfl⟩
    | false => exact ⟨_, by simpa using hy, rfl⟩
  have fail : typeAssertA.fails P t ok = some v → ok = true ∧ ∃ z, (∀ w, (zeroValue t).run P w = .ok z w) ∧ VR φ v (.tuple #[z, .bool false]) := by
    intro hh
    simp only [typeAssertA.fails] at hh
    cases ok with
    | true =>
      simp only [if_true, Option.map_eq_some_iff] at hh
      obtain ⟨z, hz, rfl⟩ := hh
      obtain ⟨i, z', _, _, hzr, _, _, _, _, hrun⟩ := run_zero (φ := φ) hz
      refine ⟨rfl, z', hrun, ?_⟩
      have := VR.tup_of (VRL.cons hzr (VRL.cons (VR.bool (φ := φ) false) VRL.nil))
      simpa using this
    | false => simp at hh
  unfold typeAssertA at h
  split at h
  · rename_i ms hms
    cases hx.nili_inv
    obtain ⟨rfl, z, hz, hr⟩ := fail h
    refine ⟨_, hr, fun w => ?_⟩
    simp [Instr.typeAssert, run_underlying' hms, hz]
  · rename_i want t' y hw
    obtain ⟨r, rfl, hy⟩ := hx.iface_inv
    simp only [Option.bind_eq_bind, Option.bind_eq_some_iff] at h
    obtain ⟨i, hi, h⟩ := h
    split at h
    · rename_i hmm
      obtain ⟨r', hr', rfl⟩ := hold (.iface hy) h
      refine ⟨_, hr', fun w => ?_⟩
      simp [Instr.typeAssert, run_underlying' hw, typeInfo, hi, hmm]
    · rename_i m hmm
      obtain ⟨rfl, z, hz, hr⟩ := fail h
      refine ⟨_, hr, fun w => ?_⟩
      simp [Instr.typeAssert, run_underlying' hw, typeInfo, hi, hmm, hz]
  · rename_i d hne hd
    cases hx.nili_inv
    obtain ⟨rfl, z, hz, hr⟩ := fail h
    refine ⟨_, hr, fun w => ?_⟩
    simp only [Instr.typeAssert, Sem.run_bind, run_underlying' hd, Result.andThen_ok]
    cases d <;> first | (exact absurd rfl (by simpa using hne _)) | simp [hz]
  · rename_i d t' y hne hd
    obtain ⟨r, rfl, hy⟩ := hx.iface_inv
    split at h
    · rename_i heq
      obtain ⟨r', hr', rfl⟩ := hold hy h
      refine ⟨_, hr', fun w => ?_⟩
      simp only [Instr.typeAssert, Sem.run_bind, run_underlying' hd, Result.andThen_ok]
      cases d <;> first | (exact absurd rfl (by simpa using hne _)) | simp [heq]
    · rename_i heq
      obtain ⟨rfl, z, hz, hr⟩ := fail h
      refine ⟨_, hr, fun w => ?_⟩
      simp only [Instr.typeAssert, Sem.run_bind, run_underlying' hd, Result.andThen_ok]
      cases d <;> first | (exact absurd rfl (by simpa using hne _)) | simp [heq, hz]
  · cases h

end
end Go.Vai
