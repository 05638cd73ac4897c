/- Regions: what a trace says; what waits for what; readers and new blocks; regions that run in the order of the text. -/
import Derived.Test.YtckjdbmadheamaaGreatDoorR15
set_option linter.all false
namespace Go.Vai

mutual
theorem avEq_eq : ∀ (a b : AV), avEq a b = true → a = b
  | .int k a, b, h => by cases b <;> simp [avEq] at h; simp [h]
  | .bool a, b, h => by cases b <;> simp [avEq] at h; simp [h]
  | .str a, b, h => by cases b <;> simp [avEq] at h; simp [h]
  | .ptr a c, b, h => by cases b <;> simp [avEq] at h; simp [h]
  | .nilp, b, h => by cases b <;> simp [avEq] at h; rfl
  | .slice a c d e f, b, h => by cases b <;> simp [avEq] at h; simp [h]
  | .nils, b, h => by cases b <;> simp [avEq] at h; rfl
  | .map a, b, h => by cases b <;> simp [avEq] at h; simp [h]
  | .nilm, b, h => by cases b <;> simp [avEq] at h; rfl
  | .func f x y, b, h => by
    cases b <;> simp [avEq] at h
    obtain ⟨⟨rfl, h1⟩, h2⟩ := h
    rw [avEqL_eq _ _ h1, avEqL_eq _ _ h2]
  | .nilf, b, h => by cases b <;> simp [avEq] at h; rfl
  | .iface t a, b, h => by
    cases b <;> simp [avEq] at h
    obtain ⟨rfl, h1⟩ := h
    rw [avEq_eq _ _ h1]
  | .nili, b, h => by cases b <;> simp [avEq] at h; rfl
  | .agg l, b, h => by
    cases b <;> simp [avEq] at h
    rw [avEqL_eq _ _ h]
  | .tup l, b, h => by
    cases b <;> simp [avEq] at h
    rw [avEqL_eq _ _ h]
theorem avEqL_eq : ∀ (a b : List AV), avEqL a b = true → a = b
  | [], b, h => by cases b <;> simp [avEqL] at h; rfl
  | a :: l, b, h => by
    cases b <;> simp [avEqL] at h
    rw [avEq_eq _ _ h.1, avEqL_eq _ _ h.2]
end

/-- the steps of a region in the order of the text -/
structure Trc (P : Program) (callF : CallF) (N : Nat) (ops : Array Oper) (l : List Oper) (E : Nat → Env) (H : Nat → AH) (V : Nat → AV) (ran : Nat → Bool) : Prop where
  step : ∀ (i : Nat) (o : Oper), l[i]? = some o → wantedA ops (E i) o = some (ran i) ∧ (ran i = true → evOp P callF (E i) (H i) o.op = some (V i, H (i + 1))) ∧
    (ran i = false → V i = .tup [] ∧ H (i + 1) = H i) ∧ setDst N (E i) o.dst (V i) = some (E (i + 1)) ∧ (H i).next ≤ (H (i + 1)).next

theorem trace_spec {P : Program} {callF : CallF} {N : Nat} {ops : Array Oper} : ∀ (l : List Oper) (e : Env) (h : AH) (tr : List Rec) (e' : Env) (h' : AH), evTrace P callF N ops l e h = some (tr, e', h') →
    ∃ (E : Nat → Env) (H : Nat → AH) (V : Nat → AV) (ran : Nat → Bool), Trc P callF N ops l E H V ran ∧ E 0 = e ∧ H 0 = h ∧ E l.length = e' ∧ H l.length = h' ∧ tr.length = l.length ∧ ∀ (i : Nat) (r : Rec), tr[i]? = some r → r = ⟨E i, H i, ran i, V i, H (i + 1)⟩
  | [], e, h, tr, e', h', hv => by
    simp [evTrace] at hv
    obtain ⟨rfl, rfl, rfl⟩ := hv
    exact ⟨fun _ => e, fun _ => h, fun _ => .nilp, fun _ => false, ⟨fun i o hi => by simp at hi⟩, rfl, rfl, rfl, rfl, rfl, fun i r hr => by simp at hr⟩
  | o :: l, e, h, tr, e', h', hv => by
    simp only [evTrace, Option.bind_eq_bind] at hv
    obtain ⟨b, hb, hv⟩ := Option.bind_eq_some_iff.1 hv
    obtain ⟨⟨v, h1⟩, hop, hv⟩ := Option.bind_eq_some_iff.1 hv
    unfold evIf at hop
    dsimp only at hv
    split at hv
    · cases hv
    rename_i hnext
    obtain ⟨e1, hset, hv⟩ := Option.bind_eq_some_iff.1 hv
    obtain ⟨⟨r, z⟩, htr, hv⟩ := Option.bind_eq_some_iff.1 hv
    cases hv
    obtain ⟨E, H, V, ran, ht, hE0, hH0, hEn, hHn, hlen, hrec⟩ := trace_spec l e1 h1 r e' h' htr
    refine ⟨fun i => match i with | 0 => e | i + 1 => E i, fun i => match i with | 0 => h | i + 1 => H i, fun i => match i with | 0 => v | i + 1 => V i, fun i => match i with | 0 => b | i + 1 => ran i,
      ⟨fun i o' hi => ?_⟩, rfl, rfl, hEn, hHn, by simp [hlen], fun i r' hr => ?_⟩
    · cases i with
      | zero =>
        simp at hi
        subst hi
        dsimp only
        rw [hE0, hH0]
        refine ⟨hb, fun hb1 => ?_, fun hb0 => ?_, hset, Nat.le_of_not_lt hnext⟩
        · rw [if_pos hb1] at hop; exact hop
        · rw [if_neg (by simp [hb0])] at hop; cases hop; exact ⟨rfl, rfl⟩
      | succ i => exact ht.step i o' (by simpa using hi)
    · cases i with
      | zero =>
        simp at hr
        subst hr
        dsimp only
        rw [hH0]
      | succ i => exact hrec i r' (by simpa using hr)

/-- readers: what is there in another memory reads the same -/
theorem read_mono {P : Program} {callF : CallF} {e : Env} {h g h1 : AH} {o : Op} {v : AV} (hc : cls P o = .load) (hag : ∀ b x, h.get b = some x → g.get b = some x) (hv : evOp P callF e h o = some (v, h1)) :
    evOp P callF e g o = some (v, g) := by
  have hrow : ∀ b c, rowOf h b = some c → rowOf g b = some c := fun b c hb => by
    unfold rowOf at hb ⊢
    split at hb
    · rename_i hx
      rw [hag _ _ hx]
      exact hb
    · cases hb
  cases o <;> simp only [cls] at hc <;> first | (cases hc; done) | skip
  case load t a =>
    simp only [evOp, Option.bind_eq_bind] at hv ⊢
    obtain ⟨p, hp, hv⟩ := Option.bind_eq_some_iff.1 hv
    rw [hp]
    split at hv
    · obtain ⟨rfl, hl⟩ := map_pair hv
      unfold loadT at hl
      simp only [Option.bind_eq_bind] at hl
      obtain ⟨c, hc, hl⟩ := Option.bind_eq_some_iff.1 hl
      simp only [Option.bind_some, loadT, Option.bind_eq_bind, hrow _ _ hc, hl, Option.map_some]
    · cases hv
  case lookup t m k ok =>
    simp only [evOp, Option.bind_eq_bind] at hv ⊢
    obtain ⟨p, hp, hv⟩ := Option.bind_eq_some_iff.1 hv
    obtain ⟨q, hq, hv⟩ := Option.bind_eq_some_iff.1 hv
    obtain ⟨rfl, hl⟩ := map_pair hv
    have : lookupA P g t p q ok = some v := by
      unfold lookupA at hl ⊢
      split at hl
      · split at hl
        · rename_i hf
          simp only [Option.bind_eq_bind] at hl ⊢
          obtain ⟨es, hes, hl⟩ := Option.bind_eq_some_iff.1 hl
          have : mapOf g p = some es := by
            unfold mapOf at hes ⊢
            split at hes
            · exact hes
            · split at hes
              · rename_i hx
                rw [hag _ _ hx]
                exact hes
              · cases hes
            · cases hes
          rw [if_pos hf, this]
          exact hl
        · cases hl
      · cases hl
    rw [hp, hq]
    simp only [Option.bind_some, this, Option.map_some]
  case convert s d x =>
    simp only [evOp, Option.bind_eq_bind] at hv ⊢
    obtain ⟨p, hp, hv⟩ := Option.bind_eq_some_iff.1 hv
    rw [hp]
    simp only [Option.bind_some]
    unfold convertA at hv ⊢
    split at hv
    · cases hv; rfl
    · cases hv; rfl
    · rename_i el st hs hd
      rw [hs, hd] at hc; cases hc
    · split at hv
      · rename_i hh
        cases hv
        rfl
      · cases hv
    · split at hv
      · simp only [Option.bind_eq_bind] at hv ⊢
        split at hv
        · cases hv
        · rename_i hne
          rw [if_neg hne]
          obtain ⟨c, hc, hv⟩ := Option.bind_eq_some_iff.1 hv
          obtain ⟨l, hl, hv⟩ := Option.bind_eq_some_iff.1 hv
          obtain ⟨s, hs, hv⟩ := Option.bind_eq_some_iff.1 hv
          cases hv
          simp only [hrow _ _ hc, Option.bind_some, hl, hs]
          rfl
      · cases hv
    · cases hv
  case call c =>
    simp only [evOp, Option.bind_eq_bind] at hv ⊢
    obtain ⟨vs, hvs, hv⟩ := Option.bind_eq_some_iff.1 hv
    rw [hvs]
    simp only [Option.bind_some]
    split at hv
    · rename_i b hb
      rw [hb] at hc
      cases b <;> first | (cases hc; done) | skip
      cases hts : c.argTypes.toList with
      | nil => rw [hts] at hv; cases hv
      | cons t ts =>
        cases vs with
        | nil => rw [hts] at hv; cases hv
        | cons x xs =>
          rw [hts] at hv
          cases xs with
          | cons y ys => cases hv
          | nil =>
          obtain ⟨rfl, hl⟩ := map_pair (show (lenA P h t x).map (·, h) = some (v, h1) from hv)
          have : lenA P g t x = some v := by
            unfold lenA at hl ⊢
            split at hl <;> try exact hl
            split at hl
            · rename_i hx
              rw [hag _ _ hx]
              exact hl
            · cases hl
          show (lenA P g t x).map (·, g) = _
          rw [this]; rfl
    · rename_i hb
      rw [hb] at hc; cases hc
    · rename_i hb
      rw [hb] at hc; cases hc

/- what waits for what -/
theorem waits_len (l : List Oper) : ∀ acc, (waits l acc).length = acc.length + l.length := by
  induction l with
  | nil => intro acc; simp [waits]
  | cons o l ih => intro acc; simp [waits, ih]; omega

theorem waits_old (l : List Oper) : ∀ acc i, i < acc.length → (waits l acc).getD i 0 = acc.getD i 0 := by
  induction l with
  | nil => intro acc i hi; rfl
  | cons o l ih =>
    intro acc i hi
    rw [waits, ih _ _ (by simp; omega)]
    simp [List.getElem?_append_left hi]

theorem fold_bits (acc : List Nat) (i : Nat) : ∀ (l : List Edge) (s : Nat), (l.foldl (fun s e => if Region.binds .any e then s ||| 2 ^ e.on ||| acc.getD e.on 0 else s) s).testBit i = true →
    s.testBit i = true ∨ ∃ e ∈ l, Region.binds .any e = true ∧ (e.on = i ∨ (acc.getD e.on 0).testBit i = true) := by
  intro l
  induction l with
  | nil => intro s h; exact .inl h
  | cons e l ih =>
    intro s h
    rw [List.foldl_cons] at h
    rcases ih _ h with h | ⟨e', hm, hb, hx⟩
    · split at h
      · rename_i hb
        rw [Nat.testBit_or, Nat.testBit_or, Nat.testBit_two_pow] at h
        simp only [Bool.or_eq_true, decide_eq_true_eq] at h
        rcases h with (h | h) | h
        · exact .inl h
        · exact .inr ⟨e, by simp, hb, .inl h⟩
        · exact .inr ⟨e, by simp, hb, .inr h⟩
      · exact .inl h
    · exact .inr ⟨e', by simp [hm], hb, hx⟩

theorem waits_spec (l : List Oper) : ∀ (acc : List Nat) (j i : Nat), acc.length ≤ j → ((waits l acc).getD j 0).testBit i = true →
    ∃ o, l[j - acc.length]? = some o ∧ ∃ e ∈ o.after, Region.binds .any e = true ∧ (e.on = i ∨ (e.on < j ∧ ((waits l acc).getD e.on 0).testBit i = true)) := by
  induction l with
  | nil =>
    intro acc j i hj h
    rw [waits, List.getD_eq_getElem?_getD, List.getElem?_eq_none hj] at h
    simp at h
  | cons o l ih =>
    intro acc j i hj h
    rw [waits] at h
    rcases Nat.lt_or_ge acc.length j with hlt | hge
    · obtain ⟨o', ho, rest⟩ := ih _ j i (by simp; omega) h
      refine ⟨o', ?_, rest⟩
      rw [show j - acc.length = (j - (acc.length + 1)) + 1 from by omega]
      simpa using ho
    · have hje : j = acc.length := by omega
      subst hje
      rw [waits_old _ _ _ (by simp)] at h
      simp only [List.getD_eq_getElem?_getD, List.getElem?_append_right (Nat.le_refl _), Nat.sub_self, List.getElem?_cons_zero, Option.getD_some] at h
      have h' := fold_bits acc i o.after.toList 0 (by simpa [List.getD_eq_getElem?_getD] using h)
      rcases h' with h' | ⟨e, hm, hb, hx⟩
      · simp at h'
      · refine ⟨o, by simp, e, by simpa using hm, hb, ?_⟩
        rcases hx with hx | hx
        · exact .inl hx
        · right
          have hlt : e.on < acc.length := by
            rcases Nat.lt_or_ge e.on acc.length with h' | h'
            · exact h'
            · rw [List.getD_eq_getElem?_getD, List.getElem?_eq_none h'] at hx; simp at hx
          refine ⟨hlt, ?_⟩
          rw [waits, waits_old _ _ _ (by simp; omega)]
          simpa [List.getD_eq_getElem?_getD, List.getElem?_append_left hlt] using hx

/-- what is before something that is listed, or ready, is listed -/
theorem ordered_listed {ops : Array Oper} {L : Nat → Bool} (hcl : ∀ (j : Nat) (o : Oper), ops[j]? = some o → L j = true → ∀ e ∈ o.after, Region.binds .any e = true → L e.on = true) {j : Nat} {o : Oper} (hj : ops[j]? = some o)
    (hr : L j = true ∨ ∀ e ∈ o.after, Region.binds .any e = true → L e.on = true) {i : Nat} (h : orderedB (waits ops.toList []) i j = true) : L i = true := by
  unfold orderedB at h
  induction j using Nat.strongRecOn generalizing o with
  | ind j ih =>
    obtain ⟨o', ho', e, he, hb, hx⟩ := waits_spec ops.toList [] j i (Nat.zero_le _) h
    rw [List.length_nil, Nat.sub_zero, Array.getElem?_toList, hj] at ho'
    cases ho'
    have hle : L e.on = true := hr.elim (fun hl => hcl j o hj hl e he hb) (fun hl => hl e he hb)
    rcases hx with rfl | ⟨hlt, hx⟩
    · exact hle
    · have : e.on < ops.size := by
        obtain ⟨o', ho', _⟩ := waits_spec ops.toList [] e.on i (Nat.zero_le _) hx
        rw [List.length_nil, Nat.sub_zero, Array.getElem?_toList] at ho'
        exact (Array.getElem?_eq_some_iff.1 ho').1
      exact ih e.on hlt (Array.getElem?_eq_getElem this) (.inl hle) hx

section
variable {φ : Phi} {P : Program} {callF : CallF} {N : Nat}

theorem wanted_R {ops : Array Oper} {e : Env} {a : Act} {o : Oper} {b : Bool} (he : EnvR φ e a.tmps) (h : wantedA ops e o = some b) : Region.wanted o (yielded ops a.tmps) = b := by
  unfold wantedA at h
  unfold Region.wanted
  split at h
  · rename_i hg
    rw [hg]; cases h; rfl
  · rename_i j want hg
    simp only [Option.bind_eq_bind] at h
    obtain ⟨oj, hoj, h⟩ := Option.bind_eq_some_iff.1 h
    obtain ⟨d, hd, h⟩ := Option.bind_eq_some_iff.1 h
    obtain ⟨x, hx, h⟩ := Option.bind_eq_some_iff.1 h
    obtain ⟨u, hu, hr⟩ := he d x hx
    rw [hg]
    simp only [yielded, hoj, Option.bind_some, hd, hu]
    split at h
    · cases h
      rw [hr.bool_inv]
      simp
    · rename_i hne
      cases h
      cases hr <;> first | rfl | exact absurd rfl (hne _)

theorem env_put {e e1 : Env} {a : Act} {d : Option Tmp} {v : AV} {u : Value} (he : EnvR φ e a.tmps) (hN : N ≤ a.tmps.size) (hr : VR φ v u) (h : setDst N e d v = some e1) : EnvR φ e1 (a.put d u).tmps := by
  unfold setDst at h
  split at h
  · rename_i d
    split at h
    · rename_i hlt
      cases h
      intro t x hx
      unfold Env.set at hx
      by_cases ht : t = d
      · subst ht
        simp at hx
        subst hx
        exact ⟨u, Array.getElem?_setIfInBounds_self_of_lt (Nat.lt_of_lt_of_le hlt hN), hr⟩
      · simp [ht] at hx
        obtain ⟨y, hy, hyr⟩ := he t x hx
        exact ⟨y, by simp [Act.put, Array.getElem?_setIfInBounds_ne (Ne.symm ht), hy], hyr⟩
    · cases h
  · cases h
    exact he

theorem put_size (a : Act) (d : Option Tmp) (u : Value) : (a.put d u).tmps.size = a.tmps.size := by cases d <;> simp [Act.put]
theorem put_defers (a : Act) (d : Option Tmp) (u : Value) : (a.put d u).defers = a.defers := by cases d <;> rfl
theorem EnvR.mono {φ φ' : Phi} {e : Env} {t : Array Value} (h : EnvR φ e t) (k : Phi.le φ φ') : EnvR φ' e t := fun x v hx => let ⟨u, hu, hr⟩ := h x v hx; ⟨u, hu, hr.mono k⟩

/-- one operation, of whatever class -/
theorem sim_op {o : Oper} {e : Env} {a : Act} {h h' : AH} {w : World} {v : AV} (hF : SimF P callF) (he : EnvR φ e a.tmps) (hg : GlobR φ) (r : RelM φ h w) (hv : evOp P callF e h o.op = some (v, h')) :
    After P (fun u w' => ∃ φ', StepR φ φ' h h' w w' ∧ VR φ' v u) ((execOp a.eval o).run P w) := by
  cases hc : cls P o.op with
  | pure =>
    obtain ⟨rfl, u, hu, hrun⟩ := sim_pure he hg hc hv
    rw [hrun w]
    exact ⟨φ, StepR.refl r, hu⟩
  | load =>
    obtain ⟨rfl, u, hu, hrun⟩ := sim_read he hg r hc hv
    rw [hrun]
    exact ⟨φ, StepR.refl r, hu⟩
  | alloc =>
    obtain ⟨obj, rfl, hl⟩ := sim_alloc he hg hc hv
    obtain ⟨u, w', φ', hrun, hst, hvr⟩ := hl.step r
    rw [hrun]
    exact ⟨φ', hst, hvr⟩
  | eff => exact sim_eff hF he hg r hc hv

/-- a region in the order of the text -/
theorem sim_ops {ops : Array Oper} {Q : Exit → Act → World → Prop} (hF : SimF P callF) : ∀ (l : List Oper) (k : Nat) (e e' : Env) (h h' : AH) (φ : Phi) (a : Act) (w : World), (∀ i, l[i]? = ops[k + i]?) → evOps P callF N ops l e h = some (e', h') →
    EnvR φ e a.tmps → N ≤ a.tmps.size → GlobR φ → RelM φ h w →
    (∀ φ' a' w', StepR φ φ' h h' w w' → EnvR φ' e' a'.tmps → a'.tmps.size = a.tmps.size → a'.defers = a.defers → Q .normal a' w') → wpOps P ops Q (List.range' k l.length) a w
  | [], k, e, e', h, h', φ, a, w, _, hv, he, hN, hg, r, hQ => by
    cases hv
    exact hQ φ a w (StepR.refl r) he rfl rfl
  | o :: l, k, e, e', h, h', φ, a, w, hops, hv, he, hN, hg, r, hQ => by
    simp only [evOps, Option.bind_eq_bind] at hv
    obtain ⟨⟨v, h1⟩, hone, hv⟩ := Option.bind_eq_some_iff.1 hv
    obtain ⟨e1, hset, hv⟩ := Option.bind_eq_some_iff.1 hv
    have ho : ops[k]? = some o := by have := hops 0; simpa using this.symm
    have hops' : ∀ i, l[i]? = ops[k + 1 + i]? := fun i => by have := hops (i + 1); simpa [Nat.add_assoc, Nat.add_comm 1 i] using this
    rw [List.length_cons, List.range'_succ, wpOps_cons]
    unfold wpOp
    simp only [ho]
    unfold evOne at hone
    simp only [Option.bind_eq_bind] at hone
    obtain ⟨b, hb, hone⟩ := Option.bind_eq_some_iff.1 hone
    rw [wanted_R he hb]
    have next : ∀ (φ1 : Phi) (u : Value) (w1 : World), StepR φ φ1 h h1 w w1 → VR φ1 v u → wpOps P ops Q (List.range' (k + 1) l.length) (a.put o.dst u) w1 := fun φ1 u w1 hst hvr => by
      refine sim_ops hF l (k + 1) e1 e' h1 h' φ1 (a.put o.dst u) w1 hops' hv (env_put (he.mono hst.ext) hN hvr hset) (by rw [put_size]; exact hN) (hg.mono hst.ext) hst.rel (fun φ' a' w' hst' he' hs hd => ?_)
      exact hQ φ' a' w' (hst.trans hst') he' (by rw [hs, put_size]) (by rw [hd, put_defers])
    cases b with
    | true =>
      simp only [if_true]
      exact .inl ((sim_op hF he hg r hone).mono (fun u w1 hh => next hh.choose u w1 hh.choose_spec.1 hh.choose_spec.2)).upon
    | false =>
      cases hone
      simp only [Bool.false_eq_true, if_false]
      exact next φ undef w (StepR.refl r) (by simpa [undef] using VR.tup_of (φ := φ) .nil)

end
end Go.Vai
