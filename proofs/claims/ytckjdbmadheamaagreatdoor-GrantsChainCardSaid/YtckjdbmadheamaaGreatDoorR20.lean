/- A region that draws its order: one operation more; all of it. -/
import Derived.Test.YtckjdbmadheamaaGreatDoorR19
set_option linter.all false
namespace Go.Vai

section
variable {P : Program} {callF : CallF} {N : Nat} {ops : Array Oper} {E : Nat → Env} {H : Nat → AH} {V : Nat → AV} {ran : Nat → Bool}
variable {φ0 : Phi} {a0 : Act} {w0 : World} {L : Nat → Bool} {m : Nat} {Φ : Phi} {a : Act} {w : World}

theorem GlobR.cut {n : Nat} (hg : GlobR φ0) (r : RelM φ0 (H 0) w0) (hn : (H 0).next ≤ n) (hle : Phi.le φ0 Φ) : GlobR (Φ.cut n) := fun g hgl => by
  obtain ⟨lim, e⟩ := hg g hgl
  have := r.dom _ _ e
  exact ⟨lim, by rw [Phi.cut_lt _ (by omega)]; exact hle _ _ e⟩

theorem Inv.le (I : Inv P callF ops E H V ran φ0 a0 w0 L m Φ a w) : Phi.le φ0 Φ := Phi.le_trans I.st.ext (Phi.cut_le _ _)

/-- the slots an operation looks at -/
def lookEnv (ops : Array Oper) (o : Oper) (e : Env) : Env := fun t => if t ∈ o.looksAt ops then e t else none

def opTmps (o : Op) : List Tmp := o.operands.toList.filterMap fun | .tmp t => some t | _ => none

theorem mem_opTmps {o : Op} {t : Tmp} : t ∈ opTmps o ↔ Operand.tmp t ∈ o.operands := by
  unfold opTmps
  rw [List.mem_filterMap]
  constructor
  · rintro ⟨x, hx, he⟩
    split at he
    · cases he; simpa using hx
    · cases he
  · exact fun h => ⟨.tmp t, by simpa using h, rfl⟩

theorem lookEnv_op {o : Oper} {e : Env} {h : AH} : evOp P callF (lookEnv ops o e) h o.op = evOp P callF e h o.op :=
  evOp_congr fun x hx t ht => by
    subst ht
    have : t ∈ o.looksAt ops := List.mem_append_left _ (List.mem_filterMap.2 ⟨.tmp t, by simpa using hx, rfl⟩)
    simp [lookEnv, this]

theorem lookEnv_wanted {o : Oper} {e : Env} : wantedA ops (lookEnv ops o e) o = wantedA ops e o := wantedA_congr fun t ht => by simp [lookEnv, ht]

theorem Inv.env (D : Drawn P callF N ops E H V ran) (I : Inv P callF ops E H V ran φ0 a0 w0 L m Φ a w) {i : Nat} {o : Oper} (hr : Rdy ops L i o) : EnvR Φ (lookEnv ops o (E i)) a.tmps := fun t x hx => by
  unfold lookEnv at hx
  split at hx
  · exact I.slots.look D I.cl hr ‹_› hx
  · cases hx

theorem cl_upd (hcl : ∀ (j : Nat) (o : Oper), ops[j]? = some o → L j = true → ∀ e ∈ o.after, Region.binds .any e = true → L e.on = true) {i : Nat} {o : Oper} (hr : Rdy ops L i o) :
    ∀ (j : Nat) (o : Oper), ops[j]? = some o → updL L i j = true → ∀ e ∈ o.after, Region.binds .any e = true → updL L i e.on = true := fun j oj hj hl e he hb => by
  by_cases hji : j = i
  · subst hji
    have := hr.at_
    rw [hj] at this; cases this
    exact updL_le (hr.after e he hb)
  · rw [updL_ne _ hji] at hl
    exact updL_le (hcl j oj hj hl e he hb)

/-- an operation that changes no memory -/
theorem Inv.quiet (D : Drawn P callF N ops E H V ran) (hN : N ≤ a0.tmps.size) (I : Inv P callF ops E H V ran φ0 a0 w0 L m Φ a w) {i : Nat} {o : Oper} (hr : Rdy ops L i o) (hq : ran i = true → cls P o.op ≠ .eff ∧ cls P o.op ≠ .alloc) {u : Value} (hu : VR Φ (V i) u) :
    Inv P callF ops E H V ran φ0 a0 w0 (updL L i) m Φ (a.put o.dst u) w := by
  refine ⟨I.mle, cl_upd I.cl hr, fun j oj hj hc hrj => ?_, I.st, I.slots.put D (Phi.le_refl _) hr.at_ (by rw [I.sz]; exact hN) hu, by rw [put_size]; exact I.sz, by rw [put_defers]; exact I.df,
    fun j oj hj hc hrj hl => I.un j oj hj hc hrj (updL_false hl).2, fun j oj hj hc hrj hl => ?_, fun A loc e hA => ?_, I.inj, fun j oj hj hc hrj hl hle => I.rd j oj hj hc hrj (updL_false hl).2 hle⟩
  · have : j ≠ i := fun e => by
      subst e
      have := hr.at_
      rw [hj] at this; cases this
      exact (hq hrj).1 hc
    rw [updL_ne _ this]
    exact I.eff j oj hj hc hrj
  · have : j ≠ i := fun e => by
      subst e
      have := hr.at_
      rw [hj] at this; cases this
      exact (hq hrj).2 hc
    rw [updL_ne _ this] at hl
    exact I.mat j oj hj hc hrj hl
  · obtain ⟨k, ok, obj, ro, h1, h2, h3, h4, h5⟩ := I.ex A loc e hA
    exact ⟨k, ok, obj, ro, h1, h2, h3, updL_le h4, h5⟩

/-- an effect that stands ahead and is not done does not bind what is ready -/
theorem not_ordered (I : Inv P callF ops E H V ran φ0 a0 w0 L m Φ a w) {i : Nat} {o : Oper} (hi : ops[i]? = some o) (hr : L i = true ∨ ∀ e ∈ o.after, Region.binds .any e = true → L e.on = true) {j : Nat} (hj : L j = false) : orderedB (waits ops.toList []) j i = false := by
  cases h : orderedB (waits ops.toList []) j i with
  | false => rfl
  | true => have := ordered_listed I.cl hi hr h; rw [hj] at this; cases this

/-- no block was laid early, where none may -/
theorem Inv.none_early (I : Inv P callF ops E H V ran φ0 a0 w0 L m Φ a w) (hstop : ∀ o, ops[m]? = some o → cls P o.op = .eff ∧ ran m = true) (he : early P ops = false) : Φ.cut (H m).next = Φ := by
  funext A
  rcases Nat.lt_or_ge A (H m).next with h | h
  · exact Phi.cut_lt _ h
  · rw [Phi.cut_ge _ h]
    cases hA : Φ A with
    | none => rfl
    | some loc =>
      exfalso
      obtain ⟨k, ok, obj, ro, h1, h2, h3, h4, h5, _⟩ := I.ex A loc hA h
      have hk := (Array.getElem?_eq_some_iff.1 h1).1
      have hm : ops[m]? = some ops[m] := by simp
      obtain ⟨c1, c2⟩ := hstop _ hm
      have hlm : L m = false := by
        cases hl : L m with
        | false => rfl
        | true => have := (I.eff m _ hm c1 c2).1 hl; omega
      have hne : k ≠ m := fun e => by subst e; rw [hm] at h1; cases h1; rw [c1] at h2; cases h2
      have := early_of hm h1 c1 h2 (by omega) (not_ordered I h1 (.inl h4) hlm)
      rw [he] at this; cases this

/-- an operation that is ready -/
theorem Inv.step (D : Drawn P callF N ops E H V ran) (hF : SimF P callF) (hg : GlobR φ0) (r0 : RelM φ0 (H 0) w0) (hN : N ≤ a0.tmps.size) (I : Inv P callF ops E H V ran φ0 a0 w0 L m Φ a w) (hstop : ∀ o, ops[m]? = some o → cls P o.op = .eff ∧ ran m = true)
    {i : Nat} {o : Oper} (hr : Rdy ops L i o) {Q : Exit → Act → World → Prop} {K : Act → World → Prop} (hK : ∀ m' Φ' a' w', Inv P callF ops E H V ran φ0 a0 w0 (updL L i) m' Φ' a' w' → K a' w') : wpOp P ops Q i K a w := by
  have hi := (Array.getElem?_eq_some_iff.1 hr.at_).1
  have henv := I.env D hr
  have hm0 := D.mono (Nat.zero_le m) I.mle
  obtain ⟨hwant, hrun, hnot, hset, hnx⟩ := D.tr.step i o (by simpa using hr.at_)
  have hw : Region.wanted o (yielded ops a.tmps) = ran i := wanted_R henv (by rw [lookEnv_wanted]; exact hwant)
  have hstm : m < ops.size → ∃ om, ops[m]? = some om ∧ cls P om.op = .eff ∧ ran m = true ∧ L m = false := fun hm => by
    have hom : ops[m]? = some ops[m] := by simp
    obtain ⟨c1, c2⟩ := hstop _ hom
    refine ⟨_, hom, c1, c2, ?_⟩
    cases hl : L m with
    | false => rfl
    | true => have := (I.eff m _ hom c1 c2).1 hl; omega
  unfold wpOp
  simp only [hr.at_, hw]
  cases hri : ran i with
  | false =>
    simp only [Bool.false_eq_true, if_false]
    refine hK m Φ _ w (I.quiet D hN hr (fun h => by rw [hri] at h; cases h) ?_)
    rw [(hnot hri).1]
    simpa [undef] using VR.tup_of (φ := Φ) .nil
  | true =>
    simp only [if_true]
    left
    have hev := hrun hri
    unfold Oper.wp
    have hrel := I.st.rel
    cases hc : cls P o.op with
    | pure =>
      obtain ⟨_, u, hu, hrn⟩ := sim_pure (a := a) henv (fun g hgl => let ⟨l, e⟩ := hg g hgl; ⟨l, I.le _ _ e⟩) hc (by rw [lookEnv_op]; exact hev)
      rw [hrn w]
      exact hK m Φ _ w (I.quiet D hN hr (fun _ => by rw [hc]; simp) hu)
    | load =>
      have hval : ∃ x, evOp P callF (E i) (H m) o.op = some (V i, x) := by
        rcases Nat.lt_or_ge m i with h | h
        · obtain ⟨om, hom, c1, c2, hlm⟩ := hstm (by omega)
          refine (D.loose i m o om hr.at_ hom hc c1 ?_ (not_ordered I hr.at_ (.inr hr.after) hlm) hri c2).1
          cases ho : orderedB (waits ops.toList []) i m with
          | false => rfl
          | true => have := ordered_lt D.ok ho; omega
        · exact I.rd i o hr.at_ hc hri hr.un h
      obtain ⟨x, hx⟩ := hval
      have hb := read_below hc hrel.hdom hx
      have henv2 : EnvR (Φ.cut (H m).next) (fun t => if t ∈ opTmps o.op then E i t else none) a.tmps := fun t y hy => by
        dsimp only at hy
        split at hy
        · rename_i hmem
          have hl : t ∈ o.looksAt ops := List.mem_append_left _ hmem
          have hmem := mem_opTmps.1 hmem
          obtain ⟨u, hu, hr'⟩ := henv t y (by simp [lookEnv, hl, hy])
          exact ⟨u, hu, hr'.cut (hb t y hmem hy)⟩
        · cases hy
      obtain ⟨_, u, hu, hrn⟩ := sim_read (a := a) henv2 (GlobR.cut hg r0 hm0 I.le) hrel hc (v := V i) (h' := x) (by
        rw [← hx]
        exact evOp_congr fun y hy t ht => by subst ht; simp [mem_opTmps.2 hy])
      rw [hrn]
      exact hK m Φ _ w (I.quiet D hN hr (fun _ => by rw [hc]; simp) (hu.mono (Phi.cut_le _ _)))
    | alloc =>
      obtain ⟨obj, hnew, hl⟩ := sim_alloc (a := a) henv (fun g hgl => let ⟨l, e⟩ := hg g hgl; ⟨l, I.le _ _ e⟩) hc (by rw [lookEnv_op]; exact hev)
      obtain ⟨u, ro, w', lim, hrn, hheap, hos, htape, hout, hnr, hvr⟩ := hl w
      rw [hrn]
      have hnone := (I.un i o hr.at_ hc hri hr.un).1
      have hle : Phi.le Φ (Φ.upd (H i).next ⟨w.heap.size, 0, lim⟩) := fun A l e => by
        by_cases hA : A = (H i).next
        · subst hA; rw [hnone] at e; cases e
        · rw [Phi.upd_ne _ _ hA]; exact e
      have hu := hvr _ hle (Phi.upd_self _ _ _)
      have hw0 : w0.heap.size ≤ w.heap.size := I.st.size
      have hcl := cl_upd I.cl hr
      have heff : ∀ (j : Nat) (oj : Oper), ops[j]? = some oj → cls P oj.op = .eff → ran j = true → (updL L i j = true ↔ j < m) := fun j oj hj hcj hrj => by
        have : j ≠ i := fun e => by
          subst e
          have := hr.at_
          rw [hj] at this; cases this
          rw [hc] at hcj; cases hcj
        rw [updL_ne _ this]
        exact I.eff j oj hj hcj hrj
      have hslots := I.slots.put D hle hr.at_ (by rw [I.sz]; exact hN) hu
      have hmat : ∀ (j : Nat) (oj : Oper), ops[j]? = some oj → cls P oj.op = .alloc → ran j = true → updL L i j = true → (Φ.upd (H i).next ⟨w.heap.size, 0, lim⟩) (H j).next ≠ none := fun j oj hj hcj hrj hlj => by
        by_cases hji : j = i
        · subst hji; rw [Phi.upd_self]; simp
        · rw [updL_ne _ hji] at hlj
          have := I.mat j oj hj hcj hrj hlj
          intro e
          obtain ⟨l, hl⟩ := Option.ne_none_iff_exists'.1 this
          rw [hle _ _ hl] at e; cases e
      have hun : ∀ (j : Nat) (oj : Oper), ops[j]? = some oj → cls P oj.op = .alloc → ran j = true → updL L i j = false → (Φ.upd (H i).next ⟨w.heap.size, 0, lim⟩) (H j).next = none ∧ (j < m → (H m).get (H j).next = (H (j + 1)).get (H j).next) := fun j oj hj hcj hrj hlj => by
        obtain ⟨hji, hlj⟩ := updL_false hlj
        obtain ⟨h1, h2⟩ := I.un j oj hj hcj hrj hlj
        refine ⟨?_, h2⟩
        rw [Phi.upd_ne _ _ (fun e => hji (D.inj hj hcj hrj hr.at_ hc hri e))]
        exact h1
      have hrd : ∀ (j : Nat) (oj : Oper), ops[j]? = some oj → cls P oj.op = .load → ran j = true → updL L i j = false → j ≤ m → ∃ x, evOp P callF (E j) (H m) oj.op = some (V j, x) := fun j oj hj hcj hrj hlj hle => I.rd j oj hj hcj hrj (updL_false hlj).2 hle
      have hexlt : ∀ A la, Φ A = some la → (H m).next ≤ A → la.blk < w.heap.size := fun A la e hA => by
        obtain ⟨k, ok, obj', ro', _, _, _, _, _, _, _, _, h9, _⟩ := I.ex A la e hA
        exact (Array.getElem?_eq_some_iff.1 h9).1
      have hexold : ∀ A loc, Φ A = some loc → (H m).next ≤ A → ∃ (k : Nat) (o : Oper) (obj : HObj) (ro : Obj), ops[k]? = some o ∧ cls P o.op = .alloc ∧ ran k = true ∧ updL L i k = true ∧ m ≤ k ∧ A = (H k).next ∧ H (k + 1) = (H k).new obj ∧ loc.base = 0 ∧ w'.heap[loc.blk]? = some ro ∧
          NewR ((Φ.upd (H i).next ⟨w.heap.size, 0, lim⟩).cut (H k).next) obj ro loc.lim ∧ w0.heap.size ≤ loc.blk := fun A loc e hA => by
        obtain ⟨k, ok, obj', ro', h1, h2, h3, h4, h5, h6, h7, h8, h9, h10, h11⟩ := I.ex A loc e hA
        exact ⟨k, ok, obj', ro', h1, h2, h3, updL_le h4, h5, h6, h7, h8, by rw [hheap]; exact push_old h9, h10.mono (Phi.cut_mono _ hle), h11⟩
      have hbound : early P ops = true → NewR (Φ.cut (H i).next) obj ro lim := fun he => by
        refine hnr.cut (fun st anc f c hobj => ?_)
        have := (D.bound he i o hr.at_ hri).2 st anc f c
        rw [hnew, AH.new_self, hobj] at this
        exact this rfl
      rcases Nat.lt_or_ge i m with him | him
      · -- its place is kept for it
        have hlt := D.strict hr.at_ hc hri him I.mle
        have hget : (H m).get (H i).next = some obj := by rw [(I.un i o hr.at_ hc hri hr.un).2 him, hnew, AH.new_self]
        refine hK m (Φ.upd (H i).next ⟨w.heap.size, 0, lim⟩) _ w' ⟨I.mle, hcl, heff, ?_, hslots, by rw [put_size]; exact I.sz, by rw [put_defers]; exact I.df, hun, hmat, fun A loc e hA => ?_, fun A B la lb ea hA eb hB hbl => ?_, hrd⟩
        · rw [Phi.cut_upd _ hlt]
          refine step_bind (ro := ro) (step_grow I.st hheap hos htape hout) hlt (D.mono (Nat.zero_le _) (by omega)) hget (by rw [Phi.cut_lt _ hlt]; exact hnone) (by rw [hheap]; simp) ?_ (fun B l hB e hbl => ?_) hw0
          · cases he : early P ops with
            | true =>
              refine (hbound he).mono (fun A l e => ?_)
              obtain ⟨e1, e2⟩ := Phi.cut_some e
              rw [Phi.upd_ne _ _ (by omega), Phi.cut_lt _ (by omega)]
              exact e2
            | false =>
              rw [I.none_early hstop he]
              exact hnr.mono hle
          · have := live_lt hrel hB e
            omega
        · have hne : A ≠ (H i).next := by omega
          rw [Phi.upd_ne _ _ hne] at e
          exact hexold A loc e hA
        · have hne : A ≠ (H i).next := by omega
          rw [Phi.upd_ne _ _ hne] at ea
          by_cases hB' : B = (H i).next
          · subst hB'
            rw [Phi.upd_self] at eb; cases eb
            have := hexlt A la ea hA
            simp at hbl; omega
          · rw [Phi.upd_ne _ _ hB'] at eb
            exact I.inj A B la lb ea hA eb hB hbl
      · -- it is laid early
        obtain ⟨om, hom, c1, c2, hlm⟩ := hstm (by omega)
        have him' : m < i := by
          rcases Nat.lt_or_ge m i with h | h
          · exact h
          · have : i = m := by omega
            subst this
            have := hr.at_
            rw [hom] at this; cases this
            rw [c1] at hc; cases hc
        have he := early_of hom hr.at_ c1 hc him' (not_ordered I hr.at_ (.inr hr.after) hlm)
        have hge : (H m).next ≤ (H i).next := D.mono him (by omega)
        refine hK m (Φ.upd (H i).next ⟨w.heap.size, 0, lim⟩) _ w' ⟨I.mle, hcl, heff, ?_, hslots, by rw [put_size]; exact I.sz, by rw [put_defers]; exact I.df, hun, hmat, fun A loc e hA => ?_, fun A B la lb ea hA eb hB hbl => ?_, hrd⟩
        · rw [Phi.cut_upd_ge _ hge]
          exact step_grow I.st hheap hos htape hout
        · by_cases hA' : A = (H i).next
          · subst hA'
            rw [Phi.upd_self] at e; cases e
            exact ⟨i, o, obj, ro, hr.at_, hc, hri, updL_self _ _, him, rfl, hnew, rfl, by rw [hheap]; simp, by rw [Phi.cut_upd_ge _ (Nat.le_refl _)]; exact hbound he, hw0⟩
          · rw [Phi.upd_ne _ _ hA'] at e
            exact hexold A loc e hA
        · by_cases hA' : A = (H i).next <;> by_cases hB' : B = (H i).next
          · exact hA'.trans hB'.symm
          · exfalso
            subst hA'
            rw [Phi.upd_self] at ea; cases ea
            rw [Phi.upd_ne _ _ hB'] at eb
            have : lb.blk < w.heap.size := by
              rcases Nat.lt_or_ge B (H m).next with h | h
              · rcases hB with hB | hB
                · omega
                · exact live_lt hrel hB (by rw [Phi.cut_lt _ h]; exact eb)
              · exact hexlt B lb eb h
            simp at hbl; omega
          · exfalso
            subst hB'
            rw [Phi.upd_self] at eb; cases eb
            rw [Phi.upd_ne _ _ hA'] at ea
            have := hexlt A la ea hA
            simp at hbl; omega
          · rw [Phi.upd_ne _ _ hA'] at ea
            rw [Phi.upd_ne _ _ hB'] at eb
            exact I.inj A B la lb ea hA eb hB hbl
    | eff =>
      have him : ¬ i < m := fun h => by have := (I.eff i o hr.at_ hc hri).2 h; rw [hr.un] at this; cases this
      obtain ⟨om, hom, c1, c2, hlm⟩ := hstm (by omega)
      have hie : i = m := by
        rcases Nat.lt_or_ge m i with h | h
        · exfalso
          rcases D.ok.pair m i om o hom hr.at_ h with ho | ⟨_, _, hh⟩
          · have := not_ordered I hr.at_ (.inr hr.after) hlm
            rw [ho] at this; cases this
          · exact hh ⟨c1, hc⟩
        · omega
      subst hie
      have henv2 : EnvR (Φ.cut (H i).next) (lookEnv ops o (E i)) a.tmps := by
        cases he : early P ops with
        | true =>
          intro t y hy
          obtain ⟨u, hu, hr'⟩ := henv t y hy
          refine ⟨u, hu, hr'.cut ?_⟩
          unfold lookEnv at hy
          split at hy
          · exact (D.bound he i o hr.at_ hri).1 t ‹_› y hy
          · cases hy
        | false => rw [I.none_early hstop he]; exact henv
      have hop := sim_op (a := a) (w := w) hF henv2 (GlobR.cut hg r0 hm0 I.le) hrel (by rw [lookEnv_op]; exact hev)
      refine (hop.mono (fun u w' hh => ?_)).upon
      obtain ⟨φ', hst, hu⟩ := hh
      have hdom' := hst.rel.dom
      let Φ' : Phi := fun A => if A < (H (i + 1)).next then φ' A else Φ A
      have hcut : Φ'.cut (H (i + 1)).next = φ' := by
        funext A
        rcases Nat.lt_or_ge A (H (i + 1)).next with h | h
        · rw [Phi.cut_lt _ h]; simp [Φ', h]
        · rw [Phi.cut_ge _ h]
          cases hA : φ' A with
          | none => rfl
          | some l => have := hdom' A l hA; omega
      have hge' : ∀ A, (H (i + 1)).next ≤ A → Φ' A = Φ A := fun A h => by simp [Φ', Nat.not_lt.2 h]
      have hlt' : ∀ A, A < (H (i + 1)).next → Φ' A = φ' A := fun A h => by simp [Φ', h]
      have hexge : ∀ A la, Φ A = some la → (H i).next ≤ A → ∃ (k : Nat) (o : Oper) (obj : HObj) (ro : Obj), ops[k]? = some o ∧ cls P o.op = .alloc ∧ ran k = true ∧ L k = true ∧ i + 1 ≤ k ∧ A = (H k).next ∧ (H (i + 1)).next ≤ A ∧ H (k + 1) = (H k).new obj ∧ la.base = 0 ∧ w.heap[la.blk]? = some ro ∧
          NewR (Φ.cut (H k).next) obj ro la.lim ∧ w0.heap.size ≤ la.blk := fun A la e hA => by
        obtain ⟨k, ok, obj', ro', h1, h2, h3, h4, h5, h6, h7⟩ := I.ex A la e hA
        have hne : k ≠ i := fun e => by subst e; have := hr.at_; rw [h1] at this; cases this; rw [h2] at hc; cases hc
        have hk := (Array.getElem?_eq_some_iff.1 h1).1
        exact ⟨k, ok, obj', ro', h1, h2, h3, h4, by omega, h6, by rw [h6]; exact D.mono (by omega) (by omega), h7⟩
      have hle : Phi.le Φ Φ' := fun A l e => by
        rcases Nat.lt_or_ge A (H i).next with h | h
        · rw [hlt' A (by omega)]
          exact hst.ext _ _ (by rw [Phi.cut_lt _ h]; exact e)
        · obtain ⟨_, _, _, _, _, _, _, _, _, _, h7, _⟩ := hexge A l e h
          rw [hge' A h7]; exact e
      have hu' : VR Φ' (V i) u := hu.mono (by rw [← hcut]; exact Phi.cut_le _ _)
      refine hK (i + 1) Φ' _ w' ⟨by omega, cl_upd I.cl hr, fun j oj hj hcj hrj => ?_, ?_, I.slots.put D hle hr.at_ (by rw [I.sz]; exact hN) hu', by rw [put_size]; exact I.sz, by rw [put_defers]; exact I.df, fun j oj hj hcj hrj hlj => ?_, fun j oj hj hcj hrj hlj => ?_, fun A loc e hA => ?_, fun A B la lb ea hA eb hB hbl => ?_, fun j oj hj hcj hrj hlj hle2 => ?_⟩
      · by_cases hji : j = i
        · subst hji; rw [updL_self]; simp
        · rw [updL_ne _ hji, I.eff j oj hj hcj hrj]; omega
      · rw [hcut]; exact I.st.trans hst
      · obtain ⟨hji, hlj⟩ := updL_false hlj
        obtain ⟨h1, h2⟩ := I.un j oj hj hcj hrj hlj
        have hj' := (Array.getElem?_eq_some_iff.1 hj).1
        rcases Nat.lt_or_ge j i with h | h
        · have hs := D.strict hj hcj hrj h (by omega)
          obtain ⟨o1, o2⟩ := hst.old (H j).next hs (by rw [Phi.cut_lt _ hs]; exact h1)
          exact ⟨by rw [hlt' _ (by omega)]; exact o1, fun _ => by rw [o2]; exact h2 h⟩
        · have := D.mono (i := i + 1) (j := j) (by omega) (by omega)
          exact ⟨by rw [hge' _ this]; exact h1, fun hh => by omega⟩
      · have hji : j ≠ i := fun e => by
          subst e
          have := hr.at_
          rw [hj] at this; cases this
          rw [hc] at hcj; cases hcj
        rw [updL_ne _ hji] at hlj
        obtain ⟨l, hl⟩ := Option.ne_none_iff_exists'.1 (I.mat j oj hj hcj hrj hlj)
        rw [hle _ _ hl]; simp
      · rw [hge' A hA] at e
        obtain ⟨k, ok, obj', ro', h1, h2, h3, h4, h5, h6, h7, h8, h9, h10, h11, h12⟩ := hexge A loc e (by omega)
        refine ⟨k, ok, obj', ro', h1, h2, h3, updL_le h4, h5, h6, h8, h9, ?_, h11.mono (Phi.cut_mono _ hle), h12⟩
        rw [hst.frame loc.blk (Array.getElem?_eq_some_iff.1 h10).1 (fun B lB eB hbl ho => ?_)]
        · exact h10
        · obtain ⟨b1, b2⟩ := Phi.cut_some eB
          have := I.inj A B loc lB e (by omega) b2 (.inr ho.live) hbl.symm
          omega
      · rw [hge' A hA] at ea
        rcases Nat.lt_or_ge B (H (i + 1)).next with h | h
        · exfalso
          rw [hlt' B h] at eb
          rcases hB with hB | hB
          · omega
          · obtain ⟨k, ok, obj', ro', h1, h2, h3, h4, h5, h6, h7, h8, h9, h10, h11, h12⟩ := hexge A la ea (by omega)
            obtain ⟨C, lc, hC, eC, hbC⟩ := hst.live B lb hB eb (by rw [← hbl]; exact (Array.getElem?_eq_some_iff.1 h10).1)
            obtain ⟨b1, b2⟩ := Phi.cut_some eC
            have := I.inj A C la lc ea (by omega) b2 (.inr hC) (by omega)
            omega
        · rw [hge' B h] at eb
          exact I.inj A B la lb ea (by omega) eb (.inl (by omega)) hbl
      · obtain ⟨hji, hlj⟩ := updL_false hlj
        rcases Nat.lt_or_ge i j with h | h
        · have : j = i + 1 := by omega
          subst this
          exact ⟨_, (D.tr.step (i + 1) oj (by simpa using hj)).2.1 hrj⟩
        · refine (D.loose j i oj o hj hr.at_ hcj hc (not_ordered I hr.at_ (.inr hr.after) hlj) ?_ hrj hri).2
          cases ho : orderedB (waits ops.toList []) i j with
          | false => rfl
          | true => have := ordered_lt D.ok ho; omega

end
end Go.Vai
