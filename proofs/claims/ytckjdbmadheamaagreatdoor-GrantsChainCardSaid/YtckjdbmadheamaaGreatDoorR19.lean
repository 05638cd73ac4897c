/- A region that draws its order: what is kept, whatever has been done. -/
import Derived.Test.YtckjdbmadheamaaGreatDoorR18
set_option linter.all false
namespace Go.Vai

theorem Phi.cut_none {φ : Phi} {A : Nat} (h : φ A = none) : φ.cut (A + 1) = φ.cut A := by
  funext x
  rcases Nat.lt_trichotomy x A with h' | h' | h'
  · rw [Phi.cut_lt _ h', Phi.cut_lt _ (by omega)]
  · subst h'; rw [Phi.cut_lt _ (by omega), Phi.cut_ge _ (Nat.le_refl _), h]
  · rw [Phi.cut_ge _ (by omega), Phi.cut_ge _ (by omega)]
theorem Phi.cut_succ {φ : Phi} {A : Nat} {l : Loc} (h : φ A = some l) : φ.cut (A + 1) = (φ.cut A).upd A l := by
  funext x
  rcases Nat.lt_trichotomy x A with h' | h' | h'
  · rw [Phi.upd_ne _ _ (by omega), Phi.cut_lt _ h', Phi.cut_lt _ (by omega)]
  · subst h'; rw [Phi.cut_lt _ (by omega), Phi.upd_self, h]
  · rw [Phi.upd_ne _ _ (by omega), Phi.cut_ge _ (by omega), Phi.cut_ge _ (by omega)]

theorem wantedA_congr {ops : Array Oper} {e e' : Env} {o : Oper} (h : ∀ t ∈ o.looksAt ops, e t = e' t) : wantedA ops e o = wantedA ops e' o := by
  unfold wantedA
  cases hg : o.guard with
  | none => rfl
  | some p =>
    obtain ⟨j, want⟩ := p
    dsimp only
    cases hj : ops[j]? with
    | none => rfl
    | some oj =>
      simp only [Option.bind_eq_bind, Option.bind_some]
      cases hd : oj.dst with
      | none => rfl
      | some d =>
        simp only [Option.bind_some]
        rw [h d (by simp [Oper.looksAt, hg, hj, hd])]

section
variable {P : Program} {callF : CallF} {N : Nat} {ops : Array Oper} {E : Nat → Env} {H : Nat → AH} {V : Nat → AV} {ran : Nat → Bool}

theorem Drawn.mono (D : Drawn P callF N ops E H V ran) {i j : Nat} (hij : i ≤ j) (hj : j ≤ ops.size) : (H i).next ≤ (H j).next := by
  induction j with
  | zero => have : i = 0 := by omega
            subst this; exact Nat.le_refl _
  | succ j ih =>
    rcases Nat.lt_or_ge i (j + 1) with h | h
    · exact Nat.le_trans (ih (by omega) (by omega)) (D.tr.step j ops[j] (by simp)).2.2.2.2
    · have : i = j + 1 := by omega
      subst this; exact Nat.le_refl _

theorem Drawn.alloc (D : Drawn P callF N ops E H V ran) {i : Nat} {o : Oper} (ho : ops[i]? = some o) (hc : cls P o.op = .alloc) (hr : ran i = true) : ∃ obj, H (i + 1) = (H i).new obj ∧ Fresh obj :=
  alloc_new hc ((D.tr.step i o (by simpa using ho)).2.1 hr)

theorem Drawn.strict (D : Drawn P callF N ops E H V ran) {i j : Nat} {o : Oper} (ho : ops[i]? = some o) (hc : cls P o.op = .alloc) (hr : ran i = true) (hij : i < j) (hj : j ≤ ops.size) : (H i).next < (H j).next := by
  obtain ⟨obj, h1, _⟩ := D.alloc ho hc hr
  have := D.mono (i := i + 1) (j := j) (by omega) hj
  rw [h1, AH.new_next] at this
  omega

theorem Drawn.inj (D : Drawn P callF N ops E H V ran) {i j : Nat} {o o' : Oper} (ho : ops[i]? = some o) (hc : cls P o.op = .alloc) (hr : ran i = true) (ho' : ops[j]? = some o') (hc' : cls P o'.op = .alloc) (hr' : ran j = true) (h : (H i).next = (H j).next) : i = j := by
  have hi := (Array.getElem?_eq_some_iff.1 ho).1
  have hj := (Array.getElem?_eq_some_iff.1 ho').1
  rcases Nat.lt_trichotomy i j with h' | h' | h'
  · have := D.strict ho hc hr h' (by omega); omega
  · exact h'
  · have := D.strict ho' hc' hr' h' (by omega); omega

theorem Drawn.env1 (D : Drawn P callF N ops E H V ran) {i j : Nat} {o : Oper} {t : Tmp} (hj : ops[j]? = some o) (hd : o.dst = some t) (hij : j < i) (hi : i ≤ ops.size) : E i t = some (V j) := by
  induction i with
  | zero => omega
  | succ i ih =>
    have hs := (D.tr.step i ops[i] (by simp)).2.2.2.1
    have hoi : ops[i]? = some ops[i] := by simp
    by_cases h : i = j
    · subst h
      rw [hoi] at hj; cases hj
      rw [hd] at hs
      simp only [setDst] at hs
      split at hs
      · rw [← Option.some.inj hs]; simp [Env.set]
      · cases hs
    · have hne : ops[i].dst ≠ some t := D.ok.dst j i o _ hj hoi (Ne.symm h) t hd
      have hE := ih (by omega) (by omega)
      unfold setDst at hs
      split at hs
      · rename_i d hdd
        split at hs
        · have : t ≠ d := fun e => hne (by rw [hdd, e])
          rw [← Option.some.inj hs]
          simp [Env.set, this, hE]
        · cases hs
      · rw [← Option.some.inj hs]; exact hE

theorem Drawn.env2 (D : Drawn P callF N ops E H V ran) {i : Nat} {t : Tmp} (hi : i ≤ ops.size) (h : ∀ (j : Nat) (o : Oper), j < i → ops[j]? = some o → o.dst ≠ some t) : E i t = E 0 t := by
  induction i with
  | zero => rfl
  | succ i ih =>
    have hs := (D.tr.step i ops[i] (by simp)).2.2.2.1
    have hne : ops[i].dst ≠ some t := h i _ (by omega) (by simp)
    have hE := ih (by omega) (fun j o hj => h j o (by omega))
    unfold setDst at hs
    split at hs
    · rename_i d hdd
      split at hs
      · have : t ≠ d := fun e => hne (by rw [hdd, e])
        rw [← Option.some.inj hs]
        simp [Env.set, this, hE]
      · cases hs
    · rw [← Option.some.inj hs]; exact hE

/-- what is in the slots -/
structure Slots (ops : Array Oper) (E : Nat → Env) (V : Nat → AV) (L : Nat → Bool) (Φ : Phi) (a : Act) : Prop where
  vals : ∀ (i : Nat) (o : Oper) (d : Tmp), ops[i]? = some o → L i = true → o.dst = some d → ∃ u, a.tmps[d]? = some u ∧ VR Φ (V i) u
  olds : ∀ (t : Tmp) (x : AV), E 0 t = some x → (∀ (i : Nat) (o : Oper), ops[i]? = some o → L i = true → o.dst ≠ some t) → ∃ u, a.tmps[t]? = some u ∧ VR Φ x u

def updL (L : Nat → Bool) (i : Nat) : Nat → Bool := fun j => if j = i then true else L j
theorem updL_self (L : Nat → Bool) (i : Nat) : updL L i i = true := by simp [updL]
theorem updL_ne (L : Nat → Bool) {i j : Nat} (h : j ≠ i) : updL L i j = L j := by simp [updL, h]
theorem updL_le {L : Nat → Bool} {i j : Nat} (h : L j = true) : updL L i j = true := by unfold updL; split <;> simp [h]
theorem updL_false {L : Nat → Bool} {i j : Nat} (h : updL L i j = false) : j ≠ i ∧ L j = false := by
  unfold updL at h
  split at h
  · cases h
  · exact ⟨‹_›, h⟩

theorem Slots.put (D : Drawn P callF N ops E H V ran) {L : Nat → Bool} {Φ Φ' : Phi} {a : Act} (s : Slots ops E V L Φ a) (hle : Phi.le Φ Φ') {i : Nat} {o : Oper} (hi : ops[i]? = some o) (hN : N ≤ a.tmps.size) {u : Value} (hu : VR Φ' (V i) u) :
    Slots ops E V (updL L i) Φ' (a.put o.dst u) := by
  have hset := (D.tr.step i o (by simpa using hi)).2.2.2.1
  have same : ∀ t, o.dst ≠ some t → (a.put o.dst u).tmps[t]? = a.tmps[t]? := fun t ht => by
    cases hd : o.dst with
    | none => rfl
    | some d =>
      have : d ≠ t := fun e => ht (by rw [hd, e])
      exact Array.getElem?_setIfInBounds_ne this
  refine ⟨fun j oj d hj hl hd => ?_, fun t x hx hno => ?_⟩
  · by_cases hji : j = i
    · subst hji
      rw [hi] at hj; cases hj
      refine ⟨u, ?_, hu⟩
      rw [hd]
      rw [hd] at hset
      simp only [setDst] at hset
      split at hset
      · exact Array.getElem?_setIfInBounds_self_of_lt (Nat.lt_of_lt_of_le ‹_› hN)
      · cases hset
    · obtain ⟨y, hy, hr⟩ := s.vals j oj d hj (by rw [updL_ne _ hji] at hl; exact hl) hd
      exact ⟨y, by rw [same d (D.ok.dst j i oj o hj hi hji d hd)]; exact hy, hr.mono hle⟩
  · obtain ⟨y, hy, hr⟩ := s.olds t x hx (fun j oj hj hl => hno j oj hj (updL_le hl))
    exact ⟨y, by rw [same t (hno i o hi (updL_self _ _))]; exact hy, hr.mono hle⟩

/-- ready: not listed, and all that it waits for is -/
structure Rdy (ops : Array Oper) (L : Nat → Bool) (i : Nat) (o : Oper) : Prop where
  at_ : ops[i]? = some o
  un : L i = false
  after : ∀ e ∈ o.after, Region.binds .any e = true → L e.on = true

theorem Slots.look (D : Drawn P callF N ops E H V ran) {L : Nat → Bool} {Φ : Phi} {a : Act} (s : Slots ops E V L Φ a)
    (hcl : ∀ (j : Nat) (o : Oper), ops[j]? = some o → L j = true → ∀ e ∈ o.after, Region.binds .any e = true → L e.on = true) {i : Nat} {o : Oper} (hr : Rdy ops L i o) {t : Tmp} {x : AV} (ht : t ∈ o.looksAt ops) (hx : E i t = some x) :
    ∃ u, a.tmps[t]? = some u ∧ VR Φ x u := by
  have hi := (Array.getElem?_eq_some_iff.1 hr.at_).1
  by_cases hex : ∃ (j : Nat) (oj : Oper), j < i ∧ ops[j]? = some oj ∧ oj.dst = some t
  · obtain ⟨j, oj, hji, hj, hd⟩ := hex
    rw [D.env1 hj hd hji (by omega)] at hx
    cases hx
    refine s.vals j oj t hj ?_ hd
    rcases D.ok.pair j i oj o hj hr.at_ hji with ho | ⟨h1, _, _⟩
    · exact ordered_listed hcl hr.at_ (.inr hr.after) ho
    · exact absurd ht (h1 t hd)
  · have hno : ∀ (j : Nat) (oj : Oper), j < i → ops[j]? = some oj → oj.dst ≠ some t := fun j oj hji hj hd => hex ⟨j, oj, hji, hj, hd⟩
    rw [D.env2 (by omega) hno] at hx
    refine s.olds t x hx (fun j oj hj hl hd => ?_)
    rcases Nat.lt_trichotomy j i with h' | h' | h'
    · exact hno j oj h' hj hd
    · subst h'; rw [hr.un] at hl; cases hl
    · rcases D.ok.pair i j o oj hr.at_ hj h' with ho | ⟨_, h2, _⟩
      · have := ordered_listed hcl hj (.inl hl) ho
        rw [hr.un] at this; cases this
      · exact absurd ht (h2 t hd)

structure Inv (P : Program) (callF : CallF) (ops : Array Oper) (E : Nat → Env) (H : Nat → AH) (V : Nat → AV) (ran : Nat → Bool) (φ0 : Phi) (a0 : Act) (w0 : World) (L : Nat → Bool) (m : Nat) (Φ : Phi) (a : Act) (w : World) : Prop where
  mle : m ≤ ops.size
  cl : ∀ (j : Nat) (o : Oper), ops[j]? = some o → L j = true → ∀ e ∈ o.after, Region.binds .any e = true → L e.on = true
  eff : ∀ (i : Nat) (o : Oper), ops[i]? = some o → cls P o.op = .eff → ran i = true → (L i = true ↔ i < m)
  st : StepR φ0 (Φ.cut (H m).next) (H 0) (H m) w0 w
  slots : Slots ops E V L Φ a
  sz : a.tmps.size = a0.tmps.size
  df : a.defers = a0.defers
  un : ∀ (i : Nat) (o : Oper), ops[i]? = some o → cls P o.op = .alloc → ran i = true → L i = false → Φ (H i).next = none ∧ (i < m → (H m).get (H i).next = (H (i + 1)).get (H i).next)
  mat : ∀ (i : Nat) (o : Oper), ops[i]? = some o → cls P o.op = .alloc → ran i = true → L i = true → Φ (H i).next ≠ none
  ex : ∀ A loc, Φ A = some loc → (H m).next ≤ A → ∃ (k : Nat) (o : Oper) (obj : HObj) (ro : Obj), ops[k]? = some o ∧ cls P o.op = .alloc ∧ ran k = true ∧ L k = true ∧ m ≤ k ∧ A = (H k).next ∧ H (k + 1) = (H k).new obj ∧ loc.base = 0 ∧ w.heap[loc.blk]? = some ro ∧
    NewR (Φ.cut (H k).next) obj ro loc.lim ∧ w0.heap.size ≤ loc.blk
  inj : ∀ A B la lb, Φ A = some la → (H m).next ≤ A → Φ B = some lb → ((H m).next ≤ B ∨ Live (H m) B) → la.blk = lb.blk → A = B
  rd : ∀ (i : Nat) (o : Oper), ops[i]? = some o → cls P o.op = .load → ran i = true → L i = false → i ≤ m → ∃ x, evOp P callF (E i) (H m) o.op = some (V i, x)

variable {φ0 : Phi} {a0 : Act} {w0 : World} {L : Nat → Bool} {m : Nat} {Φ : Phi} {a : Act} {w : World}

theorem load_ne {o : Op} (h : cls P o = .load) : cls P o ≠ .eff := by rw [h]; simp
theorem alloc_ne {o : Op} (h : cls P o = .alloc) : cls P o ≠ .eff := by rw [h]; simp

/-- over an operation that is no effect -/
theorem Inv.advance (D : Drawn P callF N ops E H V ran) (I : Inv P callF ops E H V ran φ0 a0 w0 L m Φ a w) {o : Oper} (ho : ops[m]? = some o) (hne : ¬(cls P o.op = .eff ∧ ran m = true)) :
    Inv P callF ops E H V ran φ0 a0 w0 L (m + 1) Φ a w := by
  have hm := (Array.getElem?_eq_some_iff.1 ho).1
  obtain ⟨_, hrun, hnot, _, _⟩ := D.tr.step m o (by simpa using ho)
  have heff : ∀ (i : Nat) (o : Oper), ops[i]? = some o → cls P o.op = .eff → ran i = true → (L i = true ↔ i < m + 1) := fun i oi hi hc hr => by
    have : i ≠ m := fun e => by subst e; rw [ho] at hi; cases hi; exact hne ⟨hc, hr⟩
    rw [I.eff i oi hi hc hr]; omega
  have hrd1 : ∀ (o : Oper), ops[m + 1]? = some o → ran (m + 1) = true → ∃ x, evOp P callF (E (m + 1)) (H (m + 1)) o.op = some (V (m + 1), x) := fun o ho hr =>
    ⟨_, (D.tr.step (m + 1) o (by simpa using ho)).2.1 hr⟩
  by_cases hal : cls P o.op = .alloc ∧ ran m = true
  · obtain ⟨hc, hr⟩ := hal
    obtain ⟨obj, hnew, hfresh⟩ := D.alloc ho hc hr
    have hnx : (H (m + 1)).next = (H m).next + 1 := by rw [hnew]; rfl
    have hrel := I.st.rel
    have hrd : ∀ (i : Nat) (o : Oper), ops[i]? = some o → cls P o.op = .load → ran i = true → L i = false → i ≤ m + 1 → ∃ x, evOp P callF (E i) (H (m + 1)) o.op = some (V i, x) := fun i oi hi hci hri hli hle => by
      rcases Nat.lt_or_ge m i with h' | h'
      · have : i = m + 1 := by omega
        subst this
        exact hrd1 oi hi hri
      · obtain ⟨x, hx⟩ := I.rd i oi hi hci hri hli h'
        refine ⟨_, read_mono hci (fun b y hb => ?_) hx⟩
        have := hrel.hdom b y hb
        rw [hnew, AH.new_ne _ _ (by omega)]
        exact hb
    have hget : ∀ i oi, ops[i]? = some oi → cls P oi.op = .alloc → ran i = true → i < m → (H (m + 1)).get (H i).next = (H m).get (H i).next := fun i oi hi hci hri him => by
      have := D.strict hi hci hri him (by omega)
      rw [hnew, AH.new_ne _ _ (by omega)]
    cases hl : L m with
    | false =>
      have hnone := (I.un m o ho hc hr hl).1
      have hcut : Φ.cut (H (m + 1)).next = Φ.cut (H m).next := by rw [hnx]; exact Phi.cut_none hnone
      refine ⟨hm, I.cl, heff, ?_, I.slots, I.sz, I.df, fun i oi hi hci hri hli => ?_, I.mat, fun A loc e hA => ?_, fun A B la lb ea hA eb hB hbl => ?_, hrd⟩
      · rw [hcut, hnew]; exact step_skip I.st hfresh
      · refine ⟨(I.un i oi hi hci hri hli).1, fun him => ?_⟩
        by_cases hi' : i = m
        · subst hi'; rfl
        · rw [hget i oi hi hci hri (by omega)]
          exact (I.un i oi hi hci hri hli).2 (by omega)
      · obtain ⟨k, ok, obj', ro, h1, h2, h3, h4, h5, h6⟩ := I.ex A loc e (by omega)
        have : k ≠ m := fun e => by subst e; rw [hl] at h4; cases h4
        exact ⟨k, ok, obj', ro, h1, h2, h3, h4, by omega, h6⟩
      · refine I.inj A B la lb ea (by omega) eb ?_ hbl
        rcases hB with hB | hB
        · exact .inl (by omega)
        · rw [hnew] at hB
          have : B ≠ (H m).next := fun e => by rw [e, hnone] at eb; cases eb
          exact .inr ((live_new this).1 hB)
    | true =>
      have hsome := I.mat m o ho hc hr hl
      obtain ⟨loc, hloc⟩ := Option.ne_none_iff_exists'.1 hsome
      obtain ⟨k, ok, obj', ro, h1, h2, h3, h4, h5, h6, h7, h8, h9, h10, h11⟩ := I.ex _ loc hloc (Nat.le_refl _)
      have hk : m = k := D.inj ho hc hr h1 h2 h3 h6
      subst hk
      have hobj : obj' = obj := by
        have e1 := AH.new_self (H m) obj'
        have e2 := AH.new_self (H m) obj
        rw [← h7] at e1; rw [← hnew] at e2
        rw [e1] at e2; cases e2; rfl
      subst hobj
      obtain ⟨blk, base, lim⟩ := loc
      dsimp only at h8 h9 h10 h11
      subst h8
      have hcut : Φ.cut (H (m + 1)).next = (Φ.cut (H m).next).upd (H m).next ⟨blk, 0, lim⟩ := by rw [hnx]; exact Phi.cut_succ hloc
      refine ⟨hm, I.cl, heff, ?_, I.slots, I.sz, I.df, fun i oi hi hci hri hli => ?_, I.mat, fun A loc e hA => ?_, fun A B la lb ea hA eb hB hbl => ?_, hrd⟩
      · rw [hcut, hnew]
        refine step_bind (step_skip I.st hfresh) (by simp [AH.new]) (D.mono (Nat.zero_le _) (by omega)) (AH.new_self _ _) (Phi.cut_ge _ (Nat.le_refl _)) h9 (h10.mono ?_) (fun B l hB e hbl => ?_) h11
        · intro A l e
          rw [Phi.upd_ne _ _ (by have := (Phi.cut_some e).1; omega)]
          exact e
        · obtain ⟨hBlt, hB2⟩ := Phi.cut_some e
          have := I.inj (H m).next B ⟨blk, 0, lim⟩ l hloc (Nat.le_refl _) hB2 (.inr ((live_new (by omega)).1 hB)) hbl.symm
          omega
      · refine ⟨(I.un i oi hi hci hri hli).1, fun him => ?_⟩
        have hi' : i ≠ m := fun e => by subst e; rw [hl] at hli; cases hli
        rw [hget i oi hi hci hri (by omega)]
        exact (I.un i oi hi hci hri hli).2 (by omega)
      · obtain ⟨k, ok, obj2, ro2, g1, g2, g3, g4, g5, g6, g7⟩ := I.ex A loc e (by omega)
        have : k ≠ m := fun e => by subst e; omega
        exact ⟨k, ok, obj2, ro2, g1, g2, g3, g4, by omega, g6, g7⟩
      · rcases hB with hB | hB
        · exact I.inj A B la lb ea (by omega) eb (.inl (by omega)) hbl
        · by_cases hBn : B = (H m).next
          · exact I.inj A B la lb ea (by omega) eb (.inl (by omega)) hbl
          · rw [hnew] at hB
            exact I.inj A B la lb ea (by omega) eb (.inr ((live_new hBn).1 hB)) hbl
  · have hsame : H (m + 1) = H m := by
      cases hr : ran m with
      | false => exact (hnot hr).2
      | true =>
        cases hc : cls P o.op with
        | pure => exact pure_same hc (hrun hr)
        | load => exact load_same hc (hrun hr)
        | alloc => exact absurd ⟨hc, hr⟩ hal
        | eff => exact absurd ⟨hc, hr⟩ hne
    have hnm : ∀ i oi, ops[i]? = some oi → cls P oi.op = .alloc → ran i = true → i ≠ m := fun i oi hi hci hri e => by
      subst e; rw [ho] at hi; cases hi; exact hal ⟨hci, hri⟩
    refine ⟨hm, I.cl, heff, ?_, I.slots, I.sz, I.df, fun i oi hi hci hri hli => ?_, I.mat, fun A loc e hA => ?_, fun A B la lb ea hA eb hB hbl => ?_, fun i oi hi hci hri hli hle => ?_⟩
    · rw [hsame]; exact I.st
    · refine ⟨(I.un i oi hi hci hri hli).1, fun him => ?_⟩
      have := hnm i oi hi hci hri
      rw [hsame]
      exact (I.un i oi hi hci hri hli).2 (by omega)
    · rw [hsame] at hA
      obtain ⟨k, ok, obj', ro, h1, h2, h3, h4, h5, h6⟩ := I.ex A loc e hA
      have := hnm k ok h1 h2 h3
      exact ⟨k, ok, obj', ro, h1, h2, h3, h4, by omega, h6⟩
    · rw [hsame] at hA hB
      exact I.inj A B la lb ea hA eb hB hbl
    · rcases Nat.lt_or_ge m i with h' | h'
      · have : i = m + 1 := by omega
        subst this
        exact hrd1 oi hi hri
      · rw [hsame]; exact I.rd i oi hi hci hri hli h'

/-- up to the next effect that is not done yet -/
theorem Inv.adv (D : Drawn P callF N ops E H V ran) : ∀ (n m : Nat), ops.size - m ≤ n → Inv P callF ops E H V ran φ0 a0 w0 L m Φ a w →
    ∃ m', Inv P callF ops E H V ran φ0 a0 w0 L m' Φ a w ∧ ∀ o, ops[m']? = some o → cls P o.op = .eff ∧ ran m' = true := by
  intro n
  induction n with
  | zero =>
    intro m hn I
    refine ⟨m, I, fun o ho => ?_⟩
    have := (Array.getElem?_eq_some_iff.1 ho).1
    omega
  | succ n ih =>
    intro m hn I
    cases ho : ops[m]? with
    | none => exact ⟨m, I, fun o h => by rw [ho] at h; cases h⟩
    | some o =>
      by_cases hc : cls P o.op = .eff ∧ ran m = true
      · exact ⟨m, I, fun o' h => by rw [ho] at h; cases h; exact hc⟩
      · have := (Array.getElem?_eq_some_iff.1 ho).1
        exact ih (m + 1) (by omega) (I.advance D ho hc)

end
end Go.Vai
