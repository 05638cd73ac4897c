/- What the checks of a drawn region say. -/
import Derived.Test.YtckjdbmadheamaaGreatDoorR17
set_option linter.all false
namespace Go.Vai

section
variable {P : Program} {callF : CallF} {e : Env} {h h' : AH} {o : Op} {v : AV}

theorem load_same (hc : cls P o = .load) (hv : evOp P callF e h o = some (v, h')) : h' = h := by
  have := read_mono hc (fun _ _ e => e) hv
  rw [hv] at this
  cases this; rfl

theorem pure_same (hc : cls P o = .pure) (hv : evOp P callF e h o = some (v, h')) : h' = h := by
  cases o <;> simp only [cls] at hc <;> first | (cases hc; done) | skip
  case convert s d x =>
    simp only [evOp, Option.bind_eq_bind] at hv
    obtain ⟨p, hp, hv⟩ := Option.bind_eq_some_iff.1 hv
    unfold convertA at hv
    split at hv
    · cases hv; rfl
    · cases hv; rfl
    · rename_i hs hd
      rw [hs, hd] at hc; cases hc
    · rename_i hs hd
      rw [hs, hd] at hc; cases hc
    · rename_i hs hd
      rw [hs, hd] at hc; cases hc
    · cases hv
  case call c =>
    simp only [evOp, Option.bind_eq_bind] at hv
    obtain ⟨vs, hvs, hv⟩ := Option.bind_eq_some_iff.1 hv
    split at hv
    · rename_i b hb
      rw [hb] at hc
      cases b <;> first | (cases hc; done) | skip
      case len =>
        rcases hts : c.argTypes.toList with _ | ⟨t, ts⟩ <;> rcases vs with _ | ⟨x, _ | _⟩ <;> rw [hts] at hv <;> first | (cases hv; done) | skip
        exact (map_pair (show (lenA P h t x).map (·, h) = some (v, h') from hv)).1
      case min =>
        simp only [builtinA, Option.bind_eq_bind] at hv
        obtain ⟨_, _, hv⟩ := Option.bind_eq_some_iff.1 hv
        obtain ⟨_, _, hv⟩ := Option.bind_eq_some_iff.1 hv
        obtain ⟨_, _, hv⟩ := Option.bind_eq_some_iff.1 hv
        cases hv; rfl
      case max =>
        simp only [builtinA, Option.bind_eq_bind] at hv
        obtain ⟨_, _, hv⟩ := Option.bind_eq_some_iff.1 hv
        obtain ⟨_, _, hv⟩ := Option.bind_eq_some_iff.1 hv
        obtain ⟨_, _, hv⟩ := Option.bind_eq_some_iff.1 hv
        cases hv; rfl
    · rename_i hb; rw [hb] at hc; cases hc
    · rename_i hb; rw [hb] at hc; cases hc
  case move x => exact (map_pair hv).1
  case assign x => exact (map_pair hv).1
  case pick c a b =>
    simp only [evOp, Option.bind_eq_bind] at hv
    obtain ⟨x0, _, hv⟩ := Option.bind_eq_some_iff.1 hv
    split at hv
    · exact (map_pair hv).1
    · exact (map_pair hv).1
    · cases hv
  case build t ps =>
    simp only [evOp, Option.bind_eq_bind] at hv
    obtain ⟨x0, _, hv⟩ := Option.bind_eq_some_iff.1 hv
    exact (map_pair hv).1
  case nilCheck x =>
    simp only [evOp, Option.bind_eq_bind] at hv
    obtain ⟨x0, _, hv⟩ := Option.bind_eq_some_iff.1 hv
    split at hv <;> first | (cases hv; done) | (cases hv; rfl)
  case binOp op t x y yt =>
    simp only [evOp, Option.bind_eq_bind] at hv
    obtain ⟨x0, _, hv⟩ := Option.bind_eq_some_iff.1 hv
    obtain ⟨x1, _, hv⟩ := Option.bind_eq_some_iff.1 hv
    exact (map_pair hv).1
  case unOp op t x =>
    simp only [evOp, Option.bind_eq_bind] at hv
    obtain ⟨x0, _, hv⟩ := Option.bind_eq_some_iff.1 hv
    obtain ⟨x1, _, hv⟩ := Option.bind_eq_some_iff.1 hv
    obtain ⟨x2, _, hv⟩ := Option.bind_eq_some_iff.1 hv
    exact (map_pair hv).1
  case makeInterface t x =>
    simp only [evOp, Option.bind_eq_bind] at hv
    obtain ⟨x0, _, hv⟩ := Option.bind_eq_some_iff.1 hv
    split at hv
    · cases hv
    · cases hv; rfl
    · cases hv
  case makeFunc fn x y =>
    simp only [evOp, Option.bind_eq_bind] at hv
    obtain ⟨x0, _, hv⟩ := Option.bind_eq_some_iff.1 hv
    obtain ⟨x1, _, hv⟩ := Option.bind_eq_some_iff.1 hv
    cases hv; rfl
  case slice t x lo hi mx =>
    simp only [evOp, Option.bind_eq_bind] at hv
    obtain ⟨x0, _, hv⟩ := Option.bind_eq_some_iff.1 hv
    obtain ⟨x1, _, hv⟩ := Option.bind_eq_some_iff.1 hv
    obtain ⟨x2, _, hv⟩ := Option.bind_eq_some_iff.1 hv
    obtain ⟨x3, _, hv⟩ := Option.bind_eq_some_iff.1 hv
    exact (map_pair hv).1
  case fieldAddr s x f =>
    simp only [evOp, Option.bind_eq_bind] at hv
    obtain ⟨x0, _, hv⟩ := Option.bind_eq_some_iff.1 hv
    split at hv
    · exact (map_pair hv).1
    · cases hv
  case field t x f =>
    simp only [evOp, Option.bind_eq_bind] at hv
    obtain ⟨x0, _, hv⟩ := Option.bind_eq_some_iff.1 hv
    split at hv
    · obtain ⟨_, _, hv⟩ := Option.bind_eq_some_iff.1 hv
      exact (map_pair hv).1
    · cases hv
  case indexAddr t x ix =>
    simp only [evOp, Option.bind_eq_bind] at hv
    obtain ⟨x0, _, hv⟩ := Option.bind_eq_some_iff.1 hv
    obtain ⟨x1, _, hv⟩ := Option.bind_eq_some_iff.1 hv
    exact (map_pair hv).1
  case index t x ix =>
    simp only [evOp, Option.bind_eq_bind] at hv
    obtain ⟨x0, _, hv⟩ := Option.bind_eq_some_iff.1 hv
    obtain ⟨x1, _, hv⟩ := Option.bind_eq_some_iff.1 hv
    exact (map_pair hv).1
  case typeAssert x u t ok =>
    simp only [evOp, Option.bind_eq_bind] at hv
    obtain ⟨x0, _, hv⟩ := Option.bind_eq_some_iff.1 hv
    exact (map_pair hv).1
  case extract x i =>
    simp only [evOp, Option.bind_eq_bind] at hv
    obtain ⟨x0, _, hv⟩ := Option.bind_eq_some_iff.1 hv
    split at hv
    · exact (map_pair hv).1
    · cases hv

theorem alloc_new (hc : cls P o = .alloc) (hv : evOp P callF e h o = some (v, h')) : ∃ obj, h' = h.new obj ∧ Fresh obj := by
  cases o <;> simp only [cls] at hc <;> first | (cases hc; done) | skip
  case convert s d x =>
    simp only [evOp, Option.bind_eq_bind] at hv
    obtain ⟨p, hp, hv⟩ := Option.bind_eq_some_iff.1 hv
    unfold convertA at hv
    split at hv
    · rename_i sd k k' n hs hd
      rw [hs, hd] at hc; cases sd <;> cases hc
    · rename_i sd st hs hd
      rw [hs, hd] at hc; cases sd <;> cases hc
    · split at hv
      · split at hv
        · cases hv; exact ⟨_, rfl, rfl, rfl⟩
        · cases hv
      · cases hv
    · rename_i hs hd
      rw [hs, hd] at hc; cases hc
    · rename_i hs hd
      rw [hs, hd] at hc; cases hc
    · cases hv
  case call c =>
    split at hc <;> first | (cases hc; done) | (split at hc <;> cases hc)
  case makeMap t r =>
    cases r <;> cases hv
    exact ⟨_, rfl, rfl⟩
  case alloc t =>
    simp only [evOp, Option.bind_eq_bind] at hv
    obtain ⟨x0, _, hv⟩ := Option.bind_eq_some_iff.1 hv
    cases hv; exact ⟨_, rfl, rfl, rfl⟩
  case box t x =>
    simp only [evOp, Option.bind_eq_bind] at hv
    obtain ⟨x0, _, hv⟩ := Option.bind_eq_some_iff.1 hv
    obtain ⟨x1, _, hv⟩ := Option.bind_eq_some_iff.1 hv
    split at hv
    · cases hv; exact ⟨_, rfl, rfl, rfl⟩
    · cases hv
  case buildSlice t n ps =>
    simp only [evOp, Option.bind_eq_bind] at hv
    obtain ⟨x0, _, hv⟩ := Option.bind_eq_some_iff.1 hv
    obtain ⟨x1, _, hv⟩ := Option.bind_eq_some_iff.1 hv
    cases hv; exact ⟨_, rfl, rfl, rfl⟩
  case makeSlice t l c =>
    simp only [evOp, Option.bind_eq_bind] at hv
    obtain ⟨x0, _, hv⟩ := Option.bind_eq_some_iff.1 hv
    obtain ⟨x1, _, hv⟩ := Option.bind_eq_some_iff.1 hv
    split at hv
    · obtain ⟨_, _, hv⟩ := Option.bind_eq_some_iff.1 hv
      obtain ⟨_, _, hv⟩ := Option.bind_eq_some_iff.1 hv
      split at hv
      · cases hv; exact ⟨_, rfl, rfl, rfl⟩
      · cases hv
    · cases hv

theorem row_lt (hd : ∀ A x, h.get A = some x → A < h.next) {b : Nat} {c : List AV} (hr : rowOf h b = some c) : b < h.next := by
  unfold rowOf at hr
  split at hr
  · exact hd _ _ ‹_›
  · cases hr

/-- what a reader looks at was there -/
theorem read_below (hc : cls P o = .load) (hd : ∀ A x, h.get A = some x → A < h.next) (hv : evOp P callF e h o = some (v, h')) : ∀ (t : Tmp) (x : AV), Operand.tmp t ∈ o.operands → e t = some x → below h.next x = true := by
  cases o <;> simp only [cls] at hc <;> first | (cases hc; done) | skip
  case load t a =>
    intro t' x hx hex
    simp only [Op.operands, List.mem_toArray, List.mem_cons, List.not_mem_nil, or_false] at hx
    subst hx
    simp only [evOp, Option.bind_eq_bind] at hv
    obtain ⟨p, hp, hv⟩ := Option.bind_eq_some_iff.1 hv
    rw [show opd e (.tmp t') = e t' from rfl, hex] at hp
    cases hp
    split at hv
    · obtain ⟨rfl, hl⟩ := map_pair hv
      unfold loadT at hl
      simp only [Option.bind_eq_bind] at hl
      obtain ⟨c, hc, hl⟩ := Option.bind_eq_some_iff.1 hl
      simpa [below] using row_lt hd hc
    · cases hv
  case lookup t m k ok =>
    intro t' x hx hex
    simp only [evOp, Option.bind_eq_bind] at hv
    obtain ⟨p, hp, hv⟩ := Option.bind_eq_some_iff.1 hv
    obtain ⟨q, hq, hv⟩ := Option.bind_eq_some_iff.1 hv
    obtain ⟨rfl, hl⟩ := map_pair hv
    unfold lookupA at hl
    split at hl
    · split at hl
      · rename_i hf
        simp only [Option.bind_eq_bind] at hl
        obtain ⟨es, hes, hl⟩ := Option.bind_eq_some_iff.1 hl
        simp only [Op.operands, List.mem_toArray, List.mem_cons, List.not_mem_nil, or_false] at hx
        rcases hx with rfl | rfl
        · rw [show opd e (.tmp t') = e t' from rfl, hex] at hp
          cases hp
          unfold mapOf at hes
          split at hes
          · rfl
          · split at hes
            · rename_i hg
              simpa [below] using hd _ _ hg
            · cases hes
          · cases hes
        · rw [show opd e (.tmp t') = e t' from rfl, hex] at hq
          cases hq
          unfold keyFits at hf
          split at hf
          · rfl
          · rfl
          · cases hf
      · cases hl
    · cases hl
  case convert s d a =>
    intro t' x hx hex
    simp only [Op.operands, List.mem_toArray, List.mem_cons, List.not_mem_nil, or_false] at hx
    subst hx
    simp only [evOp, Option.bind_eq_bind] at hv
    obtain ⟨p, hp, hv⟩ := Option.bind_eq_some_iff.1 hv
    rw [show opd e (.tmp t') = e t' from rfl, hex] at hp
    cases hp
    unfold convertA at hv
    split at hv
    · rfl
    · rfl
    · rfl
    · rfl
    · split at hv
      · simp only [Option.bind_eq_bind] at hv
        split at hv
        · cases hv
        · obtain ⟨c, hc, hv⟩ := Option.bind_eq_some_iff.1 hv
          simpa [below] using row_lt hd hc
      · cases hv
    · cases hv
  case call c =>
    intro t' x hx hex
    simp only [evOp, Option.bind_eq_bind] at hv
    obtain ⟨vs, hvs, hv⟩ := Option.bind_eq_some_iff.1 hv
    split at hv
    · rename_i b hb
      rw [hb] at hc
      cases b <;> first | (cases hc; done) | skip
      rcases hts : c.argTypes.toList with _ | ⟨t, ts⟩ <;> rcases vs with _ | ⟨y, _ | _⟩ <;> rw [hts] at hv <;> first | (cases hv; done) | skip
      obtain ⟨rfl, hl⟩ := map_pair (show (lenA P h t y).map (·, h) = some (v, h') from hv)
      have hx' : Operand.tmp t' ∈ c.args.toList := by
        simp only [Op.operands, Call.operands, hb] at hx
        simpa using hx
      have hy : y = x := by
        cases hal : c.args.toList with
        | nil => rw [hal] at hx'; cases hx'
        | cons z l =>
          rw [hal] at hvs hx'
          simp only [opds, Option.bind_eq_bind, Option.pure_def] at hvs
          obtain ⟨u, hu, hvs⟩ := Option.bind_eq_some_iff.1 hvs
          obtain ⟨us, hus, hvs⟩ := Option.bind_eq_some_iff.1 hvs
          cases hvs
          cases l with
          | nil =>
            simp at hx'
            subst hx'
            rw [show opd e (.tmp t') = e t' from rfl, hex] at hu
            cases hu; rfl
          | cons z2 l2 =>
            simp only [opds, Option.bind_eq_bind, Option.pure_def] at hus
            obtain ⟨u2, _, hus⟩ := Option.bind_eq_some_iff.1 hus
            obtain ⟨us2, _, hus⟩ := Option.bind_eq_some_iff.1 hus
            cases hus
      subst hy
      have hmapd : ∃ k el, P.underlying t = some (.map k el) := by
        have ht : c.argTypes[0]? = some t := by rw [← Array.getElem?_toList, hts]; rfl
        dsimp only at hc
        rw [ht] at hc
        simp only [Option.bind_some] at hc
        split at hc
        · exact ⟨_, _, ‹_›⟩
        · cases hc
      obtain ⟨k, el, hu⟩ := hmapd
      unfold lenA at hl
      rw [hu] at hl
      cases y <;> first | (cases hl; done) | skip
      · dsimp only at hl
        split at hl
        · rename_i hg
          simpa [below] using hd _ _ hg
        · cases hl
      · rfl
    · rename_i hb; rw [hb] at hc; cases hc
    · rename_i hb; rw [hb] at hc; cases hc

end

theorem mem_zip {ops : Array Oper} {i : Nat} {o : Oper} (h : ops[i]? = some o) : (o, i) ∈ ops.toList.zipIdx := by
  rw [List.mem_zipIdx_iff_getElem?]
  simpa using h

section
variable {P : Program} {ops : Array Oper}

structure Okay (P : Program) (ops : Array Oper) : Prop where
  edge : ∀ (j : Nat) (o : Oper), ops[j]? = some o → ∀ e ∈ o.after, Region.binds .any e = true → e.on < j
  dst : ∀ (i j : Nat) (a b : Oper), ops[i]? = some a → ops[j]? = some b → i ≠ j → ∀ d, a.dst = some d → b.dst ≠ some d
  pair : ∀ (i j : Nat) (a b : Oper), ops[i]? = some a → ops[j]? = some b → i < j → orderedB (waits ops.toList []) i j = true ∨
    ((∀ d, a.dst = some d → d ∉ b.looksAt ops) ∧ (∀ d, b.dst = some d → d ∉ a.looksAt ops) ∧ ¬(cls P a.op = .eff ∧ cls P b.op = .eff))

theorem regOk_spec (h : regOk P ops = true) : Okay P ops := by
  simp only [regOk, Bool.and_eq_true, List.all_eq_true] at h
  obtain ⟨h1, h2⟩ := h
  have hdst : ∀ (i j : Nat) (a b : Oper), ops[i]? = some a → ops[j]? = some b → i < j → ∀ d, a.dst = some d → b.dst ≠ some d := fun i j a b ha hb hij d hd => by
    have := h2 _ (mem_zip ha) _ (mem_zip hb)
    simp only [hij, decide_true, Bool.not_true, Bool.false_or, Bool.and_eq_true, hd] at this
    simpa using this.1
  refine ⟨fun j o ho e he hb => ?_, fun i j a b ha hb hij d hd => ?_, fun i j a b ha hb hij => ?_⟩
  · have := h1 _ (mem_zip ho) e (by simpa using he)
    simp only [hb, Bool.not_true, Bool.false_or, decide_eq_true_eq] at this
    exact this
  · rcases Nat.lt_or_ge i j with hlt | hge
    · exact hdst i j a b ha hb hlt d hd
    · exact fun hd' => hdst j i b a hb ha (by omega) d hd' hd
  · have := h2 _ (mem_zip ha) _ (mem_zip hb)
    simp only [hij, decide_true, Bool.not_true, Bool.false_or, Bool.and_eq_true, pairOk, Bool.or_eq_true] at this
    rcases this.2 with h3 | ⟨⟨h3, h4⟩, h5⟩
    · exact .inl h3
    · refine .inr ⟨fun d hd => ?_, fun d hd => ?_, fun hh => ?_⟩
      · rw [hd] at h3
        simp at h3
        exact h3.1
      · rw [hd] at h4
        simpa using h4
      · simp [hh.1, hh.2] at h5

theorem loose_mem {i j : Nat} {a b : Oper} (ha : ops[i]? = some a) (hb : ops[j]? = some b) (h1 : cls P a.op = .load) (h2 : cls P b.op = .eff) (h3 : orderedB (waits ops.toList []) i j = false) (h4 : orderedB (waits ops.toList []) j i = false) :
    (i, j) ∈ loose P ops := by
  simp only [loose, List.mem_flatMap, List.mem_filterMap]
  exact ⟨_, mem_zip ha, _, mem_zip hb, by simp [h1, h2, h3, h4]⟩

theorem early_of {i j : Nat} {a b : Oper} (ha : ops[j]? = some a) (hb : ops[i]? = some b) (h1 : cls P a.op = .eff) (h2 : cls P b.op = .alloc) (hij : j < i) (h3 : orderedB (waits ops.toList []) j i = false) : early P ops = true := by
  simp only [early, List.any_eq_true]
  exact ⟨_, mem_zip ha, by simp only [h1, decide_true, Bool.true_and, List.any_eq_true]; exact ⟨_, mem_zip hb, by simp [h2, hij, h3]⟩⟩

theorem ordered_lt (hok : Okay P ops) {i j : Nat} (h : orderedB (waits ops.toList []) i j = true) : i < j := by
  unfold orderedB at h
  induction j using Nat.strongRecOn with
  | ind j ih =>
    obtain ⟨o, ho, e, he, hb, hx⟩ := waits_spec ops.toList [] j i (Nat.zero_le _) h
    rw [List.length_nil, Nat.sub_zero, Array.getElem?_toList] at ho
    have hlt := hok.edge j o ho e he hb
    rcases hx with rfl | ⟨_, hx⟩
    · exact hlt
    · exact Nat.lt_trans (ih e.on hlt hx) hlt

/-- a drawn region, and what its checks say -/
structure Drawn (P : Program) (callF : CallF) (N : Nat) (ops : Array Oper) (E : Nat → Env) (H : Nat → AH) (V : Nat → AV) (ran : Nat → Bool) : Prop where
  ok : Okay P ops
  tr : Trc P callF N ops ops.toList E H V ran
  loose : ∀ (i j : Nat) (a b : Oper), ops[i]? = some a → ops[j]? = some b → cls P a.op = .load → cls P b.op = .eff → orderedB (waits ops.toList []) i j = false → orderedB (waits ops.toList []) j i = false → ran i = true → ran j = true →
    (∃ x, evOp P callF (E i) (H j) a.op = some (V i, x)) ∧ ∃ x, evOp P callF (E i) (H (j + 1)) a.op = some (V i, x)
  bound : early P ops = true → ∀ (i : Nat) (o : Oper), ops[i]? = some o → ran i = true → (∀ t ∈ o.looksAt ops, ∀ v, E i t = some v → below (H i).next v = true) ∧
    ∀ st anc f c, (H (i + 1)).get (H i).next = some (.cells st anc f c) → belowL (H i).next c = true

theorem evDraw_spec {callF : CallF} {N : Nat} {e e' : Env} {h h' : AH} (hv : evDraw P callF N ops e h = some (e', h')) :
    ∃ E H V ran, Drawn P callF N ops E H V ran ∧ E 0 = e ∧ H 0 = h ∧ E ops.size = e' ∧ H ops.size = h' := by
  unfold evDraw at hv
  simp only [Option.bind_eq_bind] at hv
  split at hv
  · rename_i hok
    obtain ⟨⟨tr, z⟩, htr, hv⟩ := Option.bind_eq_some_iff.1 hv
    dsimp only at hv
    split at hv
    · rename_i hck
      cases hv
      rw [Bool.and_eq_true] at hck
      obtain ⟨hlo, hbo⟩ := hck
      obtain ⟨E, H, V, ran, ht, h1, h2, h3, h4, hlen, hrec⟩ := trace_spec _ _ _ _ _ _ htr
      have hrec' : ∀ (i : Nat) (o : Oper), ops[i]? = some o → tr[i]? = some ⟨E i, H i, ran i, V i, H (i + 1)⟩ := fun i o ho => by
        have hlt : i < tr.length := by rw [hlen]; simpa using (Array.getElem?_eq_some_iff.1 ho).1
        have := hrec i _ (List.getElem?_eq_getElem hlt)
        rw [← this]
        exact List.getElem?_eq_getElem hlt
      refine ⟨E, H, V, ran, ⟨regOk_spec hok, ht, fun i j a b ha hb c1 c2 c3 c4 r1 r2 => ?_, fun hea i o ho hr => ?_⟩, h1, h2, by simpa using h3, by simpa using h4⟩
      · have := List.all_eq_true.1 hlo _ (loose_mem ha hb c1 c2 c3 c4)
        unfold looseOk at this
        simp only [hrec' i a ha, hrec' j b hb, ha, r1, r2, Bool.not_true, Bool.or_self, Bool.false_eq_true, if_false] at this
        split at this
        · rename_i x1 y1 x2 y2 e1 e2
          simp only [Bool.and_eq_true] at this
          rw [e1, e2, avEq_eq _ _ this.1, avEq_eq _ _ this.2]
          exact ⟨⟨_, rfl⟩, _, rfl⟩
        · cases this
      · rw [hea] at hbo
        simp only [Bool.not_true, Bool.false_or, List.all_eq_true] at hbo
        have hm : (o, (⟨E i, H i, ran i, V i, H (i + 1)⟩ : Rec)) ∈ ops.toList.zip tr := by
          refine List.mem_of_getElem? (i := i) ?_
          rw [List.getElem?_zip_eq_some]
          exact ⟨by simpa using ho, hrec' i o ho⟩
        have := hbo _ hm
        simp only [boundOk, hr, Bool.not_true, Bool.false_or, Bool.and_eq_true, List.all_eq_true] at this
        refine ⟨fun t ht v hv => ?_, fun st anc f c hg => ?_⟩
        · have := this.1 t ht
          rw [hv] at this
          exact this
        · have := this.2
          rw [hg] at this
          exact this
    · cases hv
  · cases hv

end
end Go.Vai
