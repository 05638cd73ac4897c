/- The relation between the abstract machine's memory and a world of the model; what loads and stores do to it. -/
import Derived.Test.YtckjdbmadheamaaGreatDoorR1
import Derived.Laws.Sem
set_option linter.all false
namespace Go.Vai

/-- Where an abstract block lies: a real block, its first cell there, how many cells belong to it. -/
structure Loc where
  blk : Nat
  base : Nat
  lim : Nat

abbrev Phi := Nat → Option Loc
def Phi.le (φ φ' : Phi) : Prop := ∀ A loc, φ A = some loc → φ' A = some loc
theorem Phi.le_refl (φ : Phi) : Phi.le φ φ := fun _ _ h => h
theorem Phi.le_trans {a b c : Phi} (h : Phi.le a b) (k : Phi.le b c) : Phi.le a c := fun A l e => k A l (h A l e)

inductive VR (φ : Phi) : AV → Value → Prop
  | int (k n) : VR φ (.int k n) (.int k n)
  | bool (b) : VR φ (.bool b) (.bool b)
  | str (s) : VR φ (.str s) (.string s)
  | ptr {b o loc} : φ b = some loc → VR φ (.ptr b o) (.pointer (some ⟨loc.blk, loc.base + o, none⟩))
  | nilp : VR φ .nilp (.pointer none)
  | slice {b o len sz tight loc ra cap} : φ b = some loc → len ≤ cap → (tight = true → cap = len) → (cap = 0 ∨ ra = ⟨loc.blk, loc.base + o, none⟩) → o + cap * sz ≤ loc.lim →
      VR φ (.slice b o len sz tight) (.slice (some ra) len cap)
  | nils : VR φ .nils (.slice none 0 0)
  | map {r loc} : φ r = some loc → VR φ (.map r) (.map (some loc.blk))
  | nilm : VR φ .nilm (.map none)
  | func {f a b a' b'} : a.length = a'.size → (∀ (i : Nat) (x : AV) (v : Value), a[i]? = some x → a'[i]? = some v → VR φ x v) → b.length = b'.size → (∀ (i : Nat) (x : AV) (v : Value), b[i]? = some x → b'[i]? = some v → VR φ x v) →
      VR φ (.func f a b) (.func f a' b')
  | nilf : VR φ .nilf .nilFunc
  | iface {t x v} : VR φ x v → VR φ (.iface t x) (.iface t v)
  | nili : VR φ .nili .nilIface
  | agg {l cs} : l.length = cs.size → (∀ (i : Nat) (x : AV) (v : Value), l[i]? = some x → cs[i]? = some v → VR φ x v) → l.all AV.atom = true → VR φ (.agg l) (.agg cs)
  | tup {l cs} : l.length = cs.size → (∀ (i : Nat) (x : AV) (v : Value), l[i]? = some x → cs[i]? = some v → VR φ x v) → VR φ (.tup l) (.tuple cs)

theorem VR.mono {φ φ' : Phi} (h : Phi.le φ φ') {a : AV} {v : Value} (r : VR φ a v) : VR φ' a v := by
  induction r with
  | int k n => exact .int k n
  | bool b => exact .bool b
  | str s => exact .str s
  | ptr e => exact .ptr (h _ _ e)
  | nilp => exact .nilp
  | slice e a b c d => exact .slice (h _ _ e) a b c d
  | nils => exact .nils
  | map e => exact .map (h _ _ e)
  | nilm => exact .nilm
  | func e1 _ e2 _ i1 i2 => exact .func e1 i1 e2 i2
  | nilf => exact .nilf
  | iface _ i => exact .iface i
  | nili => exact .nili
  | agg e _ ha i => exact .agg e i ha
  | tup e _ i => exact .tup e i

/-- lists, place by place -/
def VRL (φ : Phi) (l : List AV) (vs : List Value) : Prop := l.length = vs.length ∧ ∀ (i : Nat) (x : AV) (v : Value), l[i]? = some x → vs[i]? = some v → VR φ x v

theorem VRL.mono {φ φ' : Phi} (h : Phi.le φ φ') {l : List AV} {vs : List Value} (r : VRL φ l vs) : VRL φ' l vs := ⟨r.1, fun i x v hx hv => (r.2 i x v hx hv).mono h⟩
theorem VRL.nil {φ : Phi} : VRL φ [] [] := ⟨rfl, fun i x v h => by simp at h⟩
theorem VRL.cons {φ : Phi} {a : AV} {l : List AV} {v : Value} {vs : List Value} (h : VR φ a v) (r : VRL φ l vs) : VRL φ (a :: l) (v :: vs) :=
  ⟨by simp [r.1], fun i x u hx hu => by
    cases i with
    | zero => simp at hx hu; subst hx; subst hu; exact h
    | succ i => exact r.2 i x u (by simpa using hx) (by simpa using hu)⟩
theorem VRL.uncons {φ : Phi} {a : AV} {l : List AV} {vs : List Value} (r : VRL φ (a :: l) vs) : ∃ v us, vs = v :: us ∧ VR φ a v ∧ VRL φ l us := by
  cases vs with
  | nil => have := r.1; simp at this
  | cons v us => exact ⟨v, us, rfl, r.2 0 a v rfl rfl, by simpa using r.1, fun i x u hx hu => r.2 (i + 1) x u (by simpa using hx) (by simpa using hu)⟩
theorem VRL.nil_right {φ : Phi} {vs : List Value} (r : VRL φ [] vs) : vs = [] := by
  cases vs with
  | nil => rfl
  | cons _ _ => have := r.1; simp at this
theorem VRL.append {φ : Phi} {l m : List AV} {vs us : List Value} (r : VRL φ l vs) (s : VRL φ m us) : VRL φ (l ++ m) (vs ++ us) := by
  refine ⟨by simp [r.1, s.1], fun i x v hx hv => ?_⟩
  rcases Nat.lt_or_ge i l.length with h | h
  · rw [List.getElem?_append_left h] at hx
    rw [List.getElem?_append_left (by rw [← r.1]; exact h)] at hv
    exact r.2 i x v hx hv
  · rw [List.getElem?_append_right h] at hx
    rw [List.getElem?_append_right (by rw [← r.1]; exact h)] at hv
    rw [← r.1] at hv
    exact s.2 _ x v hx hv
theorem VRL.get {φ : Phi} {l : List AV} {vs : List Value} (r : VRL φ l vs) {i : Nat} {x : AV} (h : l[i]? = some x) : ∃ v, vs[i]? = some v ∧ VR φ x v := by
  have hlt : i < l.length := by
    rcases Nat.lt_or_ge i l.length with h' | h'
    · exact h'
    · rw [List.getElem?_eq_none h'] at h; cases h
  have hlt' : i < vs.length := by rw [← r.1]; exact hlt
  exact ⟨vs[i], List.getElem?_eq_getElem hlt', r.2 i x _ h (List.getElem?_eq_getElem hlt')⟩
theorem VRL.cut {φ : Phi} {l : List AV} {vs : List Value} (r : VRL φ l vs) (o n : Nat) : VRL φ ((l.drop o).take n) ((vs.drop o).take n) := by
  refine ⟨by simp [r.1], fun i x v hx hv => ?_⟩
  rw [List.getElem?_take] at hx hv
  split at hx
  · rw [List.getElem?_drop] at hx
    rw [if_pos ‹_›, List.getElem?_drop] at hv
    exact r.2 _ x v hx hv
  · cases hx
theorem VRL.put {φ : Phi} {l m : List AV} {vs us : List Value} (r : VRL φ l vs) (s : VRL φ m us) (o : Nat) : VRL φ (putL l o m) (putL vs o us) := by
  unfold putL
  refine VRL.append (VRL.append ?_ s) ?_
  · have := r.cut 0 o; simpa using this
  · have := r.cut (o + m.length) l.length
    rw [List.take_of_length_le (by simp)] at this
    rw [List.take_of_length_le (by simp [r.1])] at this
    rw [s.1] at this ⊢
    simpa [s.1] using this

theorem VR.agg_of {φ : Phi} {l : List AV} {vs : List Value} (r : VRL φ l vs) (h : l.all AV.atom = true) : VR φ (.agg l) (.agg vs.toArray) :=
  .agg (by simpa using r.1) (fun i x v hx hv => r.2 i x v hx (by simpa using hv)) h
theorem VR.tup_of {φ : Phi} {l : List AV} {vs : List Value} (r : VRL φ l vs) : VR φ (.tup l) (.tuple vs.toArray) :=
  .tup (by simpa using r.1) (fun i x v hx hv => r.2 i x v hx (by simpa using hv))
theorem VR.agg_inv {φ : Phi} {l : List AV} {v : Value} (r : VR φ (.agg l) v) : ∃ cs, v = .agg cs ∧ VRL φ l cs.toList ∧ l.all AV.atom = true := by
  cases r with
  | agg e h ha => exact ⟨_, rfl, ⟨by simpa using e, fun i x v hx hv => h i x v hx (by simpa using hv)⟩, ha⟩
theorem VR.tup_inv {φ : Phi} {l : List AV} {v : Value} (r : VR φ (.tup l) v) : ∃ cs, v = .tuple cs ∧ VRL φ l cs.toList := by
  cases r with
  | tup e h => exact ⟨_, rfl, by simpa using e, fun i x v hx hv => h i x v hx (by simpa using hv)⟩

theorem VR.oneCell {φ : Phi} {a : AV} {v : Value} (r : VR φ a v) (h : a.atom = true) : v.oneCell' = true := by
  cases r <;> first | rfl | (simp [AV.atom] at h)

/-- the cells of a value that has some -/
theorem VR.cells {φ : Phi} {a : AV} {v : Value} (r : VR φ a v) (h : a.cells ≠ []) : VRL φ a.cells v.cells.toList := by
  cases r with
  | agg e hh ha => exact ⟨by simpa [AV.cells, Value.cells] using e, fun i x v hx hv => hh i x v hx (by simpa [Value.cells] using hv)⟩
  | tup e hh => exact absurd rfl h
  | int k n => exact .cons (.int k n) .nil
  | bool b => exact .cons (.bool b) .nil
  | str s => exact .cons (.str s) .nil
  | ptr e => exact .cons (.ptr e) .nil
  | nilp => exact .cons .nilp .nil
  | slice e a b c d => exact .cons (.slice e a b c d) .nil
  | nils => exact .cons .nils .nil
  | map e => exact .cons (.map e) .nil
  | nilm => exact .cons .nilm .nil
  | func e1 h1 e2 h2 => exact .cons (.func e1 h1 e2 h2) .nil
  | nilf => exact .cons .nilf .nil
  | iface hh => exact .cons (.iface hh) .nil
  | nili => exact .cons .nili .nil

theorem VRL.oneCell {φ : Phi} {l : List AV} {vs : List Value} (r : VRL φ l vs) (h : l.all AV.atom = true) : ∀ v ∈ vs, v.oneCell' = true := by
  intro v hv
  obtain ⟨i, hi⟩ := List.getElem?_of_mem hv
  have hlt : i < vs.length := by
    rcases Nat.lt_or_ge i vs.length with h' | h'
    · exact h'
    · rw [List.getElem?_eq_none h'] at hi; cases hi
  have hlt' : i < l.length := by rw [r.1]; exact hlt
  exact (r.2 i l[i] v (List.getElem?_eq_getElem hlt') hi).oneCell (List.all_eq_true.1 h _ (List.getElem_mem hlt'))

/- scalars -/
theorem val?_VR {φ : Phi} {a : AV} {u : Value} (h : val? a = some u) : VR φ a u := by
  unfold val? at h
  split at h <;> first | (cases h; done) | (cases h; first | exact .int _ _ | exact .bool _ | exact .str _ | exact .nilp | exact .nils | exact .nilm | exact .nilf | exact .nili | exact .iface (.int _ _) | exact .iface (.str _) | exact .iface (.bool _))
theorem val?_eq {φ : Phi} {a : AV} {u v : Value} (h : val? a = some u) (r : VR φ a v) : v = u := by
  unfold val? at h
  split at h <;> first | (cases h; done) | (cases h; cases r <;> first | rfl | (rename_i h'; cases h'; rfl))
theorem vals?_eq {φ : Phi} {l : List AV} {us vs : List Value} (h : vals? l = some us) (r : VRL φ l vs) : vs = us := by
  induction l generalizing us vs with
  | nil => simp [vals?] at h; subst h; exact r.nil_right
  | cons a l ih =>
    obtain ⟨v, ws, rfl, hv, hw⟩ := r.uncons
    simp only [vals?, Option.pure_def, Option.bind_eq_bind, Option.bind_eq_some_iff, Option.some.injEq] at h
    obtain ⟨u, hu, r', hr, rfl⟩ := h
    rw [val?_eq hu hv, ih hr hw]

mutual
theorem ofV_VR {φ : Phi} : ∀ (d : Nat) (v : Value) (a : AV), ofV d v = some a → VR φ a v
  | 0, _, _, h => by simp [ofV] at h
  | d + 1, v, a, h => by
    unfold ofV at h
    split at h <;> try (cases h; first | exact .int _ _ | exact .bool _ | exact .str _ | exact .nilp | exact .nils | exact .nilm | exact .nilf | exact .nili)
    · simp only [Option.map_eq_some_iff] at h
      obtain ⟨x, hx, rfl⟩ := h
      exact .iface (ofV_VR d _ _ hx)
    · simp only [Option.bind_eq_some_iff] at h
      obtain ⟨l, hl, h⟩ := h
      split at h
      · cases h
        rename_i cs hall
        have := VR.agg_of (φ := φ) (ofL_VR d _ _ hl) hall
        simpa using this
      · cases h
    · simp only [Option.map_eq_some_iff] at h
      obtain ⟨x, hx, rfl⟩ := h
      have := VR.tup_of (φ := φ) (ofL_VR d _ _ hx)
      simpa using this
    · cases h
theorem ofL_VR {φ : Phi} : ∀ (d : Nat) (vs : List Value) (l : List AV), ofV.ofL d vs = some l → VRL φ l vs
  | d, [], l, h => by simp [ofV.ofL] at h; subst h; exact .nil
  | d, v :: vs, l, h => by
    simp only [ofV.ofL, Option.pure_def, Option.bind_eq_bind, Option.bind_eq_some_iff, Option.some.injEq] at h
    obtain ⟨a, ha, r, hr, rfl⟩ := h
    exact .cons (ofV_VR d v a ha) (ofL_VR d vs r hr)
end

/-- slots -/
def EnvR (φ : Phi) (e : Env) (tmps : Array Value) : Prop := ∀ t a, e t = some a → ∃ v, tmps[t]? = some v ∧ VR φ a v

/- the model's programs that look at nothing but tables -/
theorem semP_run {α : Type} {P : Program} {s : Sem α} {a : α} (h : semP P s = some a) (w : World) : s.run P w = .ok a w := by
  induction s with
  | pure b => simp [semP] at h; subst h; rfl
  | program k ih => exact ih P (by simpa [semP] using h)
  | mark m k ih => exact ih (by simpa [semP] using h)
  | _ => simp [semP] at h

theorem run_isAgg {P : Program} {t : TypeId} {b : Bool} (h : isAggT P t = some b) (w : World) : (isAgg t).run P w = .ok b w := by
  unfold isAggT at h
  split at h <;> first
    | (cases h; rename_i hu; simp [isAgg, underlying, hu])
    | (cases h; rename_i hu h1 h2 ; simp only [isAgg, underlying, Sem.run_bind, run_program, hu, Result.andThen_ok, Sem.run_pure]; split <;> simp_all)
    | cases h

theorem run_sizeOf {P : Program} {t : TypeId} {n : Nat} (h : sizeT P t = some n) (w : World) : (sizeOf t).run P w = .ok n w := by
  unfold sizeT at h
  simp only [Option.map_eq_some_iff] at h
  obtain ⟨i, hi, rfl⟩ := h
  simp [sizeOf, typeInfo, hi]

theorem run_underlying' {P : Program} {t : TypeId} {d : TypeDesc} (h : P.underlying t = some d) (w : World) : (underlying t).run P w = .ok d w := by
  simp [underlying, h]

theorem add_none (b o i : Nat) : (⟨b, o, none⟩ : Addr).add i = ⟨b, o + i, none⟩ := by
  unfold Addr.add; split
  · simp_all
  · rfl

theorem cell_row {w : World} {b : Nat} {cs : Array Value} {el : TypeId} {fr : Nat × Nat} (h : w.heap[b]? = some (.cells cs el fr)) (o : Nat) : w.cell? ⟨b, o, none⟩ = cs[o]? := by
  simp [World.cell?, h]

theorem run_load_cell {P : Program} {w : World} {a : Addr} {v : Value} (h : w.cell? a = some v) : (load a).run P w = .ok v w := by
  rw [run_load, h]

theorem run_loadCellsFrom {P : Program} {w : World} {b o : Nat} : ∀ (n i : Nat) (acc : Array Value) (vs : List Value), vs.length = n → (∀ j v, vs[j]? = some v → w.cell? ⟨b, o + (i + j), none⟩ = some v) →
    (loadCellsFrom ⟨b, o, none⟩ i n acc).run P w = .ok (acc ++ vs.toArray) w := by
  intro n
  induction n with
  | zero =>
    intro i acc vs hl _
    have : vs = [] := List.eq_nil_of_length_eq_zero hl
    subst this
    simp [loadCellsFrom]
  | succ n ih =>
    intro i acc vs hl hc
    cases vs with
    | nil => simp at hl
    | cons v vs =>
      have h0 := hc 0 v rfl
      simp only [loadCellsFrom, Sem.run_bind]
      rw [add_none, run_load_cell (v := v) (by simpa using h0)]
      simp only [Result.andThen_ok]
      rw [ih (i + 1) (acc.push v) vs (by simpa using hl) (fun j u hj => by
        have := hc (j + 1) u (by simpa using hj)
        rw [show i + 1 + j = i + (j + 1) from by omega]; exact this)]
      congr 1
      apply Array.ext'
      simp

theorem run_loadCells {P : Program} {w : World} {b o : Nat} {vs : List Value} (h : ∀ j v, vs[j]? = some v → w.cell? ⟨b, o + j, none⟩ = some v) :
    (loadCells ⟨b, o, none⟩ vs.length).run P w = .ok vs.toArray w := by
  have := run_loadCellsFrom (P := P) (w := w) (b := b) (o := o) vs.length 0 #[] vs rfl (fun j v hj => by simpa using h j v hj)
  simpa [loadCells] using this

/- the memory -/
def Own (h : AH) (A : Nat) : Prop := (∃ anc c, h.get A = some (.cells 0 anc false c)) ∨ ∃ es, h.get A = some (.map es)

/-- alive: not dead -/
def Live (h : AH) (A : Nat) : Prop := (∃ st anc f c, h.get A = some (.cells st anc f c) ∧ st ≠ 2) ∨ ∃ es, h.get A = some (.map es)

theorem Own.live {h : AH} {A : Nat} (o : Own h A) : Live h A := by
  rcases o with ⟨anc, c, g⟩ | g
  · exact .inl ⟨0, anc, false, c, g, by simp⟩
  · exact .inr g

def ObjR (φ : Phi) (w : World) (loc : Loc) : HObj → Prop
  | .cells st anc fro c => st = 2 ∨ (c.all AV.atom = true ∧ c.length ≤ loc.lim ∧ (∀ X ∈ anc, φ X ≠ none) ∧
      ∃ cs el fr, w.heap[loc.blk]? = some (.cells cs el fr) ∧ loc.base + loc.lim ≤ cs.size ∧ (∀ (i : Nat) (x : AV), c[i]? = some x → ∃ v, cs[loc.base + i]? = some v ∧ VR φ x v) ∧
        (fro = false → ∀ (i : Nat), i < loc.lim → ¬(fr.1 ≤ loc.base + i ∧ loc.base + i < fr.2)))
  | .map es => ∃ es' clock, w.heap[loc.blk]? = some (.map es' clock) ∧ es.length = es'.size ∧ ∀ (i : Nat) (k x : AV) (m : MapEntry), es[i]? = some (k, x) → es'[i]? = some m → val? k = some m.key ∧ VR φ x m.val

structure RelM (φ : Phi) (h : AH) (w : World) : Prop where
  dom : ∀ A loc, φ A = some loc → A < h.next
  hdom : ∀ A o, h.get A = some o → A < h.next
  blk : ∀ A o loc, h.get A = some o → φ A = some loc → ObjR φ w loc o
  apart : ∀ A B sa na fa ca sb nb fb cb la lb, h.get A = some (.cells sa na fa ca) → h.get B = some (.cells sb nb fb cb) → sa ≠ 2 → sb ≠ 2 → φ A = some la → φ B = some lb → la.blk = lb.blk →
    A = B ∨ (A ∈ nb ∧ la.base + ca.length ≤ lb.base + cb.length) ∨ (B ∈ na ∧ lb.base + cb.length ≤ la.base + ca.length)
  anclt : ∀ A sa na fa ca, h.get A = some (.cells sa na fa ca) → ∀ X ∈ na, X < h.next
  elder : ∀ A X sa na fa ca sx nx fx cx, h.get A = some (.cells sa na fa ca) → sa ≠ 2 → X ∈ na → h.get X = some (.cells sx nx fx cx) → sx ≠ 0
  maps : ∀ A B ea eb la lb, h.get A = some (.map ea) → h.get B = some (.map eb) → φ A = some la → φ B = some lb → la.blk = lb.blk → A = B

structure StepR (φ φ' : Phi) (h h' : AH) (w w' : World) : Prop where
  ext : Phi.le φ φ'
  rel : RelM φ' h' w'
  next : h.next ≤ h'.next
  old : ∀ A, A < h.next → φ A = none → φ' A = none ∧ h'.get A = h.get A
  size : w.heap.size ≤ w'.heap.size
  frame : ∀ r, r < w.heap.size → (∀ A loc, φ A = some loc → loc.blk = r → ¬ Own h A) → w'.heap[r]? = w.heap[r]?
  own : ∀ A loc, Own h' A → φ' A = some loc → loc.blk < w.heap.size → ∃ B lb, Own h B ∧ φ B = some lb ∧ lb.blk = loc.blk
  live : ∀ A loc, Live h' A → φ' A = some loc → loc.blk < w.heap.size → ∃ B lb, Live h B ∧ φ B = some lb ∧ lb.blk = loc.blk
  os : w'.os = w.os
  tape : w'.tape = w.tape
  output : w'.output = w.output

theorem StepR.refl {φ : Phi} {h : AH} {w : World} (r : RelM φ h w) : StepR φ φ h h w w :=
  ⟨Phi.le_refl φ, r, Nat.le_refl _, fun _ _ e => ⟨e, rfl⟩, Nat.le_refl _, fun _ _ _ => rfl, fun A loc o e _ => ⟨A, loc, o, e, rfl⟩, fun A loc o e _ => ⟨A, loc, o, e, rfl⟩, rfl, rfl, rfl⟩

theorem StepR.trans {φ φ' φ'' : Phi} {h h' h'' : AH} {w w' w'' : World} (a : StepR φ φ' h h' w w') (b : StepR φ' φ'' h' h'' w' w'') : StepR φ φ'' h h'' w w'' where
  ext := Phi.le_trans a.ext b.ext
  rel := b.rel
  next := Nat.le_trans a.next b.next
  old A hA e := by
    obtain ⟨e1, g1⟩ := a.old A hA e
    obtain ⟨e2, g2⟩ := b.old A (Nat.lt_of_lt_of_le hA a.next) e1
    exact ⟨e2, g2.trans g1⟩
  size := Nat.le_trans a.size b.size
  frame r hr hn := by
    rw [b.frame r (Nat.lt_of_lt_of_le hr a.size) (fun A loc e hb ho => by
      obtain ⟨B, lb, ob, eb, hbb⟩ := a.own A loc ho e (by omega)
      exact hn B lb eb (by omega) ob), a.frame r hr hn]
  own A loc o e hlt := by
    obtain ⟨B, lb, ob, eb, hb⟩ := b.own A loc o e (Nat.lt_of_lt_of_le hlt a.size)
    obtain ⟨C, lc, oc, ec, hc⟩ := a.own B lb ob eb (by omega)
    exact ⟨C, lc, oc, ec, by omega⟩
  live A loc o e hlt := by
    obtain ⟨B, lb, ob, eb, hb⟩ := b.live A loc o e (Nat.lt_of_lt_of_le hlt a.size)
    obtain ⟨C, lc, oc, ec, hc⟩ := a.live B lb ob eb (by omega)
    exact ⟨C, lc, oc, ec, by omega⟩
  os := b.os.trans a.os
  tape := b.tape.trans a.tape
  output := b.output.trans a.output

/-- what a row reads as -/
theorem RelM.row {φ : Phi} {h : AH} {w : World} (r : RelM φ h w) {b : Nat} {loc : Loc} {c : List AV} (hb : φ b = some loc) (hc : rowOf h b = some c) :
    ∃ cs el fr, w.heap[loc.blk]? = some (.cells cs el fr) ∧ loc.base + loc.lim ≤ cs.size ∧ c.length ≤ loc.lim ∧ c.all AV.atom = true ∧ (∀ (i : Nat) (x : AV), c[i]? = some x → ∃ v, cs[loc.base + i]? = some v ∧ VR φ x v) := by
  unfold rowOf at hc
  split at hc
  · rename_i st anc fro c' hg
    split at hc
    · cases hc
    · cases hc
      have := r.blk b _ loc hg hb
      rcases this with h2 | ⟨ha, hl, _, cs, el, fr, h1, h2, h3, _⟩
      · contradiction
      · exact ⟨cs, el, fr, h1, h2, hl, ha, h3⟩
  · cases hc

theorem row_cut {φ : Phi} {w : World} {loc : Loc} {c : List AV} {cs : Array Value} {el : TypeId} {fr : Nat × Nat} (hw : w.heap[loc.blk]? = some (.cells cs el fr))
    (h3 : ∀ (i : Nat) (x : AV), c[i]? = some x → ∃ v, cs[loc.base + i]? = some v ∧ VR φ x v) {o n : Nat} {l : List AV} (hl : cutL c o n = some l) :
    ∃ vs : List Value, vs.length = n ∧ VRL φ l vs ∧ ∀ j v, vs[j]? = some v → w.cell? ⟨loc.blk, loc.base + o + j, none⟩ = some v := by
  unfold cutL at hl
  split at hl
  · rename_i hle
    cases hl
    refine ⟨((cs.toList.drop (loc.base + o)).take n), ?_, ?_, ?_⟩
    · have : loc.base + o + n ≤ cs.size ∨ n = 0 := by
        rcases Nat.eq_zero_or_pos n with h0 | h0
        · exact .inr h0
        · left
          have hx : c[o + n - 1]? = some c[o + n - 1] := List.getElem?_eq_getElem (by omega)
          obtain ⟨v, hv, _⟩ := h3 _ _ hx
          have := (Array.getElem?_eq_some_iff.1 hv).1
          omega
      simp
      omega
    · refine ⟨?_, fun i x v hx hv => ?_⟩
      · have : loc.base + o + n ≤ cs.size ∨ n = 0 := by
          rcases Nat.eq_zero_or_pos n with h0 | h0
          · exact .inr h0
          · left
            have hx : c[o + n - 1]? = some c[o + n - 1] := List.getElem?_eq_getElem (by omega)
            obtain ⟨v, hv, _⟩ := h3 _ _ hx
            have := (Array.getElem?_eq_some_iff.1 hv).1
            omega
        simp
        omega
      · rw [List.getElem?_take] at hx hv
        split at hx
        · rw [List.getElem?_drop] at hx
          rw [if_pos ‹_›, List.getElem?_drop] at hv
          obtain ⟨u, hu, hr⟩ := h3 _ _ hx
          rw [Array.getElem?_toList, show loc.base + o + i = loc.base + (o + i) from by omega, hu] at hv
          cases hv
          exact hr
        · cases hx
    · intro j v hv
      rw [cell_row hw]
      rw [List.getElem?_take] at hv
      split at hv
      · rw [List.getElem?_drop, Array.getElem?_toList] at hv
        exact hv
      · cases hv
  · cases hl

theorem run_loadT {P : Program} {φ : Phi} {h : AH} {w : World} (r : RelM φ h w) {t : TypeId} {b o : Nat} {loc : Loc} {a : AV} (hb : φ b = some loc) (hl : loadT P h t b o = some a) :
    ∃ v, (loadVar t ⟨loc.blk, loc.base + o, none⟩).run P w = .ok v w ∧ VR φ a v := by
  unfold loadT at hl
  simp only [Option.bind_eq_bind, Option.bind_eq_some_iff] at hl
  obtain ⟨c, hc, ag, hag, hl⟩ := hl
  obtain ⟨cs, el, fr, hw, hsz, hlen, hat, h3⟩ := r.row hb hc
  cases ag with
  | true =>
    simp only [Option.pure_def, Option.bind_eq_some_iff, Option.some.injEq] at hl
    obtain ⟨n, hn, l, hcut, rfl⟩ := hl
    obtain ⟨vs, hvl, hvr, hcell⟩ := row_cut hw h3 hcut
    refine ⟨.agg vs.toArray, ?_, VR.agg_of hvr ?_⟩
    · simp only [loadVar, Sem.run_bind, run_isAgg hag, Result.andThen_ok, if_true, run_sizeOf hn]
      rw [← hvl, run_loadCells hcell]
      rfl
    · unfold cutL at hcut
      split at hcut
      · cases hcut
        rw [List.all_eq_true] at hat ⊢
        exact fun x hx => hat x (List.mem_of_mem_drop (List.mem_of_mem_take hx))
      · cases hcut
  | false =>
    obtain ⟨v, hv, hr⟩ := h3 o a hl
    refine ⟨v, ?_, hr⟩
    simp only [loadVar, Sem.run_bind, run_isAgg hag, Result.andThen_ok]
    rw [if_neg (by simp), run_load_cell]
    rw [cell_row hw]
    exact hv

end Go.Vai
