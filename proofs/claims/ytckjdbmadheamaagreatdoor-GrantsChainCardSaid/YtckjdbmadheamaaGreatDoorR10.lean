/- Operations that lay a new block. -/
import Derived.Test.YtckjdbmadheamaaGreatDoorR9
set_option linter.all false
namespace Go.Vai

section
variable {φ : Phi} {e : Env} {a : Act} {P : Program}

def NewR (φ : Phi) : HObj → Obj → Nat → Prop
  | .cells st anc fro c, ro, lim => st = 0 ∧ anc = [] ∧ fro = false ∧ c.all AV.atom = true ∧ c.length ≤ lim ∧ ∃ cs el fr, ro = .cells cs el fr ∧ lim ≤ cs.size ∧
      (∀ (i : Nat) (x : AV), c[i]? = some x → ∃ v, cs[i]? = some v ∧ VR φ x v) ∧ ∀ (i : Nat), i < lim → ¬(fr.1 ≤ i ∧ i < fr.2)
  | .map es, ro, lim => es = [] ∧ lim = 0 ∧ ∃ ck, ro = .map #[] ck

/-- an operation that lays a new block: its object, and what the model lays, in whatever world -/
def Lays (P : Program) (φ : Phi) (s : Sem Next) (A : Nat) (obj : HObj) (v : AV) : Prop :=
  ∀ w, ∃ u ro w' lim, s.run P w = .ok (.value u) w' ∧ w'.heap = w.heap.push ro ∧ w'.os = w.os ∧ w'.tape = w.tape ∧ w'.output = w.output ∧ NewR φ obj ro lim ∧
    ∀ φ' : Phi, Phi.le φ φ' → φ' A = some ⟨w.heap.size, 0, lim⟩ → VR φ' v u

theorem Lays.step {s : Sem Next} {h : AH} {obj : HObj} {v : AV} (hl : Lays P φ s h.next obj v) {w : World} (r : RelM φ h w) :
    ∃ u w' φ', s.run P w = .ok (.value u) w' ∧ StepR φ φ' h (h.new obj) w w' ∧ VR φ' v u := by
  obtain ⟨u, ro, w', lim, hrun, hw, h1, h2, h3, hn, hv⟩ := hl w
  refine ⟨u, w', φ.upd h.next ⟨w.heap.size, 0, lim⟩, hrun, ?_, hv _ (r.le_upd _) (Phi.upd_self _ _ _)⟩
  cases obj with
  | cells st anc fro c =>
    obtain ⟨rfl, rfl, rfl, hat, hc, cs, el, fr, rfl, hlim, hvr, hf⟩ := hn
    exact step_new r hat hlim hc hvr hf (fun X hX => by cases hX) hw h1 h2 h3
  | map es =>
    obtain ⟨rfl, rfl, ck, rfl⟩ := hn
    exact step_new_map r ck hw h1 h2 h3

theorem rep_R {z : List AV} {zv : Array Value} {n : Nat} (h : VRL φ z zv.toList) (h0 : z ≠ []) : VRL φ (repL z n) ((Array.range (n * zv.size)).map fun i => zv[i % zv.size]!).toList := by
  have hl : z.length = zv.size := by simpa using h.1
  have hpos : 0 < z.length := List.length_pos_iff.2 h0
  refine ⟨by simp [repL, hl], fun i x v hx hv => ?_⟩
  simp only [repL, List.getElem?_map, Option.map_eq_some_iff] at hx
  obtain ⟨j, hj, rfl⟩ := hx
  have hj' : j = i := by
    have := List.getElem?_eq_some_iff.1 hj
    obtain ⟨hlt, he⟩ := this
    simpa using he.symm
  subst hj'
  simp only [Array.getElem?_toList, Array.getElem?_map, Option.map_eq_some_iff] at hv
  obtain ⟨k, hk, rfl⟩ := hv
  have hk' : k = j := by
    have := Array.getElem?_eq_some_iff.1 hk
    obtain ⟨hlt, he⟩ := this
    simpa using he.symm
  subst hk'
  have hm : k % z.length < z.length := Nat.mod_lt _ hpos
  have hm' : k % zv.size < zv.size := by rw [← hl]; exact hm
  rw [List.getElem?_eq_getElem hm]
  simp only [Option.getD_some]
  rw [getElem!_pos zv (k % zv.size) hm']
  refine h.2 (k % z.length) _ _ (List.getElem?_eq_getElem hm) ?_
  rw [Array.getElem?_toList]
  rw [show k % z.length = k % zv.size from by rw [hl]]
  exact Array.getElem?_eq_getElem hm'

theorem rep_atom {z : List AV} {n : Nat} (h : z.all AV.atom = true) : (repL z n).all AV.atom = true := by
  rw [List.all_eq_true] at h ⊢
  intro x hx
  simp only [repL, List.mem_map] at hx
  obtain ⟨i, _, rfl⟩ := hx
  cases hz : z[i % z.length]? with
  | none => rfl
  | some y => exact h y (List.mem_of_getElem? hz)

theorem NewR.cells {c : List AV} {cs : Array Value} {el : TypeId} (h : VRL φ c cs.toList) (hat : c.all AV.atom = true) : NewR φ (.cells 0 [] false c) (.cells cs el) cs.size :=
  ⟨rfl, rfl, rfl, hat, by have := h.1; simp at this; omega, cs, el, (0, 0), rfl, Nat.le_refl _, fun i x hx => by
    obtain ⟨v, hv, hr⟩ := h.get hx
    exact ⟨v, by simpa using hv, hr⟩, fun i _ => by simp⟩

theorem sim_alloc {o : Oper} {callF : CallF} {h h' : AH} {v : AV} (he : EnvR φ e a.tmps) (hg : GlobR φ) (hc : cls P o.op = .alloc) (hv : evOp P callF e h o.op = some (v, h')) :
    ∃ obj, h' = h.new obj ∧ Lays P φ (execOp a.eval o) h.next obj v := by
  obtain ⟨dst, op, type, pos, after, guard⟩ := o
  cases op <;> simp only [cls] at hc <;> first | (cases hc; done) | skip
  case alloc t =>
    simp only [evOp, Option.bind_eq_bind, Option.bind_eq_some_iff, Option.pure_def, Option.some.injEq, Prod.mk.injEq] at hv
    obtain ⟨z, hz, rfl, rfl⟩ := hv
    obtain ⟨i, zv, _, _, hzr, _, _, hza, hzc, hzrun⟩ := run_zero (φ := φ) hz
    refine ⟨_, rfl, fun w => ⟨.pointer (some ⟨w.heap.size, 0, none⟩), .cells zv.cells t, { w with heap := w.heap.push (.cells zv.cells t) }, zv.cells.size, ?_, rfl, rfl, rfl, rfl, NewR.cells hzc hza, fun φ' _ e' => ?_⟩⟩
    · simp [execOp, Instr.alloc, hzrun, newVar, Go.newRow]
    · simpa using VR.ptr (φ := φ') (o := 0) e'
  case box t x =>
    simp only [evOp, Option.bind_eq_bind, Option.bind_eq_some_iff] at hv
    obtain ⟨p, hp, n, hn, hv⟩ := hv
    split at hv
    · rename_i hcond
      obtain ⟨h1, h2, h3⟩ := hcond
      cases hv
      have hr := opd_R he hg hp
      have hcl := hr.cells (fun e => by rw [e] at h1; exact h3 (by simpa using h1.symm))
      refine ⟨_, rfl, fun w => ⟨.pointer (some ⟨w.heap.size, 0, none⟩), .cells (a.eval x).cells t, { w with heap := w.heap.push (.cells (a.eval x).cells t) }, (a.eval x).cells.size, ?_, rfl, rfl, rfl, rfl, NewR.cells hcl h2, fun φ' _ e' => ?_⟩⟩
      · simp [execOp, Instr.box, newVar, Go.newRow]
      · simpa using VR.ptr (φ := φ') (o := 0) e'
    · cases hv
  case buildSlice t len parts =>
    simp only [evOp, Option.bind_eq_bind, Option.bind_eq_some_iff] at hv
    obtain ⟨ps, hps, ⟨n, l⟩, hbs, hv⟩ := hv
    cases hv
    obtain ⟨hl1, hl2⟩ := partsA_R he hg _ _ hps
    unfold buildSliceA at hbs
    split at hbs
    · rename_i el hel
      simp only [Option.bind_eq_bind, Option.bind_eq_some_iff] at hbs
      obtain ⟨sz, hsz, z, hz, hbs⟩ := hbs
      split at hbs
      · cases hbs
      rename_i hcond
      simp only [Option.bind_eq_some_iff, Option.pure_def, Option.some.injEq, Prod.mk.injEq] at hbs
      obtain ⟨l', hfill, rfl, rfl⟩ := hbs
      obtain ⟨i, zv, hi, _, hzr, hzl, hz0, hza, hzc, hzrun⟩ := run_zero (φ := φ) hz
      have hsz' : sz = i.size := by simpa [sizeT, hi] using hsz.symm
      have hzne : z.cells ≠ [] := fun e => by rw [e] at hzl; exact hz0 (by simpa using hzl.symm)
      have hzsize : zv.cells.size = sz := by have := hzc.1; simp at this; omega
      have hrep := rep_R (n := len) hzc hzne
      obtain ⟨arr, hf1, hf2, hf3⟩ := fill_R (φ := φ) (place := fun i => some (i * sz, sz)) ps _ (repL z.cells len) _ l' hl1 hl2 hrep (rep_atom hza) hfill (fun i off size hh => by cases hh; omega)
      have hmap : (parts.map fun (i, x) => (i, a.eval x)).toList = parts.toList.map fun p => (p.1, a.eval p.2) := by simp
      refine ⟨_, rfl, fun w => ⟨.slice (some ⟨w.heap.size, 0, none⟩) len len, .cells arr el, { w with heap := w.heap.push (.cells arr el) }, arr.size, ?_, rfl, rfl, rfl, rfl, NewR.cells hf2 hf3, fun φ' _ e' => ?_⟩⟩
      · simp only [execOp, Instr.buildSlice, Sem.run_bind, run_underlying' hel, Result.andThen_ok, run_sizeOf hsz, Sem.run_ite]
        rw [if_neg (by omega)]
        have hls : ¬ (len * sz = 0) ∨ len = 0 := by
          rcases Nat.eq_zero_or_pos len with h0 | h0
          · exact .inr h0
          · left; have : 0 < len * sz := Nat.mul_pos h0 (by omega); omega
        rw [hmap]
        by_cases hl0 : len * sz = 0
        · have hlen : len = 0 := by rcases hls with h' | h'; exact absurd hl0 h'; exact h'
          subst hlen
          have e0 : ∀ f : Nat → Value, (Array.range 0).map f = #[] := fun f => by simp
          simp only [Nat.zero_mul, if_true, Sem.run_pure, Result.andThen_ok, e0] at hf1 ⊢
          rw [hf1]
          simp [Go.newRow]
        · rw [if_neg hl0]
          simp only [Sem.run_bind, hzrun, Result.andThen_ok, Sem.run_pure]
          rw [show len * sz = len * zv.cells.size from by rw [hzsize], hf1]
          simp [Go.newRow]
      · have hal : l'.length = arr.size := by simpa using hf2.1
        have hll : l'.length = len * sz := by
          have hfl : ∀ (parts : List (Nat × AV)) (c l : List AV), fillA (fun i => some (i * sz, sz)) c parts = some l → l.length = c.length := by
            intro parts
            induction parts with
            | nil => intro c l hh; simp [fillA] at hh; rw [hh]
            | cons p parts ih =>
              intro c l hh
              obtain ⟨i, x⟩ := p
              simp only [fillA] at hh
              split at hh
              · rename_i hq
                rw [ih _ _ hh, putL_length (by omega)]
              · cases hh
          rw [hfl _ _ _ hfill]
          simp [repL]
          have := hzc.1; simp at this
          rw [show z.cells.length = sz by omega]
        refine .slice e' (Nat.le_refl _) (fun _ => rfl) (.inr rfl) ?_
        simp; omega
    · cases hbs
  case makeMap t r =>
    cases r with
    | some r => cases hv
    | none =>
      cases hv
      refine ⟨_, rfl, fun w => ⟨.map (some w.heap.size), .map #[] 0, { w with heap := w.heap.push (.map #[] 0) }, 0, ?_, rfl, rfl, rfl, rfl, ⟨rfl, rfl, 0, rfl⟩, fun φ' _ e' => .map e'⟩⟩
      simp [execOp, Instr.makeMap]
  case makeSlice t l c =>
    simp only [evOp, Option.bind_eq_bind, Option.bind_eq_some_iff] at hv
    obtain ⟨p, hp, q, hq, hv⟩ := hv
    split at hv
    · rename_i el n m hel
      simp only [Option.bind_eq_some_iff] at hv
      obtain ⟨i, hi, z, hz, hv⟩ := hv
      split at hv
      · rename_i hcond
        obtain ⟨h1, h2, h3, h4, h5⟩ := hcond
        cases hv
        obtain ⟨i', zv, hi', _, hzr, hzl, hz0, hza, hzc, hzrun⟩ := run_zero (φ := φ) hz
        rw [hi] at hi'; cases hi'
        have hzne : z.cells ≠ [] := fun e => by rw [e] at hzl; exact hz0 (by simpa using hzl.symm)
        have hzsize : zv.cells.size = i.size := by have := hzc.1; simp at this; omega
        have hrep := rep_R (n := m.toNat) hzc hzne
        have hsz : sizeT P el = some i.size := by simp [sizeT, hi]
        have em : (most : Int) = 1073741824 := rfl
        have hwn : IntKind.wrap .i64 n = n := by
          simp only [IntKind.wrap, IntKind.bits, IntKind.signed]
          simp
          omega
        have hwm : IntKind.wrap .i64 m = m := by
          simp only [IntKind.wrap, IntKind.bits, IntKind.signed]
          simp
          omega
        have hbig : ¬ ((i.bytes : Int) * m > 2 ^ 48) := by
          have : (i.bytes : Int) * m ≤ 65536 * 1073741824 := by
            have a1 : (i.bytes : Int) ≤ 65536 := by omega
            have a2 : m ≤ 1073741824 := by omega
            exact Int.mul_le_mul a1 a2 (by omega) (by omega)
          omega
        refine ⟨_, rfl, fun w => ⟨.slice (some ⟨w.heap.size, 0, none⟩) n.toNat m.toNat, .cells ((Array.range (m.toNat * zv.cells.size)).map fun k => zv.cells[k % zv.cells.size]!) el, { w with heap := w.heap.push (.cells ((Array.range (m.toNat * zv.cells.size)).map fun k => zv.cells[k % zv.cells.size]!) el) }, _, ?_, rfl, rfl, rfl, rfl, NewR.cells hrep (rep_atom hza), fun φ' _ e' => ?_⟩⟩
        · have hr1 := (opd_R he hg hp).int_inv
          have hr2 := (opd_R he hg hq).int_inv
          simp only [execOp, hr1, hr2, Instr.makeSlice, Sem.run_bind, run_underlying' hel, Result.andThen_ok, asInt, asIntOf, Sem.run_pure, typeInfo, run_program, hi, hwn, hwm]
          rw [if_neg (by simp; omega)]
          simp only [Sem.run_bind, run_askRoom, Result.andThen_ok, run_sizeOf hsz, Sem.run_ite, Sem.run_pure, hzrun]
          rw [show m.toNat * i.size = m.toNat * zv.cells.size from by rw [hzsize]]
          split
          · rename_i h0
            rw [h0]
            have e0 : ∀ f : Nat → Value, (Array.range 0).map f = #[] := fun f => by simp
            simp only [e0]
            simp [Go.newRow]
          · simp [Go.newRow]
        · refine .slice e' (by omega) (fun hd => ?_) (.inr rfl) ?_
          · simp at hd; rw [hd]
          · simp [hzsize]
      · cases hv
    · cases hv
  case convert s d x =>
    simp only [evOp, Option.bind_eq_bind, Option.bind_eq_some_iff] at hv
    obtain ⟨p, hp, hv⟩ := hv
    have hr := opd_R he hg hp
    unfold convertA at hv
    split at hv
    · rename_i sd k k' n hs hd
      rw [hs, hd] at hc; cases sd <;> cases hc
    · rename_i sd st hs hd
      rw [hs, hd] at hc; cases sd <;> cases hc
    · rename_i el st hs hd
      split at hv
      · rename_i hel
        split at hv
        · rename_i hmost
          cases hv
          refine ⟨_, rfl, fun w => ⟨.slice (some ⟨w.heap.size, 0, none⟩) st.size (grownCap w st.size 0 el), .cells (Lib.bytesCells w el st) el ((Lib.bytesCells w el st).size, (Lib.bytesCells w el st).size + 1), Lib.bytesWorld w el st, (Lib.bytesCells w el st).size, ?_, ?_, rfl, rfl, rfl, ?_, fun φ' _ e' => ?_⟩⟩
          · simp only [execOp, hr.str_inv, Sem.run_bind]
            rw [Lib.run_convert_string_bytes w s d el st hs hd hel]
            rfl
          · apply Array.ext_getElem?
            intro j
            rw [Array.getElem?_push]
            rcases Nat.lt_trichotomy j w.heap.size with h' | h' | h'
            · rw [if_neg (by omega)]; exact Lib.bytesWorld_at_old w el st j h'
            · subst h'; rw [if_pos rfl]; exact Lib.bytesWorld_at_new w el st
            · rw [if_neg (by omega), Array.getElem?_eq_none (by rw [Lib.bytesWorld_size]; omega), Array.getElem?_eq_none (by omega)]
          · refine ⟨rfl, rfl, rfl, ?_, ?_, _, _, _, rfl, Nat.le_refl _, fun i x hx => ?_, fun i hi => by simp; omega⟩
            · rw [List.all_eq_true]; intro x hx; simp at hx; obtain ⟨b, _, rfl⟩ := hx; rfl
            · simp [Lib.bytesCells]
            · simp only [List.getElem?_map, Option.map_eq_some_iff] at hx
              obtain ⟨b, hb, rfl⟩ := hx
              refine ⟨.int .u8 b.toNat, ?_, .int _ _⟩
              have hlt := (Array.getElem?_eq_some_iff.1 (show st.data[i]? = some b by simpa using hb)).1
              rw [Lib.bytesCells, Array.getElem?_append_left (by simpa using hlt), Array.getElem?_map]
              rw [show st.data[i]? = some b by simpa using hb]
              rfl
          · have hgc : st.size ≤ grownCap w st.size 0 el := by simp [grownCap, Question.cut]
            refine .slice e' hgc (fun hh => by cases hh) (.inr rfl) ?_
            simp [Lib.bytesCells]
            omega
        · cases hv
      · cases hv
    · rename_i el hs hd
      rw [hs, hd] at hc; cases hc
    · rename_i el b o len sz tight hs hd
      rw [hs, hd] at hc; cases hc
    · cases hv
  case call c =>
    split at hc
    · split at hc <;> first | (cases hc; done) | skip
    all_goals cases hc

end
end Go.Vai
