/- Pure operations: aggregates, slices, places, assertions. -/
import Derived.Test.YtckjdbmadheamaaGreatDoorR5
set_option linter.all false
namespace Go.Vai

section
variable {φ : Phi} {e : Env} {a : Act} {P : Program}

theorem putA_toList {vs : List Value} {cs : Array Value} {o : Nat} (h : o + vs.length ≤ cs.size) : (putA cs o vs).toList = putL cs.toList o vs := by
  apply List.ext_getElem?
  intro i
  rw [putL_get (by simpa using h), Array.getElem?_toList, putA_get vs cs o i h]
  split <;> simp

theorem foldl_put (l : List Value) : ∀ (k off : Nat) (cs : Array Value), (l.zipIdx k).foldl (fun cs (p : Value × Nat) => cs.setIfInBounds (off + p.2) p.1) cs = putA cs (off + k) l := by
  induction l with
  | nil => intro k off cs; rfl
  | cons v l ih =>
    intro k off cs
    simp only [List.zipIdx_cons, List.foldl_cons]
    rw [ih (k + 1) off]
    rfl

theorem fill_R {place : Nat → Option (Nat × Nat)} : ∀ (parts : List (Nat × AV)) (pv : List (Nat × Value)) (cells : List AV) (cv : Array Value) (l : List AV),
    parts.length = pv.length → (∀ (i : Nat) (p : Nat × AV) (q : Nat × Value), parts[i]? = some p → pv[i]? = some q → p.1 = q.1 ∧ VR φ p.2 q.2) → VRL φ cells cv.toList → cells.all AV.atom = true → fillA place cells parts = some l →
    (∀ i off size, place i = some (off, size) → size ≠ 0) →
    ∃ arr, Instr.fill place cv pv = some arr ∧ VRL φ l arr.toList ∧ l.all AV.atom = true := by
  intro parts
  induction parts with
  | nil =>
    intro pv cells cv l hlen _ hc hat hf _
    have : pv = [] := List.eq_nil_of_length_eq_zero (by simpa using hlen.symm)
    subst this
    simp [fillA] at hf
    subst hf
    exact ⟨cv, rfl, hc, hat⟩
  | cons p parts ih =>
    intro pv cells cv l hlen hp hc hat hf hpl
    obtain ⟨i, x⟩ := p
    cases pv with
    | nil => simp at hlen
    | cons q pv =>
      obtain ⟨hi, hx⟩ := hp 0 (i, x) q rfl rfl
      obtain ⟨j, v⟩ := q
      simp only at hi hx
      subst hi
      simp only [fillA] at hf
      split at hf
      · cases hf
      · rename_i off size hplace
        split at hf
        · rename_i hcond
          obtain ⟨h1, h2, h3⟩ := hcond
          have hne : x.cells ≠ [] := fun e => by rw [e] at h1; exact hpl _ _ _ hplace (by simpa using h1.symm)
          have hvr := hx.cells hne
          have hsz : v.cells.size = size := by have := hvr.1; simp at this; omega
          have hcs : cells.length = cv.size := by simpa using hc.1
          have hle : off + v.cells.toList.length ≤ cv.size := by simp; omega
          obtain ⟨arr, ha, hb, hb2⟩ := ih pv (putL cells off x.cells) (putA cv off v.cells.toList) l (by simpa using hlen) (fun k p q h h' => hp (k + 1) p q (by simpa using h) (by simpa using h'))
            (by rw [putA_toList hle]; exact hc.put hvr off) (by
              rw [List.all_eq_true] at hat h3 ⊢
              intro y hy
              unfold putL at hy
              simp only [List.mem_append] at hy
              rcases hy with (hy | hy) | hy
              · exact hat y (List.mem_of_mem_take hy)
              · exact h3 y hy
              · exact hat y (List.mem_of_mem_drop hy)) hf hpl
          refine ⟨arr, ?_, hb, hb2⟩
          simp only [Instr.fill, hplace]
          rw [if_neg (by simp [hsz]; omega)]
          have hfold : Array.foldl (fun cs (p : Value × Nat) => cs.setIfInBounds (off + p.2) p.1) cv v.cells.zipIdx = putA cv off v.cells.toList := by
            have := foldl_put v.cells.toList 0 off cv
            rw [← Array.foldl_toList, Array.toList_zipIdx, this]; rfl
          exact (congrArg (fun z => Instr.fill place z pv) hfold).trans ha
        · cases hf

theorem partsA_R (he : EnvR φ e a.tmps) (hg : GlobR φ) : ∀ (l : List (Nat × Operand)) (ps : List (Nat × AV)), partsA e l = some ps →
    ps.length = (l.map fun p => (p.1, a.eval p.2)).length ∧ ∀ (i : Nat) (p : Nat × AV) (q : Nat × Value), ps[i]? = some p → (l.map fun p => (p.1, a.eval p.2))[i]? = some q → p.1 = q.1 ∧ VR φ p.2 q.2
  | [], ps, h => by simp [partsA] at h; subst h; exact ⟨rfl, fun i p q h => by simp at h⟩
  | (k, x) :: l, ps, h => by
    simp only [partsA, Option.pure_def, Option.bind_eq_bind, Option.bind_eq_some_iff, Option.some.injEq] at h
    obtain ⟨v, hv, r, hr, rfl⟩ := h
    obtain ⟨h1, h2⟩ := partsA_R he hg l r hr
    refine ⟨by simp [h1], fun i p q hp hq => ?_⟩
    cases i with
    | zero => simp at hp hq; subst hp; subst hq; exact ⟨rfl, opd_R he hg hv⟩
    | succ i => exact h2 i p q (by simpa using hp) (by simpa using hq)

theorem run_zero {t : TypeId} {z : AV} (h : zeroT P t = some z) : ∃ i u, P.info? t = some i ∧ i.zero = some u ∧ VR φ z u ∧ z.cells.length = i.size ∧ i.size ≠ 0 ∧ z.cells.all AV.atom = true ∧ VRL φ z.cells u.cells.toList ∧ (∀ w, (zeroValue t).run P w = .ok u w) := by
  unfold zeroT at h
  simp only [Option.bind_eq_bind, Option.bind_eq_some_iff] at h
  obtain ⟨i, hi, u, hu, z', hz, h⟩ := h
  split at h
  · cases h
    rename_i hc
    obtain ⟨h1, h2, h3⟩ := hc
    have hr : VR φ z u := ofV_VR 4 _ _ hz
    exact ⟨i, u, hi, hu, hr, h1, h2, h3, hr.cells (fun e => by rw [e] at h1; exact h2 (by simpa using h1.symm)), fun w => by simp [zeroValue, typeInfo, hi, hu]⟩
  · cases h

theorem fieldPlaces_R : ∀ (fs : List Field) (pl : List (Nat × Nat)) (w : World), fieldPlaces P fs = some pl → (fs.mapM fun f => (do pure (f.offset, ← sizeOf f.type) : Sem (Nat × Nat))).run P w = .ok pl w
  | [], pl, w, h => by simp [fieldPlaces] at h; subst h; rfl
  | f :: fs, pl, w, h => by
    simp only [fieldPlaces, Option.pure_def, Option.bind_eq_bind, Option.bind_eq_some_iff] at h
    obtain ⟨n, hn, r, hr, h⟩ := h
    split at h
    · cases h
    · cases h
      have := fieldPlaces_R fs r w hr
      rw [List.mapM_cons, Sem.run_bind, Sem.run_bind, run_sizeOf hn]
      simp only [Result.andThen_ok, Sem.run_pure]
      rw [Sem.run_bind, this]
      rfl

theorem fieldPlaces_pos : ∀ (fs : List Field) (pl : List (Nat × Nat)), fieldPlaces P fs = some pl → ∀ p ∈ pl, p.2 ≠ 0
  | [], pl, h => by simp [fieldPlaces] at h; subst h; intro p hp; cases hp
  | f :: fs, pl, h => by
    simp only [fieldPlaces, Option.pure_def, Option.bind_eq_bind, Option.bind_eq_some_iff] at h
    obtain ⟨n, hn, r, hr, h⟩ := h
    split at h
    · cases h
    · cases h
      rename_i h0
      intro p hp
      rcases List.mem_cons.1 hp with rfl | hp
      · exact h0
      · exact fieldPlaces_pos fs r hr p hp

theorem gives_build {t : TypeId} {parts : Array (Nat × Operand)} {ps : List (Nat × AV)} {v : AV} (he : EnvR φ e a.tmps) (hg : GlobR φ) (hp : partsA e parts.toList = some ps) (h : buildA P t ps = some v) :
    Gives P φ (Instr.build t (parts.map fun (i, x) => (i, a.eval x))) v := by
  obtain ⟨hl1, hl2⟩ := partsA_R he hg _ _ hp
  unfold buildA at h
  simp only [Option.bind_eq_bind, Option.bind_eq_some_iff] at h
  obtain ⟨z, hz, h⟩ := h
  obtain ⟨inf, u, hi, hu, hzr, hzl, hz0, hza, zcells, hzrun⟩ := run_zero (φ := φ) hz
  have hpl : (parts.map fun (i, x) => (i, a.eval x)).toList = parts.toList.map fun p => (p.1, a.eval p.2) := by simp
  split at h
  · rename_i fs hfs
    simp only [Option.pure_def, Option.bind_eq_some_iff, Option.some.injEq] at h
    obtain ⟨pl, hplc, l, hfill, rfl⟩ := h
    obtain ⟨arr, h1, h2, h3⟩ := fill_R (φ := φ) (place := fun (i : Nat) => pl[i]?) ps _ z.cells u.cells l hl1 hl2 zcells hza hfill (fun i off size hh => fieldPlaces_pos _ _ hplc (off, size) (List.mem_of_getElem? hh))
    refine ⟨.agg arr, by simpa using VR.agg_of h2 h3, fun w => ?_⟩
    unfold Instr.build
    rw [Sem.run_bind, hzrun w]
    simp only [Result.andThen_ok, Sem.run_bind, run_underlying' hfs]
    rw [Array.mapM_eq_mapM_toList]
    have hm := fieldPlaces_R fs.toList pl w hplc
    simp only [Sem.run_map]
    rw [hm]
    simp only [Result.andThen_ok]
    rw [hpl]
    have : (fun (i : Nat) => (pl.toArray)[i]?) = (fun (i : Nat) => pl[i]?) := by funext i; simp
    rw [this, h1]
    rfl
  · rename_i n el hel
    simp only [Option.pure_def, Option.bind_eq_some_iff] at h
    obtain ⟨n, hn, h⟩ := h
    split at h
    · cases h
    · rename_i hn0
      simp only [Option.bind_eq_some_iff, Option.some.injEq] at h
      obtain ⟨l, hfill, rfl⟩ := h
      obtain ⟨arr, h1, h2, h3⟩ := fill_R (φ := φ) (place := fun i => some (i * n, n)) ps _ z.cells u.cells l hl1 hl2 zcells hza hfill (fun i off size hh => by cases hh; exact hn0)
      refine ⟨.agg arr, by simpa using VR.agg_of h2 h3, fun w => ?_⟩
      unfold Instr.build
      rw [Sem.run_bind, hzrun w]
      simp only [Result.andThen_ok, Sem.run_bind, run_underlying' hel, run_sizeOf hn]
      rw [hpl, h1]
      rfl
  · cases h

theorem run_part {t : TypeId} {off : Nat} {l : List AV} {cs : Array Value} {v : AV} (hr : VRL φ l cs.toList) (hat : l.all AV.atom = true) (h : partA P t off l = some v) : Gives P φ (part t cs off) v := by
  unfold partA at h
  simp only [Option.bind_eq_bind, Option.bind_eq_some_iff] at h
  obtain ⟨ag, hag, h⟩ := h
  cases ag with
  | true =>
    simp only [Option.pure_def, Option.bind_eq_some_iff, Option.some.injEq] at h
    obtain ⟨n, hn, r, hcut, rfl⟩ := h
    unfold cutL at hcut
    split at hcut
    · cases hcut
      refine ⟨.agg (cs.extract off (off + n)), ?_, fun w => ?_⟩
      · have := VR.agg_of (hr.cut off n) (by
          rw [List.all_eq_true] at hat ⊢
          exact fun x hx => hat x (List.mem_of_mem_drop (List.mem_of_mem_take hx)))
        have e : ((cs.toList.drop off).take n).toArray = cs.extract off (off + n) := by
          apply Array.ext'
          simp [List.take_drop]
        rwa [e] at this
      · simp only [part, Sem.run_bind, run_isAgg hag, Result.andThen_ok, if_true, run_sizeOf hn]
        rfl
    · cases hcut
  | false =>
    obtain ⟨u, hu, hru⟩ := hr.get h
    refine ⟨u, hru, fun w => ?_⟩
    simp only [part, Sem.run_bind, run_isAgg hag, Result.andThen_ok]
    rw [if_neg (by simp)]
    rw [show cs[off]? = some u from by simpa using hu]
    rfl

theorem gives_field {t : TypeId} {f : Nat} {fs : Array Field} {fd : Field} {l : List AV} {u : Value} {v : AV} (hfs : P.underlying t = some (.struct fs)) (hfd : fs[f]? = some fd) (hx : VR φ (.agg l) u) (h : partA P fd.type fd.offset l = some v) :
    Gives P φ (Instr.field t u f) v := by
  obtain ⟨cs, rfl, hl, hat⟩ := hx.agg_inv
  obtain ⟨r, hr, hrun⟩ := run_part hl hat h
  refine ⟨r, hr, fun w => ?_⟩
  simp only [Instr.field, Sem.run_bind, run_underlying' hfs, Result.andThen_ok, hfd, asAgg, Sem.run_pure]
  exact hrun w

theorem gives_fieldAddr {s : TypeId} {b o f : Nat} {u : Value} {v : AV} (hx : VR φ (.ptr b o) u) (h : fieldAddrA P s b o f = some v) : Gives P φ (Instr.fieldAt s u f) v := by
  obtain ⟨loc, hb, rfl⟩ := hx.ptr_inv
  unfold fieldAddrA at h
  split at h
  · rename_i fs hfs
    simp only [Option.bind_eq_bind, Option.bind_eq_some_iff] at h
    obtain ⟨fd, hfd, n, hn, h⟩ := h
    split at h
    · cases h
    · rename_i hn0
      cases h
      refine ⟨_, .ptr hb, fun w => ?_⟩
      simp only [Instr.fieldAt, Sem.run_bind, run_underlying' hfs, Result.andThen_ok, hfd, Instr.sureAddr, fieldPlace, run_sizeOf hn, Sem.run_ite, Sem.run_pure]
      rw [if_neg hn0]
      simp only [Result.andThen_ok, Sem.run_pure, add_none]
      rw [Nat.add_assoc]
  · cases h

theorem gives_indexAddr {t : TypeId} {x ix v : AV} {u i : Value} (hx : VR φ x u) (hi : VR φ ix i) (h : indexAddrA P t x ix = some v) : Gives P φ (Instr.indexAt t u i) v := by
  unfold indexAddrA at h
  split at h
  · rename_i k n
    cases hi.int_inv
    split at h
    · rename_i len el b o hel
      simp only [Option.bind_eq_bind, Option.bind_eq_some_iff] at h
      obtain ⟨sz, hsz, h⟩ := h
      split at h
      · rename_i hc
        cases h
        obtain ⟨loc, hb, rfl⟩ := hx.ptr_inv
        refine ⟨_, .ptr hb, fun w => ?_⟩
        simp only [Instr.indexAt, asIntOf, Sem.run_bind, Sem.run_pure, Result.andThen_ok, run_underlying' hel, Instr.sureAddr, Sem.run_ite, run_sizeOf hsz]
        rw [if_pos ⟨hc.1, hc.2.1⟩, add_none, Nat.add_assoc]
      · cases h
    · rename_i el b o len sz' tight hel
      simp only [Option.bind_eq_bind, Option.bind_eq_some_iff] at h
      obtain ⟨sz, hsz, h⟩ := h
      split at h
      · rename_i hc
        obtain ⟨h1, h2, h3, h4⟩ := hc
        cases h
        obtain ⟨loc, ra, cap, hb, rfl, hle, _, hra, _⟩ := hx.slice_inv
        rcases hra with h0 | rfl
        · omega
        · refine ⟨_, .ptr hb, fun w => ?_⟩
          simp only [Instr.indexAt, asIntOf, Sem.run_bind, Sem.run_pure, Result.andThen_ok, run_underlying' hel, Sem.run_ite, run_sizeOf hsz]
          rw [if_pos ⟨h1, h2⟩, add_none, Nat.add_assoc]
      · cases h
    · cases h
  · cases h

theorem gives_index {t : TypeId} {x ix v : AV} {u i : Value} (hx : VR φ x u) (hi : VR φ ix i) (h : indexA P t x ix = some v) : Gives P φ (Instr.index t u i) v := by
  unfold indexA at h
  split at h
  · rename_i k n
    cases hi.int_inv
    split at h
    · rename_i s hs
      cases hx.str_inv
      split at h
      · rename_i h0
        simp only [Option.map_eq_some_iff] at h
        obtain ⟨b, hb, rfl⟩ := h
        refine ⟨_, .int _ _, fun w => ?_⟩
        simp only [Instr.index, asIntOf, Sem.run_bind, Sem.run_pure, Result.andThen_ok, run_underlying' hs]
        rw [if_pos h0, hb]
        rfl
      · cases h
    · rename_i len el l hel
      simp only [Option.bind_eq_bind, Option.bind_eq_some_iff] at h
      obtain ⟨sz, hsz, h⟩ := h
      split at h
      · rename_i hc
        obtain ⟨cs, rfl, hl, hat⟩ := hx.agg_inv
        obtain ⟨r, hr, hrun⟩ := run_part hl hat h
        refine ⟨r, hr, fun w => ?_⟩
        simp only [Instr.index, asIntOf, Sem.run_bind, Sem.run_pure, Result.andThen_ok, run_underlying' hel, Sem.run_ite, run_sizeOf hsz]
        rw [if_pos hc]
        exact hrun w
      · cases h
    · cases h
  · cases h

end
end Go.Vai
