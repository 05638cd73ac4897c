/- Stores, map updates, copies, clears: the relation is kept. -/
import Derived.Test.YtckjdbmadheamaaGreatDoorR12
set_option linter.all false
namespace Go.Vai

section
variable {φ : Phi} {P : Program}

theorem bytesBeq (a b : ByteArray) : (a == b) = true ↔ a = b := by
  show (a.data == b.data) = true ↔ a = b
  rw [beq_iff_eq]
  exact ⟨fun h => by cases a; cases b; simp_all, fun h => by rw [h]⟩

theorem sameBits_int (n : Nat) (k : IntKind) (a : Int) : Instr.sameBits n (.int k a) (.int k a) = true := by cases n <;> simp [Instr.sameBits]
theorem sameBits_str (n : Nat) (s : ByteArray) : Instr.sameBits n (.string s) (.string s) = true := by cases n <;> simp [Instr.sameBits, (bytesBeq s s).2 rfl]

theorem updA_R {d : TypeDesc} {k v : AV} {kv : Value} (hd : (∃ q q' n, d = .int q ∧ k = .int q' n) ∨ (∃ s, d = .string ∧ k = .str s)) (h1 : val? k = some kv) :
    ∀ (es : List (AV × AV)) (en : List MapEntry) (n : Nat) (es2 : List (AV × AV)), es.length = en.length → (∀ (i : Nat) (k x : AV) (m : MapEntry), es[i]? = some (k, x) → en[i]? = some m → val? k = some m.key ∧ VR φ x m.val) → updA k v es = some es2 →
      (Instr.findNow d kv en n = some none ∧ es2 = es ++ [(k, v)]) ∨ (∃ j u m, Instr.findNow d kv en n = some (some (n + j, u)) ∧ en[j]? = some m ∧ m.key = kv ∧ es2 = es.set j (k, v)) := by
  intro es
  induction es with
  | nil =>
    intro en n es2 hl _ h
    have : en = [] := List.eq_nil_of_length_eq_zero (by simpa using hl.symm)
    subst this
    simp [updA] at h
    exact .inl ⟨rfl, h.symm⟩
  | cons p es ih =>
    intro en n es2 hl hr h
    obtain ⟨k', x⟩ := p
    cases en with
    | nil => simp at hl
    | cons m en =>
      obtain ⟨hk, hx⟩ := hr 0 k' x m rfl rfl
      simp only [updA] at h
      split at h
      · rename_i he
        cases h
        refine .inr ⟨0, m.val, m, by simp [Instr.findNow, sameNow_R hd h1 hk he], rfl, ?_, rfl⟩
        have : k = k' := by
          unfold keyEq at he
          split at he
          · split at he
            · rename_i hkk
              have he := Option.some.inj he
              rw [beq_iff_eq] at he
              rw [hkk, he]
            · cases he
          · have he := (bytesBeq _ _).1 (Option.some.inj he)
            rw [he]
          · cases he
        subst this
        rw [hk] at h1; cases h1; rfl
      · rename_i he
        simp only [Option.map_eq_some_iff] at h
        obtain ⟨l, hl', rfl⟩ := h
        rcases ih en (n + 1) l (by simpa using hl) (fun i k x m h h' => hr (i + 1) k x m (by simpa using h) (by simpa using h')) hl' with ⟨h2, h3⟩ | ⟨j, u, m', h2, h3, h4, h5⟩
        · exact .inl ⟨by simp [Instr.findNow, sameNow_R hd h1 hk he, h2], by rw [h3]; rfl⟩
        · exact .inr ⟨j + 1, u, m', by simp [Instr.findNow, sameNow_R hd h1 hk he, h2]; omega, by simpa using h3, h4, by rw [h5]; rfl⟩
      · cases h

theorem run_keyStays {d : TypeDesc} {k : AV} {kv : Value} (hd : (∃ q q' n, d = .int q ∧ k = .int q' n) ∨ (∃ s, d = .string ∧ k = .str s)) (h1 : val? k = some kv) (w : World) :
    (Instr.keyThatStays kv kv).run P w = .ok kv w := by
  have : Instr.sameBits 10000 kv kv = true := by
    rcases hd with ⟨q, q', m, rfl, rfl⟩ | ⟨s, rfl, rfl⟩
    · simp [val?] at h1; subst h1; exact sameBits_int _ _ _
    · simp [val?] at h1; subst h1; exact sameBits_str _ _
  unfold Instr.keyThatStays
  rw [if_pos this]; rfl

theorem sim_mapUpdate {h h' : AH} {w : World} (r : RelM φ h w) {t : TypeId} {m k v : AV} {mu ku vu : Value} (hm : VR φ m mu) (hk : VR φ k ku) (hx : VR φ v vu) (hv : mapUpdA P h t m k v = some h') :
    ∃ w', (Instr.mapUpdate t mu ku vu).run P w = .ok () w' ∧ StepR φ φ h h' w w' := by
  unfold mapUpdA at hv
  split at hv
  · rename_i kt el rr hd
    simp only [Option.bind_eq_bind] at hv
    split at hv
    · rename_i hfit
      split at hv
      · rename_i es hg
        obtain ⟨es2, hu, hv⟩ := Option.bind_eq_some_iff.1 hv
        cases hv
        obtain ⟨d, kv, hkt, hkv, hsh⟩ := keyFits_spec hfit
        cases val?_eq hkv hk
        obtain ⟨loc, hloc, rfl⟩ := hm.map_inv
        obtain ⟨en, ck, hw, hlen, hent⟩ := r.blk rr _ loc hg hloc
        have hget : (getObj loc.blk).run P w = .ok (.map en ck) w := by simp [getObj, Sem.run, hw]
        have hset : ∀ o, (setObj loc.blk o).run P w = .ok () (World.setBlk w loc.blk o) := fun o => by
          simp [setObj, Sem.run, World.setBlk, hw]
        rcases updA_R (φ := φ) (v := v) hsh hkv es en.toList 0 es2 (by simpa using hlen) (fun i k x m h h' => hent i k x m h (by simpa using h')) hu with ⟨h2, h3⟩ | ⟨j, u, m, h2, h3, h4, h5⟩
        · refine ⟨World.setBlk w loc.blk (.map (en.push { key := ku, val := vu, born := ck }) (ck + 1)), ?_, ?_⟩
          · simp only [Instr.mapUpdate, Sem.run_bind, run_underlying' hd, Result.andThen_ok, hget, run_checkKey hkt hsh hkv, run_findKey hkt h2, hset]
          · refine step_map r hg hloc hw (by rw [h3]; simp [hlen]) (fun i k' x m' hi hm' => ?_) rfl rfl rfl rfl
            rw [h3] at hi
            rcases Nat.lt_or_ge i es.length with hlt | hge
            · rw [List.getElem?_append_left hlt] at hi
              rw [Array.getElem?_push_lt (by omega)] at hm'
              exact hent i k' x m' hi (by rw [← hm']; exact (Array.getElem?_eq_getElem (by omega)))
            · rw [List.getElem?_append_right hge] at hi
              have : i = es.length := by
                have := (List.getElem?_eq_some_iff.1 hi).1
                simp at this; omega
              subst this
              simp at hi
              obtain ⟨rfl, rfl⟩ := hi
              rw [hlen, Array.getElem?_push_size] at hm'
              cases hm'
              exact ⟨hkv, hx⟩
        · rw [Nat.zero_add] at h2
          have h3' : en[j]? = some m := by simpa using h3
          refine ⟨World.setBlk w loc.blk (.map (en.modify j fun e => { e with key := ku, val := vu }) ck), ?_, ?_⟩
          · simp only [Instr.mapUpdate, Sem.run_bind, run_underlying' hd, Result.andThen_ok, hget, run_checkKey hkt hsh hkv, run_findKey hkt h2, h3', Option.map_some, Option.getD_some, h4, run_keyStays hsh hkv, hset]
          · refine step_map r hg hloc hw (by rw [h5]; simp [hlen]) (fun i k' x m' hi hm' => ?_) rfl rfl rfl rfl
            rw [h5, List.getElem?_set] at hi
            rw [Array.getElem?_modify] at hm'
            by_cases hij : j = i
            · subst hij
              rw [if_pos rfl] at hi hm'
              split at hi
              · cases hi
                rw [h3'] at hm'
                cases hm'
                exact ⟨hkv, hx⟩
              · cases hi
            · rw [if_neg hij] at hi hm'
              exact hent i k' x m' hi hm'
      · cases hv
    · cases hv
  · cases hv

/-- the first elements of what is copied -/
theorem src_first {h : AH} {w : World} (r : RelM φ h w) {size n m : Nat} {x : AV} {u : Value} {l : List AV} (hs : srcCells h size x = some (n, l)) (hx : VR φ x u) (hm : m ≤ n) :
    ∃ vs : List Value, (Builtin.lenOf u).run P w = .ok n w ∧ (Builtin.firstCells size m u).run P w = .ok vs.toArray w ∧ VRL φ (l.take (m * size)) vs ∧ (l.take (m * size)).all AV.atom = true := by
  unfold srcCells at hs
  split at hs
  · cases hs; cases hx.nils_inv
    have : m = 0 := by omega
    subst this
    exact ⟨[], rfl, rfl, by simpa using VRL.nil, by simp⟩
  · rename_i b o len sz tight
    split at hs
    · cases hs
    · rename_i hsz
      have hsz : sz = size := by omega
      subst hsz
      obtain ⟨loc, ra, cap, hb, rfl, hlc, _, hra, hlim⟩ := hx.slice_inv
      split at hs
      · rename_i h0
        cases hs
        subst h0
        have : m = 0 := by omega
        subst this
        refine ⟨[], rfl, ?_, by simpa using VRL.nil, by simp⟩
        simp [Builtin.firstCells, Go.loadCells, loadCellsFrom]
      · rename_i h0
        simp only [Option.bind_eq_bind, Option.bind_eq_some_iff, Option.pure_def, Option.some.injEq, Prod.mk.injEq] at hs
        obtain ⟨c, hrow, l', hcut, rfl, rfl⟩ := hs
        obtain ⟨cs, el, fr, hw, hsz, hlen, hat, h3⟩ := r.row hb hrow
        have hmul : m * sz ≤ len * sz := Nat.mul_le_mul_right _ hm
        have hcut' : cutL c o (m * sz) = some (l'.take (m * sz)) := by
          have := cut_len hcut
          unfold cutL at hcut ⊢
          rw [if_pos this.2] at hcut
          rw [if_pos (by omega)]
          cases hcut
          rw [List.take_take, Nat.min_eq_left hmul]
        obtain ⟨vs, hvl, hvr, hcell⟩ := row_cut hw h3 hcut'
        rcases hra with h' | rfl
        · omega
        refine ⟨vs, rfl, ?_, hvr, cut_all hat hcut'⟩
        simp only [Builtin.firstCells]
        rw [← hvl]
        exact run_loadCells hcell
  · rename_i s
    split at hs
    · rename_i h1
      cases hs; cases hx.str_inv
      obtain ⟨h1, _⟩ := h1
      subst h1
      refine ⟨(s.data.toList.take m).map fun b => .int .u8 b.toNat, rfl, ?_, ?_, ?_⟩
      · simp only [Builtin.firstCells, Sem.run_pure]
        congr 1
        apply Array.ext'
        simp [ByteArray.data_extract]
      · refine ⟨by simp, fun i x v hx hv => ?_⟩
        rw [Nat.mul_one, ← List.map_take, List.getElem?_map, Option.map_eq_some_iff] at hx
        rw [List.getElem?_map, Option.map_eq_some_iff] at hv
        obtain ⟨b, hb, rfl⟩ := hx
        obtain ⟨b', hb', rfl⟩ := hv
        rw [hb] at hb'; cases hb'
        exact .int _ _
      · rw [List.all_eq_true]; intro x hx
        have := List.mem_of_mem_take hx
        simp at this; obtain ⟨b, _, rfl⟩ := this; rfl
    · cases hs
  · cases hs

/-- cells are stored behind an address that a slice bears -/
theorem run_store_ra {h h' : AH} {w : World} (r : RelM φ h w) {b o : Nat} {loc : Loc} {xs : List AV} {vs : List Value} {ra : Addr} (hb : φ b = some loc) (hra : xs = [] ∨ ra = ⟨loc.blk, loc.base + o, none⟩) (hs : storeCells h b o xs = some h') (hv : VRL φ xs vs) :
    ∃ w', (Go.storeCells ra vs).run P w = .ok () w' ∧ StepR φ φ h h' w w' := by
  rcases hra with rfl | rfl
  · cases hv.nil_right
    unfold storeCells at hs
    rw [if_pos rfl] at hs
    cases hs
    exact ⟨w, rfl, StepR.refl r⟩
  · exact run_store_cells r hb hs hv

theorem sim_copy {h h' : AH} {w : World} (r : RelM φ h w) {t ty : TypeId} {ts : Array TypeId} {args : Array Value} {x y v : AV} {xu yu : Value} (ht : ts[0]? = some t) (h0 : args[0]? = some xu) (h1 : args[1]? = some yu) (hx : VR φ x xu) (hy : VR φ y yu)
    {el : TypeId} (hd : P.underlying t = some (.slice el))
    (hv : (do
        let size ← sizeT P el
        if size = 0 then none else
        let (n, l) ← srcCells h size y
        match x with
        | .slice b o len sz _ =>
          if sz ≠ size then none else do
          let h' ← storeCells h b o (l.take (min n len * size))
          pure (AV.int .i64 (min n len : Nat), h')
        | .nils => pure (AV.int .i64 0, h)
        | _ => none) = some (v, h')) :
    ∃ u w', (Builtin.copy_ ts ty args).run P w = .ok u w' ∧ StepR φ φ h h' w w' ∧ VR φ v u := by
  simp only [Option.bind_eq_bind] at hv
  obtain ⟨size, hsz, hv⟩ := Option.bind_eq_some_iff.1 hv
  split at hv
  · cases hv
  rename_i hne
  obtain ⟨⟨n, l⟩, hsrc, hv'⟩ := Option.bind_eq_some_iff.1 hv
  clear hv
  have hv := hv'
  clear hv'
  dsimp only at hv
  split at hv
  · rename_i b o len sz tight _
    split at hv
    · cases hv
    rename_i hszm
    obtain ⟨h2, hst, hv⟩ := Option.bind_eq_some_iff.1 hv
    cases hv
    obtain ⟨loc, ra, cap, hb, rfl, hlc, _, hra, hlim⟩ := hx.slice_inv
    obtain ⟨vs, e1, e2, e3, e4⟩ := src_first (P := P) (m := min n len) r hsrc hy (Nat.min_le_left _ _)
    obtain ⟨w', hrun, hs⟩ := run_store_ra (P := P) (ra := ra) r hb (hra.imp (fun hc => by
      have : min n len = 0 := by omega
      rw [this]; simp) id) hst e3
    refine ⟨_, w', ?_, hs, .int .i64 _⟩
    have e2 : (Builtin.firstCells size (Nat.min n len) yu).run P w = .ok vs.toArray w := e2
    simp only [Builtin.copy_, ht, h0, h1, Sem.run_bind, run_underlying' hd, Result.andThen_ok, e1, run_sizeOf hsz, e2, hrun]
    rfl
  · cases hv
    cases hx.nils_inv
    obtain ⟨vs, e1, e2, e3, e4⟩ := src_first (P := P) (m := 0) r hsrc hy (Nat.zero_le _)
    refine ⟨_, w, ?_, StepR.refl r, .int .i64 _⟩
    simp only [Builtin.copy_, ht, h0, h1, Sem.run_bind, run_underlying' hd, Result.andThen_ok, e1, run_sizeOf hsz, show Nat.min n 0 = 0 from Nat.min_zero n, e2]
    simp [goInt]
  · cases hv

def clearP (P : Program) (h : AH) (t : TypeId) (x : AV) : Option (AV × AH) :=
  match P.underlying t, x with
  | some (.slice _), .nils => some (AV.tup [], h)
  | some (.slice el), .slice b o len sz _ => do
    if len = 0 then pure (AV.tup [], h) else
    let z ← zeroT P el
    if z.cells.length ≠ sz ∨ sz = 0 then none else
    let h' ← storeCells h b o (repL z.cells len)
    pure (.tup [], h')
  | _, _ => none

theorem sim_clear {h h' : AH} {w : World} (r : RelM φ h w) {t ty : TypeId} {ts : Array TypeId} {args : Array Value} {x v : AV} {xu : Value} (ht : ts[0]? = some t) (h0 : args[0]? = some xu) (hx : VR φ x xu)
    (hv : clearP P h t x = some (v, h')) :
    ∃ u w', (Builtin.clear_ ts ty args).run P w = .ok u w' ∧ StepR φ φ h h' w w' ∧ VR φ v u := by
  unfold clearP at hv
  split at hv
  · rename_i el hd
    cases hv
    cases hx.nils_inv
    refine ⟨_, w, ?_, StepR.refl r, by simpa using VR.tup_of (φ := φ) .nil⟩
    simp only [Builtin.clear_, ht, h0, Sem.run_bind, run_underlying' hd, Result.andThen_ok]
    rfl
  · rename_i el b o len sz tight hd
    obtain ⟨loc, ra, cap, hb, rfl, hlc, _, hra, hlim⟩ := hx.slice_inv
    simp only [Option.bind_eq_bind] at hv
    split at hv
    · rename_i hl0
      cases hv
      subst hl0
      refine ⟨_, w, ?_, StepR.refl r, by simpa using VR.tup_of (φ := φ) .nil⟩
      simp only [Builtin.clear_, ht, h0, Sem.run_bind, run_underlying' hd, Result.andThen_ok]
      rfl
    · rename_i hl0
      obtain ⟨z, hz, hv⟩ := Option.bind_eq_some_iff.1 hv
      split at hv
      · cases hv
      rename_i hzz
      obtain ⟨h2, hst, hv⟩ := Option.bind_eq_some_iff.1 hv
      cases hv
      obtain ⟨i, zv, hi, hzv, hzr, hzl, hzn, hza, hzc, hzrun⟩ := run_zero (φ := φ) hz
      obtain ⟨w', hrun, hs⟩ := run_store_ra (P := P) (ra := ra) r hb (.inr (hra.resolve_left (by omega))) hst (rep_R (n := len) hzc (fun e => by rw [e] at hzl; simp at hzl; omega))
      refine ⟨_, w', ?_, hs, by simpa using VR.tup_of (φ := φ) .nil⟩
      cases len with
      | zero => exact absurd rfl hl0
      | succ len =>
        simp only [Builtin.clear_, ht, h0, Sem.run_bind, run_underlying' hd, Result.andThen_ok, hzrun, Builtin.zeroCells, hrun]
        rfl
  · cases hv

end
end Go.Vai
