/- Appends, run. -/
import Derived.Test.YtckjdbmadheamaaGreatDoorR10
import Derived.Laws.Append
set_option linter.all false
namespace Go.Vai

section
variable {φ : Phi} {P : Program}

/-- what is appended: how many, which cells, in every world with this memory -/
structure Src (P : Program) (w : World) (size n : Nat) (x : Value) (news : List Value) : Prop where
  len : ∀ w1 : World, (Builtin.lenOf x).run P w1 = .ok n w1
  cells : ∀ w1 : World, w1.heap = w.heap → (Builtin.firstCells size n x).run P w1 = .ok news.toArray w1
  size : news.length = n * size

theorem cell_heap {w w1 : World} (h : w1.heap = w.heap) (p : Addr) : w1.cell? p = w.cell? p := by simp [World.cell?, h]

theorem src_R {h : AH} {w : World} (r : RelM φ h w) {size n : Nat} {x : AV} {u : Value} {l : List AV} (hs : srcCells h size x = some (n, l)) (hx : VR φ x u) :
    ∃ news, Src P w size n u news ∧ VRL φ l news ∧ l.all AV.atom = true := by
  unfold srcCells at hs
  split at hs
  · cases hs; cases hx.nils_inv
    exact ⟨[], ⟨fun _ => rfl, fun _ _ => rfl, by simp⟩, .nil, rfl⟩
  · rename_i b o len sz tight
    split at hs
    · cases hs
    · rename_i hsz
      have hsz : sz = size := by omega
      subst hsz
      obtain ⟨loc, ra, cap, hb, rfl, hlc, _, hra, hlim⟩ := hx.slice_inv
      split at hs
      · rename_i h0
        cases hs
        subst h0
        refine ⟨[], ⟨fun _ => rfl, fun w1 _ => ?_, by simp⟩, .nil, rfl⟩
        simp [Builtin.firstCells, Go.loadCells, loadCellsFrom]
      · rename_i h0
        simp only [Option.bind_eq_bind, Option.bind_eq_some_iff, Option.pure_def, Option.some.injEq, Prod.mk.injEq] at hs
        obtain ⟨c, hrow, l', hcut, rfl, rfl⟩ := hs
        obtain ⟨cs, el, fr, hw, hsz, hlen, hat, h3⟩ := r.row hb hrow
        obtain ⟨vs, hvl, hvr, hcell⟩ := row_cut hw h3 hcut
        rcases hra with h' | rfl
        · omega
        refine ⟨vs, ⟨fun _ => rfl, fun w1 hh => ?_, hvl⟩, hvr, ?_⟩
        · simp only [Builtin.firstCells]
          rw [← hvl]
          exact run_loadCells (fun j v hv => by rw [cell_heap hh]; exact hcell j v hv)
        · unfold cutL at hcut
          split at hcut
          · cases hcut
            rw [List.all_eq_true] at hat ⊢
            exact fun x hx => hat x (List.mem_of_mem_drop (List.mem_of_mem_take hx))
          · cases hcut
  · rename_i s
    split at hs
    · rename_i h1
      cases hs; cases hx.str_inv
      obtain ⟨h1, _⟩ := h1
      subst h1
      refine ⟨s.data.toList.map fun b => .int .u8 b.toNat, ⟨fun _ => rfl, fun w1 _ => ?_, by simp⟩, ?_, ?_⟩
      · simp only [Builtin.firstCells, Sem.run_pure]
        congr 1
        apply Array.ext'
        have : (s.extract 0 s.size).data = s.data := by
          have := ByteArray.extract_zero_size (b := s)
          rw [this]
        simp [this]
      · refine ⟨by simp, fun i x v hx hv => ?_⟩
        simp only [List.getElem?_map, Option.map_eq_some_iff] at hx hv
        obtain ⟨b, hb, rfl⟩ := hx
        obtain ⟨b', hb', rfl⟩ := hv
        rw [hb] at hb'; cases hb'
        exact .int _ _
      · rw [List.all_eq_true]; intro x hx; simp at hx; obtain ⟨b, _, rfl⟩ := hx; rfl
    · cases hs
  · cases hs

theorem zeroCells_size (z : Array Value) (n : Nat) : (Builtin.zeroCells z n).size = n * z.size := by simp [Builtin.zeroCells]

/-- in place -/
theorem run_append_place {w : World} {st second ty el : TypeId} {d : TypeDesc} {size n len cap : Nat} {base : Option Addr} {x : Value} {news : List Value}
    (hst : P.underlying st = some (.slice el)) (hsec : P.underlying second = some d) (hd : ∀ k, d ≠ .int k) (hsz : sizeT P el = some size) (hsrc : Src P w size n x news) (hle : len + n ≤ cap) {w' : World}
    (hstore : ∀ ad, base = some ad → (Go.storeCells (ad.add (len * size)) news).run P w = .ok () w') (hnone : base = none → w' = w) :
    (Builtin.append_ #[st, second] ty #[.slice base len cap, x]).run P w = .ok (.slice base (len + n) cap) w' := by
  have hz : ∀ w, ((do pure ((← underlying second) matches .int _) : Sem Bool)).run P w = .ok false w := fun w => by
    rw [Sem.run_bind, run_underlying' hsec]
    cases d <;> first | rfl | exact absurd rfl (hd _)
  unfold Builtin.append_
  simp only [List.getElem?_toArray, List.getElem?_cons_zero, List.getElem?_cons_succ, Sem.run_bind, run_underlying' hst, Result.andThen_ok, run_sizeOf hsz]
  rw [show ((underlying second).run P w) = .ok d w from run_underlying' hsec w]
  simp only [Result.andThen_ok, Sem.run_pure]
  simp only [Bool.false_eq_true, if_false, Sem.run_bind, hsrc.len, Result.andThen_ok]
  rw [if_pos hle]
  simp only [Bool.not_false, if_true, Sem.run_bind, hsrc.cells w rfl, Result.andThen_ok]
  cases base with
  | none => simp [hnone rfl]
  | some ad => simp only [Sem.run_bind]; rw [hstore ad rfl]; rfl

/-- into a new row -/
theorem run_append_new {w : World} {st second ty el : TypeId} {d : TypeDesc} {i : TypeInfo} {z : Value} {n len cap : Nat} {base : Option Addr} {x : Value} {olds news : List Value}
    (hst : P.underlying st = some (.slice el)) (hsec : P.underlying second = some d) (hd : ∀ k, d ≠ .int k) (hi : P.info? el = some i) (hz : i.zero = some z) (hsrc : Src P w i.size n x news) (hgt : cap < len + n)
    (hold : ∀ w1 : World, w1.heap = w.heap → (Builtin.firstCells i.size len (.slice base len cap)).run P w1 = .ok olds.toArray w1) (hmost : len + n ≤ most) (hby : i.bytes ≤ 2 ^ 16) (hby0 : i.bytes ≠ 0) :
    ∃ newCap, len + n ≤ newCap ∧ (Builtin.append_ #[st, second] ty #[.slice base len cap, x]).run P w =
      .ok (.slice (some ⟨w.heap.size, 0, none⟩) (len + n) newCap) { w with heap := w.heap.push (.cells (olds.toArray ++ news.toArray ++ Builtin.zeroCells z.cells (newCap - (len + n))) el), drawn := w.drawn + 1 } := by
  refine ⟨grownCap w (len + n) cap el, by simp [grownCap, Question.cut], ?_⟩
  have em : most = 1073741824 := rfl
  have hsz : sizeT P el = some i.size := by simp [sizeT, hi]
  have h1 : ¬ (((len + n : Nat) : Int) > IntKind.i64.max ∧ (false = true ∨ i.bytes = 0)) := fun h => by rcases h.2 with h' | h'; cases h'; exact hby0 h'
  have h2 : ¬ (Builtin.nextslicecap (len + n) cap * i.bytes > 2 ^ 48) := by
    have := growslice_fits (need := len + n) (old := cap) (bytes := i.bytes) hgt (by
      have : (len + n) * i.bytes ≤ 1073741824 * 65536 := Nat.mul_le_mul (by omega) (by omega)
      omega)
    omega
  unfold Builtin.append_
  simp only [List.getElem?_toArray, List.getElem?_cons_zero, List.getElem?_cons_succ, Sem.run_bind, run_underlying' hst, Result.andThen_ok, run_sizeOf hsz]
  rw [show ((underlying second).run P w) = .ok d w from run_underlying' hsec w]
  simp only [Result.andThen_ok, Sem.run_pure]
  simp only [Bool.false_eq_true, if_false, Sem.run_bind, hsrc.len, Result.andThen_ok]
  rw [if_neg (by omega)]
  simp only [Sem.run_bind, typeInfo, run_program, Result.andThen_ok, hi, Sem.run_pure, Sem.run_ite]
  rw [if_neg (by simpa using h1), if_neg h2]
  simp only [run_choose, Question.forced, Bool.false_eq_true, if_false, Result.andThen_ok, run_askRoom, Sem.run_bind, Bool.not_false, if_true]
  rw [hold { w with drawn := w.drawn + 1 } rfl]
  simp only [Result.andThen_ok]
  rw [hsrc.cells { w with drawn := w.drawn + 1 } rfl]
  simp only [Result.andThen_ok, zeroValue, typeInfo, Sem.run_bind, run_program, hi, hz, Sem.run_pure, Go.newRow, run_newObj]
  rfl

end
end Go.Vai
