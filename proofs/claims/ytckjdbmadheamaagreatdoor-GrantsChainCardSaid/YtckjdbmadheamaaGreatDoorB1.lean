/- The seat: its laid variables, a first world, what is asked of the program, oracles (printed by genB1.py). -/
import Derived.Test.YtckjdbmadheamaaGreatDoorB0
import Derived.Test.YtckjdbmadheamaaGreatDoorCards
import Derived.Test.YtckjdbmadheamaaGreatDoorTie
import Derived.LaidHandle
import Derived.Stop.LaidErr
set_option linter.all false
namespace Go.Proofs.YtckjdbmadheamaaGreatDoor
open Go Go.Vai Go.Fast Go.ChangeShapes Go.WideShapes Go.ChangeAt Go.RowKit

def extF : FuncId → Option Row
  | 142 => some .valueOf
  | 143 => some .valType
  | 144 => some .valIsNil
  | 146 => some .typeOf
  | 203 => some .valElem
  | 204 => some .valSet
  | 262 => some .indexByte
  | 297 => some .abiKind
  | 310 => some .rAssignable
  | 311 => some .rComparable
  | 312 => some .rElem
  | 313 => some .rImplements
  | _ => none

theorem setting : Setting Tryz.prog extF where
  order := by kernel_rfl
  glob := by have h : Tryz.prog.globals.size = 9 := by kernel_rfl
             rw [h]; decide
  row f r h := by
    unfold extF at h
    split at h
    · cases h; exact ⟨_, Tryz.func142, by kernel_rfl, by kernel_rfl, by kernel_rfl⟩
    · cases h; exact ⟨_, Tryz.func143, by kernel_rfl, by kernel_rfl, by kernel_rfl⟩
    · cases h; exact ⟨_, Tryz.func144, by kernel_rfl, by kernel_rfl, by kernel_rfl⟩
    · cases h; exact ⟨_, Tryz.func146, by kernel_rfl, by kernel_rfl, by kernel_rfl⟩
    · cases h; exact ⟨_, Tryz.func203, by kernel_rfl, by kernel_rfl, by kernel_rfl⟩
    · cases h; exact ⟨_, Tryz.func204, by kernel_rfl, by kernel_rfl, by kernel_rfl⟩
    · cases h; exact ⟨_, Tryz.func262, by kernel_rfl, by kernel_rfl, by kernel_rfl⟩
    · cases h; exact ⟨_, Tryz.func297, by kernel_rfl, by kernel_rfl, by kernel_rfl⟩
    · cases h; exact ⟨_, Tryz.func310, by kernel_rfl, by kernel_rfl, by kernel_rfl⟩
    · cases h; exact ⟨_, Tryz.func311, by kernel_rfl, by kernel_rfl, by kernel_rfl⟩
    · cases h; exact ⟨_, Tryz.func312, by kernel_rfl, by kernel_rfl, by kernel_rfl⟩
    · cases h; exact ⟨_, Tryz.func313, by kernel_rfl, by kernel_rfl, by kernel_rfl⟩
    · cases h
  names f fn h := by
    have hall : (Tryz.prog.funcs.toList.all fun fn => !(fn.name == "runtime.NumGoroutine")) = true := by kernel_rfl
    have := List.all_eq_true.1 hall fn (Array.mem_toList_iff.2 (Array.mem_of_getElem? h))
    simpa using this

theorem own : ownKnob Tryz.prog.godebug = none := by kernel_rfl
theorem gPow : Tryz.prog.globalNamed "internal/strconv.uint64pow10" = some 1 := by kernel_rfl
theorem gPowType : (Tryz.prog.globals[1]?).map (·.type) = some 341 := by kernel_rfl
theorem gErr : Tryz.prog.globalNamed "errors.errorType" = some 0 := by kernel_rfl
theorem rtT : (Tryz.prog.cutTypes.find? (·.1 == "internal/reflectlite.rtype")).map (·.2) = some 306 := by kernel_rfl
theorem oneRow : ((List.range 411).filter fun t => Tryz.prog.rowNamed t [101, 114, 114, 111, 114]) = [27] := by kernel_rfl
theorem typesSize : Tryz.prog.types.size = 411 := by kernel_rfl

abbrev laidAll : List (String × DataW Unit) := [("math/bits.deBruijn32tab", Rows.laid_math_bits_deBruijn32tab), ("math/bits.deBruijn64tab", Rows.laid_math_bits_deBruijn64tab), ("internal/strconv.uint64pow10", Rows.laid_internal_strconv_uint64pow10), ("unicode/utf8.acceptRanges", Rows.laid_unicode_utf8_acceptRanges), ("errors.errorType", Rows.laid_errors_errorType), ("strconv.ErrRange", Rows.laid_strconv_ErrRange), ("strconv.ErrSyntax", Rows.laid_strconv_ErrSyntax), ("unicode/utf8.first", Rows.laid_unicode_utf8_first)]
theorem parts {W : World} (h : laidMetH Tryz.prog laidAll W) : laidMet Tryz.prog [("math/bits.deBruijn32tab", Rows.laid_math_bits_deBruijn32tab), ("math/bits.deBruijn64tab", Rows.laid_math_bits_deBruijn64tab), ("internal/strconv.uint64pow10", Rows.laid_internal_strconv_uint64pow10), ("unicode/utf8.acceptRanges", Rows.laid_unicode_utf8_acceptRanges), ("strconv.ErrRange", Rows.laid_strconv_ErrRange), ("strconv.ErrSyntax", Rows.laid_strconv_ErrSyntax), ("unicode/utf8.first", Rows.laid_unicode_utf8_first)] W ∧ handlesMet Tryz.prog [("errors.errorType", Rows.laid_errors_errorType)] W := h

theorem var_cells {P : Program} {W : World} {n : String} {g : Nat} {cs : Array Value} (hg : P.globalNamed n = some g) (h : W.var? P n = some cs) : ∃ cs' t fr, W.heap[g]? = some (.cells cs' t fr) ∧ cs' = cs := by
  unfold World.var? at h
  rw [hg] at h
  simp only [Option.bind_some] at h
  split at h
  · rename_i c t fr hh
    exact ⟨c, t, fr, hh, by simpa using h⟩
  · cases h

def pows : List Int := [1, 10, 100, 1000, 10000, 100000, 1000000, 10000000, 100000000, 1000000000, 10000000000, 100000000000, 1000000000000, 10000000000000, 100000000000000, 1000000000000000, 10000000000000000, 100000000000000000, 1000000000000000000, 10000000000000000000]
theorem pow_of_laid {W : World} (h : laidMetH Tryz.prog laidAll W) : Lib.TabIs Tryz.prog W "internal/strconv.uint64pow10" .u64 pows := by
  have hd := (parts h).1
  have ht : laidMet Tryz.prog (("internal/strconv.uint64pow10", Lib.tabData .u64 pows) :: [("unicode/utf8.acceptRanges", Rows.laid_unicode_utf8_acceptRanges), ("strconv.ErrRange", Rows.laid_strconv_ErrRange), ("strconv.ErrSyntax", Rows.laid_strconv_ErrSyntax), ("unicode/utf8.first", Rows.laid_unicode_utf8_first)]) W := hd.tail.tail
  exact Lib.tabIs_of_head gPow gPowType Tryz.underlying341 (by kernel_rfl) (by kernel_rfl) (by kernel_rfl) ht

theorem err_of_laid {W : World} (h : laidMetH Tryz.prog laidAll W) : W.var? Tryz.prog "errors.errorType" = some #[.iface 306 (.agg #[.pointer (some ⟨9, 27, none⟩)])] := by
  obtain ⟨name, u, ty, e1, e2, e3, e4, e5⟩ := (parts h).2 _ (List.mem_singleton.2 rfl)
  have en : name = [101, 114, 114, 111, 114] := (Option.some.inj e1).symm
  subst en
  obtain rfl := Option.some.inj (rtT.symm.trans e2)
  have hm : ty ∈ (List.range 411).filter fun t => Tryz.prog.rowNamed t [101, 114, 114, 111, 114] := List.mem_filter.2 ⟨List.mem_range.2 (by rw [← typesSize]; exact e3), e4⟩
  rw [oneRow] at hm
  obtain rfl := List.mem_singleton.1 hm
  have hh : typeHandle Tryz.prog 27 = .pointer (some ⟨9, 27, none⟩) := by kernel_rfl
  rw [hh] at e5
  exact e5

/-- the variables, for the evaluator -/
noncomputable def vars : List (Nat × List FV) :=
  [(0, [⟨13, 306, 0, 0, p0, [⟨15, 0, 0, 0, p0, [⟨4, 27, 0, 0, pth 9, [], []⟩], []⟩], []⟩]), (1, (List.range 20).map fun i => vI 7 (Nat.pow 10 i))]

section
variable [S : Sym]
theorem laid_vars {W : World} (h : laidMetH Tryz.prog laidAll W) : Laid vars W where
  lt x hx := by
    simp only [vars, List.mem_cons, List.mem_nil_iff, or_false] at hx
    rcases hx with rfl | rfl <;> decide
  lim x hx := by
    simp only [vars, List.mem_cons, List.mem_nil_iff, or_false] at hx
    rcases hx with rfl | rfl <;> rfl
  cells x hx := by
    simp only [vars, List.mem_cons, List.mem_nil_iff, or_false] at hx
    rcases hx with rfl | rfl
    · obtain ⟨cs, t, fr, h1, h2⟩ := var_cells gErr (err_of_laid h)
      refine ⟨cs, t, fr, h1, by rw [h2]; decide, ?_⟩
      intro i v hv
      rw [h2]
      rw [decC_cons, decC_nil] at hv
      rcases i with _ | i
      · simp only [List.getElem?_cons_zero, Option.some.injEq] at hv
        refine ⟨_, rfl, ?_⟩
        rw [← hv]
        have y0 : dec (⟨4, 27, 0, 0, pth 9, [], []⟩ : FV) = .ptr 9 27 := by
          rw [dec_ptr (v := ⟨4, 27, 0, 0, pth 9, [], []⟩) rfl]
          show AV.ptr (pth 9).dec 27 = _
          rw [dec_pth (show 9 < top by decide)]
        have y1 : dec (⟨15, 0, 0, 0, p0, [⟨4, 27, 0, 0, pth 9, [], []⟩], []⟩ : FV) = .agg [.ptr 9 27] := by
          rw [dec_agg (v := ⟨15, 0, 0, 0, p0, [⟨4, 27, 0, 0, pth 9, [], []⟩], []⟩) rfl]
          show AV.agg (decC [⟨4, 27, 0, 0, pth 9, [], []⟩]) = _
          rw [decC_cons, decC_nil]
          show AV.agg [dec (⟨4, 27, 0, 0, pth 9, [], []⟩ : FV)] = _
          rw [y0]
        have e : dec (⟨13, 306, 0, 0, p0, [⟨15, 0, 0, 0, p0, [⟨4, 27, 0, 0, pth 9, [], []⟩], []⟩], []⟩ : FV) = .iface 306 (.agg [.ptr 9 27]) := by
          rw [dec_iface (v := ⟨13, 306, 0, 0, p0, [⟨15, 0, 0, 0, p0, [⟨4, 27, 0, 0, pth 9, [], []⟩], []⟩], []⟩) rfl rfl, y1]
        show VR _ (dec (⟨13, 306, 0, 0, p0, [⟨15, 0, 0, 0, p0, [⟨4, 27, 0, 0, pth 9, [], []⟩], []⟩], []⟩ : FV)) _
        rw [e]
        refine .iface (.agg_of (.cons ?_ .nil) rfl)
        have hp : phi0 vars 9 = some ⟨9, 0, limOf vars 9⟩ := by unfold phi0; rw [if_pos (by decide)]
        have := VR.ptr (o := 27) hp
        simpa using this
      · simp at hv
    · obtain ⟨cs, t, fr, h1, h2⟩ := var_cells gPow (pow_of_laid h)
      refine ⟨cs, t, fr, h1, by rw [h2]; decide, ?_⟩
      intro i v hv
      rw [h2]
      have e : decC ((List.range 20).map fun i => vI 7 (Nat.pow 10 i)) = pows.map fun z => .int .u64 z := by
        rw [decC_eq]; rfl
      have hv : (pows.map fun z => AV.int .u64 z)[i]? = some v := by rw [← e]; exact hv
      rw [List.getElem?_map] at hv
      obtain ⟨z, hz, rfl⟩ := Option.map_eq_some_iff.1 hv
      exact ⟨.int .u64 z, by simp [hz], .int _ _⟩

/- oracles -/
theorem bL {P : Program} {t : TypeId} {x y : Operand} {k : IntKind} {a b : Int} : binA P .lss t x y (.int k a) (.int k b) = some (.bool (decide (a < b))) := binA_int rfl
theorem bA {P : Program} {t : TypeId} {x y : Operand} {k : IntKind} {a b : Int} : binA P .add t x y (.int k a) (.int k b) = some (.int k (k.wrap (a + b))) := binA_int rfl
theorem bR {P : Program} {t : TypeId} {x y : Operand} {k : IntKind} {a b : Int} (h : b ≠ 0) : binA P .rem t x y (.int k a) (.int k b) = some (.int k (a.tmod b)) := binA_int (by simp [binI, h])
theorem cI (k : IntKind) (n : Int) : ofV 4 (.int k n) = some (.int k n) := rfl
theorem within_ok {ext : FuncId → Option Row} (hext : ext 31 = none) (n : Nat) (v m : Int) (h : AH) (h1 : 1 ≤ m) (h2 : m < 4611686018427387904) :
    evF Tryz.prog ext (n + 1) 31 [.int .i64 v, .int .i64 m] h = some (.int .i64 (v % m), h) := by
  have hm : m ≠ 0 := by omega
  have hl : ¬ m < 1 := by omega
  simp only [evF, hext, Tryz.func31, Option.bind_eq_bind, Option.bind_some, Tryz.f31]
  have ht := Int.tmod_eq_emod (a := v) (b := m)
  have hp := Int.emod_nonneg v hm
  have hq := Int.emod_lt_of_pos v (show 0 < m by omega)
  by_cases hneg : v.tmod m < 0
  · have e : IntKind.i64.wrap (v.tmod m + m) = v % m := by
      have e1 : v.tmod m + m = v % m := by
        split at ht
        · simp at ht; omega
        · omega
      rw [e1]
      simp [IntKind.wrap, IntKind.bits, IntKind.signed]; omega
    simp [evC, evOps, evOne, wantedA, evOp, opd, cI, bL, bA, bR hm, hl, Env.set, setDst, enterE, hneg, finishA, resultsA, e]
  · have e : v.tmod m = v % m := by
      split at ht
      · simp at ht; omega
      · omega
    have hneg' : ¬ v % m < 0 := by omega
    simp [evC, evOps, evOne, wantedA, evOp, opd, cI, bL, bA, bR hm, hl, Env.set, setDst, enterE, hneg', finishA, resultsA, e]

/-- 'Within' of a number that is not known: 'res' tells it, plus 1; 0: it tells nothing -/
noncomputable def orcW (res : Nat → Nat → Nat) : Orc := fun g args =>
  iV (Nat.beq g 31) (iV (Nat.beq (lenL args) 2) (onV (fun t _ _ c _ _ _ => onV (fun t' a' b' _ _ _ _ => iV (andB (Nat.beq t 12) (andB (notB (Nat.beq c 0)) (andB (Nat.beq t' 0) (andB (Nat.beq a' 3) (notB (Nat.beq (res (Nat.pred c) b') 0))))))
    (vI 3 (Nat.pred (res (Nat.pred c) b'))) bad) (nthT args 1)) (nthT args 0)) bad) bad
theorem orcW_ok {res : Nat → Nat → Nat} (h : ∀ k m, res k m ≠ 0 → 1 ≤ m ∧ m < 4611686018427387904 ∧ S.n k % (m : Int) = ((res k m - 1 : Nat) : Int)) : OrcOk Tryz.prog extF (orcW res) := by
  intro n g args r hh hr gd hb
  unfold orcW at hr
  obtain ⟨h1, hr⟩ := iV_inv hr gd
  obtain ⟨h2, hr⟩ := iV_inv hr gd
  rw [onV_eq, onV_eq] at hr
  obtain ⟨h3, hr⟩ := iV_inv hr gd
  obtain ⟨h3, h4⟩ := andB_t h3
  obtain ⟨h4, h5⟩ := andB_t h4
  obtain ⟨h5, h6⟩ := andB_t h5
  obtain ⟨h6, h7⟩ := andB_t h6
  have h1 := beq_t h1; have h2 := beq_t h2
  rw [lenL_eq] at h2
  rcases args with _ | ⟨x, _ | ⟨y, _ | _⟩⟩
  · cases h2
  · cases h2
  · have h3 : x.t = 12 := beq_t h3
    have h4 : x.c ≠ 0 := beq_f (notB_t h4)
    have h5 : y.t = 0 := beq_t h5
    have h6 : y.a = 3 := beq_t h6
    have h7 : res (Nat.pred x.c) y.b ≠ 0 := beq_f (notB_t h7)
    have hr : r = vI 3 (Nat.pred (res (Nat.pred x.c) y.b)) := hr
    obtain ⟨k, hk⟩ : ∃ k, x.c = k + 1 := ⟨x.c - 1, by omega⟩
    have hp : Nat.pred x.c = k := by rw [hk]; rfl
    rw [hp] at h7 hr
    obtain ⟨q1, q2, q3⟩ := h k y.b h7
    rw [h1, decL_two, dec_sym h3 hk, dec_int h5, h6, hr, dec_vI]
    have := within_ok (ext := extF) rfl n (S.n k) (y.b : Int) hh (by omega) (by omega)
    rw [q3] at this
    exact this
  · cases h2
/-- a table of remainders: of which number, by what, the remainder plus 1 -/
noncomputable def resT (l : List (Nat × Nat × Nat)) (k m : Nat) : Nat := List.rec (motive := fun _ => Nat) 0 (fun x _ ih => Bool.rec (motive := fun _ => Nat) ih x.2.2 (andB (Nat.beq k x.1) (Nat.beq m x.2.1))) l
theorem resT_ok : ∀ (l : List (Nat × Nat × Nat)), (∀ x ∈ l, 1 ≤ x.2.1 ∧ x.2.1 < 4611686018427387904 ∧ S.n x.1 % (x.2.1 : Int) = ((x.2.2 - 1 : Nat) : Int)) → ∀ k m, resT l k m ≠ 0 → 1 ≤ m ∧ m < 4611686018427387904 ∧ S.n k % (m : Int) = ((resT l k m - 1 : Nat) : Int)
  | [], _, _, _, h => absurd rfl h
  | x :: l, hl, k, m, h => by
    have e : resT (x :: l) k m = Bool.rec (motive := fun _ => Nat) (resT l k m) x.2.2 (andB (Nat.beq k x.1) (Nat.beq m x.2.1)) := rfl
    rw [e] at h ⊢
    cases hb : andB (Nat.beq k x.1) (Nat.beq m x.2.1) with
    | false =>
      rw [hb] at h
      exact resT_ok l (fun y hy => hl y (by simp [hy])) k m h
    | true =>
      obtain ⟨h1, h2⟩ := andB_t hb
      rw [beq_t h1, beq_t h2]
      exact hl x (by simp)
end

/- a world that meets the condition -/
def flat : DataW Unit → Array Value
  | .agg l => (l.map fun | .lit (.int k n) => Value.int k n | _ => .nilIface).toArray
  | _ => #[]
def lay (cs : Array Value) : Obj → Obj
  | .cells _ t fr => .cells cs t fr
  | o => o
noncomputable def low : Nat := (World.holding Tryz.prog default ⟨#[], #[], []⟩).heap.size
noncomputable def laidWorld (os : Os) : World :=
  { (World.holding Tryz.prog os ⟨#[.cells #[.string ⟨#[118, 97, 108, 117, 101, 32, 111, 117, 116, 32, 111, 102, 32, 114, 97, 110, 103, 101]⟩] 383, .cells #[.string ⟨#[105, 110, 118, 97, 108, 105, 100, 32, 115, 121, 110, 116, 97, 120]⟩] 383], #[], []⟩) with heap := (((((((((World.holding Tryz.prog os ⟨#[.cells #[.string ⟨#[118, 97, 108, 117, 101, 32, 111, 117, 116, 32, 111, 102, 32, 114, 97, 110, 103, 101]⟩] 383, .cells #[.string ⟨#[105, 110, 118, 97, 108, 105, 100, 32, 115, 121, 110, 116, 97, 120]⟩] 383], #[], []⟩).heap).modify 3 (lay #[.int .u8 0, .int .u8 1, .int .u8 28, .int .u8 2, .int .u8 29, .int .u8 14, .int .u8 24, .int .u8 3, .int .u8 30, .int .u8 22, .int .u8 20, .int .u8 15, .int .u8 25, .int .u8 17, .int .u8 4, .int .u8 8, .int .u8 31, .int .u8 27, .int .u8 13, .int .u8 23, .int .u8 21, .int .u8 19, .int .u8 16, .int .u8 7, .int .u8 26, .int .u8 12, .int .u8 18, .int .u8 6, .int .u8 11, .int .u8 5, .int .u8 10, .int .u8 9])).modify 4 (lay #[.int .u8 0, .int .u8 1, .int .u8 56, .int .u8 2, .int .u8 57, .int .u8 49, .int .u8 28, .int .u8 3, .int .u8 61, .int .u8 58, .int .u8 42, .int .u8 50, .int .u8 38, .int .u8 29, .int .u8 17, .int .u8 4, .int .u8 62, .int .u8 47, .int .u8 59, .int .u8 36, .int .u8 45, .int .u8 43, .int .u8 51, .int .u8 22, .int .u8 53, .int .u8 39, .int .u8 33, .int .u8 30, .int .u8 24, .int .u8 18, .int .u8 12, .int .u8 5, .int .u8 63, .int .u8 55, .int .u8 48, .int .u8 27, .int .u8 60, .int .u8 41, .int .u8 37, .int .u8 16, .int .u8 46, .int .u8 35, .int .u8 44, .int .u8 21, .int .u8 52, .int .u8 32, .int .u8 23, .int .u8 11, .int .u8 54, .int .u8 26, .int .u8 40, .int .u8 15, .int .u8 34, .int .u8 20, .int .u8 31, .int .u8 10, .int .u8 25, .int .u8 14, .int .u8 19, .int .u8 9, .int .u8 13, .int .u8 8, .int .u8 7, .int .u8 6])).modify 1 (lay #[.int .u64 1, .int .u64 10, .int .u64 100, .int .u64 1000, .int .u64 10000, .int .u64 100000, .int .u64 1000000, .int .u64 10000000, .int .u64 100000000, .int .u64 1000000000, .int .u64 10000000000, .int .u64 100000000000, .int .u64 1000000000000, .int .u64 10000000000000, .int .u64 100000000000000, .int .u64 1000000000000000, .int .u64 10000000000000000, .int .u64 100000000000000000, .int .u64 1000000000000000000, .int .u64 10000000000000000000])).modify 8 (lay #[.int .u8 128, .int .u8 191, .int .u8 160, .int .u8 191, .int .u8 128, .int .u8 159, .int .u8 144, .int .u8 191, .int .u8 128, .int .u8 143, .int .u8 0, .int .u8 0, .int .u8 0, .int .u8 0, .int .u8 0, .int .u8 0, .int .u8 0, .int .u8 0, .int .u8 0, .int .u8 0, .int .u8 0, .int .u8 0, .int .u8 0, .int .u8 0, .int .u8 0, .int .u8 0, .int .u8 0, .int .u8 0, .int .u8 0, .int .u8 0, .int .u8 0, .int .u8 0])).modify 0 (lay #[.iface 306 (.agg #[.pointer (some ⟨9, 27, none⟩)])])).modify 6 (lay #[.iface 381 (.pointer (some ⟨low + 0, 0, none⟩))])).modify 5 (lay #[.iface 381 (.pointer (some ⟨low + 1, 0, none⟩))])).modify 7 (lay (flat Rows.laid_unicode_utf8_first)) }
set_option maxRecDepth 100000 in
theorem laid_met (os : Os) (args : Array Value) : laidMetH Tryz.prog laidAll ((laidWorld os).forCall (fun _ _ => 0) ⟨#[], args, []⟩).memory :=
  laidMetH_of_parts (laidMet_of_run' 8 (by kernel_rfl) (by kernel_rfl)) (by kernel_rfl)

end Go.Proofs.YtckjdbmadheamaaGreatDoor
