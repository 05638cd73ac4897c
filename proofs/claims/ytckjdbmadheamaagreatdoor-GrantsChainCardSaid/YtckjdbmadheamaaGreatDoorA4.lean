/- The fast evaluator: reckoning with whole numbers and texts. -/
import Derived.Test.YtckjdbmadheamaaGreatDoorA3
set_option linter.all false
namespace Go.Fast
open Go.Vai
variable [S : Sym]

noncomputable def vB (b : Bool) : FV := Bool.rec (motive := fun _ => FV) ⟨2, 0, 0, 0, p0, [], []⟩ ⟨2, 1, 0, 0, p0, [], []⟩ b
noncomputable def vI (k n : Nat) : FV := ⟨0, k, n, 0, p0, [], []⟩
theorem dec_vB (b : Bool) : dec (vB b) = .bool b := by cases b <;> rfl
theorem vB_t (b : Bool) : (vB b).t = 2 := by cases b <;> rfl
theorem dec_vI (k n : Nat) : dec (vI k n) = .int (kindOf k) (.ofNat n) := rfl

/-- the greatest number of a kind -/
noncomputable def maxOf (k : Nat) : Nat :=
  Bool.rec (motive := fun _ => Nat) (Bool.rec (motive := fun _ => Nat) (Bool.rec (motive := fun _ => Nat) (Bool.rec (motive := fun _ => Nat) (Bool.rec (motive := fun _ => Nat) (Bool.rec (motive := fun _ => Nat) (Bool.rec (motive := fun _ => Nat)
    18446744073709551615 65535 (Nat.beq k 5)) 2147483647 (Nat.beq k 2)) 32767 (Nat.beq k 1)) 127 (Nat.beq k 0)) 4294967295 (Nat.beq k 6)) 255 (Nat.beq k 4)) 9223372036854775807 (Nat.beq k 3)

theorem maxOf_ge (k : Nat) (h : 7 ≤ k) : maxOf k = 18446744073709551615 ∧ kindOf k = .u64 := by
  match k, h with
  | n + 7, _ => exact ⟨rfl, rfl⟩
theorem wrap_max (k : Nat) (n : Nat) (h : n ≤ maxOf k) : (kindOf k).wrap (n : Int) = n := by
  by_cases hk : 7 ≤ k
  · obtain ⟨e1, e2⟩ := maxOf_ge k hk
    rw [e1] at h; rw [e2]
    simp [IntKind.wrap, IntKind.bits, IntKind.signed]; omega
  · match k, hk with
    | 0, _ => have h : n ≤ 127 := h; simp [kindOf, IntKind.wrap, IntKind.bits, IntKind.signed]; omega
    | 1, _ => have h : n ≤ 32767 := h; simp [kindOf, IntKind.wrap, IntKind.bits, IntKind.signed]; omega
    | 2, _ => have h : n ≤ 2147483647 := h; simp [kindOf, IntKind.wrap, IntKind.bits, IntKind.signed]; omega
    | 3, _ => have h : n ≤ 9223372036854775807 := h; simp [kindOf, IntKind.wrap, IntKind.bits, IntKind.signed]; omega
    | 4, _ => have h : n ≤ 255 := h; simp [kindOf, IntKind.wrap, IntKind.bits, IntKind.signed]; omega
    | 5, _ => have h : n ≤ 65535 := h; simp [kindOf, IntKind.wrap, IntKind.bits, IntKind.signed]; omega
    | 6, _ => have h : n ≤ 4294967295 := h; simp [kindOf, IntKind.wrap, IntKind.bits, IntKind.signed]; omega
    | n + 7, h => omega
theorem max_bits (k : Nat) : ∃ j, j ≤ (kindOf k).bits ∧ maxOf k = 2 ^ j - 1 ∧ maxOf k < 2 ^ (kindOf k).bits := by
  by_cases hk : 7 ≤ k
  · obtain ⟨e1, e2⟩ := maxOf_ge k hk
    rw [e1, e2]; exact ⟨64, by decide⟩
  · match k, hk with
    | 0, _ => exact ⟨7, by decide⟩
    | 1, _ => exact ⟨15, by decide⟩
    | 2, _ => exact ⟨31, by decide⟩
    | 3, _ => exact ⟨63, by decide⟩
    | 4, _ => exact ⟨8, by decide⟩
    | 5, _ => exact ⟨16, by decide⟩
    | 6, _ => exact ⟨32, by decide⟩
    | n + 7, h => omega

def zOf (t b : Nat) : Int := if t = 0 then .ofNat b else .negSucc b
theorem dec_z {v : FV} (h : v.t ≤ 1) : dec v = .int (kindOf v.a) (zOf v.t v.b) := by
  rcases Nat.le_one_iff_eq_zero_or_eq_one.1 h with h | h
  · rw [dec_int h, zOf, if_pos h]
  · rw [dec_neg h, zOf, if_neg (by omega)]

/-- what the model says of two whole numbers -/
def binI (op : BinOp) (k : IntKind) (a b : Int) : Option AV :=
  match op with
  | .add => some (.int k (k.wrap (a + b)))
  | .sub => some (.int k (k.wrap (a - b)))
  | .mul => some (.int k (k.wrap (a * b)))
  | .quo => if b = 0 then none else some (.int k (k.wrap (a.tdiv b)))
  | .rem => if b = 0 then none else some (.int k (a.tmod b))
  | .and => some (.int k (k.wrap (BitVec.ofInt k.bits a &&& BitVec.ofInt k.bits b).toNat))
  | .or => some (.int k (k.wrap (BitVec.ofInt k.bits a ||| BitVec.ofInt k.bits b).toNat))
  | .eql => some (.bool (a == b))
  | .neq => some (.bool (a != b))
  | .lss => some (.bool (decide (a < b)))
  | .leq => some (.bool (decide (a ≤ b)))
  | .gtr => some (.bool (decide (a > b)))
  | .geq => some (.bool (decide (a ≥ b)))
  | _ => none

theorem semP_pure {α : Type} (P : Program) (v : α) : semP P (pure v) = some v := rfl
theorem binA_int {P : Program} {op : BinOp} {t : TypeId} {x y : Operand} {k : IntKind} {a b : Int} {r : AV} (h : binI op k a b = some r) : binA P op t x y (.int k a) (.int k b) = some r := by
  unfold binA
  simp only [scalarV, val?]
  cases op
  case add => cases h; simp only [eqGuard, binOp, Op.intArith]; simp [semP_pure, ofV]
  case sub => cases h; simp only [eqGuard, binOp, Op.intArith]; simp [semP_pure, ofV]
  case mul => cases h; simp only [eqGuard, binOp, Op.intArith]; simp [semP_pure, ofV]
  case quo =>
    simp only [binI] at h
    split at h
    · cases h
    · rename_i hb; cases h; simp only [eqGuard, binOp, Op.intDiv, if_neg hb]; simp [semP_pure, ofV]
  case rem =>
    simp only [binI] at h
    split at h
    · cases h
    · rename_i hb; cases h; simp only [eqGuard, binOp, Op.intDiv, if_neg hb]; simp [semP_pure, ofV]
  case and => cases h; simp only [eqGuard, binOp, Op.intBits]; simp [semP_pure, ofV]
  case or => cases h; simp only [eqGuard, binOp, Op.intBits]; simp [semP_pure, ofV]
  case eql => cases h; simp only [eqGuard, binOp, Op.intCmp]; simp [semP_pure, ofV]
  case neq => cases h; simp only [eqGuard, binOp, Op.intCmp]; simp [semP_pure, ofV]
  case lss => cases h; simp only [eqGuard, binOp, Op.intCmp]; simp [semP_pure, ofV]
  case leq => cases h; simp only [eqGuard, binOp, Op.intCmp]; simp [semP_pure, ofV]
  case gtr => cases h; simp only [eqGuard, binOp, Op.intCmp]; simp [semP_pure, ofV]
  case geq => cases h; simp only [eqGuard, binOp, Op.intCmp]; simp [semP_pure, ofV]
  all_goals cases h

def binS (op : BinOp) (a b : ByteArray) : Option AV :=
  match op with
  | .add => if a.size + b.size ≤ 9223372036854775807 then some (.str (a ++ b)) else none
  | .eql => some (.bool (a.toList == b.toList))
  | .neq => some (.bool (!(a.toList == b.toList)))
  | _ => none
theorem binA_str {P : Program} {op : BinOp} {t : TypeId} {x y : Operand} {a b : ByteArray} {r : AV} (h : binS op a b = some r) : binA P op t x y (.str a) (.str b) = some r := by
  unfold binA
  simp only [scalarV, val?]
  cases op
  case add =>
    simp only [binS] at h
    split at h
    · rename_i hb; cases h
      have hn : ¬ (((a.size + b.size : Nat) : Int) > IntKind.i64.max) := by
        have e : IntKind.i64.max = 9223372036854775807 := by decide
        rw [e]; omega
      simp only [eqGuard, binOp, Op.stringOp, if_neg hn]; simp [semP_pure, ofV]
    · cases h
  case eql => cases h; simp only [eqGuard, binOp, Op.stringOp]; simp [semP_pure, ofV]
  case neq => cases h; simp only [eqGuard, binOp, Op.stringOp]; simp [semP_pure, ofV]
  all_goals cases h

/- two whole numbers of one kind, else the slow way -/
noncomputable def numK (s : PK) (f : Nat → Nat → Nat → Nat → Nat → FV → FV) (x y : OpdK) : PK :=
  ⟨fun e h => onV (fun t a b _ _ _ _ => onV (fun t' a' b' _ _ _ _ => iV (andB (Nat.ble t 1) (andB (Nat.ble t' 1) (Nat.beq a a'))) (f t a b t' b' (s.run e h)) (s.run e h)) (y.g e)) (x.g e)⟩
def NumOk (op : BinOp) (f : Nat → Nat → Nat → Nat → Nat → FV → FV) : Prop :=
  ∀ (t a b t' b' : Nat) (s r : FV), t ≤ 1 → t' ≤ 1 → r = f t a b t' b' s → r = s ∨ binI op (kindOf a) (zOf t b) (zOf t' b') = some (dec r)
theorem numK_ok {P : Program} {op : BinOp} {t : TypeId} {x y : Operand} {yt : TypeId} {s : PK} {f : Nat → Nat → Nat → Nat → Nat → FV → FV} (hs : POk P (.binOp op t x y yt) s) (hf : NumOk op f) :
    POk P (.binOp op t x y yt) (numK s f (opdK x) (opdK y)) := by
  intro cf e h r hr g
  simp only [numK, onV_eq] at hr
  rcases iV_or hr with ⟨h1, h2⟩ | ⟨_, h2⟩
  · obtain ⟨ha, hb⟩ := andB_t h1
    obtain ⟨hb, hc⟩ := andB_t hb
    have ha := ble_t ha; have hb := ble_t hb; have hc := beq_t hc
    rcases hf _ _ _ _ _ _ _ ha hb h2 with h3 | h3
    · exact hs cf e h r h3 g
    · have o1 := opdK_ok x e _ rfl (by omega)
      have o2 := opdK_ok y e _ rfl (by omega)
      simp only [evOp, o1, o2, Option.bind_eq_bind, Option.bind_some]
      rw [dec_z ha, dec_z hb, ← hc, binA_int h3]
      rfl
  · exact hs cf e h r h2 g

noncomputable def addI (t a b t' b' : Nat) (s : FV) : FV := iV (andB (Nat.beq t 0) (andB (Nat.beq t' 0) (Nat.ble (Nat.add b b') (maxOf a)))) (vI a (Nat.add b b')) s
noncomputable def subI (t a b t' b' : Nat) (s : FV) : FV := iV (andB (Nat.beq t 0) (andB (Nat.beq t' 0) (andB (Nat.ble b' b) (Nat.ble (Nat.sub b b') (maxOf a))))) (vI a (Nat.sub b b')) s
noncomputable def mulI (t a b t' b' : Nat) (s : FV) : FV := iV (andB (Nat.beq t 0) (andB (Nat.beq t' 0) (Nat.ble (Nat.mul b b') (maxOf a)))) (vI a (Nat.mul b b')) s
noncomputable def quoI (t a b t' b' : Nat) (s : FV) : FV := iV (andB (Nat.beq t 0) (andB (Nat.beq t' 0) (andB (notB (Nat.beq b' 0)) (Nat.ble (Nat.div b b') (maxOf a))))) (vI a (Nat.div b b')) s
noncomputable def remI (t a b t' b' : Nat) (s : FV) : FV := iV (andB (Nat.beq t 0) (andB (Nat.beq t' 0) (notB (Nat.beq b' 0)))) (vI a (Nat.mod b b')) s
noncomputable def andI (t a b t' b' : Nat) (s : FV) : FV := iV (andB (Nat.beq t 0) (andB (Nat.beq t' 0) (andB (Nat.ble b (maxOf a)) (Nat.ble b' (maxOf a))))) (vI a (Nat.land b b')) s
noncomputable def orI (t a b t' b' : Nat) (s : FV) : FV := iV (andB (Nat.beq t 0) (andB (Nat.beq t' 0) (andB (Nat.ble b (maxOf a)) (Nat.ble b' (maxOf a))))) (vI a (Nat.lor b b')) s
noncomputable def ltZ (t b t' b' : Nat) : Bool :=
  Bool.rec (motive := fun _ => Bool) (Bool.rec (motive := fun _ => Bool) (notB (Nat.ble b b')) true (Nat.beq t' 0)) (Bool.rec (motive := fun _ => Bool) false (notB (Nat.ble b' b)) (Nat.beq t' 0)) (Nat.beq t 0)
noncomputable def lssI (t _a b t' b' : Nat) (_s : FV) : FV := vB (ltZ t b t' b')
noncomputable def gtrI (t _a b t' b' : Nat) (_s : FV) : FV := vB (ltZ t' b' t b)
noncomputable def leqI (t _a b t' b' : Nat) (_s : FV) : FV := vB (notB (ltZ t' b' t b))
noncomputable def geqI (t _a b t' b' : Nat) (_s : FV) : FV := vB (notB (ltZ t b t' b'))
noncomputable def eqlI (t _a b t' b' : Nat) (_s : FV) : FV := vB (andB (Nat.beq t t') (Nat.beq b b'))
noncomputable def neqI (t _a b t' b' : Nat) (_s : FV) : FV := vB (notB (andB (Nat.beq t t') (Nat.beq b b')))

theorem z0 (b : Nat) : zOf 0 b = (b : Int) := rfl
theorem beq_01 {t : Nat} (h : t ≤ 1) : (t = 0 ∧ Nat.beq t 0 = true) ∨ (t = 1 ∧ Nat.beq t 0 = false) := by
  rcases Nat.le_one_iff_eq_zero_or_eq_one.1 h with rfl | rfl
  · exact .inl ⟨rfl, rfl⟩
  · exact .inr ⟨rfl, rfl⟩
theorem ltZ_ok {t b t' b' : Nat} (h : t ≤ 1) (h' : t' ≤ 1) : ltZ t b t' b' = decide (zOf t b < zOf t' b') := by
  have nb : ∀ x y : Nat, notB (Nat.ble x y) = decide (y < x) := fun x y => by
    rw [notB_eq]
    cases hb : Nat.ble x y with
    | true => have := ble_t hb; simp; omega
    | false => have := ble_f hb; simp; omega
  rcases Nat.le_one_iff_eq_zero_or_eq_one.1 h with rfl | rfl <;> rcases Nat.le_one_iff_eq_zero_or_eq_one.1 h' with rfl | rfl
  · show notB (Nat.ble b' b) = _
    rw [nb]; simp [zOf]
  · show false = _
    simp [zOf]; omega
  · show true = _
    simp [zOf]; omega
  · show notB (Nat.ble b b') = _
    rw [nb]; simp [zOf]; omega
theorem eqZ_ok {t b t' b' : Nat} (h : t ≤ 1) (h' : t' ≤ 1) : andB (Nat.beq t t') (Nat.beq b b') = (zOf t b == zOf t' b') := by
  rw [andB_eq]
  rcases Nat.le_one_iff_eq_zero_or_eq_one.1 h with rfl | rfl <;> rcases Nat.le_one_iff_eq_zero_or_eq_one.1 h' with rfl | rfl
  · show (Nat.beq b b') = _
    rw [Bool.eq_iff_iff, Nat.beq_eq]; simp [zOf]; try omega
  · show false = _
    rw [Bool.eq_iff_iff]; simp [zOf]
  · show false = _
    rw [Bool.eq_iff_iff]; simp [zOf]
  · show (Nat.beq b b') = _
    rw [Bool.eq_iff_iff, Nat.beq_eq]; simp [zOf]; try omega

theorem addI_ok : NumOk .add addI := by
  intro t a b t' b' s r ht ht' h
  rcases iV_or h with ⟨h1, rfl⟩ | ⟨_, h1⟩
  · obtain ⟨h2, h3⟩ := andB_t h1
    obtain ⟨h3, h4⟩ := andB_t h3
    cases beq_t h2; cases beq_t h3
    right
    have := wrap_max a _ (ble_t h4)
    show some (AV.int (kindOf a) ((kindOf a).wrap ((b : Int) + (b' : Int)))) = some (.int (kindOf a) ((b + b' : Nat) : Int))
    rw [show ((b : Int) + (b' : Int)) = ((Nat.add b b' : Nat) : Int) from rfl, this]; rfl
  · exact .inl h1
theorem subI_ok : NumOk .sub subI := by
  intro t a b t' b' s r ht ht' h
  rcases iV_or h with ⟨h1, rfl⟩ | ⟨_, h1⟩
  · obtain ⟨h2, h3⟩ := andB_t h1
    obtain ⟨h3, h4⟩ := andB_t h3
    obtain ⟨h4, h5⟩ := andB_t h4
    cases beq_t h2; cases beq_t h3
    have h4 := ble_t h4
    right
    have := wrap_max a _ (ble_t h5)
    show some (AV.int (kindOf a) ((kindOf a).wrap ((b : Int) - (b' : Int)))) = some (.int (kindOf a) ((b - b' : Nat) : Int))
    have e : ((b : Int) - (b' : Int)) = ((Nat.sub b b' : Nat) : Int) := by show _ = ((b - b' : Nat) : Int); omega
    rw [e, this]; rfl
  · exact .inl h1
theorem mulI_ok : NumOk .mul mulI := by
  intro t a b t' b' s r ht ht' h
  rcases iV_or h with ⟨h1, rfl⟩ | ⟨_, h1⟩
  · obtain ⟨h2, h3⟩ := andB_t h1
    obtain ⟨h3, h4⟩ := andB_t h3
    cases beq_t h2; cases beq_t h3
    right
    have := wrap_max a _ (ble_t h4)
    show some (AV.int (kindOf a) ((kindOf a).wrap ((b : Int) * (b' : Int)))) = some (.int (kindOf a) ((b * b' : Nat) : Int))
    rw [show ((b : Int) * (b' : Int)) = ((Nat.mul b b' : Nat) : Int) from rfl, this]; rfl
  · exact .inl h1
theorem quoI_ok : NumOk .quo quoI := by
  intro t a b t' b' s r ht ht' h
  rcases iV_or h with ⟨h1, rfl⟩ | ⟨_, h1⟩
  · obtain ⟨h2, h3⟩ := andB_t h1
    obtain ⟨h3, h4⟩ := andB_t h3
    obtain ⟨h4, h5⟩ := andB_t h4
    cases beq_t h2; cases beq_t h3
    have h4 : b' ≠ 0 := by rw [notB_eq] at h4; exact beq_f (by simpa using h4)
    right
    have := wrap_max a _ (ble_t h5)
    show (if (b' : Int) = 0 then none else some (AV.int (kindOf a) ((kindOf a).wrap ((b : Int).tdiv (b' : Int))))) = some (.int (kindOf a) ((b / b' : Nat) : Int))
    rw [if_neg (by omega)]
    have e : ((b : Int).tdiv (b' : Int)) = ((Nat.div b b' : Nat) : Int) := rfl
    rw [e, this]; rfl
  · exact .inl h1
theorem remI_ok : NumOk .rem remI := by
  intro t a b t' b' s r ht ht' h
  rcases iV_or h with ⟨h1, rfl⟩ | ⟨_, h1⟩
  · obtain ⟨h2, h3⟩ := andB_t h1
    obtain ⟨h3, h4⟩ := andB_t h3
    cases beq_t h2; cases beq_t h3
    have h4 : b' ≠ 0 := by rw [notB_eq] at h4; exact beq_f (by simpa using h4)
    right
    show (if (b' : Int) = 0 then none else some (AV.int (kindOf a) ((b : Int).tmod (b' : Int)))) = some (.int (kindOf a) ((b % b' : Nat) : Int))
    rw [if_neg (by omega)]
    rfl
  · exact .inl h1
theorem ofInt_nat {k x : Nat} (h : x < 2 ^ k) : (BitVec.ofInt k (x : Int)).toNat = x := by
  rw [BitVec.ofInt_natCast, BitVec.toNat_ofNat, Nat.mod_eq_of_lt h]
theorem andI_ok : NumOk .and andI := by
  intro t a b t' b' s r ht ht' h
  rcases iV_or h with ⟨h1, rfl⟩ | ⟨_, h1⟩
  · obtain ⟨h2, h3⟩ := andB_t h1
    obtain ⟨h3, h4⟩ := andB_t h3
    obtain ⟨h4, h5⟩ := andB_t h4
    cases beq_t h2; cases beq_t h3
    have h4 := ble_t h4; have h5 := ble_t h5
    right
    obtain ⟨j, _, _, hm⟩ := max_bits a
    show some (AV.int (kindOf a) ((kindOf a).wrap ((BitVec.ofInt (kindOf a).bits (b : Int) &&& BitVec.ofInt (kindOf a).bits (b' : Int)).toNat : Int))) = some (.int (kindOf a) ((b &&& b' : Nat) : Int))
    rw [BitVec.toNat_and, ofInt_nat (by omega), ofInt_nat (by omega), wrap_max a]
    exact Nat.le_trans Nat.and_le_left h4
  · exact .inl h1
theorem orI_ok : NumOk .or orI := by
  intro t a b t' b' s r ht ht' h
  rcases iV_or h with ⟨h1, rfl⟩ | ⟨_, h1⟩
  · obtain ⟨h2, h3⟩ := andB_t h1
    obtain ⟨h3, h4⟩ := andB_t h3
    obtain ⟨h4, h5⟩ := andB_t h4
    cases beq_t h2; cases beq_t h3
    have h4 := ble_t h4; have h5 := ble_t h5
    right
    obtain ⟨j, _, hj, hm⟩ := max_bits a
    show some (AV.int (kindOf a) ((kindOf a).wrap ((BitVec.ofInt (kindOf a).bits (b : Int) ||| BitVec.ofInt (kindOf a).bits (b' : Int)).toNat : Int))) = some (.int (kindOf a) ((b ||| b' : Nat) : Int))
    rw [BitVec.toNat_or, ofInt_nat (by omega), ofInt_nat (by omega), wrap_max a]
    have hp : 0 < 2 ^ j := Nat.pow_pos (by decide)
    have := Nat.or_lt_two_pow (x := b) (y := b') (n := j) (by omega) (by omega)
    omega
  · exact .inl h1
theorem lssI_ok : NumOk .lss lssI := by
  intro t a b t' b' s r ht ht' h
  right; subst h
  unfold lssI binI
  rw [dec_vB, ltZ_ok ht ht']
theorem gtrI_ok : NumOk .gtr gtrI := by
  intro t a b t' b' s r ht ht' h
  right; subst h
  unfold gtrI binI
  rw [dec_vB, ltZ_ok ht' ht]
theorem leqI_ok : NumOk .leq leqI := by
  intro t a b t' b' s r ht ht' h
  right; subst h
  unfold leqI binI
  rw [dec_vB, ltZ_ok ht' ht, notB_eq]
  dsimp only
  have e : decide (zOf t b ≤ zOf t' b') = !decide (zOf t' b' < zOf t b) := by rw [Bool.eq_iff_iff]; simp
  rw [e]
theorem geqI_ok : NumOk .geq geqI := by
  intro t a b t' b' s r ht ht' h
  right; subst h
  unfold geqI binI
  rw [dec_vB, ltZ_ok ht ht', notB_eq]
  dsimp only
  have e : decide (zOf t b ≥ zOf t' b') = !decide (zOf t b < zOf t' b') := by rw [Bool.eq_iff_iff]; simp
  rw [e]
theorem eqlI_ok : NumOk .eql eqlI := by
  intro t a b t' b' s r ht ht' h
  right; subst h
  unfold eqlI binI
  rw [dec_vB, eqZ_ok ht ht']
theorem neqI_ok : NumOk .neq neqI := by
  intro t a b t' b' s r ht ht' h
  right; subst h
  unfold neqI binI
  rw [dec_vB, eqZ_ok ht ht', notB_eq]
  rfl

/-- shifts: of whole numbers of whatever kinds -/
noncomputable def shlK (s : PK) (x y : OpdK) : PK :=
  ⟨fun e h => onV (fun t a b _ _ _ _ => onV (fun t' _ b' _ _ _ _ => iV (andB (Nat.beq t 0) (andB (Nat.beq t' 0) (andB (Nat.ble b' 63) (Nat.ble (Nat.mul b (Nat.pow 2 b')) (maxOf a))))) (vI a (Nat.mul b (Nat.pow 2 b'))) (s.run e h)) (y.g e)) (x.g e)⟩
noncomputable def shrK (s : PK) (x y : OpdK) : PK :=
  ⟨fun e h => onV (fun t a b _ _ _ _ => onV (fun t' _ b' _ _ _ _ => iV (andB (Nat.beq t 0) (andB (Nat.beq t' 0) (andB (Nat.ble b' 63) (Nat.ble b (maxOf a))))) (vI a (Nat.div b (Nat.pow 2 b'))) (s.run e h)) (y.g e)) (x.g e)⟩
theorem binA_shl {P : Program} {t : TypeId} {x y : Operand} {k k' : IntKind} {a : Int} {b : Nat} : binA P .shl t x y (.int k a) (.int k' b) = some (.int k (k.wrap (a * 2 ^ min b k.bits))) := by
  have hn : ¬ ((b : Int) < 0) := by omega
  unfold binA
  simp only [scalarV, val?]
  simp only [eqGuard, binOp, Op.shift, if_neg hn]; simp [semP_pure, ofV]
theorem binA_shr {P : Program} {t : TypeId} {x y : Operand} {k k' : IntKind} {a : Int} {b : Nat} : binA P .shr t x y (.int k a) (.int k' b) = some (.int k (a.fdiv (2 ^ min b k.bits))) := by
  have hn : ¬ ((b : Int) < 0) := by omega
  unfold binA
  simp only [scalarV, val?]
  simp only [eqGuard, binOp, Op.shift, if_neg hn]; simp [semP_pure, ofV]
theorem shlK_ok {P : Program} {t : TypeId} {x y : Operand} {yt : TypeId} {s : PK} (hs : POk P (.binOp .shl t x y yt) s) : POk P (.binOp .shl t x y yt) (shlK s (opdK x) (opdK y)) := by
  intro cf e h r hr g
  simp only [shlK, onV_eq] at hr
  rcases iV_or hr with ⟨h1, h2⟩ | ⟨_, h2⟩
  · obtain ⟨ha, hb⟩ := andB_t h1
    obtain ⟨hb, hc⟩ := andB_t hb
    obtain ⟨hc, hd⟩ := andB_t hc
    have ha := beq_t ha; have hb := beq_t hb; have hc := ble_t hc; have hd := ble_t hd
    have o1 := opdK_ok x e _ rfl (by omega)
    have o2 := opdK_ok y e _ rfl (by omega)
    simp only [evOp, o1, o2, Option.bind_eq_bind, Option.bind_some]
    rw [dec_int ha, dec_int hb]
    have := binA_shl (P := P) (t := t) (x := x) (y := y) (k := kindOf ((opdK x).g e).a) (k' := kindOf ((opdK y).g e).a) (a := Int.ofNat ((opdK x).g e).b) (b := ((opdK y).g e).b)
    rw [show Int.ofNat ((opdK y).g e).b = (((opdK y).g e).b : Int) from rfl, this, h2, dec_vI]
    simp only [Option.map_some]
    congr 3
    generalize ((opdK x).g e).b = b at *
    generalize ((opdK x).g e).a = a at *
    generalize ((opdK y).g e).b = c at *
    have hw := wrap_max a _ hd
    show (kindOf a).wrap ((b : Int) * 2 ^ min c (kindOf a).bits) = ((Nat.mul b (Nat.pow 2 c) : Nat) : Int)
    rcases Nat.le_total c (kindOf a).bits with hle | hle
    · rw [Nat.min_eq_left hle, ← hw]
      congr 1
    · obtain ⟨j, _, _, hm⟩ := max_bits a
      have hb0 : b = 0 := by
        rcases Nat.eq_zero_or_pos b with h0 | h0
        · exact h0
        · have h5 : 2 ^ (kindOf a).bits ≤ 2 ^ c := Nat.pow_le_pow_right (by decide) hle
          have h6 : 1 * 2 ^ c ≤ b * 2 ^ c := Nat.mul_le_mul_right _ h0
          have h7 : b * 2 ^ c ≤ maxOf a := hd
          omega
      subst hb0
      have h8 : Nat.mul 0 (Nat.pow 2 c) = 0 := Nat.zero_mul _
      rw [h8] at hw ⊢
      rw [show (((0 : Nat) : Int)) = 0 from rfl, Int.zero_mul]
      exact hw
  · exact hs cf e h r h2 g
theorem shrK_ok {P : Program} {t : TypeId} {x y : Operand} {yt : TypeId} {s : PK} (hs : POk P (.binOp .shr t x y yt) s) : POk P (.binOp .shr t x y yt) (shrK s (opdK x) (opdK y)) := by
  intro cf e h r hr g
  simp only [shrK, onV_eq] at hr
  rcases iV_or hr with ⟨h1, h2⟩ | ⟨_, h2⟩
  · obtain ⟨ha, hb⟩ := andB_t h1
    obtain ⟨hb, hc⟩ := andB_t hb
    obtain ⟨hc, hd⟩ := andB_t hc
    have ha := beq_t ha; have hb := beq_t hb; have hc := ble_t hc; have hd := ble_t hd
    have o1 := opdK_ok x e _ rfl (by omega)
    have o2 := opdK_ok y e _ rfl (by omega)
    simp only [evOp, o1, o2, Option.bind_eq_bind, Option.bind_some]
    rw [dec_int ha, dec_int hb]
    have := binA_shr (P := P) (t := t) (x := x) (y := y) (k := kindOf ((opdK x).g e).a) (k' := kindOf ((opdK y).g e).a) (a := Int.ofNat ((opdK x).g e).b) (b := ((opdK y).g e).b)
    rw [show Int.ofNat ((opdK y).g e).b = (((opdK y).g e).b : Int) from rfl, this, h2, dec_vI]
    simp only [Option.map_some]
    congr 3
    generalize ((opdK x).g e).b = b at *
    generalize ((opdK x).g e).a = a at *
    generalize ((opdK y).g e).b = c at *
    show ((b : Int)).fdiv (2 ^ min c (kindOf a).bits) = ((b / 2 ^ c : Nat) : Int)
    have hp : ((2 : Int) ^ min c (kindOf a).bits) = ((2 ^ min c (kindOf a).bits : Nat) : Int) := by simp
    rw [hp]
    have : ((b : Int)).fdiv ((2 ^ min c (kindOf a).bits : Nat) : Int) = ((b / 2 ^ min c (kindOf a).bits : Nat) : Int) := by
      rw [Int.fdiv_eq_ediv_of_nonneg _ (Int.natCast_nonneg _)]; rfl
    rw [this]
    rcases Nat.le_total c (kindOf a).bits with hle | hle
    · rw [Nat.min_eq_left hle]
    · rw [Nat.min_eq_right hle]
      obtain ⟨j, _, _, hm⟩ := max_bits a
      have h5 : 2 ^ (kindOf a).bits ≤ 2 ^ c := Nat.pow_le_pow_right (by decide) hle
      have h6 : b < 2 ^ (kindOf a).bits := Nat.lt_of_le_of_lt hd hm
      rw [Nat.div_eq_of_lt h6, Nat.div_eq_of_lt (Nat.lt_of_lt_of_le h6 h5)]
  · exact hs cf e h r h2 g

/-- the remainder of a number that is not known, where it is known -/
noncomputable def remS (s : PK) (x y : OpdK) : PK :=
  ⟨fun e h => onV (fun t _ _ c _ _ _ => onV (fun t' a' b' _ _ _ _ => iV (andB (Nat.beq t 12) (andB (notB (Nat.beq c 0)) (andB (Nat.beq t' 0) (andB (Nat.beq a' 3) (Nat.ble (S.rem (Nat.pred c) b').1 1)))))
    ⟨(S.rem (Nat.pred c) b').1, 3, (S.rem (Nat.pred c) b').2, 0, p0, [], []⟩ ((numK s remI x y).run e h)) (y.g e)) (x.g e)⟩
theorem remS_ok {P : Program} {t : TypeId} {x y : Operand} {yt : TypeId} {s : PK} (hs : POk P (.binOp .rem t x y yt) s) : POk P (.binOp .rem t x y yt) (remS s (opdK x) (opdK y)) := by
  intro cf e h r hr g
  simp only [remS, onV_eq] at hr
  rcases iV_or hr with ⟨h1, h2⟩ | ⟨_, h2⟩
  · obtain ⟨g1, g3⟩ := andB_t h1
    obtain ⟨g3, g4⟩ := andB_t g3
    obtain ⟨g4, g5⟩ := andB_t g4
    obtain ⟨g5, g6⟩ := andB_t g5
    have t1 := beq_t g1; have t4 := beq_t g4; have t5 := beq_t g5; have t6 := ble_t g6
    have t3 : ((opdK x).g e).c ≠ 0 := by rw [notB_eq] at g3; exact beq_f (by simpa using g3)
    have o1 := opdK_ok x e _ rfl (by omega)
    have o2 := opdK_ok y e _ rfl (by omega)
    clear h1 g1 g3 g4 g5 g6 hr
    generalize (opdK x).g e = u at *
    generalize (opdK y).g e = v at *
    obtain ⟨k, hk⟩ : ∃ k, u.c = k + 1 := ⟨u.c - 1, by omega⟩
    have hp : Nat.pred u.c = k := by rw [hk]; rfl
    rw [hp] at h2 t6
    obtain ⟨q1, q2⟩ := S.rem_ok k v.b t6
    simp only [evOp, o1, o2, Option.bind_eq_bind, Option.bind_some]
    rw [dec_sym t1 hk, dec_int t4, t5]
    have hb : binI .rem .i64 (S.n k) (Int.ofNat v.b) = some (.int .i64 (zOf (S.rem k v.b).1 (S.rem k v.b).2)) := by
      simp only [binI]
      rw [if_neg (by simp; exact q1)]
      show some (AV.int .i64 ((S.n k).tmod (v.b : Int))) = _
      rw [q2]; rfl
    rw [show kindOf 3 = IntKind.i64 from rfl, binA_int hb, h2, dec_z (v := ⟨(S.rem k v.b).1, 3, (S.rem k v.b).2, 0, p0, [], []⟩) t6]
    rfl
  · exact numK_ok hs remI_ok cf e h r h2 g

end Go.Fast
