/- The fast evaluator: what values and memory stand for; texts as numbers; encoding. -/
import Derived.Test.YtckjdbmadheamaaGreatDoorA1
set_option linter.all false
namespace Go.Fast
open Go.Vai

/-- What numbers stand for that are not known: 'n' what they are; 'rem' the remainders that are known (a tag, a number). -/
class Sym where
  n : Nat → Int
  rem : Nat → Nat → Nat × Nat
  rem_ok : ∀ k m, (rem k m).1 ≤ 1 → m ≠ 0 ∧ (n k).tmod m = (if (rem k m).1 = 0 then .ofNat (rem k m).2 else .negSucc (rem k m).2)
variable [S : Sym]

def kindOf : Nat → IntKind
  | 0 => .i8 | 1 => .i16 | 2 => .i32 | 3 => .i64 | 4 => .u8 | 5 => .u16 | 6 => .u32 | _ => .u64
def kindNo : IntKind → Nat
  | .i8 => 0 | .i16 => 1 | .i32 => 2 | .i64 => 3 | .u8 => 4 | .u16 => 5 | .u32 => 6 | .u64 => 7
theorem kindOf_no (k : IntKind) : kindOf (kindNo k) = k := by cases k <;> rfl

/-- a text: its length, its bytes as digits, the first the highest -/
def txt (n : Nat) (c : Nat) : ByteArray := ⟨((List.range n).map fun i => UInt8.ofNat (c / 256 ^ (n - 1 - i) % 256)).toArray⟩

/-- what stands in a cell: a value of one cell -/
noncomputable def cellOf (t : Nat) (v : AV) : AV := Bool.rec (motive := fun _ => AV) .nilp v (Nat.ble t 14)

mutual
noncomputable def dec : FV → AV
  | ⟨t, a, b, c, p, l, m⟩ => match t with
    | 0 => .int (kindOf a) (.ofNat b)
    | 1 => .int (kindOf a) (.negSucc b)
    | 2 => .bool (Nat.beq a 1)
    | 3 => .str (txt a b)
    | 4 => .ptr p.dec a
    | 5 => .nilp
    | 6 => .slice p.dec a b c false
    | 7 => .slice p.dec a b c true
    | 8 => .nils
    | 9 => .map p.dec
    | 10 => .nilm
    | 11 => .func (.func a) (decX l false) (decX m false)
    | 12 => match c with
      | 0 => .nilf
      | k + 1 => .int .i64 (S.n k)
    | 13 => match l with
      | x :: _ => .iface a (dec x)
      | [] => .nili
    | 14 => .nili
    | 15 => .agg (decX l true)
    | 16 => .tup (decX l false)
    | _ => .nilp
noncomputable def decX : List FV → Bool → List AV
  | [], _ => []
  | x :: l, s => (match s with | true => cellOf x.t (dec x) | false => dec x) :: decX l s
end
noncomputable def decL (l : List FV) : List AV := decX l false
noncomputable def decC (l : List FV) : List AV := decX l true
theorem decL_nil : decL [] = [] := by simp only [decL, decX]
theorem decC_nil : decC [] = [] := by simp only [decC, decX]
theorem decL_cons (x : FV) (l : List FV) : decL (x :: l) = dec x :: decL l := by simp only [decL, decX]
theorem decC_cons (x : FV) (l : List FV) : decC (x :: l) = cellOf x.t (dec x) :: decC l := by simp only [decC, decX]

theorem decL_eq (l : List FV) : decL l = l.map dec := by
  induction l with
  | nil => exact decL_nil
  | cons x l ih => rw [decL_cons, ih, List.map_cons]
theorem decC_eq (l : List FV) : decC l = l.map fun x => cellOf x.t (dec x) := by
  induction l with
  | nil => exact decC_nil
  | cons x l ih => rw [decC_cons, ih, List.map_cons]
theorem decL_len (l : List FV) : (decL l).length = l.length := by rw [decL_eq, List.length_map]
theorem decC_len (l : List FV) : (decC l).length = l.length := by rw [decC_eq, List.length_map]
theorem decL_app (l m : List FV) : decL (l ++ m) = decL l ++ decL m := by simp only [decL_eq, List.map_append]
theorem decC_app (l m : List FV) : decC (l ++ m) = decC l ++ decC m := by simp only [decC_eq, List.map_append]
theorem decC_take (n : Nat) (l : List FV) : decC (l.take n) = (decC l).take n := by simp only [decC_eq, List.map_take]
theorem decC_drop (n : Nat) (l : List FV) : decC (l.drop n) = (decC l).drop n := by simp only [decC_eq, List.map_drop]

theorem dec_int {v : FV} (h : v.t = 0) : dec v = .int (kindOf v.a) (.ofNat v.b) := by cases v; cases h; simp only [dec, decL, decC]
theorem dec_neg {v : FV} (h : v.t = 1) : dec v = .int (kindOf v.a) (.negSucc v.b) := by cases v; cases h; simp only [dec, decL, decC]
theorem dec_bool {v : FV} (h : v.t = 2) : dec v = .bool (Nat.beq v.a 1) := by cases v; cases h; simp only [dec, decL, decC]
theorem dec_str {v : FV} (h : v.t = 3) : dec v = .str (txt v.a v.b) := by cases v; cases h; simp only [dec, decL, decC]
theorem dec_ptr {v : FV} (h : v.t = 4) : dec v = .ptr v.p.dec v.a := by cases v; cases h; simp only [dec, decL, decC]
theorem dec_nilp {v : FV} (h : v.t = 5) : dec v = .nilp := by cases v; cases h; simp only [dec, decL, decC]
theorem dec_slice {v : FV} (h : v.t = 6) : dec v = .slice v.p.dec v.a v.b v.c false := by cases v; cases h; simp only [dec, decL, decC]
theorem dec_sliceT {v : FV} (h : v.t = 7) : dec v = .slice v.p.dec v.a v.b v.c true := by cases v; cases h; simp only [dec, decL, decC]
theorem dec_nils {v : FV} (h : v.t = 8) : dec v = .nils := by cases v; cases h; simp only [dec, decL, decC]
theorem dec_map {v : FV} (h : v.t = 9) : dec v = .map v.p.dec := by cases v; cases h; simp only [dec, decL, decC]
theorem dec_nilm {v : FV} (h : v.t = 10) : dec v = .nilm := by cases v; cases h; simp only [dec, decL, decC]
theorem dec_func {v : FV} (h : v.t = 11) : dec v = .func (.func v.a) (decL v.l) (decL v.m) := by cases v; cases h; simp only [dec, decL, decC]
theorem dec_nilf {v : FV} (h : v.t = 12) (hc : v.c = 0) : dec v = .nilf := by cases v; cases h; cases hc; simp only [dec]
theorem dec_sym {v : FV} {k : Nat} (h : v.t = 12) (hc : v.c = k + 1) : dec v = .int .i64 (S.n k) := by cases v; cases h; cases hc; simp only [dec]
theorem dec_iface {v : FV} {x : FV} {r : List FV} (h : v.t = 13) (hl : v.l = x :: r) : dec v = .iface v.a (dec x) := by cases v; cases h; cases hl; simp only [dec]
theorem dec_nili {v : FV} (h : v.t = 14) : dec v = .nili := by cases v; cases h; simp only [dec, decL, decC]
theorem dec_agg {v : FV} (h : v.t = 15) : dec v = .agg (decC v.l) := by cases v; cases h; simp only [dec, decL, decC]
theorem dec_tup {v : FV} (h : v.t = 16) : dec v = .tup (decL v.l) := by cases v; cases h; simp only [dec, decL, decC]

theorem dec_atom {v : FV} (h : Nat.ble v.t 14 = true) : (dec v).atom = true := by
  obtain ⟨t, a, b, c, p, l, m⟩ := v
  have h := Nat.le_of_ble_eq_true h
  dsimp only at h
  match t, h with
  | 0, _ | 1, _ | 2, _ | 3, _ | 4, _ | 5, _ | 6, _ | 7, _ | 8, _ | 9, _ | 10, _ | 11, _ | 14, _ => simp only [dec, AV.atom]
  | 12, _ => cases c <;> simp only [dec, AV.atom]
  | 13, _ => cases l <;> simp only [dec, AV.atom]
  | n + 15, h => omega
theorem cell_atom (v : FV) : (cellOf v.t (dec v)).atom = true := by
  unfold cellOf
  cases h : Nat.ble v.t 14
  · rfl
  · exact dec_atom h
theorem cell_of {v : FV} (h : Nat.ble v.t 14 = true) : cellOf v.t (dec v) = dec v := by unfold cellOf; rw [h]
theorem decC_atoms (l : List FV) : (decC l).all AV.atom = true := by
  rw [decC_eq, List.all_eq_true]
  intro x hx
  obtain ⟨v, _, rfl⟩ := List.mem_map.1 hx
  exact cell_atom v

noncomputable def nthT (l : List FV) (n : Nat) : FV :=
  Nat.rec (motive := fun _ => List FV → FV) (fun l => List.rec (motive := fun _ => FV) bad (fun x _ _ => x) l) (fun _ ih l => List.rec (motive := fun _ => FV) bad (fun _ l _ => ih l) l) n l
/-- an entry of a map: the first two of a list -/
noncomputable def pairF (x : FV) : AV × AV := (dec (nthT x.l 0), dec (nthT x.l 1))
noncomputable def decO (o : FO) : Option HObj :=
  match o.k with
  | 1 => some (.cells 0 (o.anc.map Pth.dec) o.z (decC o.c))
  | 2 => some (.cells 1 (o.anc.map Pth.dec) o.z (decC o.c))
  | 3 => some (.cells 2 (o.anc.map Pth.dec) o.z (decC o.c))
  | 5 => some (.map (o.c.map pairF))
  | _ => none

noncomputable def decH (h : FH) : AH := ⟨h.n.dec, fun b => if b < top then decO (hget h.h (pth b)) else none⟩
noncomputable def decE (e : Fr3) : Env := fun t => if t < 512 then (if ((slot t).g e).t = 99 then none else some (dec ((slot t).g e))) else none

/- the memory, decoded -/
theorem decH_next (h : FH) : (decH h).next = h.n.dec := rfl
theorem decH_get (h : FH) (p : Pth) : (decH h).get p.dec = decO (hget h.h p) := by
  simp only [decH, if_pos p.dec_lt, pth_dec]

theorem decH_put (h : FH) (p : Pth) {o : FO} {x : HObj} (ho : decO o = some x) : decH (h.put p o) = (decH h).put p.dec x := by
  have e : h.put p o = ⟨h.n, hset h.h p o⟩ := by cases h; rfl
  rw [e]
  unfold AH.put decH
  congr 1
  funext b
  by_cases hb : b < top
  · simp only [if_pos hb]
    by_cases hp : b = p.dec
    · rw [if_pos hp, hp, pth_dec, hget_same, ho]
    · rw [if_neg hp, hget_other]
      intro hh
      exact hp (by rw [← hh, dec_pth hb])
  · simp only [if_neg hb]
    rw [if_neg]
    intro hh
    have := p.dec_lt
    omega
theorem put_n (h : FH) (p : Pth) (o : FO) : (h.put p o).n = h.n := by cases h; rfl
theorem put_h (h : FH) (p : Pth) (o : FO) : (h.put p o).h = hset h.h p o := by cases h; rfl

theorem new_n {h : FH} (o : FO) (hl : h.full = false) : (h.new o).n.dec = h.n.dec + 1 := by
  have e : h.new o = ⟨h.n.suc, hset h.h h.n o⟩ := by cases h; rfl
  rw [e]
  exact Pth.suc_dec _ hl
theorem decH_new (h : FH) {o : FO} {x : HObj} (ho : decO o = some x) (hl : h.full = false) : decH (h.new o) = (decH h).new x := by
  have e : h.new o = ⟨h.n.suc, hset h.h h.n o⟩ := by cases h; rfl
  rw [e]
  unfold AH.new decH
  dsimp only
  rw [Pth.suc_dec _ hl]
  congr 1
  funext b
  by_cases hb : b < top
  · simp only [if_pos hb]
    by_cases hp : b = h.n.dec
    · rw [if_pos hp, hp, pth_dec, hget_same, ho]
    · rw [if_neg hp, hget_other]
      intro hh
      exact hp (by rw [← hh, dec_pth hb])
  · simp only [if_neg hb]
    rw [if_neg]
    intro hh
    have := h.n.dec_lt
    omega

/- the slots, decoded -/
theorem decE_get {e : Fr3} {t : Nat} (ht : t < 512) (hv : ((slot t).g e).t ≠ 99) : decE e t = some (dec ((slot t).g e)) := by
  simp only [decE, if_pos ht, if_neg hv]
theorem decE_set {e : Fr3} {d : Nat} {v : FV} (hd : d < 512) (hv : v.t ≠ 99) : decE ((slot d).s e v) = (decE e).set d (dec v) := by
  funext t
  unfold Env.set
  by_cases ht : t = d
  · subst ht
    rw [if_pos rfl, decE_get hd (by rw [slot_same]; exact hv), slot_same]
  · rw [if_neg ht]
    unfold decE
    by_cases h5 : t < 512
    · simp only [if_pos h5]
      rw [slot_other hd h5 ht]
    · simp only [if_neg h5]

/- texts -/
/-- the number of a list of bytes, the first the highest -/
def codeL (l : List UInt8) : Nat := l.foldl (fun c b => c * 256 + b.toNat) 0
def codeOf (s : ByteArray) : Nat := codeL s.data.toList

theorem codeL_acc : ∀ (l : List UInt8) (a : Nat), l.foldl (fun c b => c * 256 + b.toNat) a = a * 256 ^ l.length + codeL l
  | [], a => by simp [codeL]
  | b :: l, a => by
    unfold codeL
    rw [List.foldl_cons, List.foldl_cons, codeL_acc l, codeL_acc l (0 * 256 + b.toNat), List.length_cons, Nat.pow_succ]
    rw [Nat.add_mul, Nat.mul_assoc, Nat.mul_comm 256 (256 ^ l.length)]
    simp only [Nat.zero_mul, Nat.zero_add]
    omega

theorem codeL_cons (b : UInt8) (l : List UInt8) : codeL (b :: l) = b.toNat * 256 ^ l.length + codeL l := by
  unfold codeL
  rw [List.foldl_cons, codeL_acc]
  simp only [Nat.zero_mul, Nat.zero_add]
  rfl

theorem codeL_lt : ∀ (l : List UInt8), codeL l < 256 ^ l.length
  | [] => by simp [codeL]
  | b :: l => by
    rw [codeL_cons, List.length_cons, Nat.pow_succ]
    have := codeL_lt l
    have hb := b.toNat_lt
    have : b.toNat * 256 ^ l.length ≤ 255 * 256 ^ l.length := Nat.mul_le_mul_right _ (by omega)
    omega

/-- the byte at i of a text of n bytes -/
def byteN (n c i : Nat) : Nat := c / 256 ^ (n - 1 - i) % 256

theorem byteN_codeL : ∀ (l : List UInt8) (i : Nat) (b : UInt8), l[i]? = some b → byteN l.length (codeL l) i = b.toNat
  | [], i, b, h => by simp at h
  | x :: l, 0, b, h => by
    simp at h
    subst h
    unfold byteN
    rw [codeL_cons, List.length_cons, Nat.add_sub_cancel, Nat.sub_zero]
    have := codeL_lt l
    have hb := x.toNat_lt
    rw [Nat.mul_comm, Nat.mul_add_div (Nat.pow_pos (by decide)), Nat.div_eq_of_lt this]
    omega
  | x :: l, i + 1, b, h => by
    have h' : l[i]? = some b := by simpa using h
    have hi := (List.getElem?_eq_some_iff.1 h').1
    have ih := byteN_codeL l i b h'
    unfold byteN at ih ⊢
    rw [codeL_cons, List.length_cons]
    have e1 : l.length + 1 - 1 - (i + 1) = l.length - 1 - i := by omega
    have e2 : l.length = (l.length - 1 - i) + (i + 1) := by omega
    rw [e1]
    have e3 : x.toNat * 256 ^ l.length = 256 ^ (l.length - 1 - i) * (256 * (x.toNat * 256 ^ i)) := by
      conv => lhs; rw [e2, Nat.pow_add, Nat.pow_succ]
      rw [Nat.mul_comm 256 (x.toNat * 256 ^ i), ← Nat.mul_assoc, ← Nat.mul_assoc, Nat.mul_comm x.toNat, Nat.mul_assoc, Nat.mul_assoc, Nat.mul_assoc]
    rw [e3, Nat.mul_add_div (Nat.pow_pos (by decide)), Nat.mul_add_mod]
    exact ih

theorem txt_size (n c : Nat) : (txt n c).size = n := by
  simp [txt, ByteArray.size]
theorem txt_data (n c : Nat) : (txt n c).data.toList = (List.range n).map fun i => UInt8.ofNat (byteN n c i) := by simp [txt, byteN]
theorem txt_get {n c i : Nat} (h : i < n) : (txt n c).data.toList[i]? = some (UInt8.ofNat (byteN n c i)) := by
  rw [txt_data, List.getElem?_map, List.getElem?_range h]
  rfl

theorem bytes_ext {a b : ByteArray} (h : a.data.toList = b.data.toList) : a = b := by
  cases a; cases b
  congr 1
  exact Array.ext' h

theorem size_len (s : ByteArray) : s.data.toList.length = s.size := by rw [Array.length_toList]; rfl

theorem txt_codeOf (s : ByteArray) : txt s.size (codeOf s) = s := by
  apply bytes_ext
  rw [txt_data]
  apply List.ext_getElem?
  intro i
  rw [List.getElem?_map]
  rcases Nat.lt_or_ge i s.size with h | h
  · rw [List.getElem?_range h]
    have hl : i < s.data.toList.length := by rw [size_len]; exact h
    have hb := List.getElem?_eq_getElem hl
    have := byteN_codeL s.data.toList i _ hb
    have hlen := size_len s
    rw [hlen] at this
    rw [hb]
    simp only [Option.map_some]
    rw [show codeOf s = codeL s.data.toList from rfl, this]
    simp
  · have hl : s.data.toList.length ≤ i := by rw [size_len]; exact h
    rw [List.getElem?_eq_none hl, List.getElem?_eq_none (by simpa using h)]
    rfl

/-- a text of a list of bytes -/
theorem txt_list (l : List UInt8) : txt l.length (codeL l) = ⟨l.toArray⟩ := by
  have := txt_codeOf ⟨l.toArray⟩
  have e : (⟨l.toArray⟩ : ByteArray).size = l.length := by simp [ByteArray.size]
  rw [e] at this
  simpa [codeOf] using this

/- encoding -/
noncomputable def badL (l : List FV) : Bool := List.rec (motive := fun _ => Bool) false (fun x _ ih => Bool.rec (motive := fun _ => Bool) ih true (Nat.beq x.t 99)) l
/-- are there others than cells? -/
noncomputable def badC (l : List FV) : Bool := List.rec (motive := fun _ => Bool) false (fun x _ ih => Bool.rec (motive := fun _ => Bool) true ih (Nat.ble x.t 14)) l
noncomputable def V0 (t : Nat) : FV := ⟨t, 0, 0, 0, p0, [], []⟩
mutual
noncomputable def enc : AV → FV
  | .int k (.ofNat n) => ⟨0, kindNo k, n, 0, p0, [], []⟩
  | .int k (.negSucc n) => ⟨1, kindNo k, n, 0, p0, [], []⟩
  | .bool b => ⟨2, if b then 1 else 0, 0, 0, p0, [], []⟩
  | .str s => ⟨3, s.size, codeOf s, 0, p0, [], []⟩
  | .ptr b o => if b < top then ⟨4, o, 0, 0, pth b, [], []⟩ else bad
  | .nilp => V0 5
  | .slice b o n z tight => if b < top then ⟨if tight then 7 else 6, o, n, z, pth b, [], []⟩ else bad
  | .nils => V0 8
  | .map b => if b < top then ⟨9, 0, 0, 0, pth b, [], []⟩ else bad
  | .nilm => V0 10
  | .func (.func f) a b => if badL (encL a) || badL (encL b) then bad else ⟨11, f, 0, 0, p0, encL a, encL b⟩
  | .func _ _ _ => bad
  | .nilf => V0 12
  | .iface t v => if badL [enc v] then bad else ⟨13, t, 0, 0, p0, [enc v], []⟩
  | .nili => V0 14
  | .agg l => if badC (encL l) then bad else ⟨15, 0, 0, 0, p0, encL l, []⟩
  | .tup l => if badL (encL l) then bad else ⟨16, 0, 0, 0, p0, encL l, []⟩
noncomputable def encL : List AV → List FV
  | [] => []
  | x :: l => enc x :: encL l
end

theorem badL_cons (x : FV) (l : List FV) : badL (x :: l) = (Nat.beq x.t 99 || badL l) := by
  show Bool.rec (motive := fun _ => Bool) (badL l) true (Nat.beq x.t 99) = _
  cases Nat.beq x.t 99 <;> rfl
theorem badC_cons (x : FV) (l : List FV) : badC (x :: l) = (!Nat.ble x.t 14 || badC l) := by
  show Bool.rec (motive := fun _ => Bool) true (badC l) (Nat.ble x.t 14) = _
  cases Nat.ble x.t 14 <;> rfl
theorem badL_mem {l : List FV} (h : badL l = false) : ∀ x ∈ l, x.t ≠ 99 := by
  induction l with
  | nil => simp
  | cons y l ih =>
    rw [badL_cons, Bool.or_eq_false_iff] at h
    intro x hx
    rcases List.mem_cons.1 hx with rfl | hx
    · intro e; rw [e] at h; cases h.1
    · exact ih h.2 x hx

mutual
theorem dec_enc : ∀ (v : AV), (enc v).t ≠ 99 → dec (enc v) = v
  | .int k (.ofNat n), _ => by simp [enc, dec, kindOf_no]
  | .int k (.negSucc n), _ => by simp [enc, dec, kindOf_no]
  | .bool b, _ => by cases b <;> simp [enc, dec] <;> rfl
  | .str s, _ => by simp [enc, dec, txt_codeOf]
  | .ptr b o, h => by
    simp only [enc] at h ⊢
    split at h
    · rename_i hb
      rw [if_pos hb]
      simp [dec, dec_pth hb]
    · exact absurd rfl h
  | .nilp, _ => by simp [enc, V0, dec]
  | .slice b o n z tight, h => by
    simp only [enc] at h ⊢
    split at h
    · rename_i hb
      rw [if_pos hb]
      cases tight <;> simp [dec, dec_pth hb]
    · exact absurd rfl h
  | .nils, _ => by simp [enc, V0, dec]
  | .map b, h => by
    simp only [enc] at h ⊢
    split at h
    · rename_i hb
      rw [if_pos hb]
      simp [dec, dec_pth hb]
    · exact absurd rfl h
  | .nilm, _ => by simp [enc, V0, dec]
  | .func (.func f) a b, h => by
    simp only [enc] at h ⊢
    split at h
    · exact absurd rfl h
    · rename_i hb
      rw [if_neg hb]
      simp only [Bool.or_eq_true, not_or, Bool.not_eq_true] at hb
      have e1 := decL_encL a hb.1
      have e2 := decL_encL b hb.2
      unfold decL at e1 e2
      simp [dec, e1, e2]
  | .func (.method _) _ _, h => absurd rfl h
  | .func (.methodOf _ _) _ _, h => absurd rfl h
  | .func (.via _ _ _ _) _ _, h => absurd rfl h
  | .func (.yield _) _ _, h => absurd rfl h
  | .nilf, _ => by simp [enc, V0, dec]
  | .iface t v, h => by
    simp only [enc] at h ⊢
    split at h
    · exact absurd rfl h
    · rename_i hb
      rw [if_neg hb]
      rw [badL_cons] at hb
      have hv : (enc v).t ≠ 99 := fun e => hb (by rw [e]; rfl)
      simp [dec, dec_enc v hv]
  | .nili, _ => by simp [enc, V0, dec]
  | .agg l, h => by
    simp only [enc] at h ⊢
    split at h
    · exact absurd rfl h
    · rename_i hb
      rw [if_neg hb]
      simp only [Bool.not_eq_true] at hb
      have e1 := decC_encL l hb
      unfold decC at e1
      simp [dec, e1]
  | .tup l, h => by
    simp only [enc] at h ⊢
    split at h
    · exact absurd rfl h
    · rename_i hb
      rw [if_neg hb]
      simp only [Bool.not_eq_true] at hb
      have e1 := decL_encL l hb
      unfold decL at e1
      simp [dec, e1]
theorem decL_encL : ∀ (l : List AV), badL (encL l) = false → decL (encL l) = l
  | [], _ => by simp only [encL, decL_nil]
  | x :: l, h => by
    simp only [encL] at h ⊢
    rw [badL_cons, Bool.or_eq_false_iff] at h
    have hx : (enc x).t ≠ 99 := fun e => by rw [e] at h; cases h.1
    rw [decL_cons, dec_enc x hx, decL_encL l h.2]
theorem decC_encL : ∀ (l : List AV), badC (encL l) = false → decC (encL l) = l
  | [], _ => by simp only [encL, decC_nil]
  | x :: l, h => by
    simp only [encL] at h ⊢
    rw [badC_cons, Bool.or_eq_false_iff] at h
    have hb : Nat.ble (enc x).t 14 = true := by simpa using h.1
    have hx : (enc x).t ≠ 99 := fun e => by rw [e] at hb; cases hb
    rw [decC_cons, cell_of hb, dec_enc x hx, decC_encL l h.2]
end

end Go.Fast
