/- The fast evaluator: texts. -/
import Derived.Test.YtckjdbmadheamaaGreatDoorA4
import Derived.Laws.Strings
set_option linter.all false
namespace Go.Fast
open Go.Vai
variable [S : Sym]

theorem byteN_lt (n c i : Nat) : byteN n c i < 256 := Nat.mod_lt _ (by decide)
theorem u8_of {x : Nat} (h : x < 256) : (UInt8.ofNat x).toNat = x := by
  rw [UInt8.toNat_ofNat', Nat.mod_eq_of_lt h]

theorem codeL_app (l m : List UInt8) : codeL (l ++ m) = codeL l * 256 ^ m.length + codeL m := by
  unfold codeL
  rw [List.foldl_append, codeL_acc]
  rfl

theorem codeL_range (n c : Nat) : codeL ((List.range n).map fun i => UInt8.ofNat (byteN n c i)) = c % 256 ^ n := by
  induction n with
  | zero => simp [codeL, Nat.mod_one]
  | succ n ih =>
    rw [List.range_succ_eq_map, List.map_cons, codeL_cons, List.map_map]
    have e : ((fun i => UInt8.ofNat (byteN (n + 1) c i)) ∘ Nat.succ) = fun i => UInt8.ofNat (byteN n c i) := by
      funext i
      show UInt8.ofNat (byteN (n + 1) c (i + 1)) = _
      unfold byteN
      rw [show n + 1 - 1 - (i + 1) = n - 1 - i from by omega]
    rw [e, ih, List.length_map, List.length_range, u8_of (byteN_lt _ _ _)]
    unfold byteN
    rw [show n + 1 - 1 - 0 = n from by omega, Nat.pow_succ, Nat.mod_mul]
    rw [Nat.mul_comm (256 ^ n)]
    omega

theorem codeOf_txt (n c : Nat) : codeOf (txt n c) = c % 256 ^ n := by
  unfold codeOf
  rw [txt_data, codeL_range]
theorem txt_mod (n c : Nat) : txt n (c % 256 ^ n) = txt n c := by
  have := txt_codeOf (txt n c)
  rw [txt_size, codeOf_txt] at this
  exact this
theorem txt_eq {n c m d : Nat} : txt n c = txt m d ↔ n = m ∧ c % 256 ^ n = d % 256 ^ m := by
  constructor
  · intro h
    have h1 := congrArg ByteArray.size h
    rw [txt_size, txt_size] at h1
    have h2 := congrArg codeOf h
    rw [codeOf_txt, codeOf_txt] at h2
    exact ⟨h1, h2⟩
  · rintro ⟨rfl, h⟩
    rw [← txt_mod n c, h, txt_mod]

noncomputable def txtEq (a b a' b' : Nat) : Bool := andB (Nat.beq a a') (Nat.beq (Nat.mod b (Nat.pow 256 a)) (Nat.mod b' (Nat.pow 256 a)))
theorem txtEq_ok (a b a' b' : Nat) : txtEq a b a' b' = ((txt a b).toList == (txt a' b').toList) := by
  rw [Bool.eq_iff_iff]
  unfold txtEq
  rw [andB_eq, Bool.and_eq_true, Nat.beq_eq, Nat.beq_eq, beq_iff_eq, ByteArray.toList_eq, ByteArray.toList_eq]
  constructor
  · rintro ⟨rfl, h⟩
    have : txt a b = txt a b' := txt_eq.2 ⟨rfl, h⟩
    rw [this]
  · intro h
    have := txt_eq.1 (bytes_ext h)
    obtain ⟨rfl, h⟩ := this
    exact ⟨rfl, h⟩

theorem code_eq {s s' : ByteArray} (h1 : s.size = s'.size) (h2 : codeOf s = codeOf s') : s = s' := by
  rw [← txt_codeOf s, ← txt_codeOf s', h1, h2]

theorem txt_cat (a b a' b' : Nat) : txt (a + a') (b * 256 ^ a' + b' % 256 ^ a') = txt a b ++ txt a' b' := by
  apply code_eq
  · rw [txt_size, ByteArray.size_append, txt_size, txt_size]
  · rw [codeOf_txt]
    unfold codeOf
    rw [ByteArray.toList_data_append, codeL_app]
    rw [show codeL (txt a b).data.toList = codeOf (txt a b) from rfl, show codeL (txt a' b').data.toList = codeOf (txt a' b') from rfl, codeOf_txt, codeOf_txt, size_len, txt_size]
    have hp : 0 < 256 ^ a' := Nat.pow_pos (by decide)
    have hl : b' % 256 ^ a' < 256 ^ a' := Nat.mod_lt _ hp
    rw [Nat.add_comm a a', Nat.pow_add, Nat.mod_mul]
    rw [Nat.mul_comm b, Nat.mul_add_mod, Nat.mod_mod, Nat.mul_add_div hp, Nat.div_eq_of_lt hl, Nat.add_zero]
    rw [Nat.mul_comm (256 ^ a') (b % 256 ^ a)]
    omega

theorem txt_cut {a l u : Nat} (b : Nat) (h1 : l ≤ u) (h2 : u ≤ a) : txt (u - l) (b / 256 ^ (a - u) % 256 ^ (u - l)) = (txt a b).extract l u := by
  rw [txt_mod]
  apply bytes_ext
  rw [ByteArray.data_extract, Array.toList_extract, txt_data, txt_data]
  rw [List.extract_eq_drop_take]
  apply List.ext_getElem?
  intro i
  rw [List.getElem?_take, List.getElem?_drop, List.getElem?_map, List.getElem?_map]
  by_cases hi : i < u - l
  · rw [if_pos hi, List.getElem?_range hi, List.getElem?_range (by omega)]
    simp only [Option.map_some]
    unfold byteN
    rw [Nat.div_div_eq_div_mul, ← Nat.pow_add, show a - u + (u - l - 1 - i) = a - 1 - (l + i) from by omega]
  · rw [if_neg hi, List.getElem?_eq_none (by simpa using hi)]
    rfl

noncomputable def byteAt (n c i : Nat) : Nat := Nat.mod (Nat.div c (Nat.pow 256 (Nat.sub (Nat.sub n 1) i))) 256
theorem txt_at {n c i : Nat} (h : i < n) : (txt n c)[i]? = some (UInt8.ofNat (byteAt n c i)) := by
  have h1 : i < (txt n c).size := by rw [txt_size]; exact h
  have h2 := txt_get (c := c) h
  rw [Array.getElem?_toList] at h2
  have h3 : (txt n c)[i]? = (txt n c).data[i]? := by
    rw [getElem?_pos (txt n c) i h1, getElem?_pos (txt n c).data i h1]
    rfl
  rw [h3, h2]
  rfl
theorem byteAt_lt (n c i : Nat) : byteAt n c i < 256 := Nat.mod_lt _ (by decide)

/- two texts, else the slow way -/
noncomputable def strK (s : PK) (f : Nat → Nat → Nat → Nat → FV → FV) (x y : OpdK) : PK :=
  ⟨fun e h => onV (fun t a b _ _ _ _ => onV (fun t' a' b' _ _ _ _ => iV (andB (Nat.beq t 3) (Nat.beq t' 3)) (f a b a' b' (s.run e h)) (s.run e h)) (y.g e)) (x.g e)⟩
def StrOk (op : BinOp) (f : Nat → Nat → Nat → Nat → FV → FV) : Prop :=
  ∀ (a b a' b' : Nat) (s r : FV), r = f a b a' b' s → r = s ∨ binS op (txt a b) (txt a' b') = some (dec r)
theorem strK_ok {P : Program} {op : BinOp} {t : TypeId} {x y : Operand} {yt : TypeId} {s : PK} {f : Nat → Nat → Nat → Nat → FV → FV} (hs : POk P (.binOp op t x y yt) s) (hf : StrOk op f) :
    POk P (.binOp op t x y yt) (strK s f (opdK x) (opdK y)) := by
  intro cf e h r hr g
  simp only [strK, onV_eq] at hr
  rcases iV_or hr with ⟨h1, h2⟩ | ⟨_, h2⟩
  · obtain ⟨ha, hb⟩ := andB_t h1
    have ha := beq_t ha; have hb := beq_t hb
    rcases hf _ _ _ _ _ _ h2 with h3 | h3
    · exact hs cf e h r h3 g
    · have o1 := opdK_ok x e _ rfl (by omega)
      have o2 := opdK_ok y e _ rfl (by omega)
      simp only [evOp, o1, o2, Option.bind_eq_bind, Option.bind_some]
      rw [dec_str ha, dec_str hb, binA_str h3]
      rfl
  · exact hs cf e h r h2 g
noncomputable def addS (a b a' b' : Nat) (s : FV) : FV := iV (Nat.ble (Nat.add a a') 9223372036854775807) ⟨3, Nat.add a a', Nat.add (Nat.mul b (Nat.pow 256 a')) (Nat.mod b' (Nat.pow 256 a')), 0, p0, [], []⟩ s
noncomputable def eqlS (a b a' b' : Nat) (_s : FV) : FV := vB (txtEq a b a' b')
noncomputable def neqS (a b a' b' : Nat) (_s : FV) : FV := vB (notB (txtEq a b a' b'))
theorem addS_ok : StrOk .add addS := by
  intro a b a' b' s r h
  rcases iV_or h with ⟨h1, rfl⟩ | ⟨_, h1⟩
  · right
    have h1 : a + a' ≤ 9223372036854775807 := ble_t h1
    unfold binS
    rw [txt_size, txt_size]
    dsimp only
    rw [if_pos h1, ← txt_cat]
    rfl
  · exact .inl h1
theorem eqlS_ok : StrOk .eql eqlS := by
  intro a b a' b' s r h
  right; subst h
  unfold eqlS binS
  rw [dec_vB, txtEq_ok]
theorem neqS_ok : StrOk .neq neqS := by
  intro a b a' b' s r h
  right; subst h
  unfold neqS binS
  rw [dec_vB, txtEq_ok, notB_eq]

/- nil or not: 'lo' to 'hi' are the tags of those that are none, 'z' is nil's -/
noncomputable def consB (l : List FV) : Bool := List.rec (motive := fun _ => Bool) false (fun _ _ _ => true) l
noncomputable def nilK (s : PK) (q : List FV → Bool) (neg : Bool) (lo hi z : Nat) (x y : OpdK) : PK :=
  ⟨fun e h => onV (fun t _ _ _ _ l _ => onV (fun t' _ _ _ _ l' _ => iV (orB (andB (Nat.beq t' z) (andB (Nat.ble lo t) (andB (Nat.ble t hi) (q l)))) (andB (Nat.beq t z) (andB (Nat.ble lo t') (andB (Nat.ble t' hi) (q l'))))) (vB neg) (s.run e h)) (y.g e)) (x.g e)⟩
theorem consB_ok {l : List FV} (h : consB l = true) : ∃ a r, l = a :: r := by
  cases l with
  | nil => cases h
  | cons a r => exact ⟨a, r, rfl⟩
theorem nilK_ok {P : Program} {op : BinOp} {t : TypeId} {x y : Operand} {yt : TypeId} {s : PK} {q : List FV → Bool} {neg : Bool} {lo hi z : Nat} (hs : POk P (.binOp op t x y yt) s) (hz : z < 99) (hh : hi < 99)
    (hf : ∀ v w : FV, lo ≤ v.t → v.t ≤ hi → w.t = z → q v.l = true → binA P op t x y (dec v) (dec w) = some (.bool neg) ∧ binA P op t x y (dec w) (dec v) = some (.bool neg)) :
    POk P (.binOp op t x y yt) (nilK s q neg lo hi z (opdK x) (opdK y)) := by
  intro cf e h r hr g
  simp only [nilK, onV_eq] at hr
  rcases iV_or hr with ⟨h1, h2⟩ | ⟨_, h2⟩
  · simp only [orB_eq, andB_eq, Bool.or_eq_true, Bool.and_eq_true] at h1
    rcases h1 with ⟨ha, hb, hc, hq⟩ | ⟨ha, hb, hc, hq⟩
    · have ha := beq_t ha; have hb := ble_t hb; have hc := ble_t hc
      have o1 := opdK_ok x e _ rfl (by omega)
      have o2 := opdK_ok y e _ rfl (by omega)
      simp only [evOp, o1, o2, Option.bind_eq_bind, Option.bind_some]
      rw [(hf _ _ hb hc ha hq).1, h2, dec_vB]
      rfl
    · have ha := beq_t ha; have hb := ble_t hb; have hc := ble_t hc
      have o1 := opdK_ok x e _ rfl (by omega)
      have o2 := opdK_ok y e _ rfl (by omega)
      simp only [evOp, o1, o2, Option.bind_eq_bind, Option.bind_some]
      rw [(hf _ _ hb hc ha hq).2, h2, dec_vB]
      rfl
  · exact hs cf e h r h2 g

theorem nil_ptr {P : Program} {t el : TypeId} {x y : Operand} (ht : P.underlying t = some (.pointer el)) (v w : FV) (h1 : 4 ≤ v.t) (h2 : v.t ≤ 4) (h3 : w.t = 5) :
    (binA P .eql t x y (dec v) (dec w) = some (.bool false) ∧ binA P .eql t x y (dec w) (dec v) = some (.bool false)) ∧ (binA P .neq t x y (dec v) (dec w) = some (.bool true) ∧ binA P .neq t x y (dec w) (dec v) = some (.bool true)) := by
  rw [dec_ptr (show v.t = 4 by omega), dec_nilp h3]
  simp [binA, scalarV, val?, nilEq, binA.nilFits, ht]
theorem nil_slice {P : Program} {t el : TypeId} {x y : Operand} (ht : P.underlying t = some (.slice el)) (v w : FV) (h1 : 6 ≤ v.t) (h2 : v.t ≤ 7) (h3 : w.t = 8) :
    (binA P .eql t x y (dec v) (dec w) = some (.bool false) ∧ binA P .eql t x y (dec w) (dec v) = some (.bool false)) ∧ (binA P .neq t x y (dec v) (dec w) = some (.bool true) ∧ binA P .neq t x y (dec w) (dec v) = some (.bool true)) := by
  rw [dec_nils h3]
  rcases (show v.t = 6 ∨ v.t = 7 by omega) with h | h
  · rw [dec_slice h]; simp [binA, scalarV, val?, nilEq, binA.nilFits, ht]
  · rw [dec_sliceT h]; simp [binA, scalarV, val?, nilEq, binA.nilFits, ht]
theorem nil_map {P : Program} {t a b : TypeId} {x y : Operand} (ht : P.underlying t = some (.map a b)) (v w : FV) (h1 : 9 ≤ v.t) (h2 : v.t ≤ 9) (h3 : w.t = 10) :
    (binA P .eql t x y (dec v) (dec w) = some (.bool false) ∧ binA P .eql t x y (dec w) (dec v) = some (.bool false)) ∧ (binA P .neq t x y (dec v) (dec w) = some (.bool true) ∧ binA P .neq t x y (dec w) (dec v) = some (.bool true)) := by
  rw [dec_map (show v.t = 9 by omega), dec_nilm h3]
  simp [binA, scalarV, val?, nilEq, binA.nilFits, ht]
theorem val_iface {t : TypeId} {a : AV} {u : Value} (h : val? (.iface t a) = some u) : ∃ v, u = .iface t v := by
  cases a <;> simp [val?] at h <;> exact ⟨_, h.symm⟩
theorem semP_bind {α β : Type} {P : Program} (x : Sem α) (f : α → Sem β) : semP P (x >>= f) = (semP P x).bind fun a => semP P (f a) := by
  show semP P (Sem.bind x f) = _
  induction x with
  | pure a => rfl
  | program k ih => exact ih P
  | mark m k ih => exact ih
  | _ => rfl
theorem semP_underlying {P : Program} {t : TypeId} {d : TypeDesc} (h : P.underlying t = some d) : semP P (underlying t) = some d := by
  show semP P (match P.underlying t with | some d => pure d | none => stuck "no such type") = _
  rw [h]; rfl
theorem equalIn_nil {P : Program} {t u : TypeId} {ms : Array (String × TypeId)} {z : Value} (ht : P.underlying t = some (.interface ms)) (d : Nat) :
    semP P (Op.equalIn (d + 1) t (.iface u z) .nilIface) = some false ∧ semP P (Op.equalIn (d + 1) t .nilIface (.iface u z)) = some false := by
  constructor
  · rw [Op.equalIn, semP_bind, semP_underlying ht]; rfl
  · rw [Op.equalIn, semP_bind, semP_underlying ht]; rfl
theorem equal_nil {P : Program} {t u : TypeId} {ms : Array (String × TypeId)} {z : Value} (ht : P.underlying t = some (.interface ms)) :
    semP P (Op.equal t (.iface u z) .nilIface) = some false ∧ semP P (Op.equal t .nilIface (.iface u z)) = some false := equalIn_nil ht 9999
theorem binA_nilI {P : Program} {t u : TypeId} {ms : Array (String × TypeId)} {x y : Operand} {a : AV} {z : Value} (ht : P.underlying t = some (.interface ms)) (ha : val? (.iface u a) = some (.iface u z)) :
    (binA P .eql t x y (.iface u a) .nili = some (.bool false) ∧ binA P .eql t x y .nili (.iface u a) = some (.bool false)) ∧ (binA P .neq t x y (.iface u a) .nili = some (.bool true) ∧ binA P .neq t x y .nili (.iface u a) = some (.bool true)) := by
  obtain ⟨e1, e2⟩ := equal_nil (z := z) (u := u) ht
  have hn : val? .nili = some .nilIface := rfl
  have g1 : ∀ (op : BinOp), eqGuard op t x y (.iface u z) .nilIface = pure () := fun op => by cases op <;> rfl
  have g2 : ∀ (op : BinOp), eqGuard op t x y .nilIface (.iface u z) = pure () := fun op => by cases op <;> rfl
  refine ⟨⟨?_, ?_⟩, ?_, ?_⟩ <;> unfold binA <;> simp only [scalarV, ha, hn, g1, g2, binOp] <;>
    simp only [semP_bind, semP_pure, e1, e2, Option.bind_some, Option.bind_eq_bind, ofV, Bool.not_false]
theorem nil_iface {P : Program} {t : TypeId} {ms : Array (String × TypeId)} {x y : Operand} (ht : P.underlying t = some (.interface ms)) (v w : FV) (h1 : 13 ≤ v.t) (h2 : v.t ≤ 13) (h3 : w.t = 14) (h4 : ∃ a r, v.l = a :: r) :
    (binA P .eql t x y (dec v) (dec w) = some (.bool false) ∧ binA P .eql t x y (dec w) (dec v) = some (.bool false)) ∧ (binA P .neq t x y (dec v) (dec w) = some (.bool true) ∧ binA P .neq t x y (dec w) (dec v) = some (.bool true)) := by
  obtain ⟨a, r, hl⟩ := h4
  rw [dec_iface (show v.t = 13 by omega) hl, dec_nili h3]
  generalize dec a = d
  cases hv : val? (.iface v.a d) with
  | none => simp [binA, scalarV, hv, nilEq, binA.nilFits, ht]
  | some u =>
    obtain ⟨z, rfl⟩ := val_iface hv
    exact binA_nilI ht hv

end Go.Fast
