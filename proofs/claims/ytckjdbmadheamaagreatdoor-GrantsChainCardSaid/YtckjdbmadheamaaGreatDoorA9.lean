/- The fast evaluator: every operation as a closure. -/
import Derived.Test.YtckjdbmadheamaaGreatDoorA8
set_option linter.all false
namespace Go.Fast
open Go.Vai
variable [S : Sym]

inductive AnyK where
  | p (k : PK)
  | e (k : EK)
def AOk (P : Program) (o : Op) : AnyK → Prop
  | .p k => POk P o k
  | .e k => EOk P o k

noncomputable def encCells (l : List AV) : Option (List FV) := match badC (encL l) with
  | false => some (encL l)
  | true => none
theorem encCells_ok {l : List AV} {r : List FV} (h : encCells l = some r) : decC r = l := by
  unfold encCells at h
  split at h
  · rename_i hb; cases h; exact decC_encL l hb
  · cases h
noncomputable def encZ (v : AV) : Option FV := match Nat.beq (enc v).t 99 with
  | false => some (enc v)
  | true => none
theorem encZ_ok {v : AV} {r : FV} (h : encZ v = some r) : dec r = v := by
  unfold encZ at h
  split at h
  · rename_i hb; cases h; exact dec_enc v (beq_f hb)
  · cases h

noncomputable def slowPK (P : Program) (o : Op) : PK := match looksOnly P o with
  | true => slowK P o
  | false => badPK
theorem slowPK_ok (P : Program) (o : Op) : POk P o (slowPK P o) := by
  unfold slowPK
  split
  · rename_i h; exact slowK_ok h
  · exact badPK_ok P o

noncomputable def compLoad (P : Program) (t : TypeId) (x : Operand) : AnyK :=
  match isAggT P t, sizeT P t with
  | some false, _ => .p (loadC (opdK x))
  | some true, some n => if n = 0 then .p badPK else .p (loadA n (opdK x))
  | _, _ => .p badPK
theorem compLoad_ok (P : Program) (t : TypeId) (x : Operand) : AOk P (.load t x) (compLoad P t x) := by
  unfold compLoad
  split
  · rename_i h; exact loadC_ok h
  · rename_i h1 h2
    split
    · exact badPK_ok P _
    · rename_i h0; exact loadA_ok h1 h2 h0
  · exact badPK_ok P _

noncomputable def compStore (P : Program) (t : TypeId) (x y : Operand) : AnyK :=
  match sizeT P t with
  | some n => if n = 0 then .p badPK else .e (storeK n (opdK x) (opdK y))
  | none => .p badPK
theorem compStore_ok (P : Program) (t : TypeId) (x y : Operand) : AOk P (.store t x y) (compStore P t x y) := by
  unfold compStore
  split
  · rename_i h
    split
    · exact badPK_ok P _
    · rename_i h0; exact storeK_ok h h0
  · exact badPK_ok P _

noncomputable def compAlloc (P : Program) (t : TypeId) : AnyK :=
  match zeroT P t with
  | some z => match encCells z.cells with
    | some l => .e (allocK l)
    | none => .p badPK
  | none => .p badPK
theorem compAlloc_ok (P : Program) (t : TypeId) : AOk P (.alloc t) (compAlloc P t) := by
  unfold compAlloc
  split
  · rename_i hz
    split
    · rename_i hl; exact allocK_ok hz (encCells_ok hl)
    · exact badPK_ok P _
  · exact badPK_ok P _

noncomputable def compBox (P : Program) (t : TypeId) (x : Operand) : AnyK :=
  match sizeT P t with
  | some n => if n = 0 then .p badPK else .e (boxK n (opdK x))
  | none => .p badPK
theorem compBox_ok (P : Program) (t : TypeId) (x : Operand) : AOk P (.box t x) (compBox P t x) := by
  unfold compBox
  split
  · rename_i h
    split
    · exact badPK_ok P _
    · rename_i h0; exact boxK_ok h h0
  · exact badPK_ok P _

noncomputable def compBuild (P : Program) (t : TypeId) (ps : Array (Nat × Operand)) : AnyK :=
  match zeroT P t with
  | some z => match encCells z.cells with
    | some l => match P.underlying t with
      | some (.struct fs) => match fieldPlaces P fs.toList with
        | some pl => match partsF (pl[·]?) ps.toList with
          | some ks => .p (buildK l (fillK ks))
          | none => .p badPK
        | none => .p badPK
      | some (.array _ el) => match sizeT P el with
        | some n => if n = 0 then .p badPK else match partsF (fun i => some (i * n, n)) ps.toList with
          | some ks => .p (buildK l (fillK ks))
          | none => .p badPK
        | none => .p badPK
      | _ => .p badPK
    | none => .p badPK
  | none => .p badPK
theorem compBuild_ok (P : Program) (t : TypeId) (ps : Array (Nat × Operand)) : AOk P (.build t ps) (compBuild P t ps) := by
  unfold compBuild
  split
  · rename_i hz
    split
    · rename_i hl
      split
      · rename_i ht
        split
        · rename_i hp
          split
          · rename_i hk; exact buildS_ok hz (encCells_ok hl) ht hp hk
          · exact badPK_ok P _
        · exact badPK_ok P _
      · rename_i ht
        split
        · rename_i hn
          split
          · exact badPK_ok P _
          · rename_i h0
            split
            · rename_i hk; exact buildR_ok hz (encCells_ok hl) ht hn h0 hk
            · exact badPK_ok P _
        · exact badPK_ok P _
      · exact badPK_ok P _
    · exact badPK_ok P _
  · exact badPK_ok P _

noncomputable def compBuildSlice (P : Program) (t : TypeId) (len : Nat) (ps : Array (Nat × Operand)) : AnyK :=
  match P.underlying t with
  | some (.slice el) => match sizeT P el, zeroT P el with
    | some n, some z => if n = 0 ∨ 2 ^ 24 < len * n then .p badPK else match encCells (repL z.cells len), partsF (fun i => some (i * n, n)) ps.toList with
      | some l, some ks => .e (buildSliceK n len l (fillK ks))
      | _, _ => .p badPK
    | _, _ => .p badPK
  | _ => .p badPK
theorem compBuildSlice_ok (P : Program) (t : TypeId) (len : Nat) (ps : Array (Nat × Operand)) : AOk P (.buildSlice t len ps) (compBuildSlice P t len ps) := by
  unfold compBuildSlice
  split
  · rename_i ht
    split
    · rename_i hn hz
      split
      · exact badPK_ok P _
      · rename_i h0
        split
        · rename_i hl hk; exact buildSliceK_ok ht hn h0 hz (encCells_ok hl) hk
        · exact badPK_ok P _
    · exact badPK_ok P _
  · exact badPK_ok P _

noncomputable def compFieldAddr (P : Program) (s : TypeId) (x : Operand) (f : Nat) : AnyK :=
  match P.underlying s with
  | some (.struct fs) => match fs[f]? with
    | some fd => match sizeT P fd.type with
      | some n => if n = 0 then .p badPK else .p (fieldAddrK fd.offset (opdK x))
      | none => .p badPK
    | none => .p badPK
  | _ => .p badPK
theorem compFieldAddr_ok (P : Program) (s : TypeId) (x : Operand) (f : Nat) : AOk P (.fieldAddr s x f) (compFieldAddr P s x f) := by
  unfold compFieldAddr
  split
  · rename_i hs
    split
    · rename_i hf
      split
      · rename_i hn
        split
        · exact badPK_ok P _
        · rename_i h0; exact fieldAddrK_ok hs hf hn h0
      · exact badPK_ok P _
    · exact badPK_ok P _
  · exact badPK_ok P _

noncomputable def compField (P : Program) (t : TypeId) (x : Operand) (f : Nat) : AnyK :=
  match P.underlying t with
  | some (.struct fs) => match fs[f]? with
    | some fd => match isAggT P fd.type, sizeT P fd.type with
      | some false, _ => .p (partC fd.offset (opdK x))
      | some true, some n => if n = 0 then .p badPK else .p (partV n fd.offset (opdK x))
      | _, _ => .p badPK
    | none => .p badPK
  | _ => .p badPK
theorem compField_ok (P : Program) (t : TypeId) (x : Operand) (f : Nat) : AOk P (.field t x f) (compField P t x f) := by
  unfold compField
  split
  · rename_i hs
    split
    · rename_i hf
      split
      · rename_i ha; exact fieldC_ok hs hf ha
      · rename_i ha hn
        split
        · exact badPK_ok P _
        · rename_i h0; exact fieldV_ok hs hf ha hn h0
      · exact badPK_ok P _
    · exact badPK_ok P _
  · exact badPK_ok P _

noncomputable def compIndexAddr (P : Program) (t : TypeId) (x ix : Operand) : AnyK :=
  match P.underlying t with
  | some (.slice el) => match sizeT P el with
    | some n => if n = 0 then .p badPK else .p (indexAddrK n (opdK x) (opdK ix))
    | none => .p badPK
  | some (.array len el) => match sizeT P el with
    | some n => if n = 0 then .p badPK else .p (indexArrK len n (opdK x) (opdK ix))
    | none => .p badPK
  | _ => .p badPK
theorem compIndexAddr_ok (P : Program) (t : TypeId) (x ix : Operand) : AOk P (.indexAddr t x ix) (compIndexAddr P t x ix) := by
  unfold compIndexAddr
  split
  · rename_i ht
    split
    · rename_i hn
      split
      · exact badPK_ok P _
      · rename_i h0; exact indexAddrK_ok ht hn h0
    · exact badPK_ok P _
  · rename_i ht
    split
    · rename_i hn
      split
      · exact badPK_ok P _
      · rename_i h0; exact indexArrK_ok ht hn h0
    · exact badPK_ok P _
  · exact badPK_ok P _

noncomputable def compIndex (P : Program) (t : TypeId) (x ix : Operand) : AnyK :=
  match P.underlying t with
  | some .string => .p (indexStrK (opdK x) (opdK ix))
  | some (.array len el) => match isAggT P el, sizeT P el with
    | some false, some n => .p (indexAC len n (opdK x) (opdK ix))
    | some true, some n => if n = 0 then .p badPK else .p (indexAV len n (opdK x) (opdK ix))
    | _, _ => .p badPK
  | _ => .p badPK
theorem compIndex_ok (P : Program) (t : TypeId) (x ix : Operand) : AOk P (.index t x ix) (compIndex P t x ix) := by
  unfold compIndex
  split
  · rename_i ht; exact indexStrK_ok ht
  · rename_i ht
    split
    · rename_i ha hn; exact indexAC_ok ht ha hn
    · rename_i ha hn
      split
      · exact badPK_ok P _
      · rename_i h0; exact indexAV_ok ht ha hn h0
    · exact badPK_ok P _
  · exact badPK_ok P _

noncomputable def compSlice (P : Program) (t : TypeId) (x : Operand) (lo hi mx : Option Operand) : AnyK :=
  match mx with
  | none => match P.underlying t with
    | some .string => .p (sliceStrK (opdK x) (boundK lo) (boundK hi))
    | some (.slice el) => match sizeT P el with
      | some n => .p (sliceSlK (slowPK P (.slice t x lo hi none)) n (opdK x) (boundK lo) (boundK hi))
      | none => .p badPK
    | _ => .p badPK
  | some m => match P.underlying t, hi with
    | some (.slice el), some h => match sizeT P el with
      | some n => .p (sliceMK n (opdK x) (boundK lo) (opdK h) (opdK m))
      | none => .p badPK
    | _, _ => .p badPK
theorem compSlice_ok (P : Program) (t : TypeId) (x : Operand) (lo hi mx : Option Operand) : AOk P (.slice t x lo hi mx) (compSlice P t x lo hi mx) := by
  unfold compSlice
  split
  · split
    · rename_i ht; exact sliceStrK_ok ht
    · rename_i ht
      split
      · rename_i hn; exact sliceSlK_ok (slowPK_ok P _) ht hn
      · exact badPK_ok P _
    · exact badPK_ok P _
  · split
    · rename_i ht
      split
      · rename_i hn; exact sliceMK_ok ht hn
      · exact badPK_ok P _
    · exact badPK_ok P _

noncomputable def compEq (P : Program) (t : TypeId) (x y : Operand) (yt : TypeId) : AnyK :=
  let s := slowPK P (.binOp .eql t x y yt)
  match P.underlying t with
  | some .string => .p (strK s eqlS (opdK x) (opdK y))
  | some (.pointer _) => .p (nilK s (fun _ => true) false 4 4 5 (opdK x) (opdK y))
  | some (.slice _) => .p (nilK s (fun _ => true) false 6 7 8 (opdK x) (opdK y))
  | some (.map _ _) => .p (nilK s (fun _ => true) false 9 9 10 (opdK x) (opdK y))
  | some (.interface _) => .p (nilK s consB false 13 13 14 (opdK x) (opdK y))
  | _ => .p (numK s eqlI (opdK x) (opdK y))
theorem compEq_ok (P : Program) (t : TypeId) (x y : Operand) (yt : TypeId) : AOk P (.binOp .eql t x y yt) (compEq P t x y yt) := by
  have hs := slowPK_ok P (.binOp .eql t x y yt)
  unfold compEq
  dsimp only
  split
  · exact strK_ok hs eqlS_ok
  · rename_i ht; exact nilK_ok hs (by decide) (by decide) (fun v w h1 h2 h3 _ => (nil_ptr ht v w h1 h2 h3).1)
  · rename_i ht; exact nilK_ok hs (by decide) (by decide) (fun v w h1 h2 h3 _ => (nil_slice ht v w h1 h2 h3).1)
  · rename_i ht; exact nilK_ok hs (by decide) (by decide) (fun v w h1 h2 h3 _ => (nil_map ht v w h1 h2 h3).1)
  · rename_i ht; exact nilK_ok hs (by decide) (by decide) (fun v w h1 h2 h3 h4 => (nil_iface ht v w h1 h2 h3 (consB_ok h4)).1)
  · exact numK_ok hs eqlI_ok
noncomputable def compNe (P : Program) (t : TypeId) (x y : Operand) (yt : TypeId) : AnyK :=
  let s := slowPK P (.binOp .neq t x y yt)
  match P.underlying t with
  | some .string => .p (strK s neqS (opdK x) (opdK y))
  | some (.pointer _) => .p (nilK s (fun _ => true) true 4 4 5 (opdK x) (opdK y))
  | some (.slice _) => .p (nilK s (fun _ => true) true 6 7 8 (opdK x) (opdK y))
  | some (.map _ _) => .p (nilK s (fun _ => true) true 9 9 10 (opdK x) (opdK y))
  | some (.interface _) => .p (nilK s consB true 13 13 14 (opdK x) (opdK y))
  | _ => .p (numK s neqI (opdK x) (opdK y))
theorem compNe_ok (P : Program) (t : TypeId) (x y : Operand) (yt : TypeId) : AOk P (.binOp .neq t x y yt) (compNe P t x y yt) := by
  have hs := slowPK_ok P (.binOp .neq t x y yt)
  unfold compNe
  dsimp only
  split
  · exact strK_ok hs neqS_ok
  · rename_i ht; exact nilK_ok hs (by decide) (by decide) (fun v w h1 h2 h3 _ => (nil_ptr ht v w h1 h2 h3).2)
  · rename_i ht; exact nilK_ok hs (by decide) (by decide) (fun v w h1 h2 h3 _ => (nil_slice ht v w h1 h2 h3).2)
  · rename_i ht; exact nilK_ok hs (by decide) (by decide) (fun v w h1 h2 h3 _ => (nil_map ht v w h1 h2 h3).2)
  · rename_i ht; exact nilK_ok hs (by decide) (by decide) (fun v w h1 h2 h3 h4 => (nil_iface ht v w h1 h2 h3 (consB_ok h4)).2)
  · exact numK_ok hs neqI_ok
noncomputable def compAdd (P : Program) (t : TypeId) (x y : Operand) (yt : TypeId) : AnyK :=
  let s := slowPK P (.binOp .add t x y yt)
  match P.underlying t with
  | some .string => .p (strK s addS (opdK x) (opdK y))
  | _ => .p (numK s addI (opdK x) (opdK y))
theorem compAdd_ok (P : Program) (t : TypeId) (x y : Operand) (yt : TypeId) : AOk P (.binOp .add t x y yt) (compAdd P t x y yt) := by
  have hs := slowPK_ok P (.binOp .add t x y yt)
  unfold compAdd
  dsimp only
  split
  · exact strK_ok hs addS_ok
  · exact numK_ok hs addI_ok
noncomputable def compBin (P : Program) (op : BinOp) (t : TypeId) (x y : Operand) (yt : TypeId) : AnyK :=
  let s := slowPK P (.binOp op t x y yt)
  match op with
  | .eql => compEq P t x y yt
  | .neq => compNe P t x y yt
  | .add => compAdd P t x y yt
  | .sub => .p (numK s subI (opdK x) (opdK y))
  | .mul => .p (numK s mulI (opdK x) (opdK y))
  | .quo => .p (numK s quoI (opdK x) (opdK y))
  | .rem => .p (remS s (opdK x) (opdK y))
  | .and => .p (numK s andI (opdK x) (opdK y))
  | .or => .p (numK s orI (opdK x) (opdK y))
  | .lss => .p (numK s lssI (opdK x) (opdK y))
  | .leq => .p (numK s leqI (opdK x) (opdK y))
  | .gtr => .p (numK s gtrI (opdK x) (opdK y))
  | .geq => .p (numK s geqI (opdK x) (opdK y))
  | .shl => .p (shlK s (opdK x) (opdK y))
  | .shr => .p (shrK s (opdK x) (opdK y))
  | _ => .p s
theorem compBin_ok (P : Program) (op : BinOp) (t : TypeId) (x y : Operand) (yt : TypeId) : AOk P (.binOp op t x y yt) (compBin P op t x y yt) := by
  have hs := slowPK_ok P (.binOp op t x y yt)
  cases op
  case eql => exact compEq_ok P t x y yt
  case neq => exact compNe_ok P t x y yt
  case add => exact compAdd_ok P t x y yt
  case sub => exact numK_ok hs subI_ok
  case mul => exact numK_ok hs mulI_ok
  case quo => exact numK_ok hs quoI_ok
  case rem => exact remS_ok hs
  case and => exact numK_ok hs andI_ok
  case or => exact numK_ok hs orI_ok
  case lss => exact numK_ok hs lssI_ok
  case leq => exact numK_ok hs leqI_ok
  case gtr => exact numK_ok hs gtrI_ok
  case geq => exact numK_ok hs geqI_ok
  case shl => exact shlK_ok hs
  case shr => exact shrK_ok hs
  all_goals exact hs

noncomputable def compConvert (P : Program) (s d : TypeId) (x : Operand) : AnyK :=
  match P.underlying s, P.underlying d with
  | some .string, some .string => .p (strV (opdK x))
  | some .string, some (.slice el) => match P.underlying el with
    | some (.int .u8) => .e (toBytesK (opdK x))
    | _ => .p badPK
  | some (.slice el), some .string => match P.underlying el with
    | some (.int .u8) => .p (toTextK (opdK x))
    | _ => .p badPK
  | some _, some (.int k) => .p (convIK (slowPK P (.convert s d x)) (kindNo k) (opdK x))
  | _, _ => .p badPK
theorem compConvert_ok (P : Program) (s d : TypeId) (x : Operand) : AOk P (.convert s d x) (compConvert P s d x) := by
  unfold compConvert
  split
  · rename_i hs hd; exact strV_ok hs hd
  · rename_i hs hd
    split
    · rename_i he; exact toBytesK_ok hs hd he
    · exact badPK_ok P _
  · rename_i hs hd
    split
    · rename_i he; exact toTextK_ok hs hd he
    · exact badPK_ok P _
  · exact convIK_ok (slowPK_ok P _) (by assumption) (by assumption)
  · exact badPK_ok P _

noncomputable def compIface (P : Program) (t : TypeId) (x : Operand) : AnyK :=
  match P.underlying t with
  | some (.interface _) => .p badPK
  | some _ => .p (ifaceK t (opdK x))
  | none => .p badPK
theorem compIface_ok (P : Program) (t : TypeId) (x : Operand) : AOk P (.makeInterface t x) (compIface P t x) := by
  unfold compIface
  split
  · exact badPK_ok P _
  · rename_i hn ht; exact ifaceK_ok ht (fun ms e => hn ms e)
  · exact badPK_ok P _

noncomputable def compFunc (P : Program) (f : Fn) (xs ys : Array Operand) : AnyK :=
  match f with
  | .func g => .p (funcK g (argsK (xs.toList.map opdK)) (argsK (ys.toList.map opdK)))
  | f => .p (slowPK P (.makeFunc f xs ys))
theorem compFunc_ok (P : Program) (f : Fn) (xs ys : Array Operand) : AOk P (.makeFunc f xs ys) (compFunc P f xs ys) := by
  unfold compFunc
  split
  · exact funcK_ok
  · exact slowPK_ok P _

noncomputable def compMap (t : TypeId) (r : Option Operand) : AnyK :=
  match r with
  | none => .e makeMapK
  | some _ => .p badPK
theorem compMap_ok (P : Program) (t : TypeId) (r : Option Operand) : AOk P (.makeMap t r) (compMap t r) := by
  unfold compMap
  split
  · exact makeMapK_ok
  · exact badPK_ok P _

noncomputable def compMakeSlice (P : Program) (t : TypeId) (l c : Operand) : AnyK :=
  match P.underlying t with
  | some (.slice el) => match P.info? el, zeroT P el with
    | some i, some z => if i.bytes ≤ 2 ^ 16 ∧ i.size ≠ 0 then match encCells z.cells with
      | some zf => .e (makeSliceK i.size zf (opdK l) (opdK c))
      | none => .p badPK
      else .p badPK
    | _, _ => .p badPK
  | _ => .p badPK
theorem compMakeSlice_ok (P : Program) (t : TypeId) (l c : Operand) : AOk P (.makeSlice t l c) (compMakeSlice P t l c) := by
  unfold compMakeSlice
  split
  · rename_i ht
    split
    · rename_i hi hz
      split
      · rename_i hb
        split
        · rename_i hl; exact makeSliceK_ok ht hi hz (encCells_ok hl) hb.1 hb.2
        · exact badPK_ok P _
      · exact badPK_ok P _
    · exact badPK_ok P _
  · exact badPK_ok P _

noncomputable def compLookup (P : Program) (t : TypeId) (m k : Operand) (ok : Bool) : AnyK :=
  match P.underlying t with
  | some (.map kt el) => match zeroT P el with
    | some z => match encZ z with
      | some zf => match P.underlying kt with
        | some .string => .p (lookupK true ok zf (opdK m) (opdK k))
        | some (.int _) => .p (lookupK false ok zf (opdK m) (opdK k))
        | _ => .p badPK
      | none => .p badPK
    | none => .p badPK
  | _ => .p badPK
theorem compLookup_ok (P : Program) (t : TypeId) (m k : Operand) (ok : Bool) : AOk P (.lookup t m k ok) (compLookup P t m k ok) := by
  unfold compLookup
  split
  · rename_i ht
    split
    · rename_i hz
      split
      · rename_i hzf
        split
        · rename_i hk; exact lookupK_ok (i := .i8) ht (by rw [hk]; rfl) hz (encZ_ok hzf)
        · rename_i i hk; exact lookupK_ok (i := i) ht (by rw [hk]; rfl) hz (encZ_ok hzf)
        · exact badPK_ok P _
      · exact badPK_ok P _
    · exact badPK_ok P _
  · exact badPK_ok P _

noncomputable def compMapUpd (P : Program) (t : TypeId) (m k v : Operand) : AnyK :=
  match P.underlying t with
  | some (.map kt _) => match P.underlying kt with
    | some .string => .e (mapUpdK true (opdK m) (opdK k) (opdK v))
    | some (.int _) => .e (mapUpdK false (opdK m) (opdK k) (opdK v))
    | _ => .p badPK
  | _ => .p badPK
theorem compMapUpd_ok (P : Program) (t : TypeId) (m k v : Operand) : AOk P (.mapUpdate t m k v) (compMapUpd P t m k v) := by
  unfold compMapUpd
  split
  · rename_i ht
    split
    · rename_i hk; exact mapUpdK_ok (i := .i8) ht (by rw [hk]; rfl)
    · rename_i i hk; exact mapUpdK_ok (i := i) ht (by rw [hk]; rfl)
    · exact badPK_ok P _
  · exact badPK_ok P _

noncomputable def zeroF (P : Program) (t : TypeId) (ok : Bool) : Option FV :=
  match ok with
  | false => some bad
  | true => (zeroT P t).bind encZ
noncomputable def compAssert (P : Program) (x : Operand) (t : TypeId) (ok : Bool) : AnyK :=
  match zeroF P t ok with
  | none => .p badPK
  | some zf => match P.underlying t with
    | some (.interface want) => .p (assertIK P want ok zf (opdK x))
    | some _ => .p (assertTK t ok zf (opdK x))
    | none => .p badPK
theorem zeroF_ok {P : Program} {t : TypeId} {ok : Bool} {zf : FV} (h : zeroF P t ok = some zf) : ∃ z, ok = true → zeroT P t = some z ∧ dec zf = z := by
  cases ok with
  | false => exact ⟨.nilp, fun h => by cases h⟩
  | true =>
    obtain ⟨z, hz, hzf⟩ := Option.bind_eq_some_iff.1 h
    exact ⟨z, fun _ => ⟨hz, encZ_ok hzf⟩⟩
theorem compAssert_ok (P : Program) (x : Operand) (w t : TypeId) (ok : Bool) : AOk P (.typeAssert x w t ok) (compAssert P x t ok) := by
  unfold compAssert
  split
  · exact badPK_ok P _
  · rename_i hzf
    obtain ⟨z, hz⟩ := zeroF_ok hzf
    split
    · rename_i ht; exact assertIK_ok ht hz
    · rename_i hn ht; exact assertTK_ok ht (fun ms e => hn ms e) hz
    · exact badPK_ok P _

noncomputable def compBuiltin (P : Program) (c : Call) (b : Builtin) : AnyK :=
  match b with
  | .len => match c.args.toList, c.argTypes.toList with
    | [x], t :: _ => match P.underlying t with
      | some .string => .p (lenS (opdK x))
      | some (.slice _) => .p (lenV (opdK x))
      | _ => .p (slowPK P (.call c))
    | _, _ => .p badPK
  | .append => match c.args.toList, c.argTypes.toList with
    | [x, y], [t, u] => match P.underlying t with
      | some (.slice el) => match P.underlying u, P.info? el with
        | some (.int _), _ => .p badPK
        | some _, some i => if i.size = 0 ∨ i.bytes = 0 ∨ 2 ^ 16 < i.bytes ∨ (zeroT P el).isNone = true then .p badPK else .e (appendK i.size (opdK x) (opdK y))
        | _, _ => .p badPK
      | _ => .p badPK
    | _, _ => .p badPK
  | .copy => match c.args.toList, c.argTypes.toList with
    | [x, y], t :: _ => match P.underlying t with
      | some (.slice el) => match sizeT P el with
        | some n => if n = 0 then .p badPK else .e (copyK n (opdK x) (opdK y))
        | none => .p badPK
      | _ => .p badPK
    | _, _ => .p badPK
  | .clear => match c.args.toList, c.argTypes.toList with
    | [x], t :: _ => match P.underlying t with
      | some (.slice el) => match zeroT P el with
        | some z => if z.cells.length = 0 then .p badPK else match encCells z.cells with
          | some zf => .e (clearK z.cells.length zf (opdK x))
          | none => .p badPK
        | none => .p badPK
      | _ => .p badPK
    | _, _ => .p badPK
  | _ => .p (slowPK P (.call c))
theorem compBuiltin_ok (P : Program) (c : Call) (b : Builtin) (hc : c.callee = .builtin b) : AOk P (.call c) (compBuiltin P c b) := by
  unfold compBuiltin
  split
  · split
    · rename_i ha hts
      split
      · rename_i ht; exact lenS_ok hc ha ⟨_, hts⟩ ht
      · rename_i ht; exact lenV_ok hc ha ⟨_, hts⟩ ht
      · exact slowPK_ok P _
    · exact badPK_ok P _
  · split
    · rename_i ha hts
      split
      · rename_i ht
        split
        · exact badPK_ok P _
        · rename_i hn hu hi
          split
          · exact badPK_ok P _
          · rename_i h0; exact appendK_ok hc ha hts ht hu (fun k e => hn k e) hi h0
        · exact badPK_ok P _
      · exact badPK_ok P _
    · exact badPK_ok P _
  · split
    · rename_i ha hts
      split
      · rename_i ht
        split
        · rename_i hn
          split
          · exact badPK_ok P _
          · rename_i h0; exact copyK_ok hc ha ⟨_, hts⟩ ht hn h0
        · exact badPK_ok P _
      · exact badPK_ok P _
    · exact badPK_ok P _
  · split
    · rename_i ha hts
      split
      · rename_i ht
        split
        · rename_i hz
          split
          · exact badPK_ok P _
          · rename_i h0
            split
            · rename_i hzf; exact clearK_ok hc ha ⟨_, hts⟩ ht hz (encCells_ok hzf) h0
            · exact badPK_ok P _
        · exact badPK_ok P _
      · exact badPK_ok P _
    · exact badPK_ok P _
  · exact slowPK_ok P _
noncomputable def compCall (P : Program) (c : Call) : AnyK :=
  match c.callee with
  | .builtin b => compBuiltin P c b
  | .value (.func g) => .e (callK g (argsK (c.args.toList.map opdK)))
  | .value x => .e (callVK (opdK x) (argsK (c.args.toList.map opdK)))
  | .invoke x name => .e (methK P name (opdK x) (argsK (c.args.toList.map opdK)))
theorem compCall_ok (P : Program) (c : Call) : AOk P (.call c) (compCall P c) := by
  unfold compCall
  split
  · rename_i hc; exact compBuiltin_ok P c _ hc
  · rename_i hc; exact callK_ok hc
  · rename_i hc; exact callVK_ok hc
  · rename_i hc; exact methK_ok hc

noncomputable def compOp (P : Program) (o : Op) : AnyK :=
  match o with
  | .move x => .p (movK (opdK x))
  | .assign x => .p (movK (opdK x))
  | .pick c a b => .p (pickK (opdK c) (opdK a) (opdK b))
  | .alloc t => compAlloc P t
  | .box t x => compBox P t x
  | .build t ps => compBuild P t ps
  | .buildSlice t n ps => compBuildSlice P t n ps
  | .load t x => compLoad P t x
  | .store t x y => compStore P t x y
  | .nilCheck x => .p (nilCheckK (slowPK P (.nilCheck x)) (opdK x))
  | .binOp op t x y yt => compBin P op t x y yt
  | .unOp .not _ x => .p (notK (opdK x))
  | .convert s d x => compConvert P s d x
  | .makeInterface t x => compIface P t x
  | .makeFunc f a b => compFunc P f a b
  | .makeMap t r => compMap t r
  | .makeSlice t l c => compMakeSlice P t l c
  | .slice t x lo hi mx => compSlice P t x lo hi mx
  | .fieldAddr s x f => compFieldAddr P s x f
  | .field t x f => compField P t x f
  | .indexAddr t x ix => compIndexAddr P t x ix
  | .index t x ix => compIndex P t x ix
  | .lookup t m k ok => compLookup P t m k ok
  | .mapUpdate t m k v => compMapUpd P t m k v
  | .typeAssert x _ t ok => compAssert P x t ok
  | .extract x i => .p (extractK i (opdK x))
  | .call c => compCall P c
  | o => .p (slowPK P o)
theorem compOp_ok (P : Program) (o : Op) : AOk P o (compOp P o) := by
  cases o
  case move x => exact movK_ok P x
  case assign x => exact asnK_ok P x
  case pick c a b => exact pickK_ok P c a b
  case alloc t => exact compAlloc_ok P t
  case box t x => exact compBox_ok P t x
  case build t ps => exact compBuild_ok P t ps
  case buildSlice t n ps => exact compBuildSlice_ok P t n ps
  case load t x => exact compLoad_ok P t x
  case store t x y => exact compStore_ok P t x y
  case nilCheck x => exact nilCheckK_ok (slowPK_ok P _)
  case binOp op t x y yt => exact compBin_ok P op t x y yt
  case unOp op t x =>
    cases op
    case not => exact notK_ok
    all_goals exact slowPK_ok P _
  case convert s d x => exact compConvert_ok P s d x
  case makeInterface t x => exact compIface_ok P t x
  case makeFunc f a b => exact compFunc_ok P f a b
  case makeMap t r => exact compMap_ok P t r
  case makeSlice t l c => exact compMakeSlice_ok P t l c
  case slice t x lo hi mx => exact compSlice_ok P t x lo hi mx
  case fieldAddr s x f => exact compFieldAddr_ok P s x f
  case field t x f => exact compField_ok P t x f
  case indexAddr t x ix => exact compIndexAddr_ok P t x ix
  case index t x ix => exact compIndex_ok P t x ix
  case lookup t m k ok => exact compLookup_ok P t m k ok
  case mapUpdate t m k v => exact compMapUpd_ok P t m k v
  case typeAssert x w t ok => exact compAssert_ok P x w t ok
  case extract x i => exact extractK_ok
  case call c => exact compCall_ok P c
  all_goals exact slowPK_ok P _

end Go.Fast
