/- The abstract machine (definitions): values, memory, a deterministic big-step evaluator over the given code. Appends always copy; regions that draw their order run in the order of the text, with checks. -/
import Derived.Calls
import Derived.KernelRfl
import Derived.Orders
set_option linter.all false
namespace Go.Vai

/-- Abstract values: an address is the number of an abstract block and a place in it; a slice bears its elements' cells ('sz') and whether it is known to be full ('tight'). -/
inductive AV where
  | int (k : IntKind) (n : Int)
  | bool (b : Bool)
  | str (s : ByteArray)
  | ptr (b o : Nat)
  | nilp
  | slice (b o len sz : Nat) (tight : Bool)
  | nils
  | map (r : Nat)
  | nilm
  | func (f : Fn) (first captured : List AV)
  | nilf
  | iface (t : TypeId) (v : AV)
  | nili
  | agg (l : List AV)
  | tup (l : List AV)
  deriving Inhabited

def AV.cells : AV → List AV
  | .agg l => l
  | .tup _ => []
  | v => [v]

def AV.atom : AV → Bool
  | .agg _ | .tup _ => false
  | _ => true

/-- Abstract objects: a row of cells (its state 0: own, 1: to be read only, 2: dead; the rows that it was appended to from; whether no store may come; the cells); a map. -/
inductive HObj where
  | cells (st : Nat) (anc : List Nat) (fro : Bool) (c : List AV)
  | map (es : List (AV × AV))

structure AH where
  next : Nat
  get : Nat → Option HObj

def AH.put (h : AH) (b : Nat) (o : HObj) : AH := ⟨h.next, fun x => if x = b then some o else h.get x⟩
def AH.new (h : AH) (o : HObj) : AH := ⟨h.next + 1, fun x => if x = h.next then some o else h.get x⟩

abbrev Env := Nat → Option AV
def Env.set (e : Env) (d : Nat) (v : AV) : Env := fun x => if x = d then some v else e x

inductive Ex where
  | normal
  | exit (id : Nat)
  | ret

/-- What a program of the model says that looks at nothing but the program's tables. -/
def semP {α : Type} (P : Program) : Sem α → Option α
  | .pure a => some a
  | .program k => semP P (k P)
  | .mark _ k => semP P k
  | _ => none

/-- The value of an abstract value that has no address in it. -/
def val? : AV → Option Value
  | .int k n => some (.int k n)
  | .bool b => some (.bool b)
  | .str s => some (.string s)
  | .nilp => some (.pointer none)
  | .nils => some (.slice none 0 0)
  | .nilm => some (.map none)
  | .nilf => some .nilFunc
  | .nili => some .nilIface
  | .iface t (.int k n) => some (.iface t (.int k n))
  | .iface t (.str s) => some (.iface t (.string s))
  | .iface t (.bool b) => some (.iface t (.bool b))
  | _ => none

def vals? : List AV → Option (List Value)
  | [] => some []
  | a :: l => do
    let v ← val? a
    let r ← vals? l
    pure (v :: r)

def ofV : Nat → Value → Option AV
  | 0, _ => none
  | d + 1, v => match v with
    | .int k n => some (.int k n)
    | .bool b => some (.bool b)
    | .string s => some (.str s)
    | .pointer none => some .nilp
    | .slice none 0 0 => some .nils
    | .map none => some .nilm
    | .nilFunc => some .nilf
    | .nilIface => some .nili
    | .iface t v => (ofV d v).map (.iface t)
    | .agg cs => (ofL d cs.toList).bind fun l => if l.all AV.atom then some (.agg l) else none
    | .tuple cs => (ofL d cs.toList).map .tup
    | _ => none
where
  ofL (d : Nat) : List Value → Option (List AV)
    | [] => some []
    | v :: l => do
      let a ← ofV d v
      let r ← ofL d l
      pure (a :: r)

def opd (e : Env) : Operand → Option AV
  | .tmp t => e t
  | .const v => ofV 4 v
  | .global g => if g < 1000 then some (.ptr g 0) else none
  | .func f => some (.func (.func f) [] [])

def opds (e : Env) : List Operand → Option (List AV)
  | [] => some []
  | x :: l => do
    let a ← opd e x
    let r ← opds e l
    pure (a :: r)

def optd (e : Env) : Option Operand → Option (Option AV)
  | none => some none
  | some x => (opd e x).map some

/- types -/
def isAggT (P : Program) (t : TypeId) : Option Bool :=
  match P.underlying t with
  | some (.struct _) | some (.array _ _) => some true
  | some _ => some false
  | none => none
def sizeT (P : Program) (t : TypeId) : Option Nat := (P.info? t).map (·.size)
def zeroT (P : Program) (t : TypeId) : Option AV := do
  let i ← P.info? t
  let z ← i.zero
  let a ← ofV 4 z
  if a.cells.length = i.size ∧ i.size ≠ 0 ∧ a.cells.all AV.atom = true then some a else none

/- memory -/
def rowOf (h : AH) (b : Nat) : Option (List AV) :=
  match h.get b with
  | some (.cells st _ _ c) => if st = 2 then none else some c
  | _ => none
def cutL {α : Type} (c : List α) (o n : Nat) : Option (List α) := if o + n ≤ c.length then some ((c.drop o).take n) else none
def loadT (P : Program) (h : AH) (t : TypeId) (b o : Nat) : Option AV := do
  let c ← rowOf h b
  match ← isAggT P t with
  | true => do
    let n ← sizeT P t
    let l ← cutL c o n
    pure (.agg l)
  | false => c[o]?
def kill (h : AH) : List Nat → AH
  | [] => h
  | b :: l => match h.get b with
    | some (.cells _ anc fro c) => kill (h.put b (.cells 2 anc fro c)) l
    | _ => kill h l
def putL {α : Type} (c : List α) (o : Nat) (xs : List α) : List α := c.take o ++ xs ++ c.drop (o + xs.length)
/-- cells are stored into a row of one's own; what it was appended to from is dead then -/
def storeCells (h : AH) (b o : Nat) (xs : List AV) : Option AH :=
  if xs = [] then some h else
  match h.get b with
  | some (.cells st anc fro c) =>
    if st = 0 ∧ fro = false ∧ o + xs.length ≤ c.length ∧ xs.all AV.atom = true then some ((kill h anc).put b (.cells 0 [] false (putL c o xs))) else none
  | _ => none
def storeT (P : Program) (h : AH) (t : TypeId) (b o : Nat) (v : AV) : Option AH := do
  let n ← sizeT P t
  if v.cells.length = n ∧ n ≠ 0 then storeCells h b o v.cells else none
def newRow (h : AH) (c : List AV) : AH := h.new (.cells 0 [] false c)

/- comparison: of values without addresses by the model's own words; else nil or not, or two types that differ -/
def nilEq : AV → AV → Option Bool
  | .ptr _ _, .nilp | .nilp, .ptr _ _ => some false
  | .slice .., .nils | .nils, .slice .. => some false
  | .map _, .nilm | .nilm, .map _ => some false
  | .func .., .nilf | .nilf, .func .. => some false
  | .iface _ _, .nili | .nili, .iface _ _ => some false
  | .iface t _, .iface u _ => if t = u then none else some false
  | _, _ => none

def scalarV : AV → Option Value
  | .agg l => (vals? l).map fun vs => .agg vs.toArray
  | v => val? v

def binA (P : Program) (op : BinOp) (t : TypeId) (x y : Operand) (a b : AV) : Option AV :=
  match scalarV a, scalarV b with
  | some u, some v => do
    let r ← semP P (do eqGuard op t x y u v; binOp op t u v)
    ofV 1 r
  | _, _ =>
    match op, nilEq a b, P.underlying t with
    | .eql, some r, some d => if nilFits d a then some (.bool r) else none
    | .neq, some r, some d => if nilFits d a then some (.bool (!r)) else none
    | _, _, _ => none
where
  nilFits : TypeDesc → AV → Bool
    | .pointer _, .ptr _ _ | .pointer _, .nilp => true
    | .slice _, .slice .. | .slice _, .nils => true
    | .map _ _, .map _ | .map _ _, .nilm => true
    | .func _ _ _, .func .. | .func _ _ _, .nilf => true
    | .interface _, .iface _ _ | .interface _, .nili => true
    | _, _ => false

/- aggregates -/
def fillA (place : Nat → Option (Nat × Nat)) (cells : List AV) : List (Nat × AV) → Option (List AV)
  | [] => some cells
  | (i, v) :: rest =>
    match place i with
    | none => none
    | some (off, size) =>
      if v.cells.length = size ∧ off + size ≤ cells.length ∧ v.cells.all AV.atom = true then fillA place (putL cells off v.cells) rest else none

def fieldPlaces (P : Program) : List Field → Option (List (Nat × Nat))
  | [] => some []
  | f :: l => do
    let n ← sizeT P f.type
    let r ← fieldPlaces P l
    if n = 0 then none else pure ((f.offset, n) :: r)

def buildA (P : Program) (t : TypeId) (parts : List (Nat × AV)) : Option AV := do
  let z ← zeroT P t
  match P.underlying t with
  | some (.struct fs) => do
    let pl ← fieldPlaces P fs.toList
    let l ← fillA (pl[·]?) z.cells parts
    pure (.agg l)
  | some (.array _ el) => do
    let n ← sizeT P el
    if n = 0 then none else do
    let l ← fillA (fun i => some (i * n, n)) z.cells parts
    pure (.agg l)
  | _ => none

def partsA (e : Env) : List (Nat × Operand) → Option (List (Nat × AV))
  | [] => some []
  | (i, x) :: l => do
    let a ← opd e x
    let r ← partsA e l
    pure ((i, a) :: r)

def repL (z : List AV) (n : Nat) : List AV := (List.range (n * z.length)).map fun i => (z[i % z.length]?).getD .nilp

def most : Nat := 2 ^ 30

def buildSliceA (P : Program) (t : TypeId) (len : Nat) (parts : List (Nat × AV)) : Option (Nat × List AV) :=
  match P.underlying t with
  | some (.slice el) => do
    let n ← sizeT P el
    let z ← zeroT P el
    if n = 0 ∨ 2 ^ 24 < len * n then none else do
    let l ← fillA (fun i => some (i * n, n)) (repL z.cells len) parts
    pure (n, l)
  | _ => none

def boundA (y d : Nat) : Option AV → Option Nat
  | none => some d
  | some (.int _ i) => if 0 ≤ i ∧ i ≤ y then some i.toNat else none
  | _ => none

def sliceA (P : Program) (t : TypeId) (x : AV) (lo hi mx : Option AV) : Option AV :=
  match P.underlying t, x with
  | some .string, .str s => do
    if mx.isSome then none else
    let h ← boundA s.size s.size hi
    let l ← boundA h 0 lo
    pure (.str (s.extract l h))
  | some (.slice el), .slice b o len sz tight => do
    let n ← sizeT P el
    if n ≠ sz then none else
    match mx with
    | none => do
      let h ← boundA len len hi
      let l ← boundA h 0 lo
      pure (.slice b (o + l * sz) (h - l) sz (tight && decide (h = len)))
    | some m => do
      let m ← boundA len len (some m)
      if hi.isNone then none else
      let h ← boundA m len hi
      let l ← boundA h 0 lo
      pure (.slice b (o + l * sz) (h - l) sz (decide (m = h)))
  | some (.slice el), .nils => do
    if mx.isSome then none else
    let _ ← sizeT P el
    let h ← boundA 0 0 hi
    let _ ← boundA h 0 lo
    pure .nils
  | _, _ => none

def fieldAddrA (P : Program) (s : TypeId) (b o f : Nat) : Option AV :=
  match P.underlying s with
  | some (.struct fs) => do
    let fd ← fs[f]?
    let n ← sizeT P fd.type
    if n = 0 then none else pure (.ptr b (o + fd.offset))
  | _ => none

def partA (P : Program) (t : TypeId) (off : Nat) (l : List AV) : Option AV := do
  match ← isAggT P t with
  | true => do
    let n ← sizeT P t
    let r ← cutL l off n
    pure (.agg r)
  | false => l[off]?

def indexAddrA (P : Program) (t : TypeId) (x ix : AV) : Option AV :=
  match ix with
  | .int _ i =>
    match P.underlying t, x with
    | some (.array len el), .ptr b o => do
      let n ← sizeT P el
      if 0 ≤ i ∧ i < len ∧ n ≠ 0 then some (.ptr b (o + i.toNat * n)) else none
    | some (.slice el), .slice b o len sz _ => do
      let n ← sizeT P el
      if 0 ≤ i ∧ i < len ∧ n = sz ∧ n ≠ 0 then some (.ptr b (o + i.toNat * n)) else none
    | _, _ => none
  | _ => none

def indexA (P : Program) (t : TypeId) (x ix : AV) : Option AV :=
  match ix with
  | .int _ i =>
    match P.underlying t, x with
    | some .string, .str s => if 0 ≤ i then (s[i.toNat]?).map fun b => .int .u8 b.toNat else none
    | some (.array len el), .agg l => do
      let n ← sizeT P el
      if 0 ≤ i ∧ i < len then partA P el (i.toNat * n) l else none
    | _, _ => none
  | _ => none

/- maps: keys are whole numbers or texts -/
def keyEq : AV → AV → Option Bool
  | .int k a, .int k' b => if k = k' then some (a == b) else none
  | .str a, .str b => some (a == b)
  | _, _ => none
def keyFits (P : Program) (kt : TypeId) : AV → Bool
  | .int _ _ => match P.underlying kt with | some (.int _) => true | _ => false
  | .str _ => match P.underlying kt with | some .string => true | _ => false
  | _ => false
def findA (k : AV) : List (AV × AV) → Option (Option AV)
  | [] => some none
  | (k', v) :: l => match keyEq k k' with
    | some true => some (some v)
    | some false => findA k l
    | none => none
def updA (k v : AV) : List (AV × AV) → Option (List (AV × AV))
  | [] => some [(k, v)]
  | (k', w) :: l => match keyEq k k' with
    | some true => some ((k, v) :: l)
    | some false => (updA k v l).map ((k', w) :: ·)
    | none => none
def mapOf (h : AH) : AV → Option (List (AV × AV))
  | .nilm => some []
  | .map r => match h.get r with | some (.map es) => some es | _ => none
  | _ => none
def lookupA (P : Program) (h : AH) (t : TypeId) (m k : AV) (ok : Bool) : Option AV :=
  match P.underlying t with
  | some (.map kt el) => do
    if keyFits P kt k then
      let es ← mapOf h m
      match ← findA k es with
      | some v => pure (if ok then .tup [v, .bool true] else v)
      | none => do
        let z ← zeroT P el
        pure (if ok then .tup [z, .bool false] else z)
    else none
  | _ => none
def mapUpdA (P : Program) (h : AH) (t : TypeId) (m k v : AV) : Option AH :=
  match P.underlying t, m with
  | some (.map kt _), .map r => do
    if keyFits P kt k then
      match h.get r with
      | some (.map es) => do
        let es ← updA k v es
        pure (h.put r (.map es))
      | _ => none
    else none
  | _, _ => none

def bytesOfL : List AV → Option (List UInt8)
  | [] => some []
  | .int .u8 n :: l => do
    let r ← bytesOfL l
    pure (UInt8.ofNat n.toNat :: r)
  | _ => none

def convertA (P : Program) (h : AH) (src dst : TypeId) (x : AV) : Option (AV × AH) :=
  match P.underlying src, P.underlying dst, x with
  | some _, some (.int k), .int _ n => some (.int k (k.wrap n), h)
  | some _, some .string, .str s => some (.str s, h)
  | some .string, some (.slice e), .str s =>
    match P.underlying e with
    | some (.int .u8) => if s.size ≤ most then some (.slice h.next 0 s.size 1 false, newRow h (s.data.toList.map fun b => .int .u8 b.toNat)) else none
    | _ => none
  | some (.slice e), some .string, .nils => if P.underlying e matches some (.int .u8) then some (.str .empty, h) else none
  | some (.slice e), some .string, .slice b o len sz _ =>
    match P.underlying e with
    | some (.int .u8) => do
      if sz ≠ 1 then none else
      let c ← rowOf h b
      let l ← cutL c o len
      let s ← bytesOfL l
      pure (.str ⟨s.toArray⟩, h)
    | _ => none
  | _, _, _ => none

/-- the appended cells: how many elements, the cells -/
def srcCells (h : AH) (size : Nat) : AV → Option (Nat × List AV)
  | .nils => some (0, [])
  | .slice b o len sz _ => if sz ≠ size then none else if len = 0 then some (0, []) else do
    let c ← rowOf h b
    let l ← cutL c o (len * size)
    pure (len, l)
  | .str s => if size = 1 ∧ s.size ≤ most then some (s.size, s.data.toList.map fun b => .int .u8 b.toNat) else none
  | _ => none

def appendA (P : Program) (h : AH) (st second : TypeId) (s x : AV) : Option (AV × AH) :=
  match P.underlying st, P.underlying second with
  | some (.slice el), some d => do
    if d matches .int _ then none else
    let i ← P.info? el
    let size := i.size
    if size = 0 ∨ i.bytes = 0 ∨ 2 ^ 16 < i.bytes ∨ (zeroT P el).isNone then none else
    let (n, new) ← srcCells h size x
    match s with
    | .nils => if n = 0 then some (.nils, h) else if most < n then none else some (.slice h.next 0 n size false, newRow h new)
    | .slice b o len sz tight =>
      if sz ≠ size ∨ most < len + n then none else
      if n = 0 then some (s, h) else
      match h.get b with
      | some (.cells st anc fro c) => do
        if st = 2 then none else
        let old ← cutL c o (len * size)
        if tight then some (.slice h.next 0 (len + n) size false, newRow h (old ++ new)) else
        if st = 0 ∧ fro = false then
          if o + len * size = c.length then
            some (.slice h.next 0 (len + n) size false, (h.put b (.cells 1 anc fro c)).new (.cells 0 (b :: anc) false (old ++ new)))
          else some (.slice h.next 0 (len + n) size false, (kill h (b :: anc)).new (.cells 0 [] false (old ++ new)))
        else none
      | _ => none
    | _ => none
  | _, _ => none

def lenA (P : Program) (h : AH) (t : TypeId) (x : AV) : Option AV :=
  match P.underlying t, x with
  | some .string, .str s => some (.int .i64 s.size)
  | some (.slice _), .slice _ _ len _ _ => some (.int .i64 len)
  | some (.slice _), .nils => some (.int .i64 0)
  | some (.map _ _), .nilm => some (.int .i64 0)
  | some (.map _ _), .map r => match h.get r with | some (.map es) => some (.int .i64 es.length) | _ => none
  | some (.array n _), _ => some (.int .i64 n)
  | some (.pointer a), _ => match P.underlying a with | some (.array n _) => some (.int .i64 n) | _ => none
  | _, _ => none

def builtinA (P : Program) (h : AH) (b : Builtin) (ts : List TypeId) (vs : List AV) : Option (AV × AH) :=
  match b, ts, vs with
  | .len, t :: _, [x] => (lenA P h t x).map (·, h)
  | .append, [t, u], [s, x] => appendA P h t u s x
  | .min, _, vs => do
    let us ← vals? vs
    let r ← semP P (Builtin.min_ #[] 0 us.toArray)
    let a ← ofV 1 r
    pure (a, h)
  | .max, _, vs => do
    let us ← vals? vs
    let r ← semP P (Builtin.max_ #[] 0 us.toArray)
    let a ← ofV 1 r
    pure (a, h)
  | .copy, t :: _, [d, s] =>
    match P.underlying t with
    | some (.slice el) => do
      let size ← sizeT P el
      if size = 0 then none else
      let (n, l) ← srcCells h size s
      match d with
      | .slice b o len sz _ =>
        if sz ≠ size then none else do
        let h' ← storeCells h b o (l.take (min n len * size))
        pure (.int .i64 (min n len : Nat), h')
      | .nils => pure (.int .i64 0, h)
      | _ => none
    | _ => none
  | .clear, t :: _, [x] =>
    match P.underlying t, x with
    | some (.slice _), .nils => some (.tup [], h)
    | some (.slice el), .slice b o len sz _ => do
      if len = 0 then pure (.tup [], h) else
      let z ← zeroT P el
      if z.cells.length ≠ sz ∨ sz = 0 then none else
      let h' ← storeCells h b o (repL z.cells len)
      pure (.tup [], h')
    | _, _ => none
  | _, _, _ => none

def typeAssertA (P : Program) (x : AV) (asserted : TypeId) (ok : Bool) : Option AV :=
  match P.underlying asserted, x with
  | some (.interface _), .nili => fails
  | some (.interface want), .iface t _ => do
    let i ← P.info? t
    match Instr.missingMethod want i.methods with
    | none => holds x
    | some _ => fails
  | some _, .nili => fails
  | some _, .iface t v => if t = asserted then holds v else fails
  | _, _ => none
where
  holds (v : AV) : Option AV := some (if ok then .tup [v, .bool true] else v)
  fails : Option AV := if ok then (zeroT P asserted).map fun z => .tup [z, .bool false] else none

/-- along plain fields of a struct value -/
def followA (P : Program) : List FieldStep → TypeId → AV → Option (TypeId × AV)
  | [], t, v => some (t, v)
  | s :: rest, _, v =>
    match s.deref, v, P.underlying s.struct with
    | false, .agg l, some (.struct fs) => do
      let f ← fs[s.index]?
      let x ← partA P f.type f.offset l
      followA P rest f.type x
    | _, _, _ => none

/-- a method of an interface value: plain rows -/
def methodA (P : Program) (t : TypeId) (v : AV) (name : String) : Option (FuncId × AV) := do
  let i ← P.info? t
  let m ← i.methods.find? (·.name == name)
  let (xt, x) ← followA P m.path.toList t v
  let (f, p) ← m.func
  match P.underlying xt, p with
  | some (.pointer _), true => some (f, x)
  | some (.pointer _), false => none
  | some _, false => some (f, x)
  | _, _ => none

/-- What a call of a function comes to. -/
abbrev CallF := FuncId → List AV → AH → Option (AV × AH)

def callValue (P : Program) (callF : CallF) (h : AH) (f : AV) (args : List AV) : Option (AV × AH) :=
  match f with
  | .func (.func g) first captured => callF g (first ++ args ++ captured) h
  | .func (.method name) first _ =>
    match first ++ args with
    | .iface t v :: rest => do
      let (g, r) ← methodA P t v name
      callF g (r :: rest) h
    | _ => none
  | _ => none

def evOp (P : Program) (callF : CallF) (e : Env) (h : AH) (o : Op) : Option (AV × AH) :=
  match o with
  | .move x | .assign x => (opd e x).map (·, h)
  | .pick c a b => do
    match ← opd e c with
    | .bool true => (opd e a).map (·, h)
    | .bool false => (opd e b).map (·, h)
    | _ => none
  | .alloc t => do
    let z ← zeroT P t
    pure (.ptr h.next 0, newRow h z.cells)
  | .box t x => do
    let v ← opd e x
    let n ← sizeT P t
    if v.cells.length = n ∧ v.cells.all AV.atom = true ∧ n ≠ 0 then pure (.ptr h.next 0, newRow h v.cells) else none
  | .build t parts => do
    let ps ← partsA e parts.toList
    (buildA P t ps).map (·, h)
  | .buildSlice t len parts => do
    let ps ← partsA e parts.toList
    let (n, l) ← buildSliceA P t len ps
    pure (.slice h.next 0 len n true, newRow h l)
  | .load t a => do
    match ← opd e a with
    | .ptr b o => (loadT P h t b o).map (·, h)
    | _ => none
  | .store t a x => do
    let v ← opd e x
    match ← opd e a with
    | .ptr b o => (storeT P h t b o v).map (.tup [], ·)
    | _ => none
  | .nilCheck x => do
    match ← opd e x with
    | .nilp | .nili | .nilf => none
    | .func (.method _) _ _ => none
    | v => some (v, h)
  | .binOp op t x y _ => do
    let a ← opd e x
    let b ← opd e y
    (binA P op t x y a b).map (·, h)
  | .unOp op _ x => do
    let a ← opd e x
    let u ← val? a
    let r ← semP P (Op.unary op u)
    (ofV 1 r).map (·, h)
  | .convert s d x => do
    let v ← opd e x
    convertA P h s d v
  | .makeInterface t x => do
    let v ← opd e x
    match P.underlying t with
    | some (.interface _) => none
    | some _ => some (.iface t v, h)
    | none => none
  | .makeFunc fn first captured => do
    let a ← opds e first.toList
    let b ← opds e captured.toList
    pure (.func fn a b, h)
  | .makeMap _ none => some (.map h.next, h.new (.map []))
  | .makeSlice t l c => do
    match P.underlying t, ← opd e l, ← opd e c with
    | some (.slice el), .int .i64 n, .int .i64 m => do
      let i ← P.info? el
      let z ← zeroT P el
      if 0 ≤ n ∧ n ≤ m ∧ m ≤ most ∧ i.bytes ≤ 2 ^ 16 ∧ i.size ≠ 0 then
        pure (.slice h.next 0 n.toNat i.size (decide (n = m)), newRow h (repL z.cells m.toNat))
      else none
    | _, _, _ => none
  | .slice t x lo hi mx => do
    let v ← opd e x
    let l ← optd e lo
    let u ← optd e hi
    let m ← optd e mx
    (sliceA P t v l u m).map (·, h)
  | .fieldAddr s x f => do
    match ← opd e x with
    | .ptr b o => (fieldAddrA P s b o f).map (·, h)
    | _ => none
  | .field t x f => do
    match ← opd e x, P.underlying t with
    | .agg l, some (.struct fs) => do
      let fd ← fs[f]?
      (partA P fd.type fd.offset l).map (·, h)
    | _, _ => none
  | .indexAddr t x ix => do
    let a ← opd e x
    let i ← opd e ix
    (indexAddrA P t a i).map (·, h)
  | .index t x ix => do
    let a ← opd e x
    let i ← opd e ix
    (indexA P t a i).map (·, h)
  | .lookup t m k ok => do
    let a ← opd e m
    let b ← opd e k
    (lookupA P h t a b ok).map (·, h)
  | .mapUpdate t m k v => do
    let a ← opd e m
    let b ← opd e k
    let c ← opd e v
    if c.atom || (c matches .agg _) then (mapUpdA P h t a b c).map (.tup [], ·) else none
  | .typeAssert x _ t ok => do
    let v ← opd e x
    (typeAssertA P v t ok).map (·, h)
  | .extract x i => do
    match ← opd e x with
    | .tup l => (l[i]?).map (·, h)
    | _ => none
  | .call c => do
    let args ← opds e c.args.toList
    match c.callee with
    | .builtin b => builtinA P h b c.argTypes.toList args
    | .value f => do
      let f ← opd e f
      callValue P callF h f args
    | .invoke r name => do
      match ← opd e r with
      | .iface t v => do
        let (g, r) ← methodA P t v name
        callF g (r :: args) h
      | _ => none
  | _ => none

/-- the value into its slot, if there is such a slot ('N' slots) -/
def setDst (N : Nat) (e : Env) (d : Option Tmp) (v : AV) : Option Env :=
  match d with
  | some d => if d < N then some (e.set d v) else none
  | none => some e

def wantedA (ops : Array Oper) (e : Env) (o : Oper) : Option Bool :=
  match o.guard with
  | none => some true
  | some (j, want) => do
    let oj ← ops[j]?
    let d ← oj.dst
    match ← e d with
    | .bool b => some (b == want)
    | _ => some false

/-- one operation -/
def evOne (P : Program) (callF : CallF) (ops : Array Oper) (o : Oper) (e : Env) (h : AH) : Option (AV × AH) := do
  match ← wantedA ops e o with
  | true => evOp P callF e h o.op
  | false => some (.tup [], h)

def evOps (P : Program) (callF : CallF) (N : Nat) (ops : Array Oper) : List Oper → Env → AH → Option (Env × AH)
  | [], e, h => some (e, h)
  | o :: l, e, h => do
    let (v, h) ← evOne P callF ops o e h
    let e ← setDst N e o.dst v
    evOps P callF N ops l e h

def loopA (body : Env → AH → Option (Ex × Env × AH)) : Nat → Env → AH → Option (Ex × Env × AH)
  | 0, _, _ => none
  | n + 1, e, h => do
    let (x, e, h) ← body e h
    match x with
    | .normal => loopA body n e h
    | x => some (x, e, h)

end Go.Vai
