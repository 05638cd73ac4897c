/- The abstract machine, part 2: regions that draw their order, code, rows without a body, functions. -/
import Derived.Test.YtckjdbmadheamaaGreatDoorR0
set_option linter.all false
namespace Go.Vai

mutual
def avEq : AV → AV → Bool
  | .int k a, .int k' b => decide (k = k') && decide (a = b)
  | .bool a, .bool b => a == b
  | .str a, .str b => decide (a = b)
  | .ptr a b, .ptr c d => decide (a = c) && decide (b = d)
  | .nilp, .nilp => true
  | .slice a b c d e, .slice a' b' c' d' e' => decide (a = a') && decide (b = b') && decide (c = c') && decide (d = d') && (e == e')
  | .nils, .nils => true
  | .map a, .map b => decide (a = b)
  | .nilm, .nilm => true
  | .func f a b, .func g c d => decide (f = g) && avEqL a c && avEqL b d
  | .nilf, .nilf => true
  | .iface t a, .iface u b => decide (t = u) && avEq a b
  | .nili, .nili => true
  | .agg a, .agg b => avEqL a b
  | .tup a, .tup b => avEqL a b
  | _, _ => false
def avEqL : List AV → List AV → Bool
  | [], [] => true
  | a :: l, b :: m => avEq a b && avEqL l m
  | _, _ => false
end

inductive Cls where
  | pure | load | alloc | eff
  deriving DecidableEq

def cls (P : Program) (o : Op) : Cls :=
  match o with
  | .move _ | .assign _ | .pick .. | .build .. | .nilCheck _ | .binOp .. | .unOp .. | .makeInterface .. | .makeFunc .. | .slice .. | .fieldAddr .. | .field .. | .indexAddr .. | .index .. | .typeAssert .. | .extract .. => .pure
  | .load .. | .lookup .. => .load
  | .alloc _ | .box .. | .buildSlice .. | .makeMap .. | .makeSlice .. => .alloc
  | .convert s d _ => match P.underlying s, P.underlying d with
    | _, some (.int _) => .pure
    | some .string, some .string => .pure
    | some .string, some (.slice _) => .alloc
    | some (.slice _), some .string => .load
    | _, _ => .eff
  | .call c => match c.callee with
    | .builtin .len => match (c.argTypes[0]?).bind P.underlying with
      | some (.map _ _) => .load
      | _ => .pure
    | .builtin .min | .builtin .max => .pure
    | _ => .eff
  | _ => .eff

/-- what each operation waits for, as bits -/
def waits (ops : List Oper) : List Nat → List Nat
  | acc => match ops with
    | [] => acc
    | o :: l => waits l (acc ++ [o.after.toList.foldl (fun s e => if Region.binds .any e then s ||| 2 ^ e.on ||| acc.getD e.on 0 else s) 0])

def orderedB (m : List Nat) (i j : Nat) : Bool := (m.getD j 0).testBit i

def pairOk (P : Program) (ops : Array Oper) (m : List Nat) (i j : Nat) (a b : Oper) : Bool :=
  orderedB m i j ||
  ((match a.dst with | some d => !(b.looksAt ops).contains d && b.dst != some d | none => true) &&
   (match b.dst with | some d => !(a.looksAt ops).contains d | none => true) &&
   !(decide (cls P a.op = .eff) && decide (cls P b.op = .eff)))

/-- every two operations that are in no order are apart -/
def regOk (P : Program) (ops : Array Oper) : Bool :=
  let m := waits ops.toList []
  (ops.toList.zipIdx.all fun (o, j) => o.after.toList.all fun e => !Region.binds .any e || decide (e.on < j)) &&
  (ops.toList.zipIdx.all fun (a, i) => ops.toList.zipIdx.all fun (b, j) => !decide (i < j) || ((match a.dst with | some d => b.dst != some d | none => true) && pairOk P ops m i j a b))

/-- loads and effects that are in no order -/
def loose (P : Program) (ops : Array Oper) : List (Nat × Nat) :=
  let m := waits ops.toList []
  ops.toList.zipIdx.flatMap fun (a, i) => ops.toList.zipIdx.filterMap fun (b, j) =>
    if cls P a.op = .load ∧ cls P b.op = .eff ∧ !orderedB m i j ∧ !orderedB m j i then some (i, j) else none

structure Rec where
  e : Env
  h : AH
  ran : Bool
  v : AV
  h' : AH

def evIf (b : Bool) (h : AH) (x : Option (AV × AH)) : Option (AV × AH) := if b then x else some (.tup [], h)

def evTrace (P : Program) (callF : CallF) (N : Nat) (ops : Array Oper) : List Oper → Env → AH → Option (List Rec × Env × AH)
  | [], e, h => some ([], e, h)
  | o :: l, e, h => do
    let b ← wantedA ops e o
    let (v, h') ← evIf b h (evOp P callF e h o.op)
    if h'.next < h.next then none else
    let e' ← setDst N e o.dst v
    let (r, z) ← evTrace P callF N ops l e' h'
    pure (⟨e, h, b, v, h'⟩ :: r, z)

/-- what was read would have been read ahead of that effect and behind it -/
def looseOk (P : Program) (callF : CallF) (ops : Array Oper) (tr : List Rec) (p : Nat × Nat) : Bool :=
  match tr[p.1]?, tr[p.2]?, ops[p.1]? with
  | some l, some f, some o =>
    if !l.ran || !f.ran then true else
    (match evOp P callF l.e f.h o.op, evOp P callF l.e f.h' o.op with | some (x, _), some (y, _) => avEq x l.v && avEq y l.v | _, _ => false)
  | _, _, _ => false

mutual
def below (n : Nat) : AV → Bool
  | .ptr b _ => decide (b < n)
  | .slice b _ _ _ _ => decide (b < n)
  | .map r => decide (r < n)
  | .func _ a b => belowL n a && belowL n b
  | .iface _ v => below n v
  | .agg l => belowL n l
  | .tup l => belowL n l
  | _ => true
def belowL (n : Nat) : List AV → Bool
  | [] => true
  | a :: l => below n a && belowL n l
end

/-- some new block may be laid ahead of an effect that stands ahead of it in the text -/
def early (P : Program) (ops : Array Oper) : Bool :=
  let m := waits ops.toList []
  ops.toList.zipIdx.any fun (a, j) => decide (cls P a.op = .eff) && ops.toList.zipIdx.any fun (b, i) => decide (cls P b.op = .alloc) && decide (j < i) && !orderedB m j i

/-- it speaks of blocks that were there -/
def boundOk (ops : Array Oper) (p : Oper × Rec) : Bool :=
  !p.2.ran || (((p.1.looksAt ops).all fun t => match p.2.e t with | some v => below p.2.h.next v | none => true) &&
    match p.2.h'.get p.2.h.next with | some (.cells _ _ _ c) => belowL p.2.h.next c | _ => true)

def evDraw (P : Program) (callF : CallF) (N : Nat) (ops : Array Oper) (e : Env) (h : AH) : Option (Env × AH) := do
  if regOk P ops then
    let (tr, z) ← evTrace P callF N ops ops.toList e h
    if (loose P ops).all (looseOk P callF ops tr) && (!early P ops || (ops.toList.zip tr).all (boundOk ops)) then some z else none
  else none

def evC (P : Program) (callF : CallF) (N n : Nat) : Code → Env → AH → Option (Ex × Env × AH)
  | .skip, e, h => some (.normal, e, h)
  | .label _, e, h => some (.normal, e, h)
  | .region _ ops draw, e, h => do
    let (e, h) ← if draw then evDraw P callF N ops e h else evOps P callF N ops ops.toList e h
    pure (.normal, e, h)
  | .seq a b, e, h => do
    let (x, e, h) ← evC P callF N n a e h
    match x with
    | .normal => evC P callF N n b e h
    | x => some (x, e, h)
  | .cond c x y, e, h => do
    match ← opd e c with
    | .bool true => evC P callF N n x e h
    | .bool false => evC P callF N n y e h
    | _ => none
  | .block id b, e, h => do
    let (x, e, h) ← evC P callF N n b e h
    match x with
    | .exit k => if k = id then some (.normal, e, h) else some (.exit k, e, h)
    | x => some (x, e, h)
  | .loop b, e, h => loopA (evC P callF N n b) n e h
  | .exit id, e, h => some (.exit id, e, h)
  | .ret, e, h => some (.ret, e, h)
  | _, _, _ => none

def enterE : List AV → Nat → Env
  | [], _ => fun _ => none
  | v :: l, i => fun x => if x = i then some v else enterE l (i + 1) x

def resultsA (P : Program) (e : Env) (h : AH) : List ResultVar → Option (List AV)
  | [] => some []
  | .tmp t :: l => do
    let v ← e t
    let r ← resultsA P e h l
    pure (v :: r)
  | .cell a t :: l => do
    match ← e a with
    | .ptr b o => do
      let v ← loadT P h t b o
      let r ← resultsA P e h l
      pure (v :: r)
    | _ => none

def finishA (P : Program) (fn : Func) (r : Ex × Env × AH) : Option (AV × AH) := do
  match r.1 with
  | .exit _ => none
  | _ => do
    let l ← resultsA P r.2.1 r.2.2 fn.results.toList
    match l with
    | [v] => pure (v, r.2.2)
    | l => pure (.tup l, r.2.2)

/- rows of functions without a body -/
inductive Row where
  | indexByte | valueOf | valType | valIsNil | valElem | valSet | typeOf | rElem | rComparable | rImplements | rAssignable | abiKind
  deriving DecidableEq

def rowName : Row → String
  | .indexByte => "internal/bytealg.IndexByteString"
  | .valueOf => "internal/reflectlite.ValueOf"
  | .valType => "(internal/reflectlite.Value).Type"
  | .valIsNil => "(internal/reflectlite.Value).IsNil"
  | .valElem => "(internal/reflectlite.Value).Elem"
  | .valSet => "(internal/reflectlite.Value).Set"
  | .typeOf => "internal/reflectlite.TypeOf"
  | .rElem => "(internal/reflectlite.rtype).Elem"
  | .rComparable => "(internal/reflectlite.rtype).Comparable"
  | .rImplements => "(internal/reflectlite.rtype).Implements"
  | .rAssignable => "(internal/reflectlite.rtype).AssignableTo"
  | .abiKind => "(*internal/abi.Type).Kind"

open Extern in
def rtypeT (P : Program) : Option TypeId := (P.cutTypes.find? (·.1 == "internal/reflectlite.rtype")).map (·.2)
def handleA (P : Program) (t : TypeId) : AV := .ptr P.globals.size t
def toTypeA (P : Program) (t : TypeId) : Option AV := (rtypeT P).map fun r => .iface r (.agg [handleA P t])
def ofRtypeA (P : Program) : AV → Option TypeId
  | .agg [.ptr b t] => if b = P.globals.size ∧ P.packed t = false then some t else none
  | _ => none
/-- a reflectlite.Value: type, address, flags -/
def valParts (P : Program) : AV → Option (TypeId × Nat × Nat × Nat)
  | .agg [.ptr g t, .ptr b o, .int .u64 f] => if g = P.globals.size ∧ 0 < f then some (t, b, o, f.toNat) else none
  | _ => none
def mkVal (P : Program) (t b o fl : Nat) : Option AV := do
  let k ← semP P (Extern.Rtype.kind t)
  pure (.agg [handleA P t, .ptr b o, .int .u64 (Int.ofNat (k + 128 + fl))])

def rowA (P : Program) (r : Row) (args : List AV) (h : AH) : Option (AV × AH) :=
  match r, args with
  | .indexByte, [.str s, .int .u8 c] =>
    (semP P (Extern.BytealgIndexByte.indexByte #[.string s, .int .u8 c])).bind fun v => (ofV 1 v).map (·, h)
  | .valueOf, [.iface t v] => do
    let n ← sizeT P t
    let x ← mkVal P t h.next 0 0
    if v.cells.length = n ∧ v.cells.all AV.atom = true ∧ n ≠ 0 then pure (x, newRow h v.cells) else none
  | .valType, [x] => do
    let (t, _) ← valParts P x
    (toTypeA P t).map (·, h)
  | .valIsNil, [x] => do
    let (t, b, o, f) ← valParts P x
    if P.packed t ∨ f % 32 ≠ 22 then none else
    match ← loadT P h t b o with
    | .nilp => pure (.bool true, h)
    | .ptr _ _ => pure (.bool false, h)
    | _ => none
  | .valElem, [x] => do
    let (t, b, o, f) ← valParts P x
    if P.packed t ∨ f % 32 ≠ 22 then none else
    match ← loadT P h t b o, semP P (Extern.Rtype.elem? t) with
    | .ptr b' o', some (some e) => (mkVal P e b' o' 256).map (·, h)
    | _, _ => none
  | .valSet, [x, y] => do
    let (d, b, o, f) ← valParts P x
    let (s, b', o', _) ← valParts P y
    if P.packed d ∨ P.packed s ∨ f / 256 % 2 = 0 then none else
    let v ← loadT P h s b' o'
    match semP P (Extern.Rtype.directlyAssignable d s) with
    | some true => (storeT P h d b o v).map (.tup [], ·)
    | _ => none
  | .typeOf, [.nili] => some (.nili, h)
  | .typeOf, [.iface t _] => (toTypeA P t).map (·, h)
  | .rElem, [r] => do
    let t ← ofRtypeA P r
    match semP P (Extern.Rtype.elem? t) with
    | some (some e) => (toTypeA P e).map (·, h)
    | _ => none
  | .rComparable, [r] => do
    let t ← ofRtypeA P r
    let i ← P.info? t
    if P.holdsPacked P.depth t then none else pure (.bool i.comparable, h)
  | .rImplements, [r, .iface _ u] => do
    let t ← ofRtypeA P r
    let u ← ofRtypeA P u
    let b ← semP P (Extern.ReflectliteType.implements_ u t)
    pure (.bool b, h)
  | .rAssignable, [r, .iface _ u] => do
    let t ← ofRtypeA P r
    let u ← ofRtypeA P u
    let b ← semP P (Extern.ReflectliteType.assignableTo u t)
    pure (.bool b, h)
  | .abiKind, [.ptr b t] => do
    if b = P.globals.size ∧ P.packed t = false then
      let k ← semP P (Extern.Rtype.kind t)
      pure (.int .u8 k, h)
    else none
  | _, _ => none

/-- A function: by its row, or by its text. -/
def evF (P : Program) (ext : FuncId → Option Row) : Nat → CallF
  | 0, _, _, _ => none
  | n + 1, f, args, h =>
    match ext f with
    | some r => rowA P r args h
    | none => do
      let fn ← P.funcs[f]?
      let c ← fn.body
      if fn.ntmps < args.length then none else
      let r ← evC P (evF P ext n) fn.ntmps n c (enterE args 0) h
      finishA P fn r

end Go.Vai
