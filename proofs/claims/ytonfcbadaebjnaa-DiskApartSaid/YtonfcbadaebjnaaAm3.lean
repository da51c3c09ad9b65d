/- From the model's code to the abstract machine's: a function that translates it, operation by operation. Definitions alone. -/
import Derived.Test.YtonfcbadaebjnaaAm1
namespace Go.Am
open Go

def constCell : Value → Option AV
  | .bool b => some (.bool b)
  | .int k n => some (.int k n)
  | .string s => some (.str s.data.toList)
  | .pointer none => some (.ptr none)
  | .slice none 0 0 => some .nils
  | .map none => some (.map none)
  | .nilFunc => some .nilf
  | .nilIface => some .nili
  | _ => none

def constCells : List Value → Option (List AV)
  | [] => some []
  | v :: l => match constCell v, constCells l with
    | some a, some r => some (a :: r)
    | _, _ => none

def constAV : Value → Option AV
  | .agg cs => (constCells cs.toList).map .agg
  | v => constCell v

def opd : Operand → Option Opd
  | .tmp t => some (.tmp t)
  | .const v => (constAV v).map .const
  | .global g => some (.global g)
  | .func f => some (.func f)

def opds : List Operand → Option (List Opd)
  | [] => some []
  | x :: l => match opd x, opds l with
    | some a, some r => some (a :: r)
    | _, _ => none

inductive TyK where
  | agg
  | one (t : Ty)
  deriving DecidableEq

/-- A type's kind. -/
def tyOf (P : Program) (t : TypeId) : Option TyK :=
  match P.underlying t with
  | some (.struct _) => some .agg
  | some (.array _ _) => some .agg
  | some (.int k) => some (.one (.int k))
  | some .bool => some (.one .bool)
  | some .string => some (.one .str)
  | some (.float _) => none
  | some (.complex _) => none
  | some .invalid => none
  | some (.tuple _) => none
  | some _ => some (.one .other)
  | none => none

def infoOf (P : Program) (t : TypeId) : Option (Nat × Nat) := (P.info? t).map fun i => (i.size, i.bytes)
/-- Places of something, as keys. -/
def ptrKey (P : Program) (t : TypeId) : Bool :=
  match P.underlying t with
  | some (.pointer e) => match infoOf P e with
    | some (n, _) => n != 0
    | none => false
  | _ => false

/-- A type's zero value, as cells. -/
def zeroOf (P : Program) (t : TypeId) : Option (List AV) :=
  match (P.info? t).bind (·.zero) with
  | some z => constCells z.cells.toList
  | none => none

def zeroVal (P : Program) (t : TypeId) : Option AV :=
  match (P.info? t).bind (·.zero) with
  | some z => constAV z
  | none => none

def zipParts (place : Nat → Option (Nat × Nat)) : List (Nat × Operand) → Option (List (Nat × Nat × Opd))
  | [] => some []
  | (i, x) :: l => match place i, opd x, zipParts place l with
    | some (off, n), some a, some r => some ((off, n, a) :: r)
    | _, _, _ => none

def fieldPlaces (P : Program) (fs : Array Field) (i : Nat) : Option (Nat × Nat) :=
  match fs[i]? with
  | some f => (infoOf P f.type).map fun n => (f.offset, n.1)
  | none => none

def allInfo (P : Program) (fs : Array Field) : Bool := fs.all fun f => (P.info? f.type).isSome

def elemOfSlice (P : Program) (t : TypeId) : Option TypeId :=
  match P.underlying t with
  | some (.slice e) => some e
  | _ => none

def nilKind : TypeDesc → Option NilK
  | .pointer _ => some .ptr
  | .slice _ => some .slice
  | .map _ _ => some .map
  | .func _ _ _ => some .func
  | .interface _ => some .iface
  | _ => none

def nilVal : NilK → Value
  | .ptr => .pointer none
  | .slice => .slice none 0 0
  | .map => .map none
  | .func => .nilFunc
  | .iface => .nilIface

def isNilConst : NilK → Operand → Bool
  | .ptr, .const (.pointer none) => true
  | .slice, .const (.slice none 0 0) => true
  | .map, .const (.map none) => true
  | .func, .const .nilFunc => true
  | .iface, .const .nilIface => true
  | _, _ => false

/-- The cells of a struct's fields, one behind the other. -/
def eqFields (P : Program) (cells : TypeId → Option (List (Nat × Ty))) (size : Option Nat) : List Field → Option (List (Nat × Ty))
  | [] => some []
  | f :: fs =>
    match eqFields P cells size fs with
    | none => none
    | some r => if f.name == "_" then some r else
      match cells f.type, infoOf P f.type, size with
      | some l, some (n, _), some size => if f.offset + n ≤ size then some (l.map (fun (i, t) => (f.offset + i, t)) ++ r) else none
      | _, _, _ => none

/-- The cells of a type that are compared: where each lies, and its kind; none of those that the model compares otherwise. -/
def eqCells (P : Program) : (depth : Nat) → TypeId → Option (List (Nat × Ty))
  | 0, _ => none
  | d + 1, t =>
    match P.underlying t with
    | some (.int k) => if (infoOf P t).map (·.1) = some 1 then some [(0, .int k)] else none
    | some .bool => if (infoOf P t).map (·.1) = some 1 then some [(0, .bool)] else none
    | some .string => if (infoOf P t).map (·.1) = some 1 then some [(0, .str)] else none
    | some (.struct fs) =>
      if P.stoodInHeld t then none else
      eqFields P (eqCells P d) ((infoOf P t).map (·.1)) fs.toList
    | some (.array n e) =>
      match eqCells P d e, infoOf P e, infoOf P t with
      | some l, some (es, _), some (size, _) => if n * es ≤ size then some ((List.range n).flatMap fun j => l.map fun (a, t) => (j * es + a, t)) else none
      | _, _, _ => none
    | _ => none

def optIdx : Option Operand → Option (Option Opd)
  | none => some none
  | some x => match opd x with
    | some a => some (some a)
    | none => none

def compBuiltin (P : Program) (b : Builtin) (argTypes : List TypeId) (args : List Operand) : Option AOp :=
  match b, argTypes, args with
  | .len, t :: _, x :: _ =>
    match P.underlying t with
    | some .string => (opd x).map .lenS
    | some (.slice _) => (opd x).map .lenL
    | some (.array n _) => some (.lenA n)
    | some (.map _ _) => (opd x).map .lenM
    | _ => none
  | .append, [t, u], [s, x] =>
    match elemOfSlice P t, opd s, opd x with
    | some e, some s, some x =>
      match infoOf P e, (P.info? e).bind (·.zero), P.underlying u with
      | some (es, bytes), some z, some (.slice _) => if 0 < es ∧ 0 < bytes ∧ z.cells.size = es then some (.append es bytes s x) else none
      | some (es, bytes), some z, some .string => if es = 1 ∧ bytes = 1 ∧ z.cells.size = es then some (.appendS s x) else none
      | _, _, _ => none
    | _, _, _ => none
  | .copy, [t, _], [d, s] =>
    match elemOfSlice P t, opd d, opd s with
    | some e, some d, some s =>
      match infoOf P e with
      | some (es, _) => some (.copyL es d s)
      | none => none
    | _, _, _ => none
  | .min, t :: _, l =>
    match P.underlying t, opds l with
    | some (.int k), some l => some (.minI k l)
    | some .string, some l => some (.minS l)
    | _, _ => none
  | .max, t :: _, l =>
    match P.underlying t, opds l with
    | some (.int k), some l => some (.maxI k l)
    | some .string, some l => some (.maxS l)
    | _, _ => none
  | .delete, [t, _], [m, k] =>
    match P.underlying t, opd m, opd k with
    | some (.map kt _), some m, some k =>
      match tyOf P kt with
      | some (.one (.int i)) => some (.mapDel (.int i) m k)
      | some (.one .bool) => some (.mapDel .bool m k)
      | some (.one .str) => some (.mapDel .str m k)
      | _ => none
    | _, _, _ => none
  | .clear, [t], [x] =>
    match elemOfSlice P t, opd x with
    | some e, some x =>
      match infoOf P e, zeroOf P e with
      | some (es, _), some z => if z.length = es then some (.clearL es z x) else none
      | _, _ => none
    | _, _ => none
  | _, _, _ => none

/-- Methods by their receivers' types: the function; 'none': the value itself is the receiver, 'some n': n cells that it points to (0: one value). -/
def methRows (P : Program) (name : String) : List (TypeId × FuncId × Option Nat) :=
  (List.range P.types.size).filterMap fun t =>
    match P.types[t]? with
    | none => none
    | some i => match i.methods.find? (·.name == name) with
      | some m => match m.path.isEmpty, m.func with
        | true, some (f, ptrRecv) =>
          match P.underlying t, ptrRecv with
          | some (.pointer _), true => some (t, f, none)
          | some (.pointer e), false => match tyOf P e, infoOf P e with
            | some .agg, some (n, _) => if n = 0 then none else some (t, f, some n)
            | some (.one _), some (n, _) => if n = 1 then some (t, f, some 0) else none
            | _, _ => none
          | some _, false => some (t, f, none)
          | _, _ => none
        | _, _ => none
      | none => none

def compCall (P : Program) (type : TypeId) (c : Call) : Option AIns :=
  match c.callee with
  | .builtin b => (compBuiltin P b c.argTypes.toList c.args.toList).map .op
  | .value f =>
    match opds c.args.toList with
    | none => none
    | some args =>
      let ty : Ty := match tyOf P type with
        | some (.one t) => t
        | _ => .other
      match f with
      | .func f => some (.call (.fn f) args ty)
      | x => (opd x).map fun x => .call (.val x) args ty
  | .invoke r name =>
    match opds c.args.toList, opd r with
    | some args, some r =>
      let ty : Ty := match tyOf P type with
        | some (.one t) => t
        | _ => .other
      some (.call (.meth (methRows P name) r) args ty)
    | _, _ => none

def compNil (P : Program) (ng : Bool) (d : TypeDesc) (x y : Operand) (a b : Opd) : Option AOp :=
  match nilKind d with
  | none => none
  | some k =>
    if isNilConst k y then some (.isNil k ng a) else if isNilConst k x then some (.isNil k ng b) else
    match d with
    | .pointer e => match infoOf P e with
      | some (n, _) => if n = 0 then none else some (.peq ng a b)
      | none => none
    | _ => none

def compAgg (P : Program) (ng : Bool) (t : TypeId) (a b : Opd) : Option AOp :=
  if P.eqGuardType P.depth t then none else
  match eqCells P 12 t, infoOf P t with
  | some l, some (n, _) => some (.aeq ng n l a b)
  | _, _ => none

def compBin (P : Program) (op : BinOp) (t : TypeId) (x y : Operand) (yt : TypeId) : Option AOp :=
  match opd x, opd y with
  | some a, some b =>
    match op, P.underlying t with
    | .shl, some (.int k) => some (.shf .shl k a b)
    | .shr, some (.int k) => some (.shf .shr k a b)
    | op, some (.int k) => some (.ibin op k a b)
    | op, some .string => some (.sbin op a b)
    | .eql, some .bool => some (.beq false a b)
    | .neq, some .bool => some (.beq true a b)
    | .eql, some (.struct _) | .eql, some (.array _ _) => compAgg P false t a b
    | .neq, some (.struct _) | .neq, some (.array _ _) => compAgg P true t a b
    | .eql, some d => compNil P false d x y a b
    | .neq, some d => compNil P true d x y a b
    | _, _ => none
  | _, _ => none

def compConv (P : Program) (src dst : TypeId) (x : Operand) : Option AOp :=
  match opd x with
  | none => none
  | some a =>
    match P.underlying src, P.underlying dst with
    | some (.int k), some (.int k2) => some (.convI k k2 a)
    | some .string, some .string => some (.convS a)
    | some .string, some (.slice e) => match P.underlying e with
      | some (.int .u8) => some (.toBytes a)
      | _ => none
    | some (.slice e), some .string => match P.underlying e with
      | some (.int .u8) => some (.toStr a)
      | _ => none
    | some (.slice _), some (.slice e) => if src == dst then match P.underlying e with
        | some (.int .u8) => some (.convL a)
        | _ => none
      else none
    | _, _ => none

def compOp (P : Program) (o : Oper) : Option AIns :=
  match o.op with
  | .move x => (opd x).map fun x => .op (.mov x)
  | .assign x => (opd x).map fun x => .op (.mov x)
  | .pick c a b => match opd c, opd a, opd b with
    | some c, some a, some b => some (.op (.pick c a b))
    | _, _, _ => none
  | .box t x => match infoOf P t, opd x with
    | some (n, _), some x => some (.op (.box n x))
    | _, _ => none
  | .alloc t => (zeroOf P t).map fun z => .op (.alloc z)
  | .build t ps => match P.underlying t, zeroOf P t with
    | some (.struct fs), some z => if allInfo P fs then (zipParts (fieldPlaces P fs) ps.toList).map fun l => .op (.build z l) else none
    | some (.array _ e), some z => match infoOf P e with
      | some (n, _) => (zipParts (fun i => some (i * n, n)) ps.toList).map fun l => .op (.build z l)
      | none => none
    | _, _ => none
  | .buildSlice t len ps => match elemOfSlice P t with
    | some e => match infoOf P e, zeroOf P e with
      | some (es, _), some z => if z.length = es ∧ 0 < es ∧ len * es ≤ 16777216 then (zipParts (fun i => some (i * es, es)) ps.toList).map fun l => .op (.buildSlice es len (List.replicate len z).flatten l) else none
      | _, _ => none
    | none => none
  | .load t a => match tyOf P t, opd a with
    | some .agg, some a => (infoOf P t).map fun n => .op (.ldA n.1 a)
    | some (.one ty), some a => some (.op (.ld ty a))
    | _, _ => none
  | .store t a v => match infoOf P t, opd a, opd v with
    | some (n, _), some a, some v => some (.op (.st n a v))
    | _, _, _ => none
  | .nilCheck x => (opd x).map fun x => .op (.nilCheck x)
  | .binOp op t x y yt => (compBin P op t x y yt).map .op
  | .unOp op t x => match op, P.underlying t, opd x with
    | .neg, some (.int k), some x => some (.op (.neg k x))
    | .xor, some (.int k), some x => some (.op (.compl k x))
    | .not, some .bool, some x => some (.op (.not x))
    | _, _, _ => none
  | .convert src dst x => (compConv P src dst x).map .op
  | .makeInterface t x => match P.underlying t, opd x with
    | some (.interface _), _ => none
    | some _, some x => some (.op (.makeIface t x))
    | _, _ => none
  | .makeFunc fn fs cs => match opds fs.toList, opds cs.toList with
    | some a, some b => some (.op (.makeFunc fn a b))
    | _, _ => none
  | .makeMap _ none => some (.op .makeMap)
  | .makeSlice t l c => match elemOfSlice P t with
    | some e => match infoOf P e, zeroOf P e, opd l, opd c with
      | some (es, bytes), some z, some l, some c => if z.length = es ∧ 0 < es then some (.op (.makeSlice es bytes z l c)) else none
      | _, _, _, _ => none
    | none => none
  | .slice t x lo hi mx =>
    match opd x, optIdx lo, optIdx hi, optIdx mx with
    | some x, some lo, some hi, some mx =>
      match P.underlying t with
      | some .string => if mx.isSome then none else some (.op (.sliceS x lo hi))
      | some (.slice e) => if mx.isSome && !hi.isSome then none else (infoOf P e).map fun n => .op (.sliceL n.1 x lo hi mx)
      | some (.array n e) => if mx.isSome then none else (infoOf P e).map fun i => .op (.sliceA n i.1 x lo hi)
      | some (.pointer p) => match P.underlying p with
        | some (.array n e) => if mx.isSome then none else (infoOf P e).map fun i => .op (.sliceA n i.1 x lo hi)
        | _ => none
      | _ => none
    | _, _, _, _ => none
  | .fieldAddr t x i => match P.underlying t, opd x with
    | some (.struct fs), some x => match fs[i]? with
      | some f => match infoOf P f.type with
        | some (n, _) => if n = 0 then none else some (.op (.fieldPtr f.offset x))
        | none => none
      | none => none
    | _, _ => none
  | .field t x i => match P.underlying t, opd x with
    | some (.struct fs), some x => match fs[i]? with
      | some f => match tyOf P f.type, infoOf P f.type with
        | some .agg, some (n, _) => some (.op (.field f.offset none n x))
        | some (.one ty), some (n, _) => some (.op (.field f.offset (some ty) n x))
        | _, _ => none
      | none => none
    | _, _ => none
  | .indexAddr t x i => match opd x, opd i with
    | some x, some i => match P.underlying t with
      | some (.slice e) => (infoOf P e).map fun n => .op (.indexPtr n.1 x i)
      | some (.array n e) => (infoOf P e).map fun a => .op (.indexPtrA n a.1 x i)
      | _ => none
    | _, _ => none
  | .index t x i => match opd x, opd i with
    | some x, some i => match P.underlying t with
      | some .string => some (.op (.indexS x i))
      | some (.array n e) => match tyOf P e, infoOf P e with
        | some .agg, some (es, _) => some (.op (.indexA n es none x i))
        | some (.one ty), some (es, _) => some (.op (.indexA n es (some ty) x i))
        | _, _ => none
      | _ => none
    | _, _ => none
  | .lookup t m x ok => match P.underlying t, opd m, opd x with
    | some (.map kt vt), some m, some x => match tyOf P kt, tyOf P vt, zeroVal P vt with
      | some (.one (.int k)), some (.one v), some z => some (.op (.lookup (.int k) v z ok m x))
      | some (.one .str), some (.one v), some z => some (.op (.lookup .str v z ok m x))
      | some (.one .bool), some (.one v), some z => some (.op (.lookup .bool v z ok m x))
      | some (.one (.int k)), some .agg, some z => some (.op (.lookup (.int k) .other z ok m x))
      | some (.one .str), some .agg, some z => some (.op (.lookup .str .other z ok m x))
      | some (.one .other), some (.one v), some z => if ptrKey P kt then some (.op (.lookupP v z ok m x)) else none
      | _, _, _ => none
    | _, _, _ => none
  | .mapUpdate t m x v => match P.underlying t, opd m, opd x, opd v with
    | some (.map kt _), some m, some x, some v => match tyOf P kt with
      | some (.one (.int k)) => some (.op (.mapSet (.int k) m x v))
      | some (.one .str) => some (.op (.mapSet .str m x v))
      | some (.one .bool) => some (.op (.mapSet .bool m x v))
      | some (.one .other) => if ptrKey P kt then some (.op (.mapSetP m x v)) else none
      | _ => none
    | _, _, _, _ => none
  | .range t x => match P.underlying t, opd x with
    | some (.map _ _), some x => some (.op (.range x))
    | _, _ => none
  | .next it false => (opd it).map .next
  | .entry it => (opd it).map .entry
  | .extract x i => match opd x with
    | some x => some (.op (.extract (match tyOf P o.type with
      | some (.one t) => some t
      | _ => none) i x))
    | none => none
  | .typeAssert x _ t ok => match P.underlying t, opd x, zeroVal P t with
    | some (.interface _), _, _ => none
    | some _, some x, some z => some (.op (.assert t ok z x))
    | _, _, _ => none
  | .call c => compCall P o.type c
  | _ => none

def compStep (P : Program) (ops : Array Oper) (o : Oper) : AStep :=
  { dst := o.dst
    guard := match o.guard with
      | none => none
      | some (j, want) => some ((ops[j]?).bind (·.dst), want)
    ins := match compOp P o with
      | some i => i
      | none => .bad 0 }

/-! ### Regions that draw their order -/
/-- No object is named in it. -/
def AV.plainB : AV → Bool
  | .bool _ | .int .. | .str _ | .ptr none | .nils | .map none | .nilf | .nili => true
  | _ => false
def Opd.plainB : Opd → Bool
  | .const v => v.plainB
  | _ => true
def AOp.isNew : AOp → Bool
  | .alloc z => z.all AV.plainB
  | .box _ x => x.plainB
  | .buildSlice _ _ z ps => z.all AV.plainB && ps.all fun p => p.2.2.plainB
  | _ => false
def AIns.isNew : AIns → Bool
  | .op o => o.isNew
  | _ => false
section
variable (L : List AStep) (ds : List (List Nat))

def drawStep (i : Nat) : AStep := L.getD i default
def drawObs (i : Nat) : Bool := (drawStep L i).ins.looksOnly
def ancsOf : List (List Nat) → List (List Nat) → List (List Nat)
  | [], acc => acc
  | d :: r, acc => ancsOf r (acc ++ [(d ++ d.flatMap fun j => acc.getD j []).eraseDups])
def orderOf : Nat → List Nat → List Nat
  | 0, _ => []
  | n + 1, done =>
    let rdy := (List.range L.length).filter fun i => !done.contains i && (ds.getD i []).all fun d => done.contains d
    match rdy.find? fun i => drawObs L i with
    | some i => i :: orderOf n (i :: done)
    | none => match rdy with
      | i :: _ => i :: orderOf n (i :: done)
      | [] => []
/-- A new object of what is known: it may be made early. -/
def drawNew (an : Nat → List Nat) (i : Nat) : Bool := (drawStep L i).ins.isNew && (drawStep L i).guard.isNone && (an i).all (drawObs L)
def pairB (an : Nat → List Nat) : List Nat → Bool
  | [] => true
  | x :: r => (r.all fun i => x != i && !(an x).contains i && ((an i).contains x || drawObs L x || drawNew L an i)) && pairB an r
def lastB (an : Nat → List Nat) (b : Nat) : Bool := (List.range L.length).all fun j => j == b || (an b).contains j
def drawB (an : Nat → List Nat) (order : List Nat) : Bool :=
  pairB L an order && (order.all fun i => decide (i < L.length)) && ((List.range L.length).all fun i => order.contains i) &&
  ((List.range L.length).all fun i => (an i).all fun a => decide (a < L.length) && ((ds.getD i []).contains a || (ds.getD i []).any fun d => (an d).contains a)) &&
  ((List.range L.length).all fun i => !(an i).contains i && (ds.getD i []).all fun d => (an i).contains d && decide (d < L.length)) &&
  ((List.range L.length).all fun a => ((drawStep L a).free (drawStep L a).dst || lastB L an a) && (List.range L.length).all fun b => a == b || (an a).contains b || (drawStep L a).apart (drawStep L b) || lastB L an b)
def layRows (an : Nat → List Nat) : List Nat → List Nat → List (AStep × List AStep)
  | _, [] => []
  | done, i :: r => (drawStep L i, if drawObs L i || drawNew L an i then [] else (done.filter fun x => !(an i).contains x).map (drawStep L)) :: layRows an (i :: done) r
def drawRows : Option (List (AStep × List AStep)) :=
  let an := fun i => (ancsOf ds []).getD i []
  let order := orderOf L ds L.length []
  if drawB L ds an order then some (layRows L an [] order) else none
end

/-- Which ones stand before an operation, whatever the order. -/
def befOf (o : Oper) : List Nat := (o.after.toList.filter (Region.binds .any)).map (·.on)

/-- The code, without what is forgotten. 'draw' regions come as rows: a step, and what is met again behind it. -/
def comp (P : Program) : Code → Option AC
  | .skip => some .skip
  | .region _ ops false => some (.ops (ops.toList.map (compStep P ops)))
  | .region _ ops true => if P.follows .mixedOrders then (drawRows (ops.toList.map (compStep P ops)) (ops.toList.map befOf)).map .draw else none
  | .seq a b => match comp P a, comp P b with
    | some a, some b => some (.seq a b)
    | _, _ => none
  | .cond c a b => match opd c, comp P a, comp P b with
    | some c, some a, some b => some (.cond c a b)
    | _, _, _ => none
  | .block id a => (comp P a).map (.block id)
  | .loop a => (comp P a).map (.loop [])
  | .exit id => some (.exit id)
  | .ret => some .ret
  | _ => none

end Go.Am
