/- The core, part 0: values by type code, a local heap, an abstract machine over the given code. Definitions alone. -/
import Derived.Calls
import Derived.KernelRfl
namespace Go.Proofs.YtjjepjfjikefiaaB
open Go

/-! ### Types and data -/
inductive Ty where
  | unit | int (k : IntKind) | bool | str | sl (t : Ty) | last (t : Ty) | prod (a b : Ty)
  deriving DecidableEq

abbrev Ty.den : Ty → Type
  | .unit => Unit
  | .int _ => Int
  | .bool => Bool
  | .str => List UInt8
  | .sl t => List t.den
  | .last t => t.den
  | .prod a b => a.den × b.den

def Ty.dflt : (t : Ty) → t.den
  | .unit => ()
  | .int _ => (0 : Int)
  | .bool => false
  | .str => ([] : List UInt8)
  | .sl _ => []
  | .last t => t.dflt
  | .prod a b => (a.dflt, b.dflt)

/-- how many cells -/
def Ty.sz : Ty → Nat
  | .unit => 0
  | .last t => t.sz
  | .prod a b => a.sz + b.sz
  | _ => 1

def castTo (t t' : Ty) (x : t'.den) : Option t.den := if h : t' = t then some (h ▸ x) else none

abbrev Id := Nat

inductive Cell where
  | undef
  | d (t : Ty) (x : t.den)
  | nilS | nilp | nilfn | nilif
  | ptr (id : Id) (off : Nat)
  | row (id : Id)
  | win (id : Id) (lo n sz : Nat)
  | eptr (id : Id) (i off sz : Nat)
  | cptr (t : Ty) (x : t.den) (off : Nat)
  | clip (t : Ty) (x : List t.den)
  | map (id : Id)
  | fn (f : FuncId) (caps : List (Id × Nat))
  | old (n : Nat)
  | err (z : Bool)

inductive V1 where
  | c (x : Cell)
  | agg (cs : List Cell)

inductive AV where
  | one (v : V1)
  | tup (vs : List V1)

inductive Blk where
  | box (cs : List Cell)
  | row (e : TypeId) (nilE : Bool) (t : Ty) (xs : List t.den)
  | map (kt vt : Ty) (es : List (kt.den × vt.den))
  | bld (T : TypeId) (bid : Id)
  | buf (e : TypeId) (l : List UInt8)

abbrev Env := Nat → AV
abbrev Heap := Id → Option Blk

structure St where
  env : Env
  heap : Heap

abbrev cv (x : Cell) : AV := .one (.c x)
abbrev dv (t : Ty) (x : t.den) : AV := .one (.c (.d t x))
abbrev iv (n : Int) : AV := .one (.c (.d (.int .i64) n))
abbrev bv (b : Bool) : AV := .one (.c (.d .bool b))
def undefA : AV := .one (.c .undef)
/-- what stands in the temporary of an operation that was not carried out -/
def skipA : AV := .tup []

def upd {α : Type} (e : Nat → α) (d : Nat) (v : α) : Nat → α := fun x => bif Nat.beq x d then v else e x

def St.put (st : St) (dst : Option Nat) (v : AV) : St :=
  match dst with
  | some d => { st with env := upd st.env d v }
  | none => st

/-! ### Data and cells -/
def cellsOf : (t : Ty) → t.den → List Cell
  | .unit, _ => []
  | .last t, x => cellsOf t x
  | .prod a b, x => cellsOf a x.1 ++ cellsOf b x.2
  | .int k, x => [.d (.int k) x]
  | .bool, x => [.d .bool x]
  | .str, x => [.d .str x]
  | .sl t, x => [.d (.sl t) x]

def V1.cells : V1 → List Cell
  | .c x => [x]
  | .agg cs => cs

def Ty.isAgg : Ty → Bool
  | .unit | .last _ | .prod _ _ => true
  | _ => false

/-- a value of data -/
def valOf (t : Ty) (x : t.den) : V1 := bif t.isAgg then .agg (cellsOf t x) else .c ((cellsOf t x).headD .undef)

/-- one cell as data -/
def cellD (t : Ty) : Cell → Option t.den
  | .d t' x => castTo t t' x
  | .clip t' x => castTo t (.sl t') x
  | .nilS => match t with
    | .sl _ => some []
    | _ => none
  | _ => none

/-- names of rows whose header stays -/
def fixedB (id : Nat) : Bool := Nat.ble 550000 id && Nat.blt id 600000
/-- what a slice holds at this moment -/
def cellData (h : Heap) (t : Ty) : Cell → Option (List t.den)
  | .row id => match h id with
    | some (.row _ _ t' xs) => castTo (.sl t) (.sl t') xs
    | _ => none
  | .win id lo n sz => match h id with
    | some (.row _ _ t' xs) => bif Nat.beq sz t'.sz then castTo (.sl t) (.sl t') ((xs.drop lo).take n) else none
    | _ => none
  | c => cellD (.sl t) c

/-- cells put together to data -/
def asm : (t : Ty) → List Cell → Option (t.den × List Cell)
  | .unit, cs => some ((), cs)
  | .last t, cs => asm t cs
  | .prod a b, cs => match asm a cs with
    | some (x, cs') => match asm b cs' with
      | some (y, cs'') => some ((x, y), cs'')
      | none => none
    | none => none
  | .int k, c :: cs => match cellD (.int k) c with | some x => some (x, cs) | none => none
  | .bool, c :: cs => match cellD .bool c with | some x => some (x, cs) | none => none
  | .str, c :: cs => match cellD .str c with | some x => some (x, cs) | none => none
  | .sl t, c :: cs => match cellD (.sl t) c with | some x => some (x, cs) | none => none
  | _, [] => none

def asmAll (t : Ty) (cs : List Cell) : Option t.den :=
  match asm t cs with
  | some (x, []) => some x
  | _ => none

/-! ### Types of the program, as they are told -/
inductive TKind where
  | iface | bld (e : TypeId)
  | scalar | struct (flds : List (Nat × Nat)) | slice (elem : TypeId) | map (kt vt : Ty)
structure TI where
  kind : TKind
  zero : List Cell
  bytes : Nat
  data : Option Ty
  eqf : Option (List Ty) := none
/-- is that a type of these data? -/
def isD (ti : Option TI) (t : Ty) : Bool := match ti with
  | some ti => match ti.data with | some t' => decide (t' = t) | none => false
  | none => false
def isSl (ti : Option TI) : Bool := match ti with
  | some ti => match ti.kind with | .slice _ => true | _ => false
  | none => false
def isMap (ti : Option TI) : Bool := match ti with
  | some ti => match ti.kind with | .map _ _ => true | _ => false
  | none => false
def eqfOf (ti : Option TI) : Option (List Ty) := match ti with | some ti => ti.eqf | none => none
def isIf (ti : Option TI) : Bool := match ti with
  | some ti => match ti.kind with | .iface => true | _ => false
  | none => false
def TI.agg (ti : TI) : Bool := match ti.kind with | .struct _ | .bld _ => true | _ => false
def TI.isStr (ti : TI) : Bool := match ti.kind with | .struct _ => true | _ => false
def TI.bldE (ti : TI) : Option TypeId := match ti.kind with | .bld e => some e | _ => none
def TI.fld (ti : TI) (j : Nat) : Option (Nat × Nat) := match ti.kind with | .struct fs => fs[j]? | _ => none
def TI.elem (ti : TI) : Option TypeId := match ti.kind with | .slice e => some e | _ => none

/-! ### Operands -/
def constC : Value → Option Cell
  | .bool b => some (.d .bool b)
  | .int k n => some (.d (.int k) n)
  | .string s => some (.d .str s.data.toList)
  | .slice none 0 0 => some .nilS
  | .pointer none => some .nilp
  | .nilFunc => some .nilfn
  | .nilIface => some .nilif
  | _ => none

def isConst : Operand → Bool
  | .const _ => true
  | _ => false

def ev (st : St) : Operand → Option AV
  | .tmp t => some (st.env t)
  | .const v => match constC v with | some c => some (cv c) | none => none
  | .func f => some (cv (.fn f []))
  | .global _ => none

/-- an operand that is one value, and known -/
def v1 (st : St) (x : Operand) : Option V1 := match ev st x with
  | some (.one (.c .undef)) => none
  | some (.one v) => some v
  | _ => none

def inb (i : Int) (n : Nat) : Bool := decide (0 ≤ i) && decide (i < (n : Int))

/-- what is killed: every reference to a row -/
def killC (id : Id) (N : Nat) : Cell → Cell
  | .row id' => bif Nat.beq id' id then .old N else .row id'
  | .win id' lo n sz => bif Nat.beq id' id then .old n else .win id' lo n sz
  | .eptr id' i off sz => bif Nat.beq id' id then .undef else .eptr id' i off sz
  | c => c
def killV (id : Id) (N : Nat) : V1 → V1
  | .c x => .c (killC id N x)
  | .agg cs => .agg (cs.map (killC id N))
def killA (id : Id) (N : Nat) : AV → AV
  | .one v => .one (killV id N v)
  | .tup vs => .tup (vs.map (killV id N))
def killB (id : Id) (N : Nat) : Blk → Blk
  | .box cs => .box (cs.map (killC id N))
  | .bld T bid => bif Nat.beq bid id then .box [.undef, .undef] else .bld T bid
  | b => b
def killH (id : Id) (N : Nat) (h : Heap) : Heap := fun x => match h x with | some b => some (killB id N b) | none => none
def St.kill (st : St) (id : Id) (N : Nat) : St := { env := fun x => killA id N (st.env x), heap := killH id N st.heap }

/-- a row that will never be written again: from now on it is data -/
def freezeC (id : Id) (t : Ty) (xs : List t.den) : Cell → Cell
  | .row id' => bif Nat.beq id' id then .d (.sl t) xs else .row id'
  | .win id' lo n sz => bif Nat.beq id' id then (bif Nat.beq sz t.sz then .d (.sl t) ((xs.drop lo).take n) else .undef) else .win id' lo n sz
  | .eptr id' i off sz => bif Nat.beq id' id then (bif Nat.beq sz t.sz then .cptr t (xs.getD i t.dflt) off else .undef) else .eptr id' i off sz
  | c => c
def freezeV (id : Id) (t : Ty) (xs : List t.den) : V1 → V1
  | .c x => .c (freezeC id t xs x)
  | .agg cs => .agg (cs.map (freezeC id t xs))
def freezeA (id : Id) (t : Ty) (xs : List t.den) : AV → AV
  | .one v => .one (freezeV id t xs v)
  | .tup vs => .tup (vs.map (freezeV id t xs))
def freezeB (id : Id) (t : Ty) (xs : List t.den) : Blk → Blk
  | .box cs => .box (cs.map (freezeC id t xs))
  | .bld T bid => bif Nat.beq bid id then .box [.undef, .undef] else .bld T bid
  | b => b
def St.freeze (st : St) (id : Id) (t : Ty) (xs : List t.den) : St :=
  { env := fun x => freezeA id t xs (st.env x), heap := fun x => bif Nat.beq x id then none else match st.heap x with | some b => some (freezeB id t xs b) | none => none }
def rowOf : Cell → Option Id
  | .row id => some id
  | .win id _ _ _ => some id
  | _ => none
/-- the rows among the cells of an operand become data, one after the other; n: at most so many -/
def frz (n : Nat) (st : St) (get : St → Option (List Cell)) : St :=
  match n with
  | 0 => st
  | n + 1 => match get st with
    | some cs => match cs.findSome? rowOf with
      | some id => match st.heap id with
        | some (.row _ _ t xs) => frz n (st.freeze id t xs) get
        | _ => st
      | none => st
    | none => st

def splice (cs : List Cell) (off : Nat) (new : List Cell) : List Cell := cs.take off ++ new ++ cs.drop (off + new.length)

/-- the cells that a pointer leads to, from it on -/
def pointee (h : Heap) : Cell → Option (List Cell)
  | .ptr id off => match h id with | some (.box cs) => some (cs.drop off) | _ => none
  | .eptr id i off sz => match h id with | some (.row _ _ t xs) => bif Nat.beq sz t.sz then some ((cellsOf t (xs.getD i t.dflt)).drop off) else none | _ => none
  | .cptr t x off => some ((cellsOf t x).drop off)
  | _ => none

def asV1 : AV → Option V1
  | .one v => some v
  | .tup _ => none


def lenC (h : Heap) : Cell → Option Nat
  | .d .str x => some x.length
  | .d (.sl _) x => some x.length
  | .clip _ x => some x.length
  | .nilS => some 0
  | .row id => match h id with | some (.row _ _ _ xs) => some xs.length | _ => none
  | .win _ _ n _ => some n
  | .old n => some n
  | .map id => match h id with | some (.map _ _ es) => some es.length | _ => none
  | _ => none

/-! ### Operators -/
def bytesLess : List UInt8 → List UInt8 → Bool := Go.Op.bytesLess

def andI (k : IntKind) (x y : Int) : Int := k.wrap ((BitVec.ofInt k.bits x &&& BitVec.ofInt k.bits y).toNat : Int)
def orI (k : IntKind) (x y : Int) : Int := k.wrap ((BitVec.ofInt k.bits x ||| BitVec.ofInt k.bits y).toNat : Int)
def xorI (k : IntKind) (x y : Int) : Int := k.wrap ((BitVec.ofInt k.bits x ^^^ BitVec.ofInt k.bits y).toNat : Int)
def andNotI (k : IntKind) (x y : Int) : Int := k.wrap ((BitVec.ofInt k.bits x &&& ~~~ BitVec.ofInt k.bits y).toNat : Int)

section
variable {R : Type}

def binInt (op : BinOp) (k : IntKind) (x y : Int) (K : AV → Option R) : Option R :=
  match op with
  | .add => K (dv (.int k) (k.wrap (x + y)))
  | .sub => K (dv (.int k) (k.wrap (x - y)))
  | .mul => K (dv (.int k) (k.wrap (x * y)))
  | .quo => bif decide (y = 0) then none else K (dv (.int k) (k.wrap (x.tdiv y)))
  | .rem => bif decide (y = 0) then none else K (dv (.int k) (x.tmod y))
  | .and => K (dv (.int k) (andI k x y))
  | .or => K (dv (.int k) (orI k x y))
  | .xor => K (dv (.int k) (xorI k x y))
  | .andNot => K (dv (.int k) (andNotI k x y))
  | .eql => K (bv (x == y))
  | .neq => K (bv (x != y))
  | .lss => K (bv (decide (x < y)))
  | .leq => K (bv (decide (x ≤ y)))
  | .gtr => K (bv (decide (x > y)))
  | .geq => K (bv (decide (x ≥ y)))
  | _ => none

def binStr (op : BinOp) (x y : List UInt8) (K : AV → Option R) : Option R :=
  match op with
  | .add => bif decide (x.length + y.length ≤ 140737488355328) then K (dv .str (x ++ y)) else none
  | .eql => K (bv (x == y))
  | .neq => K (bv (!(x == y)))
  | .lss => K (bv (bytesLess x y))
  | .leq => K (bv (bytesLess x y || x == y))
  | .gtr => K (bv (!(bytesLess x y || x == y)))
  | .geq => K (bv (!bytesLess x y))
  | _ => none

def eqD : (t : Ty) → t.den → t.den → Option Bool
  | .int _, x, y => some ((x : Int) == y)
  | .bool, x, y => some ((x : Bool) == y)
  | .str, x, y => some ((x : List UInt8) == y)
  | _, _, _ => none

/-- is a slice nil, if that is known? -/
def nilC (h : Heap) : Cell → Option Bool
  | .nilS => some true
  | .row id => match h id with
    | some (.row _ true _ xs) => some xs.isEmpty
    | some (.row _ false _ _) => some false
    | _ => none
  | .d (.sl _) _ => some false
  | .clip _ _ => some false
  | _ => none
/-- is what is told of nil certain? -/
def nilOK (h : Heap) : Cell → Bool
  | .row id => match h id with
    | some (.row _ false _ xs) => !xs.isEmpty
    | _ => true
  | .d (.sl _) xs => !xs.isEmpty
  | .clip _ xs => !xs.isEmpty
  | _ => true
/-- is the capacity known to be 0? -/
def cap0 (h : Heap) : Cell → Bool
  | .nilS => true
  | .row id => match h id with
    | some (.row _ true _ xs) => xs.isEmpty
    | _ => false
  | _ => false

/-- is an error nil? -/
def errC : Cell → Option Bool
  | .err z => some z
  | .nilif => some true
  | _ => none

/-- '==' of structs of plain fields -/
def eqAll : List Ty → List Cell → List Cell → Option Bool
  | [], [], [] => some true
  | t :: ts, .d t1 x :: xs, .d t2 y :: ys => match castTo t t1 x, castTo t t2 y with
    | some x, some y => match eqD t x y, eqAll ts xs ys with
      | some a, some b => some (match ts with | [] => a | _ => a && b)
      | _, _ => none
    | _, _ => none
  | _, _, _ => none

def eqK (op : BinOp) (b : Option Bool) (K : AV → Option R) : Option R :=
  match op, b with
  | .eql, some b => K (bv b)
  | .neq, some b => K (bv (!b))
  | _, _ => none

def binop (ti : Option TI) (yc : Bool) (h : Heap) (op : BinOp) (x y : AV) (K : AV → Option R) : Option R :=
  match x, y with
  | .one (.c (.d (.int k) a)), .one (.c (.d (.int k') b)) =>
    match op with
    | .shl => bif decide ((b : Int) < 0) then none else K (dv (.int k) (k.wrap ((a : Int) * 2 ^ (min (b : Int).toNat k.bits))))
    | .shr => bif decide ((b : Int) < 0) then none else K (dv (.int k) ((a : Int).fdiv (2 ^ (min (b : Int).toNat k.bits))))
    | _ => match castTo (.int k) (.int k') b with | some b => binInt op k a b K | none => none
  | .one (.c (.d .str a)), .one (.c (.d .str b)) => binStr op a b K
  | .one (.c (.d .bool a)), .one (.c (.d .bool b)) => bif isD ti .bool then eqK op (some (a == b)) K else none
  | .one (.agg xs), .one (.agg ys) => match eqfOf ti with
    | some ts => eqK op (eqAll ts xs ys) K
    | none => none
  | .one (.c x), .one (.c .nilS) => bif isSl ti && nilOK h x then eqK op (nilC h x) K else none
  | .one (.c x), .one (.c .nilif) => bif isIf ti && yc then eqK op (errC x) K else none
  | _, _ => none

def unop (op : UnOp) (x : AV) (K : AV → Option R) : Option R :=
  match op, x with
  | .not, .one (.c (.d .bool b)) => K (bv (!b))
  | .neg, .one (.c (.d (.int k) n)) => K (dv (.int k) (k.wrap (0 - (n : Int))))
  | _, _ => none

def convC (src dst : Option TI) (x : Cell) : Option Cell :=
  match x with
  | .d (.int _) n => match dst with
    | some ti => match ti.data with
      | some (.int k) => bif src.isSome then some (.d (.int k) (k.wrap n)) else none
      | _ => none
    | none => none
  | .d .str s => bif isD src .str && isD dst .str then some (.d .str s) else none
  | _ => none

/-! ### Operations -/
structure Ctx (R : Type) where
  nt : Nat
  np : Nat
  tb : Nat → Option TI
  hd : FuncId → Nat → List AV → St → (AV → St → Option R) → Option R

def mapGet (kt vt : Ty) : List (kt.den × vt.den) → kt.den → vt.den
  | [], _ => vt.dflt
  | (k, v) :: es, x => bif (eqD kt x k).getD false then v else mapGet kt vt es x
def mapHas (kt vt : Ty) : List (kt.den × vt.den) → kt.den → Bool
  | [], _ => false
  | (k, _) :: es, x => bif (eqD kt x k).getD false then true else mapHas kt vt es x
def mapPut (kt vt : Ty) : List (kt.den × vt.den) → kt.den → vt.den → List (kt.den × vt.den)
  | [], x, v => [(x, v)]
  | (k, u) :: es, x, v => bif (eqD kt x k).getD false then (x, v) :: es else (k, u) :: mapPut kt vt es x v

/-- an index or a slice's bound -/
def intA : AV → Option Int
  | .one (.c (.d (.int _) n)) => some n
  | _ => none
def intO (st : St) (d : Int) : Option Operand → Option Int
  | none => some d
  | some x => match ev st x with | some v => intA v | none => none

def room : Nat := 140737488355328

def mapFits (ti : Option TI) (kt vt : Ty) : Bool := match ti with
  | some ti => match ti.kind with | .map k v => decide (k = kt) && decide (v = vt) | _ => false
  | none => false
def V1.fits (v : V1) (t : Ty) : Bool := match v with | .agg _ => t.isAgg | .c _ => !t.isAgg

def elemSz (cx : Ctx R) (t : TypeId) : Option Nat := match (cx.tb t).bind TI.elem with
  | some e => match cx.tb e with | some te => some te.zero.length | none => none
  | none => none

/-- a fresh block: it must not be there -/
def St.new (st : St) (id : Id) (b : Blk) (K : St → Option R) : Option R :=
  match st.heap id with
  | none => bif Nat.blt id 500000 then K { st with heap := upd st.heap id (some b) } else none
  | some _ => none

/-- parts laid over cells -/
def fillC (cs : List Cell) (place : Nat → Option (Nat × Nat)) : List (Nat × V1) → Option (List Cell)
  | [] => some cs
  | (i, v) :: ps => match place i with
    | some (off, n) => bif Nat.beq v.cells.length n && Nat.ble (off + n) cs.length then fillC (splice cs off v.cells) place ps else none
    | none => none

def evParts (st : St) : List (Nat × Operand) → Option (List (Nat × V1))
  | [] => some []
  | (i, x) :: ps => match v1 st x with
    | some v => match evParts st ps with | some r => some ((i, v) :: r) | none => none
    | _ => none

def cellsV (st : St) (x : Operand) : Option (List Cell) := match v1 st x with | some v => some v.cells | none => none
def asmParts (t : Ty) : List (Nat × Operand) → List t.den → St → (List t.den → St → Option R) → Option R
  | [], xs, st, K => K xs st
  | (i, x) :: ps, xs, st, K =>
    let st := frz 8 st fun st => cellsV st x
    match cellsV st x with
    | some cs => match asmAll t cs with
      | some y => bif Nat.blt i xs.length then asmParts t ps (xs.set i y) st K else none
      | none => none
    | none => none

def evArgs (st : St) : List Operand → Option (List AV)
  | [] => some []
  | x :: xs => match ev st x with
    | some v => match evArgs st xs with | some r => some (v :: r) | none => none
    | none => none

/-- a type of elements -/
def elemTy (cx : Ctx R) (e : TypeId) : Option (Ty × Nat) := match cx.tb e with
  | some ti => match ti.data with | some t => some (t, ti.bytes) | none => none
  | none => none

/-- bytes, turned into a string -/
def strOf (l : List Int) : List UInt8 := l.map fun n => UInt8.ofNat n.toNat
def bytesC (cx : Ctx R) (s t : TypeId) (h : Heap) (a : Cell) : Option (List UInt8) := match (cx.tb s).bind TI.elem with
  | some e => match elemTy cx e with
    | some (.int .u8, _) => bif isD (cx.tb t) .str then (match cellData h (.int .u8) a with | some l => some (strOf l) | none => none) else none
    | _ => none
  | none => none

def aappend (cx : Ctx R) (dst : Nat) (e : TypeId) (s x : AV) (st : St) (K : AV → St → Option R) : Option R :=
  match elemTy cx e with
  | some (t, bytes) =>
    match s, x with
    | .one (.c s), .one (.c x) =>
      match cellData st.heap t x with
      | some ys =>
        match s with
        | .row id => match st.heap id with
          | some (.row e' nilE t' xs) => match castTo (.sl t') (.sl t) ys with
            | some ys => bif Nat.beq e' e && !fixedB id && decide ((xs.length + ys.length) * bytes ≤ room) then
                K (cv (.row id)) (let st1 := st.kill id xs.length; { st1 with heap := upd st1.heap id (some (.row e nilE t' (xs ++ ys))) })
              else none
            | none => none
          | _ => none
        | .win id 0 n sz => match st.heap id with
          | some (.row e' _ t' xs) => match castTo (.sl t') (.sl t) ys with
            | some ys => bif Nat.beq e' e && Nat.beq sz t'.sz && !fixedB id && decide ((n + ys.length) * bytes ≤ room) then
                K (cv (.row id)) (let st1 := st.kill id xs.length; { st1 with heap := upd st1.heap id (some (.row e false t' (xs.take n ++ ys))) })
              else none
            | none => none
          | _ => none
        | .nilS => bif decide (ys.length * bytes ≤ room) then st.new dst (.row e true t ys) fun st => K (cv (.row dst)) st else none
        | .clip t' xs => match castTo (.sl t) (.sl t') xs with
          | some xs => bif decide ((xs.length + ys.length) * bytes ≤ room) && Nat.blt 0 ys.length then st.new dst (.row e true t (xs ++ ys)) fun st => K (cv (.row dst)) st else none
          | none => none
        | _ => none
      | none => none
    | _, _ => none
  | _ => none

/-- so many zeros behind nothing: append(nil, make([]T, n)...) -/
def azeros (cx : Ctx R) (dst : Nat) (e : TypeId) (t' : TypeId) (s x : AV) (st : St) (K : AV → St → Option R) : Option R :=
  match elemTy cx e with
  | some (t, bytes) =>
    match s, x with
    | .one (.c .nilS), .one (.c (.d (.int k) n)) => bif isD (cx.tb t') (.int k) && decide (1 ≤ (n : Int)) && decide ((n : Int) * bytes ≤ room) then
        st.new dst (.row e false t (List.replicate (n : Int).toNat t.dflt)) fun st => K (cv (.row dst)) st
      else none
    | _, _ => none
  | none => none

def acopy (cx : Ctx R) (e : TypeId) (s x : AV) (st : St) (K : AV → St → Option R) : Option R :=
  match elemTy cx e with
  | some (t, _) =>
    match s, x with
    | .one (.c (.row id)), .one (.c x) =>
      match st.heap id, cellData st.heap t x with
      | some (.row e' ne t' xs), some ys => match castTo (.sl t') (.sl t) ys with
        | some ys => bif Nat.beq e' e then K (iv (min ys.length xs.length : Nat)) { st with heap := upd st.heap id (some (.row e' ne t' (ys.take xs.length ++ xs.drop ys.length))) } else none
        | none => none
      | _, _ => none
    | _, _ => none
  | _ => none

def astore (h : Heap) (p : Cell) (cs : List Cell) : Option Heap :=
  match p with
  | .ptr id off => match h id with
    | some (.box cur) => bif Nat.ble (off + cs.length) cur.length then some (upd h id (some (.box (splice cur off cs)))) else none
    | _ => none
  | .eptr id i off sz => match h id with
    | some (.row e ne t xs) => bif Nat.beq sz t.sz && Nat.ble (off + cs.length) t.sz then (match asmAll t (splice (cellsOf t (xs.getD i t.dflt)) off cs) with
      | some x => some (upd h id (some (.row e ne t (xs.set i x))))
      | none => none) else none
    | _ => none
  | _ => none

def lenFits (ti : Option TI) : Cell → Bool
  | .d .str _ => isD ti .str
  | .map _ => isMap ti
  | _ => isSl ti

def abuiltin (cx : Ctx R) (b : Builtin) (dst : Nat) (ats : List TypeId) (args : List AV) (st : St) (K : AV → St → Option R) : Option R :=
  match b, args with
  | .len, [.one (.c x)] => match ats with
    | [t] => match lenC st.heap x with
      | some n => bif lenFits (cx.tb t) x then K (iv n) st else none
      | none => none
    | _ => none
  | .cap, [.one (.c x)] => match ats with
    | [t] => bif isSl (cx.tb t) && cap0 st.heap x then K (iv 0) st else none
    | _ => none
  | .append, [s, x] => match ats with
    | [t, t'] => bif Nat.beq t' t then (match (cx.tb t).bind TI.elem with | some e => aappend cx dst e s x st K | none => none)
      else (match (cx.tb t).bind TI.elem with | some e => azeros cx dst e t' s x st K | none => none)
    | _ => none
  | .copy, [s, x] => match ats with
    | [t, _] => match (cx.tb t).bind TI.elem with | some e => acopy cx e s x st K | none => none
    | _ => none
  | .min, [.one (.c (.d (.int k) a)), .one (.c (.d (.int k') b))] => match castTo (.int k) (.int k') b with
    | some b => K (dv (.int k) (bif decide ((b : Int) < a) then b else a)) st | none => none
  | .max, [.one (.c (.d (.int k) a)), .one (.c (.d (.int k') b))] => match castTo (.int k) (.int k') b with
    | some b => K (dv (.int k) (bif decide ((a : Int) < b) then b else a)) st | none => none
  | _, _ => none

/-- an operation; K gets the state behind it -/
def aop (cx : Ctx R) (o : Oper) (st : St) (K : St → Option R) : Option R :=
  let dn := o.dst.getD 0
  let out (v : AV) : Option R := K (st.put o.dst v)
  match o.op with
  | .move x | .assign x => match ev st x with | some v => out v | none => none
  | .pick c a b => match ev st c, ev st a, ev st b with
    | some (.one (.c (.d .bool z))), some va, some vb => match va, vb with
      | .one (.c (.d .bool p)), .one (.c (.d .bool q)) => out (bv (bif z then p else q))
      | va, vb => bif z then out va else out vb
    | _, _, _ => none
  | .alloc t => match cx.tb t with
    | some ti => match ti.bldE with
      | none => st.new dn (.box ti.zero) fun st => K (st.put o.dst (cv (.ptr dn 0)))
      | some e => match elemTy cx e, ti.zero with
        | some (.int .u8, _), [.nilp, .nilS] => st.new (dn + 100000) (.buf e []) fun st => st.new dn (.bld t (dn + 100000)) fun st => K (st.put o.dst (cv (.ptr dn 0)))
        | _, _ => none
    | none => none
  | .box _ x => match cellsV st x with
    | some cs => st.new dn (.box cs) fun st => K (st.put o.dst (cv (.ptr dn 0)))
    | none => none
  | .load t a => match cx.tb t, ev st a with
    | some ti, some (.one (.c p)) => match pointee st.heap p with
      | some cs => bif ti.agg then (bif Nat.ble ti.zero.length cs.length then out (.one (.agg (cs.take ti.zero.length))) else none) else (match cs with | c :: _ => out (cv c) | [] => none)
      | none => none
    | _, _ => none
  | .store t a x =>
    let st := match ev st a with
      | some (.one (.c (.eptr _ _ _ _))) => frz 8 st fun st => cellsV st x
      | _ => st
    match cx.tb t, ev st a, cellsV st x with
    | some ti, some (.one (.c p)), some cs => bif Nat.beq cs.length ti.zero.length then
        (match astore st.heap p cs with | some h => K ({ st with heap := h }.put o.dst skipA) | none => none) else none
    | _, _, _ => none
  | .nilCheck x => match ev st x with
    | some (.one (.c (.ptr i j))) => out (cv (.ptr i j))
    | some (.one (.c (.eptr i j l z))) => out (cv (.eptr i j l z))
    | some (.one (.c (.cptr t x j))) => out (cv (.cptr t x j))
    | some (.one (.c (.fn f c))) => out (cv (.fn f c))
    | _ => none
  | .binOp op t x y _ => match ev st x, ev st y with | some a, some b => binop (cx.tb t) (isConst y) st.heap op a b out | _, _ => none
  | .unOp op _ x => match ev st x with | some a => unop op a out | none => none
  | .convert s t x => match ev st x with
    | some (.one (.c a)) => match bytesC cx s t st.heap a with
      | some l => out (dv .str l)
      | none => match convC (cx.tb s) (cx.tb t) a with | some c => out (cv c) | none => none
    | _ => none
  | .fieldAddr t x f => match cx.tb t, ev st x with
    | some ti, some (.one (.c p)) => match ti.fld f with
      | some (q, _) => match p with
        | .ptr id off => out (cv (.ptr id (off + q)))
        | .eptr id i off sz => out (cv (.eptr id i (off + q) sz))
        | .cptr t x off => out (cv (.cptr t x (off + q)))
        | _ => none
      | none => none
    | _, _ => none
  | .indexAddr t x i => match ev st x, ev st i, elemSz cx t with
    | some (.one (.c x)), some iv, some n => match intA iv with
      | some i => match x with
        | .row id => match st.heap id with
          | some (.row _ _ t xs) => bif Nat.beq n t.sz then (bif inb i xs.length then out (cv (.eptr id i.toNat 0 n)) else none) else none
          | _ => none
        | .win id lo m sz => bif Nat.beq n sz then (bif inb i m then out (cv (.eptr id (lo + i.toNat) 0 n)) else none) else none
        | .d (.sl t) xs => bif Nat.beq n t.sz then (bif inb i xs.length then out (cv (.cptr t (xs.getD i.toNat t.dflt) 0)) else none) else none
        | _ => none
      | none => none
    | _, _, _ => none
  | .index t x i => match ev st x, ev st i with
    | some (.one (.c (.d .str s))), some iv => match intA iv with
      | some i => bif isD (cx.tb t) .str then (bif inb i s.length then out (dv (.int .u8) ((s.getD i.toNat 0).toNat : Int)) else none) else none
      | none => none
    | _, _ => none
  | .extract x j => match ev st x with
    | some (.tup vs) => match vs[j]? with | some v => out (.one v) | none => none
    | _ => none
  | .build t ps => match cx.tb t, evParts st ps.toList with
    | some ti, some vs => match fillC ti.zero ti.fld vs with | some cs => bif ti.isStr then out (.one (.agg cs)) else none | none => none
    | _, _ => none
  | .buildSlice t n ps => match cx.tb t with
    | some ti => match ti.elem with
      | some te => match elemTy cx te with
        | some (e, _) => bif Nat.ble (n * e.sz) 16777216 then
            asmParts e ps.toList (List.replicate n e.dflt) st fun xs st => st.new dn (.row te (Nat.blt 0 n) e xs) fun st => K (st.put o.dst (cv (.row dn)))
          else none
        | _ => none
      | none => none
    | _ => none
  | .makeSlice t l c => match cx.tb t, ev st l, ev st c with
    | some ti, some l, some c => match ti.elem with
      | some te => match elemTy cx te, intA l, intA c with
        | some (e, bytes), some l, some c =>
          bif decide (0 ≤ l) && decide (l ≤ c) && decide (c * bytes ≤ room) then st.new dn (.row te false e (List.replicate l.toNat e.dflt)) fun st => K (st.put o.dst (cv (.row dn))) else none
        | _, _, _ => none
      | none => none
    | _, _, _ => none
  | .slice t x lo hi mx => match ev st x with
    | some (.one (.c x)) => match lenC st.heap x with
      | some n => match intO st 0 lo, intO st n hi with
        | some l, some h => bif decide (0 ≤ l) && decide (l ≤ h) && decide (h ≤ (n : Int)) then
            (match x with
              | .d .str s => (match mx with | none => bif isD (cx.tb t) .str then out (dv .str ((s.take h.toNat).drop l.toNat)) else none | some _ => none)
              | .row id => (match st.heap id, mx, elemSz cx t with
                | some (.row _ _ ty _), none, some z => bif Nat.beq z ty.sz then out (cv (.win id (0 + l.toNat) (h.toNat - l.toNat) z)) else none
                | _, _, _ => none)
              | .win id lo0 _ sz => (match mx, elemSz cx t with
                | none, some z => bif Nat.beq z sz then out (cv (.win id (lo0 + l.toNat) (h.toNat - l.toNat) z)) else none
                | _, _ => none)
              | .nilS => (match mx with
                | none => (match elemSz cx t with | some _ => out (cv .nilS) | none => none)
                | some _ => none)
              | .d (.sl t') xs => (match elemSz cx t with
                | some z => bif Nat.beq z t'.sz then (match mx with
                  | none => out (cv (.d (.sl t') ((xs.take h.toNat).drop l.toNat)))
                  | some m => match intO st 0 (some m) with
                    | some m => bif hi.isSome && decide (m = h) then out (cv (.clip t' ((xs.take h.toNat).drop l.toNat))) else none
                    | none => none) else none
                | none => none)
              | _ => none) else none
        | _, _ => none
      | none => none
    | _ => none
  | .makeMap t rv => match cx.tb t, rv with
    | some ti, none => match ti.kind with
      | .map kt vt => st.new dn (.map kt vt []) fun st => K (st.put o.dst (cv (.map dn)))
      | _ => none
    | _, _ => none
  | .insert t m k x | .mapUpdate t m k x =>
    let st := frz 8 st fun st => cellsV st x
    match ev st m, v1 st k, v1 st x with
    | some (.one (.c (.map id))), some (.c kc), some xv => match st.heap id with
      | some (.map kt vt es) => match cellD kt kc, asmAll vt xv.cells with
        | some kd, some vd => bif mapFits (cx.tb t) kt vt && xv.fits vt then K ({ st with heap := upd st.heap id (some (.map kt vt (mapPut kt vt es kd vd))) }.put o.dst skipA) else none
        | _, _ => none
      | _ => none
    | _, _, _ => none
  | .lookup t m k ok => match ev st m, v1 st k with
    | some (.one (.c (.map id))), some (.c kc) => match st.heap id with
      | some (.map kt vt es) => match cellD kt kc with
        | some kd => bif mapFits (cx.tb t) kt vt then (bif ok then out (.tup [valOf vt (mapGet kt vt es kd), .c (.d .bool (mapHas kt vt es kd))]) else out (.one (valOf vt (mapGet kt vt es kd)))) else none
        | none => none
      | _ => none
    | _, _ => none
  | .makeFunc (.func f) first captured => match first.toList, evArgs st captured.toList with
    | [], some vs => match vs.mapM (fun v => match v with | .one (.c (.ptr i j)) => some (i, j) | _ => none) with
      | some caps => out (cv (.fn f caps))
      | none => none
    | _, _ => none
  | .call c => match evArgs st c.args.toList with
    | some args => match c.callee with
      | .builtin b => abuiltin cx b dn c.argTypes.toList args st fun v st => K (st.put o.dst v)
      | .value f => match ev st f with
        | some (.one (.c (.fn g caps))) => cx.hd g dn (args ++ caps.map fun (i, j) => cv (.ptr i j)) st fun v st => K (st.put o.dst v)
        | _ => none
      | _ => none
    | none => none
  | _ => none

/-- what guards an operation -/
def aops (cx : Ctx R) (all : List Oper) : List Oper → St → (St → Option R) → Option R
  | [], st, K => K st
  | o :: os, st, K => bif (match o.dst with | some d => Nat.blt d cx.nt && Nat.ble cx.np d | none => true) then match o.guard with
    | none => aop cx o st fun st => aops cx all os st K
    | some (j, want) => match all[j]? with
      | some { dst := some t, .. } => match st.env t with
        | .one (.c (.d .bool b)) =>
          bif b then (let st := st.put (some t) (bv true); bif want then aop cx o st fun st => aops cx all os st K else aops cx all os (st.put o.dst skipA) K)
          else (let st := st.put (some t) (bv false); bif want then aops cx all os (st.put o.dst skipA) K else aop cx o st fun st => aops cx all os st K)
        | .tup [] => aops cx all os (st.put o.dst skipA) K
        | _ => none
      | _ => none
    else none

/-! ### The machine -/
structure Prog (R : Type) extends Ctx R where
  cuts : Nat → Option (List Item → St → Option R)
  fin : St → Option R

def arun (pg : Prog R) : Nat → List Item → St → Option R
  | 0, _, _ => none
  | n + 1, todo, st => match todo with
    | [] => pg.fin st
    | .code .ret :: _ => pg.fin st
    | .code .skip :: k | .code (.label _) :: k | .inBlock _ :: k | .inScope _ :: k => arun pg n k st
    | .code (.seq a b) :: k => arun pg n (.code a :: .code b :: k) st
    | .code (.cond c t e) :: k => match c with
      | .tmp s => match st.env s with
        | .one (.c (.d .bool b)) => bif b then arun pg n (.code t :: k) (st.put (some s) (bv true)) else arun pg n (.code e :: k) (st.put (some s) (bv false))
        | _ => none
      | .const (.bool b) => bif b then arun pg n (.code t :: k) st else arun pg n (.code e :: k) st
      | _ => none
    | .code (.block id c) :: k => arun pg n (.code c :: .inBlock id :: k) st
    | .code (.scope c) :: k => arun pg n (.code c :: .inScope c :: k) st
    | .code (.loop c) :: k | .inLoop c :: k => arun pg n (.code c :: .inLoop c :: k) st
    | .code (.exit id) :: k => match exitTo id k with | some k' => arun pg n k' st | none => none
    | .code (.region id ops draw) :: k => match pg.cuts id with
      | some f => f todo st
      | none => bif draw then none else aops pg.toCtx ops.toList ops.toList st fun st => arun pg n k st
    | _ => none

/-- the same, but a cut that stands ahead is gone into -/
def arun1 (pg : Prog R) (n : Nat) (todo : List Item) (st : St) : Option R :=
  match todo with
  | .code (.region _ ops draw) :: k => bif draw then none else aops pg.toCtx ops.toList ops.toList st fun st => arun pg n k st
  | _ => arun pg n todo st

/-- where a region stands in a function's body -/
def find (r : Nat) : Code → List Item → Option (List Item)
  | .region id ops draw, k => bif Nat.beq id r then some (.code (.region id ops draw) :: k) else none
  | .seq a b, k => match find r a (.code b :: k) with | some t => some t | none => find r b k
  | .cond _ t e, k => match find r t k with | some t => some t | none => find r e k
  | .block id c, k => find r c (.inBlock id :: k)
  | .scope c, k => find r c (.inScope c :: k)
  | .loop c, k => find r c (.inLoop c :: k)
  | _, _ => none
end
end Go.Proofs.YtjjepjfjikefiaaB
