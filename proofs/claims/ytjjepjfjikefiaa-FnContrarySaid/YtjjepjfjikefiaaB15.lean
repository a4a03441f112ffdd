/- The core, part 15: templates of states: reading the live values out of a state, and making a state from them. -/
import Derived.Test.YtjjepjfjikefiaaB14
set_option linter.unusedVariables false
namespace Go.Proofs.YtjjepjfjikefiaaB
open Go

inductive CS where
  | any
  | d (t : Ty)
  | row (id : Id)
  | ptr (id : Id) (off : Nat)
  | map (id : Id)
  | fn (f : FuncId) (caps : List (Id × Nat))
  | nilp | nilfn | nilif
  | err
  | clip (t : Ty)
  | nilS
inductive BS where
  | box (l : List CS)
  | row (e : TypeId) (nilE : Bool) (t : Ty)
  | map (kt vt : Ty)
  | bld (T : TypeId) (bid : Id)
  | buf (e : TypeId)
structure Slot where
  t : Nat
  agg : Bool
  l : List CS
structure Tpl where
  env : List Slot
  heap : List (Id × BS)

/-! ### What lives in such a state -/
abbrev CST : List CS → Type → Type
  | [], X => X
  | .d t :: l, X => t.den × CST l X
  | .err :: l, X => Bool × CST l X
  | .clip t :: l, X => List t.den × CST l X
  | _ :: l, X => CST l X
abbrev envT : List Slot → Type → Type
  | [], X => X
  | s :: l, X => CST s.l (envT l X)
abbrev heapT : List (Id × BS) → Type → Type
  | [], X => X
  | (_, .box l) :: r, X => CST l (heapT r X)
  | (_, .row _ _ t) :: r, X => List t.den × heapT r X
  | (_, .map kt vt) :: r, X => List (kt.den × vt.den) × heapT r X
  | (_, .bld _ _) :: r, X => heapT r X
  | (_, .buf _) :: r, X => List UInt8 × heapT r X
abbrev Tpl.T (p : Tpl) : Type := envT p.env (heapT p.heap Unit)

/-! ### Making -/
def mkC : (l : List CS) → {X : Type} → CST l X → List Cell × X
  | [], _, x => ([], x)
  | .d t :: l, _, x => (cellsOf t x.1 ++ (mkC l x.2).1, (mkC l x.2).2)
  | .err :: l, _, x => (.err x.1 :: (mkC l x.2).1, (mkC l x.2).2)
  | .clip t :: l, _, x => (.clip t x.1 :: (mkC l x.2).1, (mkC l x.2).2)
  | .any :: l, _, x => (.undef :: (mkC l x).1, (mkC l x).2)
  | .row id :: l, _, x => (.row id :: (mkC l x).1, (mkC l x).2)
  | .ptr id off :: l, _, x => (.ptr id off :: (mkC l x).1, (mkC l x).2)
  | .map id :: l, _, x => (.map id :: (mkC l x).1, (mkC l x).2)
  | .fn f c :: l, _, x => (.fn f c :: (mkC l x).1, (mkC l x).2)
  | .nilp :: l, _, x => (.nilp :: (mkC l x).1, (mkC l x).2)
  | .nilS :: l, _, x => (.nilS :: (mkC l x).1, (mkC l x).2)
  | .nilfn :: l, _, x => (.nilfn :: (mkC l x).1, (mkC l x).2)
  | .nilif :: l, _, x => (.nilif :: (mkC l x).1, (mkC l x).2)
def mkSlot (agg : Bool) (cs : List Cell) : AV := bif agg then .one (.agg cs) else .one (.c (cs.headD .undef))
def mkEnv : (l : List Slot) → {X : Type} → envT l X → (Nat → AV) × X
  | [], _, x => (fun _ => undefA, x)
  | s :: l, _, x => (upd (mkEnv l (mkC s.l x).2).1 s.t (mkSlot s.agg (mkC s.l x).1), (mkEnv l (mkC s.l x).2).2)
def mkHeap : (l : List (Id × BS)) → {X : Type} → heapT l X → (Id → Option Blk) × X
  | [], _, x => (fun _ => none, x)
  | (id, .box l) :: r, _, x => (upd (mkHeap r (mkC l x).2).1 id (some (.box (mkC l x).1)), (mkHeap r (mkC l x).2).2)
  | (id, .row e n t) :: r, _, x => (upd (mkHeap r x.2).1 id (some (.row e n t x.1)), (mkHeap r x.2).2)
  | (id, .map kt vt) :: r, _, x => (upd (mkHeap r x.2).1 id (some (.map kt vt x.1)), (mkHeap r x.2).2)
  | (id, .bld T bid) :: r, _, x => (upd (mkHeap r x).1 id (some (.bld T bid)), (mkHeap r x).2)
  | (id, .buf e) :: r, _, x => (upd (mkHeap r x.2).1 id (some (.buf e x.1)), (mkHeap r x.2).2)
def mk (p : Tpl) (x : p.T) : St := { env := (mkEnv p.env x).1, heap := (mkHeap p.heap (mkEnv p.env x).2).1 }

/-! ### Reading -/
abbrev IdMap := List (Id × Id)
def look : IdMap → Id → Option Id
  | [], _ => none
  | (t, id) :: m, x => bif Nat.beq x t then some id else look m x
def isAt (m : IdMap) (t id : Id) : Bool := match look m t with | some id' => Nat.beq id' id | none => false
def areAt (m : IdMap) : List (Id × Nat) → List (Id × Nat) → Bool
  | [], [] => true
  | (t, o) :: l, (id, o') :: l' => isAt m t id && Nat.beq o o' && areAt m l l'
  | _, _ => false
def rdC (m : IdMap) : (l : List CS) → {X : Type} → List Cell → Option X → Option (CST l X)
  | [], _, [], x => x
  | .d t :: l, _, cs, x => match asm t cs with
    | some (y, cs') => match rdC m l cs' x with | some z => some (y, z) | none => none
    | none => none
  | .any :: l, _, _ :: cs, x => rdC m l cs x
  | .err :: l, _, .err z :: cs, x => match rdC m l cs x with | some y => some (z, y) | none => none
  | .err :: l, _, .nilif :: cs, x => match rdC m l cs x with | some y => some (true, y) | none => none
  | .clip t :: l, _, .clip t' xs :: cs, x => match castTo (.sl t) (.sl t') xs with
    | some y => match rdC m l cs x with | some z => some (y, z) | none => none
    | none => none
  | .row t :: l, _, .row id :: cs, x => bif isAt m t id then rdC m l cs x else none
  | .ptr t off :: l, _, .ptr id off' :: cs, x => bif isAt m t id && Nat.beq off off' then rdC m l cs x else none
  | .map t :: l, _, .map id :: cs, x => bif isAt m t id then rdC m l cs x else none
  | .fn f caps :: l, _, .fn f' caps' :: cs, x => bif Nat.beq f f' && areAt m caps caps' then rdC m l cs x else none
  | .nilp :: l, _, .nilp :: cs, x => rdC m l cs x
  | .nilS :: l, _, .nilS :: cs, x => rdC m l cs x
  | .nilfn :: l, _, .nilfn :: cs, x => rdC m l cs x
  | .nilif :: l, _, .nilif :: cs, x => rdC m l cs x
  | _, _, _, _ => none
def rdEnv (m : IdMap) (env : Env) : (l : List Slot) → {X : Type} → Option X → Option (envT l X)
  | [], _, x => x
  | s :: l, _, x => match env s.t with
    | .one (.c .undef) => none
    | .one (.c c) => bif s.agg then none else rdC m s.l [c] (rdEnv m env l x)
    | .one (.agg cs) => bif s.agg then rdC m s.l cs (rdEnv m env l x) else none
    | _ => none
def castMap (kt vt kt' vt' : Ty) (x : List (kt'.den × vt'.den)) : Option (List (kt.den × vt.den)) := if h : kt' = kt ∧ vt' = vt then some (h.1 ▸ h.2 ▸ x) else none
def rdHeap (m : IdMap) (heap : Heap) : (l : List (Id × BS)) → {X : Type} → Option X → Option (heapT l X)
  | [], _, x => x
  | (t, .box l) :: r, _, x => match look m t with
    | some id => match heap id with
      | some (.box cs) => rdC m l cs (rdHeap m heap r x)
      | _ => none
    | none => none
  | (t, .row e _ ty) :: r, _, x => match look m t with
    | some id => match heap id with
      | some (.row e' _ ty' xs) => bif Nat.beq e e' then (match castTo (.sl ty) (.sl ty') xs with
        | some ys => match rdHeap m heap r x with | some z => some (ys, z) | none => none
        | none => none) else none
      | _ => none
    | none => none
  | (t, .map kt vt) :: r, _, x => match look m t with
    | some id => match heap id with
      | some (.map kt' vt' es) => match castMap kt vt kt' vt' es with
        | some ys => match rdHeap m heap r x with | some z => some (ys, z) | none => none
        | none => none
      | _ => none
    | none => none
  | (t, .bld T bid) :: r, _, x => match look m t with
    | some id => match heap id with
      | some (.bld T' bid') => bif Nat.beq T T' && isAt m bid bid' then rdHeap m heap r x else none
      | _ => none
    | none => none
  | (t, .buf e) :: r, _, x => match look m t with
    | some id => match heap id with
      | some (.buf e' l) => bif Nat.beq e e' then (match rdHeap m heap r x with | some z => some (l, z) | none => none) else none
      | _ => none
    | none => none
def distinct : List Nat → Bool
  | [] => true
  | x :: xs => !(xs.any fun y => Nat.beq x y) && distinct xs
def fitsMap (m : IdMap) (p : Tpl) : Bool := distinct (m.map (·.2)) && m.all fun x => p.heap.any fun y => Nat.beq y.1 x.1
/-- a row that is to be nil where it is empty: it is, or it isn't empty -/
def rowGuard (m : IdMap) (heap : Heap) : Id × BS → Bool
  | (t, .row _ true _) => match look m t with
    | some id => match heap id with
      | some (.row _ n' _ xs) => n' || !xs.isEmpty
      | _ => true
    | none => true
  | _ => true
def rd0 (m : IdMap) (p : Tpl) (st : St) : Option p.T := rdEnv m st.env p.env (rdHeap m st.heap p.heap (some ()))
def rd (m : IdMap) (p : Tpl) (st : St) : Option p.T := bif fitsMap m p && p.heap.all (rowGuard m st.heap) then rd0 m p st else none

/-! ### Making ready: rows that are wanted as data become data, nil slices that are wanted as rows become rows -/
inductive Loc where
  | tmp (t : Nat)
  | box (id : Id)
def getL (st : St) : Loc → Option (List Cell)
  | .tmp t => match st.env t with
    | .one v => some v.cells
    | .tup _ => none
  | .box id => match st.heap id with
    | some (.box cs) => some cs
    | _ => none
def setCell (v : V1) (j : Nat) (c : Cell) : V1 := match v with
  | .c _ => .c c
  | .agg cs => .agg (cs.set j c)
def setL (st : St) (l : Loc) (j : Nat) (c : Cell) : St := match l with
  | .tmp t => match st.env t with
    | .one v => { st with env := upd st.env t (.one (setCell v j c)) }
    | .tup _ => st
  | .box id => match st.heap id with
    | some (.box cs) => { st with heap := upd st.heap id (some (.box (cs.set j c))) }
    | _ => st
def rowBS (p : List (Id × BS)) (t : Id) : Option (TypeId × Ty) := match p with
  | [] => none
  | (t', .row e _ ty) :: p => bif Nat.beq t t' then some (e, ty) else rowBS p t
  | _ :: p => rowBS p t
def bindM (m : IdMap) (t id : Id) : IdMap := match look m t with | some _ => m | none => m ++ [(t, id)]
def bindMs (m : IdMap) : List (Id × Nat) → List (Id × Nat) → IdMap
  | (t, _) :: l, (id, _) :: l' => bindMs (bindM m t id) l l'
  | _, _ => m
/-- a row that goes on as its first n -/
def St.trunc (st : St) (id : Id) (e : TypeId) (t : Ty) (xs : List t.den) (n : Nat) : St := let st1 := st.kill id xs.length; { st1 with heap := upd st1.heap id (some (.row e false t (xs.take n))) }
def prepC (p : List (Id × BS)) (loc : Loc) : List CS → Nat → IdMap → St → IdMap × St
  | [], _, m, st => (m, st)
  | .d t :: l, j, m, st => prepC p loc l (j + t.sz) m (frz 8 st fun st => (getL st loc).map fun cs => (cs.drop j).take t.sz)
  | .row t :: l, j, m, st => match (getL st loc).bind (·[j]?) with
    | some (.row id) => prepC p loc l (j + 1) (bindM m t id) st
    | some .nilS => match rowBS p t, st.heap (t + 7000000) with
      | some (e, ty), none => prepC p loc l (j + 1) (bindM m t (t + 7000000)) (setL { st with heap := upd st.heap (t + 7000000) (some (.row e true ty [])) } loc j (.row (t + 7000000)))
      | _, _ => (m, st)
    | some (.win id 0 n sz) => match rowBS p t, st.heap id with
      | some _, some (.row e _ ty xs) => bif Nat.beq sz ty.sz && !fixedB id then prepC p loc l (j + 1) (bindM m t id) (setL (st.trunc id e ty xs n) loc j (.row id)) else (m, st)
      | _, _ => (m, st)
    | _ => (m, st)
  | .ptr t _ :: l, j, m, st => match (getL st loc).bind (·[j]?) with
    | some (.ptr id _) => prepC p loc l (j + 1) (bindM m t id) st
    | _ => (m, st)
  | .map t :: l, j, m, st => match (getL st loc).bind (·[j]?) with
    | some (.map id) => prepC p loc l (j + 1) (bindM m t id) st
    | _ => (m, st)
  | .fn _ caps :: l, j, m, st => match (getL st loc).bind (·[j]?) with
    | some (.fn _ caps') => prepC p loc l (j + 1) (bindMs m caps caps') st
    | _ => (m, st)
  | _ :: l, j, m, st => prepC p loc l (j + 1) m st
def prepEnv (p : List (Id × BS)) : List Slot → IdMap → St → IdMap × St
  | [], m, st => (m, st)
  | s :: l, m, st => match prepC p (.tmp s.t) s.l 0 m st with | (m, st) => prepEnv p l m st
def prepHeap (p : List (Id × BS)) : List (Id × BS) → IdMap → St → IdMap × St
  | [], m, st => (m, st)
  | (t, .box l) :: r, m, st => match look m t with
    | some id => match prepC p (.box id) l 0 m st with | (m, st) => prepHeap p r m st
    | none => (m, st)
  | (t, .bld _ bid) :: r, m, st => match look m t with
    | some id => match st.heap id with
      | some (.bld _ bid') => prepHeap p r (bindM m bid bid') st
      | _ => (m, st)
    | none => (m, st)
  | _ :: r, m, st => prepHeap p r m st
def prep (p : Tpl) (st : St) : IdMap × St := match prepEnv p.heap p.env [] st with | (m, st) => prepHeap p.heap p.heap m st
def keptFits (m : IdMap) (p : Tpl) : Bool := p.heap.all fun q => !keptB q.1 || isAt m q.1 q.1
def ext (p : Tpl) (st : St) : Option p.T := match prep p st with | (m, st) => bif keptFits m p then rd m p st else none

/-- a cut: the todo, and what lives -/
def cut {R : Type} (p : Tpl) (J : List Item → p.T → Option R) : List Item → St → Option R := fun todo st => match prep p st with
  | (m, st) => bif keptFits m p && (fitsMap m p && p.heap.all (rowGuard m st.heap)) then (match rd0 m p st with | some x => J todo x | none => none) else none
theorem cut_eq {R : Type} (p : Tpl) (J : List Item → p.T → Option R) (todo : List Item) (st : St) : cut p J todo st = match ext p st with | some x => J todo x | none => none := by
  unfold cut ext rd
  split
  rename_i m st' _
  cases keptFits m p <;> cases (fitsMap m p && p.heap.all (rowGuard m st'.heap)) <;> rfl
end Go.Proofs.YtjjepjfjikefiaaB
