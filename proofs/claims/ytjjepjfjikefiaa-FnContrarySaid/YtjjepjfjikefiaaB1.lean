/- The core, part 1: what the abstract state says of the machine's; how facts on memory outlive changes elsewhere. -/
import Derived.Test.YtjjepjfjikefiaaB0
import Derived.Test.YtjjepjfjikefiaaTB
import Derived.Laws.CopyOwn
import Derived.Laws.MakeOwn
set_option linter.unusedVariables false
namespace Go.Proofs.YtjjepjfjikefiaaB
open Go

/-! ### Rows of cells -/
def RowCells {α : Type} (R : α → List Value → Prop) : List α → List Value → Prop
  | [], cs => cs = []
  | x :: xs, cs => ∃ c r, cs = c ++ r ∧ R x c ∧ RowCells R xs r

def CellsAt (w : World) (b off : Nat) (cells : List Value) : Prop := ∀ j v, cells[j]? = some v → w.cell? ⟨b, off + j, none⟩ = some v

/-- data, read out of cells; what its slices lead to lies in blocks of S -/
def Reads (S : Nat → Prop) (w : World) : (t : Ty) → t.den → List Value → Prop
  | .unit, _, cs => cs = []
  | .int k, n, cs => cs = [.int k n]
  | .bool, b, cs => cs = [.bool b]
  | .str, l, cs => ∃ s : ByteArray, cs = [.string s] ∧ s.data.toList = l
  | .last t, x, cs => Reads S w t x cs
  | .prod a b, x, cs => ∃ c1 c2, cs = c1 ++ c2 ∧ Reads S w a x.1 c1 ∧ Reads S w b x.2 c2
  | .sl t, xs, cs => ∃ A c, cs = [.slice A xs.length c] ∧ xs.length ≤ c ∧
      (xs ≠ [] → ∃ b off cells, A = some ⟨b, off, none⟩ ∧ S b ∧ RowCells (Reads S w t) xs cells ∧ CellsAt w b off cells)

theorem RowCells.mono {α : Type} {R R' : α → List Value → Prop} (h : ∀ x c, R x c → R' x c) : ∀ {xs : List α} {cs : List Value}, RowCells R xs cs → RowCells R' xs cs
  | [], _, hr => hr
  | _ :: _, _, ⟨c, r, e, hx, hr⟩ => ⟨c, r, e, h _ _ hx, RowCells.mono h hr⟩

theorem CellsAt.frame {w w' : World} {b off : Nat} {cells : List Value} (h : CellsAt w b off cells) (hb : w'.heap[b]? = w.heap[b]?) : CellsAt w' b off cells :=
  fun j v hj => (World.cell?_of_block (w := w) (a := ⟨b, off + j, none⟩) hb).trans (h j v hj)

theorem Reads.frame {S S' : Nat → Prop} {w w' : World} (h : ∀ b, S b → S' b ∧ w'.heap[b]? = w.heap[b]?) : ∀ {t : Ty} {x : t.den} {cs : List Value}, Reads S w t x cs → Reads S' w' t x cs
  | .unit, _, _, hr => hr
  | .int _, _, _, hr => hr
  | .bool, _, _, hr => hr
  | .str, _, _, hr => hr
  | .last t, _, _, hr => Reads.frame (t := t) h hr
  | .prod a b, _, _, ⟨c1, c2, e, h1, h2⟩ => ⟨c1, c2, e, Reads.frame (t := a) h h1, Reads.frame (t := b) h h2⟩
  | .sl t, _, _, ⟨A, c, e, hc, hr⟩ => ⟨A, c, e, hc, fun hn => by
      obtain ⟨b, off, cells, ha, hs, hrow, hat⟩ := hr hn
      exact ⟨b, off, cells, ha, (h b hs).1, hrow.mono fun x c hx => Reads.frame (t := t) h hx, hat.frame (h b hs).2⟩⟩

theorem Reads.length {S : Nat → Prop} {w : World} : ∀ {t : Ty} {x : t.den} {cs : List Value}, Reads S w t x cs → cs.length = t.sz
  | .unit, _, _, hr => by have : _ = [] := hr; subst this; rfl
  | .int _, _, _, hr => by have : _ = [_] := hr; subst this; rfl
  | .bool, _, _, hr => by have : _ = [_] := hr; subst this; rfl
  | .str, _, _, ⟨s, e, _⟩ => by subst e; rfl
  | .last t, _, _, hr => Reads.length (t := t) hr
  | .prod a b, _, _, ⟨c1, c2, e, h1, h2⟩ => by subst e; rw [List.length_append, Reads.length h1, Reads.length h2]; rfl
  | .sl t, _, _, ⟨A, c, e, _, _⟩ => by subst e; rfl

theorem Reads.oneCell {S : Nat → Prop} {w : World} : ∀ {t : Ty} {x : t.den} {cs : List Value}, Reads S w t x cs → ∀ u ∈ cs, u.oneCell' = true
  | .unit, _, _, hr => by have : _ = [] := hr; subst this; simp
  | .int _, _, _, hr => by have : _ = [_] := hr; subst this; simp [Value.oneCell']
  | .bool, _, _, hr => by have : _ = [_] := hr; subst this; simp [Value.oneCell']
  | .str, _, _, ⟨s, e, _⟩ => by subst e; simp [Value.oneCell']
  | .last t, _, _, hr => Reads.oneCell (t := t) hr
  | .prod a b, _, _, ⟨c1, c2, e, h1, h2⟩ => by
      subst e
      intro u hu
      rcases List.mem_append.1 hu with h | h
      · exact Reads.oneCell h1 u h
      · exact Reads.oneCell h2 u h
  | .sl t, _, _, ⟨A, c, e, _, _⟩ => by subst e; simp [Value.oneCell']

section
variable {α : Type} {R : α → List Value → Prop}
theorem RowCells.append : ∀ {xs ys : List α} {cs ds : List Value}, RowCells R xs cs → RowCells R ys ds → RowCells R (xs ++ ys) (cs ++ ds)
  | [], _, _, _, h, h' => by have : _ = [] := h; subst this; exact h'
  | x :: xs, _, _, _, ⟨c, r, e, hx, hr⟩, h' => ⟨c, r ++ _, by rw [e, List.append_assoc], hx, hr.append h'⟩
theorem RowCells.length (sz : Nat) (hsz : ∀ x c, R x c → c.length = sz) : ∀ {xs : List α} {cs : List Value}, RowCells R xs cs → cs.length = xs.length * sz
  | [], _, h => by have : _ = [] := h; subst this; simp
  | x :: xs, _, ⟨c, r, e, hx, hr⟩ => by subst e; rw [List.length_append, hsz _ _ hx, RowCells.length sz hsz hr, List.length_cons, Nat.add_mul, Nat.one_mul, Nat.add_comm]
theorem RowCells.oneCell (h1 : ∀ x c, R x c → ∀ u ∈ c, u.oneCell' = true) : ∀ {xs : List α} {cs : List Value}, RowCells R xs cs → ∀ u ∈ cs, u.oneCell' = true
  | [], _, h => by have : _ = [] := h; subst this; simp
  | x :: xs, _, ⟨c, r, e, hx, hr⟩ => by
    subst e
    intro u hu
    rcases List.mem_append.1 hu with h | h
    · exact h1 _ _ hx u h
    · exact RowCells.oneCell h1 hr u h
theorem RowCells.take (sz : Nat) (hsz : ∀ x c, R x c → c.length = sz) : ∀ {xs : List α} {cs : List Value} (n : Nat), RowCells R xs cs → RowCells R (xs.take n) (cs.take (n * sz))
  | [], _, n, h => by have : _ = [] := h; subst this; simp [RowCells]
  | x :: xs, _, 0, _ => by simp [RowCells]
  | x :: xs, _, n + 1, ⟨c, r, e, hx, hr⟩ => by
    subst e
    have hc := hsz _ _ hx
    refine ⟨c, r.take (n * sz), ?_, hx, RowCells.take sz hsz n hr⟩
    rw [List.take_append, List.take_of_length_le (by rw [hc, Nat.add_mul]; omega), hc, Nat.add_mul, Nat.one_mul, Nat.add_sub_cancel]
theorem RowCells.drop (sz : Nat) (hsz : ∀ x c, R x c → c.length = sz) : ∀ {xs : List α} {cs : List Value} (n : Nat), RowCells R xs cs → RowCells R (xs.drop n) (cs.drop (n * sz))
  | [], _, n, h => by have : _ = [] := h; subst this; simp [RowCells]
  | x :: xs, _, 0, h => by simpa using h
  | x :: xs, _, n + 1, ⟨c, r, e, hx, hr⟩ => by
    subst e
    have hc := hsz _ _ hx
    have h2 := RowCells.drop sz hsz n hr
    have e1 : (c ++ r).drop ((n + 1) * sz) = r.drop (n * sz) := by
      rw [List.drop_append, show c.drop ((n + 1) * sz) = [] from List.drop_eq_nil_of_le (by rw [hc, Nat.add_mul]; omega), hc, Nat.add_mul, Nat.one_mul, Nat.add_sub_cancel]; rfl
    rw [e1]
    exact h2
/-- one element -/
theorem RowCells.get (sz : Nat) (hsz : ∀ x c, R x c → c.length = sz) : ∀ {xs : List α} {cs : List Value} (i : Nat) (d : α), RowCells R xs cs → i < xs.length → R (xs.getD i d) ((cs.drop (i * sz)).take sz)
  | [], _, _, _, _, hi => by simp at hi
  | x :: xs, _, 0, d, ⟨c, r, e, hx, hr⟩, _ => by
    subst e
    have hc := hsz _ _ hx
    simpa [← hc] using hx
  | x :: xs, _, i + 1, d, ⟨c, r, e, hx, hr⟩, hi => by
    subst e
    have hc := hsz _ _ hx
    have h2 := RowCells.get sz hsz i d hr (by simpa using hi)
    have e1 : (c ++ r).drop ((i + 1) * sz) = r.drop (i * sz) := by
      rw [List.drop_append, show c.drop ((i + 1) * sz) = [] from List.drop_eq_nil_of_le (by rw [hc, Nat.add_mul]; omega), hc, Nat.add_mul, Nat.one_mul, Nat.add_sub_cancel]; rfl
    rw [e1]
    simpa using h2
/-- one element written -/
theorem RowCells.set (sz : Nat) (hsz : ∀ x c, R x c → c.length = sz) : ∀ {xs : List α} {cs : List Value} (i : Nat) (y : α) (new : List Value), RowCells R xs cs → i < xs.length → R y new →
    RowCells R (xs.set i y) (cs.take (i * sz) ++ new ++ cs.drop (i * sz + sz))
  | [], _, _, _, _, _, hi, _ => by simp at hi
  | x :: xs, _, 0, y, new, ⟨c, r, e, hx, hr⟩, _, hy => by
    subst e
    have hc := hsz _ _ hx
    refine ⟨new, r, ?_, hy, hr⟩
    simp [← hc]
  | x :: xs, _, i + 1, y, new, ⟨c, r, e, hx, hr⟩, hi, hy => by
    subst e
    have hc := hsz _ _ hx
    refine ⟨c, r.take (i * sz) ++ new ++ r.drop (i * sz + sz), ?_, hx, RowCells.set sz hsz i y new hr (by simpa using hi) hy⟩
    rw [List.take_append, List.take_of_length_le (by rw [hc, Nat.add_mul]; omega), hc, List.drop_append, List.drop_of_length_le (by rw [hc, Nat.add_mul]; omega), hc]
    rw [show (i + 1) * sz - sz = i * sz by rw [Nat.add_mul]; omega, show (i + 1) * sz + sz - sz = i * sz + sz by rw [Nat.add_mul]; omega]
    simp
theorem RowCells.replicate (n : Nat) {d : α} {c : List Value} (h : R d c) : RowCells R (List.replicate n d) (List.replicate n c).flatten := by
  induction n with
  | zero => simp [RowCells]
  | succ n ih => exact ⟨c, (List.replicate n c).flatten, by simp [List.replicate_succ], h, ih⟩
end

/-! ### Values -/
def blockOf : Value → Option Nat
  | .slice (some a) _ _ => some a.block
  | .pointer (some a) => some a.block
  | .map r => r
  | _ => none

/-- lists of the same length, element by element -/
def All2 {α β : Type} (R : α → β → Prop) : List α → List β → Prop
  | [], [] => True
  | x :: xs, y :: ys => R x y ∧ All2 R xs ys
  | _, _ => False

def CellRel (μ : Id → Option Value) (S : Nat → Prop) (w : World) : Cell → Value → Prop
  | .undef, v => v.oneCell' = true
  | .d t x, v => Reads S w t x [v]
  | .nilS, v => v = .slice none 0 0
  | .nilp, v => v = .pointer none
  | .nilfn, v => v = .nilFunc
  | .nilif, v => v = .nilIface
  | .ptr id off, v => ∃ b, μ id = some (.pointer (some ⟨b, 0, none⟩)) ∧ v = .pointer (some ⟨b, off, none⟩)
  | .row id, v => μ id = some v ∧ ∃ A n c, v = .slice A n c
  | .win id lo n sz, v => ∃ A c N cap, v = .slice A n c ∧ n ≤ c ∧ lo + n ≤ N ∧ ((μ id = some (.slice none 0 0) ∧ N = 0 ∧ A = none ∧ c = 0) ∨
      ∃ b, μ id = some (.slice (some ⟨b, 0, none⟩) N cap) ∧ (0 < n → A = some ⟨b, lo * sz, none⟩) ∧ (lo = 0 → A = some ⟨b, 0, none⟩ ∧ c = cap))
  | .eptr id i off sz, v => ∃ b N cap, μ id = some (.slice (some ⟨b, 0, none⟩) N cap) ∧ i < N ∧ v = .pointer (some ⟨b, i * sz + off, none⟩)
  | .cptr t x off, v => ∃ b o cells, v = .pointer (some ⟨b, o + off, none⟩) ∧ S b ∧ Reads S w t x cells ∧ CellsAt w b o cells
  | .clip t x, v => ∃ A, v = .slice A x.length x.length ∧ Reads S w (.sl t) x [v]
  | .map id, v => μ id = some v ∧ ∃ r, v = .map (some r)
  | .old n, v => ∃ A c, v = .slice A n c
  | .err z, v => bif z then v = .nilIface else ∃ t p, v = .iface t p
  | .fn f caps, v => ∃ vs : Array Value, v = .func (.func f) #[] vs ∧ All2 (fun (p : Id × Nat) u => ∃ b, μ p.1 = some (.pointer (some ⟨b, 0, none⟩)) ∧ u = .pointer (some ⟨b, p.2, none⟩)) caps vs.toList

def V1Rel (μ : Id → Option Value) (S : Nat → Prop) (w : World) : V1 → Value → Prop
  | .c x, v => CellRel μ S w x v
  | .agg cs, v => ∃ arr : Array Value, v = .agg arr ∧ All2 (CellRel μ S w) cs arr.toList

def V1.known : V1 → Bool
  | .c .undef => false
  | _ => true

def AVRel (μ : Id → Option Value) (S : Nat → Prop) (w : World) : AV → Value → Prop
  | .one v, u => v.known = true → V1Rel μ S w v u
  | .tup vs, u => ∃ arr : Array Value, u = .tuple arr ∧ All2 (V1Rel μ S w) vs arr.toList

def keyVal (t : Ty) (x : t.den) : Value :=
  match t, x with
  | .int k, n => .int k n
  | .bool, b => .bool b
  | .str, s => .string ⟨s.toArray⟩
  | _, _ => .tuple #[]

/-- a string's bytes, cell by cell -/
def byteVals (l : List UInt8) : List Value := l.map fun b => Value.int .u8 b.toNat
/-- the same map, whatever the order in which it was made -/
def SameMap (kt vt : Ty) (es es' : List (kt.den × vt.den)) : Prop := es.length = es'.length ∧ ∀ x, mapGet kt vt es x = mapGet kt vt es' x ∧ mapHas kt vt es x = mapHas kt vt es' x
theorem SameMap.same {kt vt : Ty} {es : List (kt.den × vt.den)} : SameMap kt vt es es := ⟨Eq.refl _, fun _ => ⟨Eq.refl _, Eq.refl _⟩⟩
theorem SameMap.trans {kt vt : Ty} {a b c : List (kt.den × vt.den)} (h1 : SameMap kt vt a b) (h2 : SameMap kt vt b c) : SameMap kt vt a c := ⟨h1.1.trans h2.1, fun x => ⟨(h1.2 x).1.trans (h2.2 x).1, (h1.2 x).2.trans (h2.2 x).2⟩⟩
theorem SameMap.symm {kt vt : Ty} {a b : List (kt.den × vt.den)} (h : SameMap kt vt a b) : SameMap kt vt b a := ⟨h.1.symm, fun x => ⟨(h.2 x).1.symm, (h.2 x).2.symm⟩⟩
def BlkRel (μ : Id → Option Value) (S : Nat → Prop) (w : World) (hv : Value) : Blk → Prop
  | .box cs => ∃ b ty arr, hv = .pointer (some ⟨b, 0, none⟩) ∧ w.heap[b]? = some (.cells arr ty (0, 0)) ∧ All2 (CellRel μ S w) cs arr.toList
  | .row e nilE t xs => ∃ cells, w.ownsRow 0 e t.sz hv xs.length cells ∧ RowCells (Reads S w t) xs cells ∧ (nilE = true → xs = [] → hv = .slice none 0 0)
  | .map kt vt es => ∃ r entries clock, hv = .map (some r) ∧ w.heap[r]? = some (.map entries clock) ∧
      ∃ es', SameMap kt vt es' es ∧ All2 (fun (p : kt.den × vt.den) (m : MapEntry) => Reads S w kt p.1 [m.key] ∧ V1Rel μ S w (valOf vt p.2) m.val) es' entries.toList
  | .bld T bid => ∃ b p v, hv = .pointer (some ⟨b, 0, none⟩) ∧ w.heap[b]? = some (.cells #[p, v] T (0, 0)) ∧ (p = .pointer none ∨ p = .pointer (some ⟨b, 0, none⟩)) ∧ μ bid = some v ∧ ∃ A n c, v = .slice A n c
  | .buf e l => w.ownsRow 0 e 1 hv l.length (byteVals l) ∧ (l = [] → hv = .slice none 0 0)

/-- what a function may write of the blocks that stood before it, and what it may not -/
structure Own where
  o : Nat → Prop
  s : Nat → Prop
  np : Nat := 0
  args : Array Value := #[]
  kept : Id → Option Value := fun _ => none
  tb : Nat → Option Obj := fun _ => none
/-- names that a function's parameters have -/
def KeptId (id : Nat) : Prop := 500000 ≤ id ∧ id < 600000
def keptB (id : Nat) : Bool := Nat.ble 500000 id && Nat.blt id 600000
theorem keptB_iff {id : Nat} : keptB id = true ↔ KeptId id := by
  unfold keptB KeptId
  rw [Bool.and_eq_true]
  exact ⟨fun ⟨a, b⟩ => ⟨Nat.le_of_ble_eq_true a, Nat.le_of_ble_eq_true b⟩, fun ⟨a, b⟩ => ⟨Nat.ble_eq_true_of_le a, Nat.ble_eq_true_of_le b⟩⟩
/-- names of rows whose header stays -/
def FixedId (id : Nat) : Prop := 550000 ≤ id ∧ id < 600000
theorem fixedB_iff {id : Nat} : fixedB id = true ↔ FixedId id := by
  unfold fixedB FixedId
  rw [Bool.and_eq_true]
  exact ⟨fun ⟨a, b⟩ => ⟨Nat.le_of_ble_eq_true a, Nat.le_of_ble_eq_true b⟩, fun ⟨a, b⟩ => ⟨Nat.ble_eq_true_of_le a, Nat.ble_eq_true_of_le b⟩⟩
def NoSlice (v : Value) : Prop := ∀ A n c, v ≠ .slice A n c
instance : CoeFun Own (fun _ => Nat → Prop) := ⟨Own.o⟩

/-- the abstract state tells the truth of the machine's -/
structure Rel (nt : Nat) (w0 : World) (O : Own) (μ : Id → Option Value) (S : Nat → Prop) (st : St) (a : Act) (w : World) : Prop where
  env : ∀ t, AVRel μ S w (st.env t) (a.tmps.getD t undef)
  size : a.tmps.size = nt
  defers : a.defers = []
  dom : ∀ id, st.heap id = none → μ id = none
  blks : ∀ id b, st.heap id = some b → ∃ hv, μ id = some hv ∧ BlkRel μ S w hv b
  sep : ∀ id id' hv hv' k, μ id = some hv → μ id' = some hv' → blockOf hv = some k → blockOf hv' = some k → id = id'
  imm : ∀ k, S k → k < w.heap.size ∧ ∀ id hv, μ id = some hv → blockOf hv ≠ some k
  own : ∀ id hv k, μ id = some hv → blockOf hv = some k → (w0.heap.size ≤ k ∨ O k) ∧ k < w.heap.size
  os : w.os = w0.os
  tape : w.tape = w0.tape
  output : w.output = w0.output
  grow : w0.heap.size ≤ w.heap.size
  frame : ∀ k, k < w0.heap.size → ¬ O k → w.heap[k]? = w0.heap[k]?
  sfrom : ∀ k, S k → O.s k ∨ w0.heap.size ≤ k ∨ O k
  pars : ∀ i, i < O.np → a.tmps[i]? = O.args[i]?
  kept : ∀ id v, O.kept id = some v → KeptId id ∧ (FixedId id ∨ NoSlice v) ∧ (st.heap id = none ∨ μ id = some v)
  tabs : ∀ k o, O.tb k = some o → w.heap[k]? = some o ∧ ∀ id hv, μ id = some hv → blockOf hv ≠ some k
  tq : Tabs O.tb

theorem All2.mono {α β : Type} {R R' : α → β → Prop} (h : ∀ x y, R x y → R' x y) : ∀ {xs : List α} {ys : List β}, All2 R xs ys → All2 R' xs ys
  | [], [], _ => trivial
  | _ :: _, _ :: _, ⟨a, b⟩ => ⟨h _ _ a, All2.mono h b⟩
  | [], _ :: _, h => h.elim
  | _ :: _, [], h => h.elim
theorem All2.length {α β : Type} {R : α → β → Prop} : ∀ {xs : List α} {ys : List β}, All2 R xs ys → xs.length = ys.length
  | [], [], _ => rfl
  | _ :: _, _ :: _, ⟨_, b⟩ => by simp [All2.length b]
  | [], _ :: _, h => h.elim
  | _ :: _, [], h => h.elim
theorem All2.append {α β : Type} {R : α → β → Prop} : ∀ {xs : List α} {ys : List β} {xs' : List α} {ys' : List β}, All2 R xs ys → All2 R xs' ys' → All2 R (xs ++ xs') (ys ++ ys')
  | [], [], _, _, _, h' => h'
  | _ :: _, _ :: _, _, _, ⟨a, b⟩, h' => ⟨a, b.append h'⟩
  | [], _ :: _, _, _, h, _ => h.elim
  | _ :: _, [], _, _, h, _ => h.elim
theorem All2.take {α β : Type} {R : α → β → Prop} : ∀ {xs : List α} {ys : List β} (n : Nat), All2 R xs ys → All2 R (xs.take n) (ys.take n)
  | [], [], n, _ => by simp [All2]
  | _ :: _, _ :: _, 0, _ => trivial
  | _ :: _, _ :: _, n + 1, ⟨a, b⟩ => ⟨a, b.take n⟩
  | [], _ :: _, _, h => h.elim
  | _ :: _, [], _, h => h.elim
theorem All2.drop {α β : Type} {R : α → β → Prop} : ∀ {xs : List α} {ys : List β} (n : Nat), All2 R xs ys → All2 R (xs.drop n) (ys.drop n)
  | [], [], n, _ => by simp [All2]
  | _ :: _, _ :: _, 0, h => h
  | _ :: _, _ :: _, n + 1, ⟨_, b⟩ => b.drop n
  | [], _ :: _, _, h => h.elim
  | _ :: _, [], _, h => h.elim
theorem All2.get {α β : Type} {R : α → β → Prop} : ∀ {xs : List α} {ys : List β} {i : Nat} {x : α}, All2 R xs ys → xs[i]? = some x → ∃ y, ys[i]? = some y ∧ R x y
  | _ :: _, _ :: _, 0, _, ⟨a, _⟩, h => by simp at h; subst h; exact ⟨_, rfl, a⟩
  | _ :: _, _ :: _, i + 1, _, ⟨_, b⟩, h => by simpa using b.get (by simpa using h)
  | [], _, _, _, _, h => by simp at h
  | _ :: _, [], _, _, h, _ => h.elim

/-! ### How facts outlive changes elsewhere -/
theorem CellRel.frame {μ : Id → Option Value} {S S' : Nat → Prop} {w w' : World} (h : ∀ b, S b → S' b ∧ w'.heap[b]? = w.heap[b]?) {c : Cell} {v : Value} (hr : CellRel μ S w c v) : CellRel μ S' w' c v := by
  cases c with
  | d t x => exact Reads.frame h hr
  | cptr t x off =>
    obtain ⟨b, o, cells, e, hs, hx, hat⟩ := hr
    exact ⟨b, o, cells, e, (h b hs).1, hx.frame h, hat.frame (h b hs).2⟩
  | clip t x => obtain ⟨A, e, hx⟩ := hr; exact ⟨A, e, hx.frame h⟩
  | _ => exact hr
theorem V1Rel.frame {μ : Id → Option Value} {S S' : Nat → Prop} {w w' : World} (h : ∀ b, S b → S' b ∧ w'.heap[b]? = w.heap[b]?) {c : V1} {v : Value} (hr : V1Rel μ S w c v) : V1Rel μ S' w' c v := by
  cases c with
  | c x => exact CellRel.frame h hr
  | agg cs => obtain ⟨arr, e, ha⟩ := hr; exact ⟨arr, e, ha.mono fun _ _ => CellRel.frame h⟩
theorem AVRel.of_V1 {μ : Id → Option Value} {S : Nat → Prop} {w : World} {c : V1} {v : Value} (h : V1Rel μ S w c v) : AVRel μ S w (.one c) v := fun _ => h
theorem AVRel.frame {μ : Id → Option Value} {S S' : Nat → Prop} {w w' : World} (h : ∀ b, S b → S' b ∧ w'.heap[b]? = w.heap[b]?) {c : AV} {v : Value} (hr : AVRel μ S w c v) : AVRel μ S' w' c v := by
  cases c with
  | one x => exact fun hk => (hr hk).frame h
  | tup vs => obtain ⟨arr, e, ha⟩ := hr; exact ⟨arr, e, ha.mono fun _ _ => V1Rel.frame h⟩

end Go.Proofs.YtjjepjfjikefiaaB
