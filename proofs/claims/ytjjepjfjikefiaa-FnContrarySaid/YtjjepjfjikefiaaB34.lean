/- The core, part 34: strconv.Itoa, strings.Join and their like, told from data to data. -/
import Derived.Test.YtjjepjfjikefiaaB33
import Derived.Shelf.Strconv.Itoa3
import Derived.Shelf.Strings.OnBuilder
import Derived.Lib.AppendIntMem
set_option linter.unusedVariables false
namespace Go.Proofs.YtjjepjfjikefiaaB
open Go Go.Shelf Go.RowKit

abbrev slotD (t : Nat) (ty : Ty) : Slot := ⟨t, false, [.d ty]⟩
def itoaI : Tpl.T ⟨[slotD 0 (.int .i64)], []⟩ → Option (Tpl.T ⟨[slotD 0 .str], []⟩) := fun x =>
  bif decide (-9223372036854775808 ≤ (x.1 : Int)) && decide ((x.1 : Int) ≤ 9223372036854775807) then some (Lib.itoa x.1, ()) else none
def joinI : Tpl.T ⟨[slotD 0 (.sl .str), slotD 1 .str], []⟩ → Option (Tpl.T ⟨[slotD 0 .str], []⟩) := fun x =>
  bif decide ((x.1 : List (List UInt8)).length ≤ 140737488355328) && decide ((Lib.join x.1 x.2.1).length ≤ 140737488355328) then some (Lib.join x.1 x.2.1, ()) else none

section
variable {P : Program}
/-- a string back, new blocks alone -/
theorem flat_str {S : Nat → Prop} {w w' : World} {l : List UInt8} {e : Ending} (he : e = .returned (.string ⟨l.toArray⟩)) (hb : Below w.heap.size w w') :
    ∃ us : Array Value, us.size = 1 ∧ e = .returned (retV us) ∧ Below w.heap.size w w' ∧ ∃ S' : Nat → Prop, (∀ b, S' b → (S b ∨ w.heap.size ≤ b) ∧ b < w'.heap.size) ∧
      ∀ t, AVRel (fun _ => none) S' w' ((mk ⟨[slotD 0 .str], []⟩ (l, ())).env t) (us.getD t undef) :=
  ⟨#[.string ⟨l.toArray⟩], rfl, he, hb, fun _ => False, fun _ h => h.elim, env1 (t := .str) (x := l) (str_rel _ _ (by simp))⟩

theorem below_grow' (w : World) (k : Nat) (os : Array Obj) : Below w.heap.size w (Go.Sort.grow (w.drewN k) os) := Lib.below_grow _ _ (Nat.le_refl _) _ _

theorem con_itoa {f : FuncId} {Q : World → Prop} (henter : ∀ args w, (callFunc f args).run P w = .ok (.enter f args) w)
    (hL : ∀ n : Int, -9223372036854775808 ≤ n → n ≤ 9223372036854775807 → ∀ w, Q w → Calls P f #[.int .i64 n] w fun e w' => e = .returned (.string ⟨(Lib.itoa n).toArray⟩) ∧ ∃ k os, w' = Go.Sort.grow (w.drewN k) os)
    (hQ : ∀ (tb : Nat → Option Obj) (w : World), Tabs tb → (∀ j o, tb j = some o → w.heap[j]? = some o) → Q w) : Con P f 1 1 0 ⟨[slotD 0 (.int .i64)], []⟩ ⟨[slotD 0 .str], []⟩ itoaI := by
  refine con_flat henter fun w tb vals S x y hk ht hw hS henv hy => ?_
  rw [arr1 hk, arg_int (henv 0)]
  unfold itoaI at hy
  have hc := (cond_some hy).1
  replace hy := (cond_some hy).2
  simp only [Bool.and_eq_true, decide_eq_true_eq] at hc
  simp only [Option.some.injEq] at hy
  subst hy
  exact (hL x.1 hc.1 hc.2 w (hQ tb w ht hw)).mono fun e w' ⟨he, k, os, hw'⟩ => flat_str he (hw' ▸ below_grow' w k os)

theorem rowStrs {S : Nat → Prop} {w : World} : ∀ {xs : List (List UInt8)} {cells : List Value}, RowCells (Reads S w .str) xs cells → cells = xs.map fun l => Value.string ⟨l.toArray⟩
  | [], _, h => h
  | x :: xs, _, ⟨c, r, e, ⟨s, h1, h2⟩, hr⟩ => by
    subst e h1 h2
    rw [rowStrs hr]
    rfl

/-- a slice of strings, as an argument -/
theorem arg_strs {S : Nat → Prop} {w : World} {xs : List (List UInt8)} {v : Value} (h : AVRel (fun _ => none) S w (cv (.d (.sl .str) xs)) v) :
    ∃ A c, v = .slice A xs.length c ∧ xs.length ≤ c ∧ (xs ≠ [] → ∃ b off, A = some ⟨b, off, none⟩ ∧ S b ∧ ∀ (j : Nat) (x : ByteArray), (xs.map fun l => (⟨l.toArray⟩ : ByteArray))[j]? = some x → w.cell? ⟨b, off + j, none⟩ = some (.string x)) := by
  obtain ⟨A, c, e, hc, hr⟩ := h rfl
  simp only [List.cons.injEq, and_true] at e
  refine ⟨A, c, e, hc, fun hn => ?_⟩
  obtain ⟨b, off, cells, h1, h2, h3, h4⟩ := hr hn
  refine ⟨b, off, h1, h2, fun j x hx => h4 j _ ?_⟩
  rw [rowStrs h3]
  rw [List.getElem?_map] at hx ⊢
  cases hj : xs[j]? with
  | none => rw [hj] at hx; cases hx
  | some l => rw [hj] at hx; simp only [Option.map_some, Option.some.injEq] at hx; subst hx; rfl

theorem map_bytes (xs : List (List UInt8)) : (xs.map fun l => (⟨l.toArray⟩ : ByteArray)).map (·.data.toList) = xs := by
  rw [List.map_map]
  conv => rhs; rw [← List.map_id xs]
  exact List.map_congr_left fun l _ => rfl

theorem con_join {ρ : Ren} {f : FuncId} (henter : ∀ args w, (callFunc f args).run P w = .ok (.enter f args) w) (L : Lays.n156 P ρ) (X : Builder.Extra P ρ) (hf : ρ.f 156 = f) :
    Con P f 2 1 0 ⟨[slotD 0 (.sl .str), slotD 1 .str], []⟩ ⟨[slotD 0 .str], []⟩ joinI := by
  subst hf
  refine con_flat henter fun w tb vals S x y hk ht hw hS henv hy => ?_
  obtain ⟨A, c, e1, hc1, hr⟩ := arg_strs (henv 0)
  rw [arr2 hk, e1, arg_str (henv 1)]
  unfold joinI at hy
  have hc := (cond_some hy).1
  replace hy := (cond_some hy).2
  simp only [Bool.and_eq_true, decide_eq_true_eq] at hc
  simp only [Option.some.injEq] at hy
  subst hy
  obtain ⟨xs, sep, ⟨⟩⟩ := x
  by_cases hn : xs = []
  · subst hn
    refine (Any.strings_Join_none L X A c _ w).mono fun e w' ⟨he, hw'⟩ => ?_
    subst hw'
    exact flat_str (by rw [he]; rfl) (Below.refl _ _)
  · obtain ⟨b, off, rfl, hb, hcells⟩ := hr hn
    have h := Any.strings_Join L X b off c (xs.map fun l => (⟨l.toArray⟩ : ByteArray)) ⟨sep.toArray⟩ w hcells (hS b hb) (by rw [List.length_map]; exact hc.1) (by rw [List.length_map]; exact hc1) (by rw [map_bytes]; exact hc.2)
    rw [List.length_map, map_bytes] at h
    exact h.mono fun e w' ⟨he, hb⟩ => flat_str he hb
end
end Go.Proofs.YtjjepjfjikefiaaB
