/- The core, part 38: strconv.Atoi, told from data to data. -/
import Derived.Test.YtfjnckjkpkhbdaaGreatDoorB37
import Derived.Shelf.Strconv.AtoiAll
set_option linter.unusedVariables false
namespace Go.Proofs.YtfjnckjkpkhbdaaGreatDoorB
open Go Go.Shelf Go.RowKit

def atoiI : Tpl.T ⟨[slotD 0 .str], []⟩ → Option (Tpl.T ⟨[slotD 0 (.int .i64), slotE 1], []⟩) := fun x =>
  bif decide ((x.1 : List UInt8).length ≤ 281474976710656) then (match Lib.atoiAll x.1 with
    | .ok v => some (v, true, ())
    | .range => some (Lib.atoiSat x.1, false, ())
    | _ => some ((0 : Int), false, ())) else none

section
variable {P : Program} {ρ : Ren}
theorem con_atoi {f : FuncId} (henter : ∀ args w, (callFunc f args).run P w = .ok (.enter f args) w) (L : LaysC.n172 P ρ) (hf : ρ.f 172 = f)
    (hQ : ∀ (tb : Nat → Option Obj) (w : World), Tabs tb → (∀ j o, tb j = some o → w.heap[j]? = some o) →
      (∃ ev, w.cell? ⟨ρ.g 15, 0, none⟩ = some ev ∧ (ev = .nilIface ∨ ∃ te pe, ev = .iface te pe)) ∧ ∃ ev, w.cell? ⟨ρ.g 16, 0, none⟩ = some ev ∧ (ev = .nilIface ∨ ∃ te pe, ev = .iface te pe)) :
    Con P f 1 2 0 ⟨[slotD 0 .str], []⟩ ⟨[slotD 0 (.int .i64), slotE 1], []⟩ atoiI := by
  subst hf
  refine con_flat henter fun w tb vals S x y hk ht hw hS henv hy => ?_
  rw [arr1 hk, arg_str (henv 0)]
  unfold atoiI at hy
  have hc := (cond_some hy).1
  replace hy := (cond_some hy).2
  simp only [decide_eq_true_eq] at hc
  obtain ⟨s, ⟨⟩⟩ := x
  obtain ⟨⟨e1, he1, he1'⟩, e2, he2, he2'⟩ := hQ tb w ht hw
  have hs : (⟨s.toArray⟩ : ByteArray).size ≤ 281474976710656 := by rw [size_mk]; exact hc
  have hd : (⟨s.toArray⟩ : ByteArray).data.toList = s := by simp
  have fin : ∀ (n : Int) (z : Bool) (u : Value) (w' : World) (S' : Nat → Prop), (bif z then u = .nilIface else ∃ t p, u = .iface t p) → ∀ t, AVRel (fun _ => none) S' w' ((mk ⟨[slotD 0 (.int .i64), slotE 1], []⟩ (n, z, ())).env t) ((#[.int .i64 n, u] : Array Value).getD t undef) := by
    intro n z u w' S' hu t
    match t with
    | 0 => exact int_rel _ _
    | 1 => exact fun _ => hu
    | t + 2 => exact fun hk => by cases hk
  simp only at hy
  rcases hv : Lib.atoiAll s with v | _ | _
  · rw [hv] at hy
    simp only [Option.some.injEq] at hy
    subst hy
    refine (Any.strconv_Atoi_ok L ⟨s.toArray⟩ (by omega) v (by rw [hd]; exact hv) w).mono fun e w' ⟨he, hw'⟩ => ?_
    refine ⟨#[.int .i64 v, .nilIface], rfl, he, ?_, fun _ => False, fun _ h => h.elim, fin _ true _ _ _ rfl⟩
    rcases hw' with rfl | ⟨t, rfl⟩
    · exact Below.refl _ _
    · exact Lib.bytesWorld_below _ _ _
  · rw [hv] at hy
    simp only [Option.some.injEq] at hy
    subst hy
    refine (Any.strconv_Atoi_syntax L ⟨s.toArray⟩ hs (by rw [hd]; exact hv) e1 w he1 he1').mono fun e w' ⟨N, he, _, _, hb⟩ => ?_
    exact ⟨#[.int .i64 0, .iface (ρ.t 168) (.pointer (some ⟨N, 0, none⟩))], rfl, he, hb, fun _ => False, fun _ h => h.elim, fin _ false _ _ _ ⟨_, _, rfl⟩⟩
  · rw [hv] at hy
    simp only [Option.some.injEq] at hy
    subst hy
    refine (Any.strconv_Atoi_range L ⟨s.toArray⟩ hs (by rw [hd]; exact hv) e2 w he2 he2').mono fun e w' ⟨N, he, _, _, hb⟩ => ?_
    rw [hd] at he
    exact ⟨#[.int .i64 (Lib.atoiSat s), .iface (ρ.t 168) (.pointer (some ⟨N, 0, none⟩))], rfl, he, hb, fun _ => False, fun _ h => h.elim, fin _ false _ _ _ ⟨_, _, rfl⟩⟩

end
end Go.Proofs.YtfjnckjkpkhbdaaGreatDoorB
