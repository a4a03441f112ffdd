/- The core, part 31: contracts of Go's library, told from data to data. -/
import Derived.Test.YtjjepjfjikefiaaB30
import Derived.Below
set_option linter.unusedVariables false
namespace Go.Proofs.YtjjepjfjikefiaaB
open Go

section
variable {P : Program}

/-- a function that lays new blocks alone, told from data to data -/
theorem con_flat {f : FuncId} {k nr : Nat} {pe qe : List Slot} {impl : Tpl.T ⟨pe, []⟩ → Option (Tpl.T ⟨qe, []⟩)} (henter : ∀ args w, (callFunc f args).run P w = .ok (.enter f args) w)
    (H : ∀ (w : World) (tb : Nat → Option Obj) (vals : Array Value) (S : Nat → Prop) (x : Tpl.T ⟨pe, []⟩) (y : Tpl.T ⟨qe, []⟩), vals.size = k → Tabs tb → (∀ j o, tb j = some o → w.heap[j]? = some o) → (∀ b, S b → b < w.heap.size) →
      (∀ t, AVRel (fun _ => none) S w ((mk ⟨pe, []⟩ x).env t) (vals.getD t undef)) → impl x = some y →
      Calls P f vals w fun e w' => ∃ us : Array Value, us.size = nr ∧ e = .returned (retV us) ∧ Go.RowKit.Below w.heap.size w w' ∧
        ∃ S' : Nat → Prop, (∀ b, S' b → (S b ∨ w.heap.size ≤ b) ∧ b < w'.heap.size) ∧ ∀ t, AVRel (fun _ => none) S' w' ((mk ⟨qe, []⟩ y).env t) (us.getD t undef)) :
    Con P f k nr 0 ⟨pe, []⟩ ⟨qe, []⟩ impl := by
  refine ⟨henter, Nat.zero_le _, fun w O vals μ S x y hk hO h hy => ?_⟩
  have hμ : μ = fun _ => none := funext fun id => h.dom id rfl
  subst hμ
  refine (H w O.tb vals S x y hk h.tq (fun j o hj => (h.tabs j o hj).1) (fun b hb => (h.imm b hb).1) h.env hy).mono fun e w' ⟨us, hus, he, hb, S', hS, henv⟩ => ⟨us, hus, he, fun _ => none, S', ?_⟩
  have hnp : O.np = 0 := by rw [← hO]; rfl
  have happ : us ++ (vals.toList.take 0).toArray = us := by simp
  rw [happ]
  refine ⟨henv, by simpa using hus, rfl, fun _ _ => rfl, fun id b hb => (by cases hb), fun id id' hv hv' k h1 => (by cases h1), fun k hk => ⟨(hS k hk).2, fun id hv h1 => (by cases h1)⟩, fun id hv k h1 => (by cases h1),
    hb.os, hb.tape, hb.output, hb.size, fun k hk _ => hb.block k hk, fun k hk => ?_, fun i hi => by omega, fun id v hk => ?_, fun k o hk => ?_, h.tq⟩
  · rcases (hS k hk).1 with h1 | h1
    · exact h.sfrom k h1
    · exact .inr (.inl h1)
  · exact ⟨(h.kept id v hk).1, (h.kept id v hk).2.1, .inl rfl⟩
  · have h1 := (h.tabs k o hk).1
    exact ⟨(hb.block k (Array.getElem?_eq_some_iff.1 h1).1).trans h1, fun id hv h2 => (by cases h2)⟩

/-- what an argument of data is -/
theorem arg_str {S : Nat → Prop} {w : World} {l : List UInt8} {v : Value} (h : AVRel (fun _ => none) S w (cv (.d .str l)) v) : v = .string ⟨l.toArray⟩ := by
  obtain ⟨s, e, hs⟩ := h rfl
  simp only [List.cons.injEq, and_true] at e
  rw [e]
  subst hs
  rfl
theorem arg_int {S : Nat → Prop} {w : World} {k : IntKind} {n : Int} {v : Value} (h : AVRel (fun _ => none) S w (cv (.d (.int k) n)) v) : v = .int k n := by
  have e : [v] = [.int k n] := h rfl
  simpa using e
theorem arr1 {vals : Array Value} (h : vals.size = 1) : vals = #[vals.getD 0 undef] := by
  obtain ⟨l⟩ := vals
  match l, h with
  | [a], _ => rfl
theorem arr2 {vals : Array Value} (h : vals.size = 2) : vals = #[vals.getD 0 undef, vals.getD 1 undef] := by
  obtain ⟨l⟩ := vals
  match l, h with
  | [a, b], _ => rfl

/-- one slot -/
theorem env1 {S : Nat → Prop} {w : World} {t : Ty} {x : t.den} {u : Value} (h : AVRel (fun _ => none) S w (.one (.c ((cellsOf t x ++ []).headD .undef))) u) (n : Nat) :
    AVRel (fun _ => none) S w ((mkEnv [⟨0, false, [.d t]⟩] (x, ())).1 n) ((#[u] : Array Value).getD n undef) := by
  cases n with
  | zero => exact h
  | succ n => exact fun hk => by cases hk
end
end Go.Proofs.YtjjepjfjikefiaaB
