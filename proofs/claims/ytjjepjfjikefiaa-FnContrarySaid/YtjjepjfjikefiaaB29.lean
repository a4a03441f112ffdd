/- The core, part 29: functions that call themselves. -/
import Derived.Test.YtjjepjfjikefiaaB28
set_option linter.unusedVariables false
namespace Go.Proofs.YtjjepjfjikefiaaB
open Go

abbrev wI (x : Int) : Int := IntKind.i64.wrap x

theorem con_lfp {P : Program} {f : FuncId} {fn : Func} {c : Code} {k nr np : Nat} {pin pout : Tpl} {F : (pin.T → Option pout.T) → pin.T → Option pout.T} (hf : P.funcs[f]? = some fn) (hname : (fn.name == "runtime.NumGoroutine") = false) (hb : fn.body = some c) (hnp : Nat.ble np k = true)
    (h : ∀ G, Con P f k nr np pin pout G → Con P f k nr np pin pout (F G)) : Con P f k nr np pin pout (lfp F) where
  enter := run_enter hf hname hb
  le := Nat.le_of_ble_eq_true hnp
  calls := by
    intro w O vals μ S x y hk hO hrel hx
    have := lfp_sound (F := F) (Q := fun x y => ∀ (w : World) (O : Own) (vals : Array Value) (μ : Id → Option Value) (S : Nat → Prop), vals.size = k → O.free = O → Rel k w O μ S (mk pin x) ⟨vals, []⟩ w →
      Calls P f vals w fun e w' => ∃ us : Array Value, us.size = nr ∧ e = .returned (retV us) ∧ ∃ μ' S', Rel (nr + np) w O μ' S' (mk pout y) ⟨us ++ (vals.toList.take np).toArray, []⟩ w') (fun J hJ x y hx w O vals μ S hk hO hrel =>
        (h J ⟨run_enter hf hname hb, Nat.le_of_ble_eq_true hnp, fun w O vals μ S x y hk hO hrel hx => hJ x y hx w O vals μ S hk hO hrel⟩).calls w O vals μ S x y hk hO hrel hx)
    exact this x y hx w O vals μ S hk hO hrel
end Go.Proofs.YtjjepjfjikefiaaB
