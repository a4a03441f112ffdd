/- The core, part 43: shorter words for what is printed. -/
import Derived.Test.YtjjepjfjikefiaaB42
set_option linter.unusedVariables false
namespace Go.Proofs.YtjjepjfjikefiaaB
open Go
variable {P : Program} {nt : Nat}
/-- a contract, out of a run: what is reached at the end is called Post -/
theorem con_of_run3 {f : FuncId} {fn : Func} {c : Code} {k np : Nat} {rs : List ResultVar} {tab : Tab} {pin pout : Tpl} {impl : pin.T → Option pout.T} (ht : tabB P tab = true)
    (hf : P.funcs[f]? = some fn) (hname : (fn.name == "runtime.NumGoroutine") = false) (hb : fn.body = some c) (hnt : fn.ntmps = nt)
    (hr : fn.results = rs.toArray) (hl : Nat.ble rs.length 4 = true) (hk : Nat.ble k nt = true) (hnp : Nat.ble np k = true)
    (hrun : ∀ (w0 : World) (O : Own) (y : pout.T) (Post : Act → World → Prop), O.np = np →
      (∀ (μ : Id → Option Value) (S : Nat → Prop) (st : St) (a : Act) (w : World), Rel nt w0 O μ S st a w → endOf (tabOf tab) rs np pout st = some y → Post a w) → Good P nt w0 O Post y [.code c] pin impl) : Con P f k rs.length np pin pout impl :=
  con_of_run' ht hf hname hb hnt hr hl hk hnp fun w0 O y hO => hrun w0 O y _ hO fun μ S st a w h he => ⟨μ, S, st, h, he⟩
end Go.Proofs.YtjjepjfjikefiaaB
