/- The core, part 30: arguments of one cell. -/
import Derived.Test.YtjjepjfjikefiaaB29
import Derived.ProofKit
set_option linter.unusedVariables false
namespace Go.Proofs.YtjjepjfjikefiaaB
open Go

theorem cells_plain {P : Program} {W : World} {base : Nat} {t : TypeId} {v : Value} (hu : (∃ e, P.underlying t = some (.slice e)) ∨ (∃ k, P.underlying t = some (.int k)) ∨ P.underlying t = some .bool ∨ P.underlying t = some .string) (h : Value.okWide P W .any base t v) : v.cells = #[v] := by
  cases v with
  | agg cs =>
    exfalso
    unfold Value.okWide at h
    rcases hu with ⟨e, hu⟩ | ⟨k, hu⟩ | hu | hu <;> rw [hu] at h <;> simp [Cell.okWide, Cell.ok, hu] at h
  | _ => rfl
theorem reads_plain {S : Nat → Prop} {w : World} {ty : Ty} {y : ty.den} {v : Value} (hc : v.cells = #[v]) (h : Reads S w ty y v.cells.toList) : Reads S w ty y [v] := by
  rw [hc] at h; exact h
end Go.Proofs.YtjjepjfjikefiaaB
