/-
  DERIVED. GIVEN WITH THE SEED: THE CARDS: each row of YtfjnckjkpkhbdaaDoorRows.lean that lists a variable, with what it lists TIED to the program's text (the seventh form; the later family's looks); each row that meets fmt, with fmt's text TOLD by the authors' own Lean function (tested against real Go, not proved from fmt's source: count such statements apart). THE CARD IS WHAT COUNTS. Prove the row's statement (the work); the ties are given (YtfjnckjkpkhbdaaDoorTie.lean); close each card by the builder's one call (the guide's Derived/Test/ToyasCard.lean, 'card_holds'). Laid BY PROGRAM, IN A SANDBOX (cutbox-door.mjs). By AI agents, Wed Nov 11 2026. No macro, syntax, notation, axiom, sorry.
-/
import Derived.Test.YtfjnckjkpkhbdaaDoorRows
import GoSem.ClaimSeven
namespace Go.Proofs.YtfjnckjkpkhbdaaDoor
namespace Rows

/-- THE TIED CARD OF 'laws.FnExactReadExpr'. -/
def fnExactReadExprCard : Claim7 := { stood := { row := fnExactReadExprRow, standIns := [], harness := (true, "5cdaae6e3d8b73bcc5c404105ac8e86a24eef66e9440837da6e538a5a8e69438"), looks := true }, kinds := [], alts := [], laidByText := true, laidKinds := [.data, .data, .data, .data, .sentinel, .sentinel, .pinned], laidTests := true, laidLooks := .later }
def FnExactReadExprCardSaid : Prop := Claim7.holds Tryd.pinned (.plain (OpenSpec.ofChange fnExactReadExprSpec)) fnExactReadExprCard

/-- THE SECOND FORM's CARD OF 'laws.FnExactReadExpr'. -/
def fnExactReadExprUptoCard : Claim7 := { stood := { row := fnExactReadExprUptoRow, standIns := [], harness := (true, "5cdaae6e3d8b73bcc5c404105ac8e86a24eef66e9440837da6e538a5a8e69438"), looks := true }, kinds := [], alts := [], laidByText := true, laidKinds := [.data, .data, .data, .data, .sentinel, .sentinel, .pinned], laidTests := true, laidLooks := .later }
def FnExactReadExprUptoCardSaid : Prop := Claim7.holds Tryd.pinned (.plain (OpenSpec.upto fnExactReadExprSpec)) fnExactReadExprUptoCard
end Rows
end Go.Proofs.YtfjnckjkpkhbdaaDoor
