/-
  DERIVED. GIVEN WITH THE SEED: THE CARDS: each row of YtgagmcbeobkfoaaDoorRows.lean that lists a variable, with what it lists TIED to the program's text (the seventh form; the later family's looks); each row that meets fmt, with fmt's text TOLD by the authors' own Lean function (tested against real Go, not proved from fmt's source: count such statements apart). THE CARD IS WHAT COUNTS. Prove the row's statement (the work); the ties are given (YtgagmcbeobkfoaaDoorTie.lean); close each card by the builder's one call (the guide's Derived/Test/ToyasCard.lean, 'card_holds'). Laid BY PROGRAM, IN A SANDBOX (cutbox-door.mjs). By AI agents, Wed Nov 11 2026. No macro, syntax, notation, axiom, sorry.
-/
import Derived.Test.YtgagmcbeobkfoaaDoorRows
import GoSem.ClaimSeven
namespace Go.Proofs.YtgagmcbeobkfoaaDoor
namespace Rows

/-- THE TIED CARD OF 'laws.FnExactListText'. -/
def fnExactListTextCard : Claim7 := { stood := { row := fnExactListTextRow, standIns := [], harness := (true, "bd91f95670514e9a512f950aae0ccf94f6853fcf3e95edf705f6fa7220c6108a"), looks := false }, kinds := [], alts := [], laidByText := true, laidKinds := [.data, .data, .data], laidTests := true, laidLooks := .later }
def FnExactListTextCardSaid : Prop := Claim7.holds Tryd.pinned (.plain (OpenSpec.ofChange fnExactListTextSpec)) fnExactListTextCard

/-- THE SECOND FORM's CARD OF 'laws.FnExactListText'. -/
def fnExactListTextUptoCard : Claim7 := { stood := { row := fnExactListTextUptoRow, standIns := [], harness := (true, "bd91f95670514e9a512f950aae0ccf94f6853fcf3e95edf705f6fa7220c6108a"), looks := false }, kinds := [], alts := [], laidByText := true, laidKinds := [.data, .data, .data], laidTests := true, laidLooks := .later }
def FnExactListTextUptoCardSaid : Prop := Claim7.holds Tryd.pinned (.plain (OpenSpec.upto fnExactListTextSpec)) fnExactListTextUptoCard
end Rows
end Go.Proofs.YtgagmcbeobkfoaaDoor
