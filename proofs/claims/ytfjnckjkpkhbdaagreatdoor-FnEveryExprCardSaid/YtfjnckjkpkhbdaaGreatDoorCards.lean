/-
  DERIVED. GIVEN WITH THE SEED: THE CARDS: each row of YtfjnckjkpkhbdaaGreatDoorRows.lean that lists a variable, with what it lists TIED to the program's text (the seventh form; the later family's looks); each row that meets fmt, with fmt's text TOLD by the authors' own Lean function (tested against real Go, not proved from fmt's source: count such statements apart). THE CARD IS WHAT COUNTS. Prove the row's statement (the work); the ties are given (YtfjnckjkpkhbdaaGreatDoorTie.lean); close each card by the builder's one call (the guide's Derived/Test/ToyasCard.lean, 'card_holds'). Laid BY PROGRAM, IN A SANDBOX (cutbox-door.mjs). By AI agents, Wed Nov 11 2026. No macro, syntax, notation, axiom, sorry.
-/
import Derived.Test.YtfjnckjkpkhbdaaGreatDoorRows
import GoSem.ClaimSeven
namespace Go.Proofs.YtfjnckjkpkhbdaaGreatDoor
namespace Rows

/-- THE TIED CARD OF 'laws.FnExactWriteModel'. -/
def fnExactWriteModelCard : Claim7 := { stood := { row := fnExactWriteModelRow, standIns := [], harness := (true, "1c780a323f7021f14b235c9c0c9a60d93b904ff4784f29ce9fe368fdb8fd335d"), looks := true }, kinds := [], alts := [], laidByText := true, laidKinds := [.data, .data, .data, .data, .pinned], laidTests := true, laidLooks := .later }
def FnExactWriteModelCardSaid : Prop := Claim7.holds Tryz.pinned (.plain (OpenSpec.ofChange fnExactWriteModelSpec)) fnExactWriteModelCard

/-- THE TIED CARD OF 'laws.FnExprBack'. -/
def fnExprBackCard : Claim7 := { stood := { row := fnExprBackRow, standIns := [], harness := (true, "1c780a323f7021f14b235c9c0c9a60d93b904ff4784f29ce9fe368fdb8fd335d"), looks := true }, kinds := [], alts := [], laidByText := true, laidKinds := [.data, .data, .data, .data, .sentinel, .sentinel, .pinned], laidTests := true, laidLooks := .later }
def FnExprBackCardSaid : Prop := Claim7.holds Tryz.pinned (.plain (OpenSpec.ofChange fnExprBackSpec)) fnExprBackCard

/-- THE TIED CARD OF 'laws.FnReadExpr'. -/
def fnReadExprCard : Claim7 := { stood := { row := fnReadExprRow, standIns := [], harness := (true, "1c780a323f7021f14b235c9c0c9a60d93b904ff4784f29ce9fe368fdb8fd335d"), looks := true }, kinds := [], alts := [], laidByText := true, laidKinds := [.data, .data, .data, .data, .sentinel, .sentinel, .pinned], laidTests := true, laidLooks := .later }
def FnReadExprCardSaid : Prop := Claim7.holds Tryz.pinned (.plain (OpenSpec.ofChange fnReadExprSpec)) fnReadExprCard

/-- THE TIED CARD OF 'laws.FnLists'. -/
def fnListsCard : Claim7 := { stood := { row := fnListsRow, standIns := [], harness := (true, "1c780a323f7021f14b235c9c0c9a60d93b904ff4784f29ce9fe368fdb8fd335d"), looks := true }, kinds := [], alts := [], laidByText := true, laidKinds := [.data, .data, .data, .data, .sentinel, .sentinel, .pinned], laidTests := true, laidLooks := .later }
def FnListsCardSaid : Prop := Claim7.holds Tryz.pinned (.plain (OpenSpec.ofChange fnListsSpec)) fnListsCard

/-- THE TIED CARD OF 'laws.FnEveryExpr'. -/
def fnEveryExprCard : Claim7 := { stood := { row := fnEveryExprRow, standIns := [], harness := (true, "1c780a323f7021f14b235c9c0c9a60d93b904ff4784f29ce9fe368fdb8fd335d"), looks := true }, kinds := [], alts := [], laidByText := true, laidKinds := [.data, .data, .data, .data, .sentinel, .sentinel, .pinned], laidTests := true, laidLooks := .later }
def FnEveryExprCardSaid : Prop := Claim7.holds Tryz.pinned (.plain (OpenSpec.ofChange fnEveryExprSpec)) fnEveryExprCard

/-- THE SECOND FORM's CARD OF 'laws.FnExactWriteModel'. -/
def fnExactWriteModelUptoCard : Claim7 := { stood := { row := fnExactWriteModelUptoRow, standIns := [], harness := (true, "1c780a323f7021f14b235c9c0c9a60d93b904ff4784f29ce9fe368fdb8fd335d"), looks := true }, kinds := [], alts := [], laidByText := true, laidKinds := [.data, .data, .data, .data, .pinned], laidTests := true, laidLooks := .later }
def FnExactWriteModelUptoCardSaid : Prop := Claim7.holds Tryz.pinned (.plain (OpenSpec.upto fnExactWriteModelSpec)) fnExactWriteModelUptoCard

/-- THE SECOND FORM's CARD OF 'laws.FnExprBack'. -/
def fnExprBackUptoCard : Claim7 := { stood := { row := fnExprBackUptoRow, standIns := [], harness := (true, "1c780a323f7021f14b235c9c0c9a60d93b904ff4784f29ce9fe368fdb8fd335d"), looks := true }, kinds := [], alts := [], laidByText := true, laidKinds := [.data, .data, .data, .data, .sentinel, .sentinel, .pinned], laidTests := true, laidLooks := .later }
def FnExprBackUptoCardSaid : Prop := Claim7.holds Tryz.pinned (.plain (OpenSpec.upto fnExprBackSpec)) fnExprBackUptoCard

/-- THE SECOND FORM's CARD OF 'laws.FnReadExpr'. -/
def fnReadExprUptoCard : Claim7 := { stood := { row := fnReadExprUptoRow, standIns := [], harness := (true, "1c780a323f7021f14b235c9c0c9a60d93b904ff4784f29ce9fe368fdb8fd335d"), looks := true }, kinds := [], alts := [], laidByText := true, laidKinds := [.data, .data, .data, .data, .sentinel, .sentinel, .pinned], laidTests := true, laidLooks := .later }
def FnReadExprUptoCardSaid : Prop := Claim7.holds Tryz.pinned (.plain (OpenSpec.upto fnReadExprSpec)) fnReadExprUptoCard

/-- THE SECOND FORM's CARD OF 'laws.FnLists'. -/
def fnListsUptoCard : Claim7 := { stood := { row := fnListsUptoRow, standIns := [], harness := (true, "1c780a323f7021f14b235c9c0c9a60d93b904ff4784f29ce9fe368fdb8fd335d"), looks := true }, kinds := [], alts := [], laidByText := true, laidKinds := [.data, .data, .data, .data, .sentinel, .sentinel, .pinned], laidTests := true, laidLooks := .later }
def FnListsUptoCardSaid : Prop := Claim7.holds Tryz.pinned (.plain (OpenSpec.upto fnListsSpec)) fnListsUptoCard

/-- THE SECOND FORM's CARD OF 'laws.FnEveryExpr'. -/
def fnEveryExprUptoCard : Claim7 := { stood := { row := fnEveryExprUptoRow, standIns := [], harness := (true, "1c780a323f7021f14b235c9c0c9a60d93b904ff4784f29ce9fe368fdb8fd335d"), looks := true }, kinds := [], alts := [], laidByText := true, laidKinds := [.data, .data, .data, .data, .sentinel, .sentinel, .pinned], laidTests := true, laidLooks := .later }
def FnEveryExprUptoCardSaid : Prop := Claim7.holds Tryz.pinned (.plain (OpenSpec.upto fnEveryExprSpec)) fnEveryExprUptoCard
end Rows
end Go.Proofs.YtfjnckjkpkhbdaaGreatDoor
