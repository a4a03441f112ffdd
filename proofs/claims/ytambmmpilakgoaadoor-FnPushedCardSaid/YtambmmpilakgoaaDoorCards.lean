/-
  DERIVED. GIVEN WITH THE SEED: THE CARDS: each row of YtambmmpilakgoaaDoorRows.lean that lists a variable, with what it lists TIED to the program's text (the seventh form; the later family's looks); each row that meets fmt, with fmt's text TOLD by the authors' own Lean function (tested against real Go, not proved from fmt's source: count such statements apart). THE CARD IS WHAT COUNTS. Prove the row's statement (the work); the ties are given (YtambmmpilakgoaaDoorTie.lean); close each card by the builder's one call (the guide's Derived/Test/ToyasCard.lean, 'card_holds'). Laid BY PROGRAM, IN A SANDBOX (cutbox-door.mjs). By AI agents, Wed Nov 11 2026. No macro, syntax, notation, axiom, sorry.
-/
import Derived.Test.YtambmmpilakgoaaDoorRows
import GoSem.ClaimSeven
namespace Go.Proofs.YtambmmpilakgoaaDoor
namespace Rows

/-- THE TIED CARD OF 'laws.FnExactNamesValid'. -/
def fnExactNamesValidCard : Claim7 := { stood := { row := fnExactNamesValidRow, standIns := [], harness := (true, "5bc040500f435c36210e456dee6c293f12c29226968ba6ace24d683fd53ded62"), looks := true }, kinds := [], alts := [], laidByText := true, laidKinds := [.data, .pinned], laidTests := true, laidLooks := .later }
def FnExactNamesValidCardSaid : Prop := Claim7.holds Tryd.pinned (.plain (OpenSpec.ofChange fnExactNamesValidSpec)) fnExactNamesValidCard

/-- THE TIED CARD OF 'laws.FnExactPaperText'. -/
def fnExactPaperTextCard : Claim7 := { stood := { row := fnExactPaperTextRow, standIns := [], harness := (true, "5bc040500f435c36210e456dee6c293f12c29226968ba6ace24d683fd53ded62"), looks := true }, kinds := [], alts := [], laidByText := true, laidKinds := [.data, .data, .data], laidTests := true, laidLooks := .later }
def FnExactPaperTextCardSaid : Prop := Claim7.holds Tryd.pinned (.plain (OpenSpec.ofChange fnExactPaperTextSpec)) fnExactPaperTextCard

/-- THE TIED CARD OF 'laws.FnPushed'. -/
def fnPushedCard : Claim7 := { stood := { row := fnPushedRow, standIns := [], harness := (true, "5bc040500f435c36210e456dee6c293f12c29226968ba6ace24d683fd53ded62"), looks := true }, kinds := [], alts := [], laidByText := true, laidKinds := [.data, .data, .data], laidTests := true, laidLooks := .later }
def FnPushedCardSaid : Prop := Claim7.holds Tryd.pinned (.plain (OpenSpec.ofChange fnPushedSpec)) fnPushedCard

/-- THE TIED CARD OF 'laws.FnExactStateText'. -/
def fnExactStateTextCard : Claim7 := { stood := { row := fnExactStateTextRow, standIns := [], harness := (true, "5bc040500f435c36210e456dee6c293f12c29226968ba6ace24d683fd53ded62"), looks := true }, kinds := [], alts := [], laidByText := true, laidKinds := [.data, .data, .data, .data, .pinned], laidTests := true, laidLooks := .later }
def FnExactStateTextCardSaid : Prop := Claim7.holds Tryd.pinned (.plain (OpenSpec.ofChange fnExactStateTextSpec)) fnExactStateTextCard

/-- THE TIED CARD OF 'laws.FnExactWriteExpr'. -/
def fnExactWriteExprCard : Claim7 := { stood := { row := fnExactWriteExprRow, standIns := [], harness := (true, "5bc040500f435c36210e456dee6c293f12c29226968ba6ace24d683fd53ded62"), looks := true }, kinds := [], alts := [], laidByText := true, laidKinds := [.data, .data, .data, .data, .pinned], laidTests := true, laidLooks := .later }
def FnExactWriteExprCardSaid : Prop := Claim7.holds Tryd.pinned (.plain (OpenSpec.ofChange fnExactWriteExprSpec)) fnExactWriteExprCard

/-- THE TIED CARD OF 'laws.FnExactModelValid'. -/
def fnExactModelValidCard : Claim7 := { stood := { row := fnExactModelValidRow, standIns := [], harness := (true, "5bc040500f435c36210e456dee6c293f12c29226968ba6ace24d683fd53ded62"), looks := true }, kinds := [], alts := [], laidByText := true, laidKinds := [.data, .pinned], laidTests := true, laidLooks := .later }
def FnExactModelValidCardSaid : Prop := Claim7.holds Tryd.pinned (.plain (OpenSpec.ofChange fnExactModelValidSpec)) fnExactModelValidCard

/-- THE TIED CARD OF 'laws.FnExactReadList'. -/
def fnExactReadListCard : Claim7 := { stood := { row := fnExactReadListRow, standIns := [], harness := (true, "5bc040500f435c36210e456dee6c293f12c29226968ba6ace24d683fd53ded62"), looks := true }, kinds := [], alts := [], laidByText := true, laidKinds := [.data, .data, .data, .data, .sentinel, .sentinel, .pinned], laidTests := true, laidLooks := .later }
def FnExactReadListCardSaid : Prop := Claim7.holds Tryd.pinned (.plain (OpenSpec.ofChange fnExactReadListSpec)) fnExactReadListCard

/-- THE TIED CARD OF 'laws.FnExactReadPaper'. -/
def fnExactReadPaperCard : Claim7 := { stood := { row := fnExactReadPaperRow, standIns := [], harness := (true, "5bc040500f435c36210e456dee6c293f12c29226968ba6ace24d683fd53ded62"), looks := true }, kinds := [], alts := [], laidByText := true, laidKinds := [.data, .data, .data, .data, .sentinel, .sentinel, .pinned], laidTests := true, laidLooks := .later }
def FnExactReadPaperCardSaid : Prop := Claim7.holds Tryd.pinned (.plain (OpenSpec.ofChange fnExactReadPaperSpec)) fnExactReadPaperCard

/-- THE SECOND FORM's CARD OF 'laws.FnExactNamesValid'. -/
def fnExactNamesValidUptoCard : Claim7 := { stood := { row := fnExactNamesValidUptoRow, standIns := [], harness := (true, "5bc040500f435c36210e456dee6c293f12c29226968ba6ace24d683fd53ded62"), looks := true }, kinds := [], alts := [], laidByText := true, laidKinds := [.data, .pinned], laidTests := true, laidLooks := .later }
def FnExactNamesValidUptoCardSaid : Prop := Claim7.holds Tryd.pinned (.plain (OpenSpec.upto fnExactNamesValidSpec)) fnExactNamesValidUptoCard

/-- THE SECOND FORM's CARD OF 'laws.FnExactPaperText'. -/
def fnExactPaperTextUptoCard : Claim7 := { stood := { row := fnExactPaperTextUptoRow, standIns := [], harness := (true, "5bc040500f435c36210e456dee6c293f12c29226968ba6ace24d683fd53ded62"), looks := true }, kinds := [], alts := [], laidByText := true, laidKinds := [.data, .data, .data], laidTests := true, laidLooks := .later }
def FnExactPaperTextUptoCardSaid : Prop := Claim7.holds Tryd.pinned (.plain (OpenSpec.upto fnExactPaperTextSpec)) fnExactPaperTextUptoCard

/-- THE SECOND FORM's CARD OF 'laws.FnPushed'. -/
def fnPushedUptoCard : Claim7 := { stood := { row := fnPushedUptoRow, standIns := [], harness := (true, "5bc040500f435c36210e456dee6c293f12c29226968ba6ace24d683fd53ded62"), looks := true }, kinds := [], alts := [], laidByText := true, laidKinds := [.data, .data, .data], laidTests := true, laidLooks := .later }
def FnPushedUptoCardSaid : Prop := Claim7.holds Tryd.pinned (.plain (OpenSpec.upto fnPushedSpec)) fnPushedUptoCard

/-- THE SECOND FORM's CARD OF 'laws.FnExactStateText'. -/
def fnExactStateTextUptoCard : Claim7 := { stood := { row := fnExactStateTextUptoRow, standIns := [], harness := (true, "5bc040500f435c36210e456dee6c293f12c29226968ba6ace24d683fd53ded62"), looks := true }, kinds := [], alts := [], laidByText := true, laidKinds := [.data, .data, .data, .data, .pinned], laidTests := true, laidLooks := .later }
def FnExactStateTextUptoCardSaid : Prop := Claim7.holds Tryd.pinned (.plain (OpenSpec.upto fnExactStateTextSpec)) fnExactStateTextUptoCard

/-- THE SECOND FORM's CARD OF 'laws.FnExactWriteExpr'. -/
def fnExactWriteExprUptoCard : Claim7 := { stood := { row := fnExactWriteExprUptoRow, standIns := [], harness := (true, "5bc040500f435c36210e456dee6c293f12c29226968ba6ace24d683fd53ded62"), looks := true }, kinds := [], alts := [], laidByText := true, laidKinds := [.data, .data, .data, .data, .pinned], laidTests := true, laidLooks := .later }
def FnExactWriteExprUptoCardSaid : Prop := Claim7.holds Tryd.pinned (.plain (OpenSpec.upto fnExactWriteExprSpec)) fnExactWriteExprUptoCard

/-- THE SECOND FORM's CARD OF 'laws.FnExactModelValid'. -/
def fnExactModelValidUptoCard : Claim7 := { stood := { row := fnExactModelValidUptoRow, standIns := [], harness := (true, "5bc040500f435c36210e456dee6c293f12c29226968ba6ace24d683fd53ded62"), looks := true }, kinds := [], alts := [], laidByText := true, laidKinds := [.data, .pinned], laidTests := true, laidLooks := .later }
def FnExactModelValidUptoCardSaid : Prop := Claim7.holds Tryd.pinned (.plain (OpenSpec.upto fnExactModelValidSpec)) fnExactModelValidUptoCard

/-- THE SECOND FORM's CARD OF 'laws.FnExactReadList'. -/
def fnExactReadListUptoCard : Claim7 := { stood := { row := fnExactReadListUptoRow, standIns := [], harness := (true, "5bc040500f435c36210e456dee6c293f12c29226968ba6ace24d683fd53ded62"), looks := true }, kinds := [], alts := [], laidByText := true, laidKinds := [.data, .data, .data, .data, .sentinel, .sentinel, .pinned], laidTests := true, laidLooks := .later }
def FnExactReadListUptoCardSaid : Prop := Claim7.holds Tryd.pinned (.plain (OpenSpec.upto fnExactReadListSpec)) fnExactReadListUptoCard

/-- THE SECOND FORM's CARD OF 'laws.FnExactReadPaper'. -/
def fnExactReadPaperUptoCard : Claim7 := { stood := { row := fnExactReadPaperUptoRow, standIns := [], harness := (true, "5bc040500f435c36210e456dee6c293f12c29226968ba6ace24d683fd53ded62"), looks := true }, kinds := [], alts := [], laidByText := true, laidKinds := [.data, .data, .data, .data, .sentinel, .sentinel, .pinned], laidTests := true, laidLooks := .later }
def FnExactReadPaperUptoCardSaid : Prop := Claim7.holds Tryd.pinned (.plain (OpenSpec.upto fnExactReadPaperSpec)) fnExactReadPaperUptoCard
end Rows
end Go.Proofs.YtambmmpilakgoaaDoor
