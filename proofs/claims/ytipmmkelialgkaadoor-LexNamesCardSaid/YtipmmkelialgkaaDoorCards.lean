/-
  DERIVED. GIVEN WITH THE SEED: THE CARDS: each row of YtipmmkelialgkaaDoorRows.lean that lists a variable, with what it lists TIED to the program's text (the seventh form; the later family's looks); each row that meets fmt, with fmt's text TOLD by the authors' own Lean function (tested against real Go, not proved from fmt's source: count such statements apart). THE CARD IS WHAT COUNTS. Prove the row's statement (the work); the ties are given (YtipmmkelialgkaaDoorTie.lean); close each card by the builder's one call (the guide's Derived/Test/ToyasCard.lean, 'card_holds'). Laid BY PROGRAM, IN A SANDBOX (cutbox-door.mjs). By AI agents, Wed Nov 11 2026. No macro, syntax, notation, axiom, sorry.
-/
import Derived.Test.YtipmmkelialgkaaDoorRows
import GoSem.ClaimSeven
namespace Go.Proofs.YtipmmkelialgkaaDoor
namespace Rows

/-- THE TIED CARD OF 'redactorlaw06.LexScalar'. -/
def lexScalarCard : Claim7 := { stood := { row := lexScalarRow, standIns := [], harness := (true, "2b7323ec593e882fd485b60c829fa6782e42d0e7be002a2a2d902e05918c4d6e"), looks := true }, kinds := [], alts := [], laidByText := true, laidKinds := [.data, .data, .data, .data, .sentinel, .sentinel, .pinned, .pinned], laidTests := true, laidLooks := .later }
def LexScalarCardSaid : Prop := Claim7.holds Tryd.pinned (.plain (OpenSpec.ofChange lexScalarSpec)) lexScalarCard

/-- THE TIED CARD OF 'redactorlaw06.LexPlaces'. -/
def lexPlacesCard : Claim7 := { stood := { row := lexPlacesRow, standIns := [], harness := (true, "2b7323ec593e882fd485b60c829fa6782e42d0e7be002a2a2d902e05918c4d6e"), looks := true }, kinds := [], alts := [], laidByText := true, laidKinds := [.data, .data, .data, .data, .sentinel, .sentinel, .pinned, .pinned], laidTests := true, laidLooks := .later }
def LexPlacesCardSaid : Prop := Claim7.holds Tryd.pinned (.plain (OpenSpec.ofChange lexPlacesSpec)) lexPlacesCard

/-- THE TIED CARD OF 'redactorlaw06.LexBlank'. -/
def lexBlankCard : Claim7 := { stood := { row := lexBlankRow, standIns := [], harness := (true, "2b7323ec593e882fd485b60c829fa6782e42d0e7be002a2a2d902e05918c4d6e"), looks := true }, kinds := [], alts := [], laidByText := true, laidKinds := [.data, .data, .data, .data, .sentinel, .sentinel, .pinned, .pinned], laidTests := true, laidLooks := .later }
def LexBlankCardSaid : Prop := Claim7.holds Tryd.pinned (.plain (OpenSpec.ofChange lexBlankSpec)) lexBlankCard

/-- THE TIED CARD OF 'redactorlaw06.LexNames'. -/
def lexNamesCard : Claim7 := { stood := { row := lexNamesRow, standIns := [], harness := (true, "2b7323ec593e882fd485b60c829fa6782e42d0e7be002a2a2d902e05918c4d6e"), looks := true }, kinds := [], alts := [], laidByText := true, laidKinds := [.data, .data, .data, .data, .sentinel, .sentinel, .pinned, .pinned], laidTests := true, laidLooks := .later }
def LexNamesCardSaid : Prop := Claim7.holds Tryd.pinned (.plain (OpenSpec.ofChange lexNamesSpec)) lexNamesCard

/-- THE SECOND FORM's CARD OF 'redactorlaw06.LexScalar'. -/
def lexScalarUptoCard : Claim7 := { stood := { row := lexScalarUptoRow, standIns := [], harness := (true, "2b7323ec593e882fd485b60c829fa6782e42d0e7be002a2a2d902e05918c4d6e"), looks := true }, kinds := [], alts := [], laidByText := true, laidKinds := [.data, .data, .data, .data, .sentinel, .sentinel, .pinned, .pinned], laidTests := true, laidLooks := .later }
def LexScalarUptoCardSaid : Prop := Claim7.holds Tryd.pinned (.plain (OpenSpec.upto lexScalarSpec)) lexScalarUptoCard

/-- THE SECOND FORM's CARD OF 'redactorlaw06.LexPlaces'. -/
def lexPlacesUptoCard : Claim7 := { stood := { row := lexPlacesUptoRow, standIns := [], harness := (true, "2b7323ec593e882fd485b60c829fa6782e42d0e7be002a2a2d902e05918c4d6e"), looks := true }, kinds := [], alts := [], laidByText := true, laidKinds := [.data, .data, .data, .data, .sentinel, .sentinel, .pinned, .pinned], laidTests := true, laidLooks := .later }
def LexPlacesUptoCardSaid : Prop := Claim7.holds Tryd.pinned (.plain (OpenSpec.upto lexPlacesSpec)) lexPlacesUptoCard

/-- THE SECOND FORM's CARD OF 'redactorlaw06.LexBlank'. -/
def lexBlankUptoCard : Claim7 := { stood := { row := lexBlankUptoRow, standIns := [], harness := (true, "2b7323ec593e882fd485b60c829fa6782e42d0e7be002a2a2d902e05918c4d6e"), looks := true }, kinds := [], alts := [], laidByText := true, laidKinds := [.data, .data, .data, .data, .sentinel, .sentinel, .pinned, .pinned], laidTests := true, laidLooks := .later }
def LexBlankUptoCardSaid : Prop := Claim7.holds Tryd.pinned (.plain (OpenSpec.upto lexBlankSpec)) lexBlankUptoCard

/-- THE SECOND FORM's CARD OF 'redactorlaw06.LexNames'. -/
def lexNamesUptoCard : Claim7 := { stood := { row := lexNamesUptoRow, standIns := [], harness := (true, "2b7323ec593e882fd485b60c829fa6782e42d0e7be002a2a2d902e05918c4d6e"), looks := true }, kinds := [], alts := [], laidByText := true, laidKinds := [.data, .data, .data, .data, .sentinel, .sentinel, .pinned, .pinned], laidTests := true, laidLooks := .later }
def LexNamesUptoCardSaid : Prop := Claim7.holds Tryd.pinned (.plain (OpenSpec.upto lexNamesSpec)) lexNamesUptoCard
end Rows
end Go.Proofs.YtipmmkelialgkaaDoor
