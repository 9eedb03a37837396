/-
  DERIVED. GIVEN WITH THE SEED: THE CARDS: each row of YtbofonlhakedpaaGreatDoorRows.lean that lists a variable, with what it lists TIED to the program's text (the seventh form; the later family's looks); each row that meets fmt, with fmt's text TOLD by the authors' own Lean function (tested against real Go, not proved from fmt's source: count such statements apart). THE CARD IS WHAT COUNTS. Prove the row's statement (the work); the ties are given (YtbofonlhakedpaaGreatDoorTie.lean); close each card by the builder's one call (the guide's Derived/Test/ToyasCard.lean, 'card_holds'). Laid BY PROGRAM, IN A SANDBOX (cutbox-door.mjs). By AI agents, Wed Nov 11 2026. No macro, syntax, notation, axiom, sorry.
-/
import Derived.Test.YtbofonlhakedpaaGreatDoorRows
import GoSem.ClaimSeven
namespace Go.Proofs.YtbofonlhakedpaaGreatDoor
namespace Rows

/-- THE TIED CARD OF 'stutterlaw08.ValueChecks'. -/
def valueChecksCard : Claim7 := { stood := { row := valueChecksRow, standIns := [], harness := (true, "1d3b116b304fd1b1acc65b3678444a4cdd83e5fb7777daf93d988772503e7f29"), looks := true }, kinds := [], alts := [], laidByText := true, laidKinds := [.data, .data, .data, .data, .pinned, .pinned], laidTests := true, laidLooks := .later }
def ValueChecksCardSaid : Prop := Claim7.holds Tryz.pinned (.plain (OpenSpec.ofChange valueChecksSpec)) valueChecksCard

/-- THE TIED CARD OF 'stutterlaw08.ValueOrders'. -/
def valueOrdersCard : Claim7 := { stood := { row := valueOrdersRow, standIns := [], harness := (true, "1d3b116b304fd1b1acc65b3678444a4cdd83e5fb7777daf93d988772503e7f29"), looks := true }, kinds := [], alts := [], laidByText := true, laidKinds := [.data, .data, .data, .data, .pinned, .pinned], laidTests := true, laidLooks := .later }
def ValueOrdersCardSaid : Prop := Claim7.holds Tryz.pinned (.plain (OpenSpec.ofChange valueOrdersSpec)) valueOrdersCard

/-- THE TIED CARD OF 'stutterlaw08.ValueTexts'. -/
def valueTextsCard : Claim7 := { stood := { row := valueTextsRow, standIns := [], harness := (true, "1d3b116b304fd1b1acc65b3678444a4cdd83e5fb7777daf93d988772503e7f29"), looks := true }, kinds := [], alts := [], laidByText := true, laidKinds := [.data, .data, .data, .data, .pinned, .pinned], laidTests := true, laidLooks := .later }
def ValueTextsCardSaid : Prop := Claim7.holds Tryz.pinned (.plain (OpenSpec.ofChange valueTextsSpec)) valueTextsCard

/-- THE TIED CARD OF 'stutterlaw08.ValueShapes'. -/
def valueShapesCard : Claim7 := { stood := { row := valueShapesRow, standIns := [], harness := (true, "1d3b116b304fd1b1acc65b3678444a4cdd83e5fb7777daf93d988772503e7f29"), looks := true }, kinds := [], alts := [], laidByText := true, laidKinds := [.data, .data, .data, .data, .pinned, .pinned], laidTests := true, laidLooks := .later }
def ValueShapesCardSaid : Prop := Claim7.holds Tryz.pinned (.plain (OpenSpec.ofChange valueShapesSpec)) valueShapesCard

/-- THE TIED CARD OF 'stutterlaw08.ValueMakes'. -/
def valueMakesCard : Claim7 := { stood := { row := valueMakesRow, standIns := [], harness := (true, "1d3b116b304fd1b1acc65b3678444a4cdd83e5fb7777daf93d988772503e7f29"), looks := true }, kinds := [], alts := [], laidByText := true, laidKinds := [.data, .data, .data, .data, .pinned, .pinned], laidTests := true, laidLooks := .later }
def ValueMakesCardSaid : Prop := Claim7.holds Tryz.pinned (.plain (OpenSpec.ofChange valueMakesSpec)) valueMakesCard

/-- THE TIED CARD OF 'stutterlaw08.ValueRenames'. -/
def valueRenamesCard : Claim7 := { stood := { row := valueRenamesRow, standIns := [], harness := (true, "1d3b116b304fd1b1acc65b3678444a4cdd83e5fb7777daf93d988772503e7f29"), looks := true }, kinds := [], alts := [], laidByText := true, laidKinds := [.data, .data, .data, .data, .pinned, .pinned], laidTests := true, laidLooks := .later }
def ValueRenamesCardSaid : Prop := Claim7.holds Tryz.pinned (.plain (OpenSpec.ofChange valueRenamesSpec)) valueRenamesCard

/-- THE TIED CARD OF 'stutterlaw08.ValueCombines'. -/
def valueCombinesCard : Claim7 := { stood := { row := valueCombinesRow, standIns := [], harness := (true, "1d3b116b304fd1b1acc65b3678444a4cdd83e5fb7777daf93d988772503e7f29"), looks := true }, kinds := [], alts := [], laidByText := true, laidKinds := [.data, .data, .data, .data, .pinned, .pinned], laidTests := true, laidLooks := .later }
def ValueCombinesCardSaid : Prop := Claim7.holds Tryz.pinned (.plain (OpenSpec.ofChange valueCombinesSpec)) valueCombinesCard

/-- THE TIED CARD OF 'stutterlaw08.ValueFunctions'. -/
def valueFunctionsCard : Claim7 := { stood := { row := valueFunctionsRow, standIns := [], harness := (true, "1d3b116b304fd1b1acc65b3678444a4cdd83e5fb7777daf93d988772503e7f29"), looks := true }, kinds := [], alts := [], laidByText := true, laidKinds := [.data, .data, .data, .data, .pinned, .pinned], laidTests := true, laidLooks := .later }
def ValueFunctionsCardSaid : Prop := Claim7.holds Tryz.pinned (.plain (OpenSpec.ofChange valueFunctionsSpec)) valueFunctionsCard

/-- THE TIED CARD OF 'stutterlaw08.ValueAlgebra'. -/
def valueAlgebraCard : Claim7 := { stood := { row := valueAlgebraRow, standIns := [], harness := (true, "1d3b116b304fd1b1acc65b3678444a4cdd83e5fb7777daf93d988772503e7f29"), looks := true }, kinds := [], alts := [], laidByText := true, laidKinds := [.data, .data, .data, .data, .pinned, .pinned], laidTests := true, laidLooks := .later }
def ValueAlgebraCardSaid : Prop := Claim7.holds Tryz.pinned (.plain (OpenSpec.ofChange valueAlgebraSpec)) valueAlgebraCard

/-- THE TIED CARD OF 'stutterlaw09.LazyChecks'. -/
def lazyChecksCard : Claim7 := { stood := { row := lazyChecksRow, standIns := [], harness := (true, "1d3b116b304fd1b1acc65b3678444a4cdd83e5fb7777daf93d988772503e7f29"), looks := true }, kinds := [], alts := [], laidByText := true, laidKinds := [.data, .data, .data, .data, .pinned, .pinned], laidTests := true, laidLooks := .later }
def LazyChecksCardSaid : Prop := Claim7.holds Tryz.pinned (.plain (OpenSpec.ofChange lazyChecksSpec)) lazyChecksCard

/-- THE SECOND FORM's CARD OF 'stutterlaw08.ValueChecks'. -/
def valueChecksUptoCard : Claim7 := { stood := { row := valueChecksUptoRow, standIns := [], harness := (true, "1d3b116b304fd1b1acc65b3678444a4cdd83e5fb7777daf93d988772503e7f29"), looks := true }, kinds := [], alts := [], laidByText := true, laidKinds := [.data, .data, .data, .data, .pinned, .pinned], laidTests := true, laidLooks := .later }
def ValueChecksUptoCardSaid : Prop := Claim7.holds Tryz.pinned (.plain (OpenSpec.upto valueChecksSpec)) valueChecksUptoCard

/-- THE SECOND FORM's CARD OF 'stutterlaw08.ValueOrders'. -/
def valueOrdersUptoCard : Claim7 := { stood := { row := valueOrdersUptoRow, standIns := [], harness := (true, "1d3b116b304fd1b1acc65b3678444a4cdd83e5fb7777daf93d988772503e7f29"), looks := true }, kinds := [], alts := [], laidByText := true, laidKinds := [.data, .data, .data, .data, .pinned, .pinned], laidTests := true, laidLooks := .later }
def ValueOrdersUptoCardSaid : Prop := Claim7.holds Tryz.pinned (.plain (OpenSpec.upto valueOrdersSpec)) valueOrdersUptoCard

/-- THE SECOND FORM's CARD OF 'stutterlaw08.ValueTexts'. -/
def valueTextsUptoCard : Claim7 := { stood := { row := valueTextsUptoRow, standIns := [], harness := (true, "1d3b116b304fd1b1acc65b3678444a4cdd83e5fb7777daf93d988772503e7f29"), looks := true }, kinds := [], alts := [], laidByText := true, laidKinds := [.data, .data, .data, .data, .pinned, .pinned], laidTests := true, laidLooks := .later }
def ValueTextsUptoCardSaid : Prop := Claim7.holds Tryz.pinned (.plain (OpenSpec.upto valueTextsSpec)) valueTextsUptoCard

/-- THE SECOND FORM's CARD OF 'stutterlaw08.ValueShapes'. -/
def valueShapesUptoCard : Claim7 := { stood := { row := valueShapesUptoRow, standIns := [], harness := (true, "1d3b116b304fd1b1acc65b3678444a4cdd83e5fb7777daf93d988772503e7f29"), looks := true }, kinds := [], alts := [], laidByText := true, laidKinds := [.data, .data, .data, .data, .pinned, .pinned], laidTests := true, laidLooks := .later }
def ValueShapesUptoCardSaid : Prop := Claim7.holds Tryz.pinned (.plain (OpenSpec.upto valueShapesSpec)) valueShapesUptoCard

/-- THE SECOND FORM's CARD OF 'stutterlaw08.ValueMakes'. -/
def valueMakesUptoCard : Claim7 := { stood := { row := valueMakesUptoRow, standIns := [], harness := (true, "1d3b116b304fd1b1acc65b3678444a4cdd83e5fb7777daf93d988772503e7f29"), looks := true }, kinds := [], alts := [], laidByText := true, laidKinds := [.data, .data, .data, .data, .pinned, .pinned], laidTests := true, laidLooks := .later }
def ValueMakesUptoCardSaid : Prop := Claim7.holds Tryz.pinned (.plain (OpenSpec.upto valueMakesSpec)) valueMakesUptoCard

/-- THE SECOND FORM's CARD OF 'stutterlaw08.ValueRenames'. -/
def valueRenamesUptoCard : Claim7 := { stood := { row := valueRenamesUptoRow, standIns := [], harness := (true, "1d3b116b304fd1b1acc65b3678444a4cdd83e5fb7777daf93d988772503e7f29"), looks := true }, kinds := [], alts := [], laidByText := true, laidKinds := [.data, .data, .data, .data, .pinned, .pinned], laidTests := true, laidLooks := .later }
def ValueRenamesUptoCardSaid : Prop := Claim7.holds Tryz.pinned (.plain (OpenSpec.upto valueRenamesSpec)) valueRenamesUptoCard

/-- THE SECOND FORM's CARD OF 'stutterlaw08.ValueCombines'. -/
def valueCombinesUptoCard : Claim7 := { stood := { row := valueCombinesUptoRow, standIns := [], harness := (true, "1d3b116b304fd1b1acc65b3678444a4cdd83e5fb7777daf93d988772503e7f29"), looks := true }, kinds := [], alts := [], laidByText := true, laidKinds := [.data, .data, .data, .data, .pinned, .pinned], laidTests := true, laidLooks := .later }
def ValueCombinesUptoCardSaid : Prop := Claim7.holds Tryz.pinned (.plain (OpenSpec.upto valueCombinesSpec)) valueCombinesUptoCard

/-- THE SECOND FORM's CARD OF 'stutterlaw08.ValueFunctions'. -/
def valueFunctionsUptoCard : Claim7 := { stood := { row := valueFunctionsUptoRow, standIns := [], harness := (true, "1d3b116b304fd1b1acc65b3678444a4cdd83e5fb7777daf93d988772503e7f29"), looks := true }, kinds := [], alts := [], laidByText := true, laidKinds := [.data, .data, .data, .data, .pinned, .pinned], laidTests := true, laidLooks := .later }
def ValueFunctionsUptoCardSaid : Prop := Claim7.holds Tryz.pinned (.plain (OpenSpec.upto valueFunctionsSpec)) valueFunctionsUptoCard

/-- THE SECOND FORM's CARD OF 'stutterlaw08.ValueAlgebra'. -/
def valueAlgebraUptoCard : Claim7 := { stood := { row := valueAlgebraUptoRow, standIns := [], harness := (true, "1d3b116b304fd1b1acc65b3678444a4cdd83e5fb7777daf93d988772503e7f29"), looks := true }, kinds := [], alts := [], laidByText := true, laidKinds := [.data, .data, .data, .data, .pinned, .pinned], laidTests := true, laidLooks := .later }
def ValueAlgebraUptoCardSaid : Prop := Claim7.holds Tryz.pinned (.plain (OpenSpec.upto valueAlgebraSpec)) valueAlgebraUptoCard

/-- THE SECOND FORM's CARD OF 'stutterlaw09.LazyChecks'. -/
def lazyChecksUptoCard : Claim7 := { stood := { row := lazyChecksUptoRow, standIns := [], harness := (true, "1d3b116b304fd1b1acc65b3678444a4cdd83e5fb7777daf93d988772503e7f29"), looks := true }, kinds := [], alts := [], laidByText := true, laidKinds := [.data, .data, .data, .data, .pinned, .pinned], laidTests := true, laidLooks := .later }
def LazyChecksUptoCardSaid : Prop := Claim7.holds Tryz.pinned (.plain (OpenSpec.upto lazyChecksSpec)) lazyChecksUptoCard
end Rows
end Go.Proofs.YtbofonlhakedpaaGreatDoor
