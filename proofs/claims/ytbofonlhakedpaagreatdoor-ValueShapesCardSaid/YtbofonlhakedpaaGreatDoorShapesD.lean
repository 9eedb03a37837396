/-
  The closed facts of the card of ValueShapes.
-/
import Derived.Test.YtbofonlhakedpaaGreatDoorCards
import Derived.ProofKit
import Derived.SevenTiedAt
/- The closed facts of the card of ValueShapes. -/
namespace Go.Proofs.YtbofonlhakedpaaGreatDoor
set_option maxRecDepth 100000
set_option maxHeartbeats 100000000
theorem shapes_wf : Rows.valueShapesRow.wfByText (OpenSpec.ofChange Rows.valueShapesSpec) = true := by kernel_rfl
theorem shapes_main : Tryz.pinned.checked.prog.mainIs = some (true, ("1d3b116b304fd1b1acc65b3678444a4cdd83e5fb7777daf93d988772503e7f29" : String).toList) := by kernel_rfl
theorem shapes_goes : false = Rows.valueShapesRow.goesBy Tryz.pinned.checked.prog := by kernel_rfl
theorem shapes_looks : true = Tryz.pinned.checked.prog.looks [] := by kernel_rfl
theorem shapes_named2 : Tryz.prog.funcNamed "stutter/stutterlaw08.ValueShapes" = some 6 := by kernel_rfl
theorem shapes_stand : Tryz.prog.wantsStandIn 24 = false := by kernel_rfl
end Go.Proofs.YtbofonlhakedpaaGreatDoor
