/-
  The closed facts of the card of ValueAlgebra.
-/
import Derived.Test.YtbofonlhakedpaaGreatDoorCards
import Derived.ProofKit
import Derived.SevenTiedAt
/- The closed facts of the card of ValueAlgebra. -/
namespace Go.Proofs.YtbofonlhakedpaaGreatDoor
set_option maxRecDepth 100000
set_option maxHeartbeats 100000000
theorem algebra_wf : Rows.valueAlgebraRow.wfByText (OpenSpec.ofChange Rows.valueAlgebraSpec) = true := by kernel_rfl
theorem algebra_main : Tryz.pinned.checked.prog.mainIs = some (true, ("1d3b116b304fd1b1acc65b3678444a4cdd83e5fb7777daf93d988772503e7f29" : String).toList) := by kernel_rfl
theorem algebra_goes : false = Rows.valueAlgebraRow.goesBy Tryz.pinned.checked.prog := by kernel_rfl
theorem algebra_looks : true = Tryz.pinned.checked.prog.looks [] := by kernel_rfl
theorem algebra_named2 : Tryz.prog.funcNamed "stutter/stutterlaw08.ValueAlgebra" = some 11 := by kernel_rfl
theorem algebra_stand : ∀ t ∈ [24, 22, 3, 63], Tryz.prog.wantsStandIn t = false := by
  intro t ht
  simp only [List.mem_cons, List.mem_nil_iff, or_false] at ht
  rcases ht with rfl | rfl | rfl | rfl
  · kernel_rfl
  · kernel_rfl
  · kernel_rfl
  · kernel_rfl
end Go.Proofs.YtbofonlhakedpaaGreatDoor
