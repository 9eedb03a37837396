/-
  The closed facts of the card of ValueMakes.
-/
import Derived.Test.YtbofonlhakedpaaGreatDoorCards
import Derived.ProofKit
import Derived.SevenTiedAt
/- The closed facts of the card of ValueMakes. -/
namespace Go.Proofs.YtbofonlhakedpaaGreatDoor
set_option maxRecDepth 100000
set_option maxHeartbeats 100000000
theorem makes_wf : Rows.valueMakesRow.wfByText (OpenSpec.ofChange Rows.valueMakesSpec) = true := by kernel_rfl
theorem makes_main : Tryz.pinned.checked.prog.mainIs = some (true, ("1d3b116b304fd1b1acc65b3678444a4cdd83e5fb7777daf93d988772503e7f29" : String).toList) := by kernel_rfl
theorem makes_goes : false = Rows.valueMakesRow.goesBy Tryz.pinned.checked.prog := by kernel_rfl
theorem makes_looks : true = Tryz.pinned.checked.prog.looks [] := by kernel_rfl
theorem makes_named2 : Tryz.prog.funcNamed "stutter/stutterlaw08.ValueMakes" = some 7 := by kernel_rfl
theorem makes_stand : ∀ t ∈ [24, 22, 3], Tryz.prog.wantsStandIn t = false := by
  intro t ht
  simp only [List.mem_cons, List.mem_nil_iff, or_false] at ht
  rcases ht with rfl | rfl | rfl
  · kernel_rfl
  · kernel_rfl
  · kernel_rfl
end Go.Proofs.YtbofonlhakedpaaGreatDoor
