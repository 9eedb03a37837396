/-
  The closed facts of the card of ValueRenames.
-/
import Derived.Test.YtbofonlhakedpaaGreatDoorCards
import Derived.ProofKit
import Derived.SevenTiedAt
/- The closed facts of the card of ValueRenames. -/
namespace Go.Proofs.YtbofonlhakedpaaGreatDoor
set_option maxRecDepth 100000
set_option maxHeartbeats 100000000
theorem renames_wf : Rows.valueRenamesRow.wfByText (OpenSpec.ofChange Rows.valueRenamesSpec) = true := by kernel_rfl
theorem renames_main : Tryz.pinned.checked.prog.mainIs = some (true, ("1d3b116b304fd1b1acc65b3678444a4cdd83e5fb7777daf93d988772503e7f29" : String).toList) := by kernel_rfl
theorem renames_goes : false = Rows.valueRenamesRow.goesBy Tryz.pinned.checked.prog := by kernel_rfl
theorem renames_looks : true = Tryz.pinned.checked.prog.looks [] := by kernel_rfl
theorem renames_named2 : Tryz.prog.funcNamed "stutter/stutterlaw08.ValueRenames" = some 8 := by kernel_rfl
theorem renames_stand : ∀ t ∈ [24, 22, 3, 63], Tryz.prog.wantsStandIn t = false := by
  intro t ht
  simp only [List.mem_cons, List.mem_nil_iff, or_false] at ht
  rcases ht with rfl | rfl | rfl | rfl
  · kernel_rfl
  · kernel_rfl
  · kernel_rfl
  · kernel_rfl
end Go.Proofs.YtbofonlhakedpaaGreatDoor
