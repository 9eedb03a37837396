/-
  The closed facts of the card of ValueTexts.
-/
import Derived.Test.YtbofonlhakedpaaGreatDoorCards
import Derived.ProofKit
import Derived.SevenTiedAt
/- The closed facts of the card of ValueTexts. -/
namespace Go.Proofs.YtbofonlhakedpaaGreatDoor
set_option maxRecDepth 100000
set_option maxHeartbeats 100000000
theorem texts_wf : Rows.valueTextsRow.wfByText (OpenSpec.ofChange Rows.valueTextsSpec) = true := by kernel_rfl
theorem texts_main : Tryz.pinned.checked.prog.mainIs = some (true, ("1d3b116b304fd1b1acc65b3678444a4cdd83e5fb7777daf93d988772503e7f29" : String).toList) := by kernel_rfl
theorem texts_goes : false = Rows.valueTextsRow.goesBy Tryz.pinned.checked.prog := by kernel_rfl
theorem texts_looks : true = Tryz.pinned.checked.prog.looks [] := by kernel_rfl
theorem texts_named2 : Tryz.prog.funcNamed "stutter/stutterlaw08.ValueTexts" = some 5 := by kernel_rfl
theorem texts_stand : ∀ t ∈ [24, 22, 3, 9], Tryz.prog.wantsStandIn t = false := by
  intro t ht
  simp only [List.mem_cons, List.mem_nil_iff, or_false] at ht
  rcases ht with rfl | rfl | rfl | rfl
  · kernel_rfl
  · kernel_rfl
  · kernel_rfl
  · kernel_rfl
end Go.Proofs.YtbofonlhakedpaaGreatDoor
