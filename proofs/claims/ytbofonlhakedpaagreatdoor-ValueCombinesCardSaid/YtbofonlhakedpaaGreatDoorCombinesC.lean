/-
  The closed facts of the row of ValueCombines.
-/
import Derived.Test.YtbofonlhakedpaaGreatDoorCards
import Derived.ProofKit
import Derived.JoinedCond
/- The closed facts of the row of ValueCombines. -/
namespace Go.Proofs.YtbofonlhakedpaaGreatDoor
set_option maxRecDepth 100000
set_option maxHeartbeats 100000000
theorem combines_closed : joinedFacts Tryz.pinned.checked.prog 9 Tryz.f9 (OpenSpec.ofChange Rows.valueCombinesSpec).bare Rows.valueCombinesRow = true := by
  unfold joinedFacts
  simp only [Bool.and_eq_true]
  repeat' apply And.intro
  all_goals (as_aux_lemma => kernel_rfl)
end Go.Proofs.YtbofonlhakedpaaGreatDoor
