/-
  The closed facts of the row of ValueAlgebra.
-/
import Derived.Test.YtbofonlhakedpaaGreatDoorCards
import Derived.ProofKit
import Derived.JoinedCond
/- The closed facts of the row of ValueAlgebra. -/
namespace Go.Proofs.YtbofonlhakedpaaGreatDoor
set_option maxRecDepth 100000
set_option maxHeartbeats 100000000
theorem algebra_closed : joinedFacts Tryz.pinned.checked.prog 11 Tryz.f11 (OpenSpec.ofChange Rows.valueAlgebraSpec).bare Rows.valueAlgebraRow = true := by
  unfold joinedFacts
  simp only [Bool.and_eq_true]
  repeat' apply And.intro
  all_goals (as_aux_lemma => kernel_rfl)
end Go.Proofs.YtbofonlhakedpaaGreatDoor
