/-
  The closed facts of the row of ValueOrders.
-/
import Derived.Test.YtbofonlhakedpaaGreatDoorCards
import Derived.ProofKit
import Derived.JoinedCond
namespace Go.Proofs.YtbofonlhakedpaaGreatDoor
set_option maxRecDepth 100000
set_option maxHeartbeats 100000000
theorem orders_closed : joinedFacts Tryz.pinned.checked.prog 4 Tryz.f4 (OpenSpec.ofChange Rows.valueOrdersSpec).bare Rows.valueOrdersRow = true := by
  unfold joinedFacts
  simp only [Bool.and_eq_true]
  repeat' apply And.intro
  all_goals (as_aux_lemma => kernel_rfl)
end Go.Proofs.YtbofonlhakedpaaGreatDoor
