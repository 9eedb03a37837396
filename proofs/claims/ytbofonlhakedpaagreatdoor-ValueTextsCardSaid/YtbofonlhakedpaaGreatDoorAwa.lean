/-
  The examples of the document hold.
-/
import Derived.Test.YtbofonlhakedpaaGreatDoorExa
namespace Go.Tv
open Go.Proofs
theorem awake08 : acall CC 60 13 [] [] = some (.ok (.bool true), []) := by kernel_rfl
end Go.Tv
