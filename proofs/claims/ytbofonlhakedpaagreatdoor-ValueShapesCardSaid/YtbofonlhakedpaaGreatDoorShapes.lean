/-
  The card of ValueShapes holds; no condition is added.
-/
import Derived.Test.YtbofonlhakedpaaGreatDoorShapesB
import Derived.Test.YtbofonlhakedpaaGreatDoorShapesC
import Derived.Test.YtbofonlhakedpaaGreatDoorShapesD
/- ValueShapes: the card. -/
namespace Go.Proofs.YtbofonlhakedpaaGreatDoor
set_option maxRecDepth 100000
theorem shapes_inst : Tryz.f6.isInstance Tryz.pinned.checked.prog Rows.valueShapesRow.origin Rows.valueShapesRow.targs := of_decide_eq_true (by kernel_rfl)
theorem shapes_wrap : Tryz.f6.isWrapper Tryz.pinned.checked.prog Rows.valueShapesRow.wrapper Rows.valueShapesRow.mainSum := by unfold Func.isWrapper; first | (rw [if_pos (by decide +kernel)]; kernel_rfl) | (rw [if_neg (by decide +kernel)]; exact ⟨rfl, rfl⟩)
theorem shapes_said : Rows.ValueShapesSaid :=
  OpenClaim.holds_of_cond 6 Tryz.f6 rfl rfl rfl rfl rfl rfl rfl ⟨rfl, rfl, rfl, rfl, rfl⟩ rfl rfl rfl rfl rfl shapes_named2 Tryz.func6 shapes_closed
    shapes_inst shapes_wrap (fun os started H enc _ F => by rw [OpenClaim.pre_eq_preRow]; exact shapes_lifted os started H enc F)
theorem shapes_plain (f : FuncId) (fn : Func) (hf : Tryz.pinned.checked.prog.funcNamed "stutter/stutterlaw08.ValueShapes" = some f) (hfn : Tryz.pinned.checked.prog.funcs[f]? = some fn) :
    true = Tryz.pinned.checked.prog.looks [] ∧ ∀ (j : Nat) t, fn.params[j]? = some t → Tryz.pinned.checked.prog.wantsStandIn t = false := by
  obtain rfl : f = 6 := Option.some.inj (shapes_named2.symm.trans hf) |>.symm
  obtain rfl : fn = Tryz.f6 := (Option.some.inj (Tryz.func6.symm.trans hfn)).symm
  refine ⟨shapes_looks, fun j t ht => ?_⟩
  rw [Tryz.params6] at ht
  obtain rfl : t = 24 := by simpa using Array.mem_of_getElem? ht
  exact shapes_stand
theorem valueShapes_holds : Rows.ValueShapesCardSaid :=
  Claim7.holds_tied_plain_at .later [] _ _ _ _ shapes_said (fun _ h => by cases h) shapes_wf (fun _ h => by cases h) valueShapes_row_tie rfl ⟨rfl, rfl⟩ shapes_main rfl shapes_plain shapes_goes
#print axioms valueShapes_holds
end Go.Proofs.YtbofonlhakedpaaGreatDoor
