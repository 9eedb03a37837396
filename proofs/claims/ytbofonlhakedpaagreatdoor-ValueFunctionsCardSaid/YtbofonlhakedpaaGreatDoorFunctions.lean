/-
  The card of ValueFunctions holds; no condition is added.
-/
import Derived.Test.YtbofonlhakedpaaGreatDoorFunctionsB
import Derived.Test.YtbofonlhakedpaaGreatDoorFunctionsC
import Derived.Test.YtbofonlhakedpaaGreatDoorFunctionsD
/- ValueFunctions: the card. -/
namespace Go.Proofs.YtbofonlhakedpaaGreatDoor
set_option maxRecDepth 100000
theorem functions_inst : Tryz.f10.isInstance Tryz.pinned.checked.prog Rows.valueFunctionsRow.origin Rows.valueFunctionsRow.targs := of_decide_eq_true (by kernel_rfl)
theorem functions_wrap : Tryz.f10.isWrapper Tryz.pinned.checked.prog Rows.valueFunctionsRow.wrapper Rows.valueFunctionsRow.mainSum := by unfold Func.isWrapper; first | (rw [if_pos (by decide +kernel)]; kernel_rfl) | (rw [if_neg (by decide +kernel)]; exact ⟨rfl, rfl⟩)
theorem functions_said : Rows.ValueFunctionsSaid :=
  OpenClaim.holds_of_cond 10 Tryz.f10 rfl rfl rfl rfl rfl rfl rfl ⟨rfl, rfl, rfl, rfl, rfl⟩ rfl rfl rfl rfl rfl functions_named2 Tryz.func10 functions_closed
    functions_inst functions_wrap (fun os started H enc _ F => by rw [OpenClaim.pre_eq_preRow]; exact functions_lifted os started H enc F)
theorem functions_plain (f : FuncId) (fn : Func) (hf : Tryz.pinned.checked.prog.funcNamed "stutter/stutterlaw08.ValueFunctions" = some f) (hfn : Tryz.pinned.checked.prog.funcs[f]? = some fn) :
    true = Tryz.pinned.checked.prog.looks [] ∧ ∀ (j : Nat) t, fn.params[j]? = some t → Tryz.pinned.checked.prog.wantsStandIn t = false := by
  obtain rfl : f = 10 := Option.some.inj (functions_named2.symm.trans hf) |>.symm
  obtain rfl : fn = Tryz.f10 := (Option.some.inj (Tryz.func10.symm.trans hfn)).symm
  refine ⟨functions_looks, fun j t ht => ?_⟩
  rw [Tryz.params10] at ht
  have hd : ∀ t ∈ ([24, 24, 24] : List TypeId), t ∈ ([24, 22, 3] : List TypeId) := by decide
  exact functions_stand t (hd t (Array.mem_toList_iff.2 (Array.mem_of_getElem? ht)))
theorem valueFunctions_holds : Rows.ValueFunctionsCardSaid :=
  Claim7.holds_tied_plain_at .later [] _ _ _ _ functions_said (fun _ h => by cases h) functions_wf (fun _ h => by cases h) valueFunctions_row_tie rfl ⟨rfl, rfl⟩ functions_main rfl functions_plain functions_goes
#print axioms valueFunctions_holds
end Go.Proofs.YtbofonlhakedpaaGreatDoor
