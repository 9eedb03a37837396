/-
  The card of ValueAlgebra holds; no condition is added.
-/
import Derived.Test.YtbofonlhakedpaaGreatDoorAlgebraB
import Derived.Test.YtbofonlhakedpaaGreatDoorAlgebraC
import Derived.Test.YtbofonlhakedpaaGreatDoorAlgebraD
/- ValueAlgebra: the card. -/
namespace Go.Proofs.YtbofonlhakedpaaGreatDoor
set_option maxRecDepth 100000
theorem algebra_inst : Tryz.f11.isInstance Tryz.pinned.checked.prog Rows.valueAlgebraRow.origin Rows.valueAlgebraRow.targs := of_decide_eq_true (by kernel_rfl)
theorem algebra_wrap : Tryz.f11.isWrapper Tryz.pinned.checked.prog Rows.valueAlgebraRow.wrapper Rows.valueAlgebraRow.mainSum := by unfold Func.isWrapper; first | (rw [if_pos (by decide +kernel)]; kernel_rfl) | (rw [if_neg (by decide +kernel)]; exact ⟨rfl, rfl⟩)
theorem algebra_said : Rows.ValueAlgebraSaid :=
  OpenClaim.holds_of_cond 11 Tryz.f11 rfl rfl rfl rfl rfl rfl rfl ⟨rfl, rfl, rfl, rfl, rfl⟩ rfl rfl rfl rfl rfl algebra_named2 Tryz.func11 algebra_closed
    algebra_inst algebra_wrap (fun os started H enc _ F => by rw [OpenClaim.pre_eq_preRow]; exact algebra_lifted os started H enc F)
theorem algebra_plain (f : FuncId) (fn : Func) (hf : Tryz.pinned.checked.prog.funcNamed "stutter/stutterlaw08.ValueAlgebra" = some f) (hfn : Tryz.pinned.checked.prog.funcs[f]? = some fn) :
    true = Tryz.pinned.checked.prog.looks [] ∧ ∀ (j : Nat) t, fn.params[j]? = some t → Tryz.pinned.checked.prog.wantsStandIn t = false := by
  obtain rfl : f = 11 := Option.some.inj (algebra_named2.symm.trans hf) |>.symm
  obtain rfl : fn = Tryz.f11 := (Option.some.inj (Tryz.func11.symm.trans hfn)).symm
  refine ⟨algebra_looks, fun j t ht => ?_⟩
  rw [Tryz.params11] at ht
  have hd : ∀ t ∈ ([24, 24, 63] : List TypeId), t ∈ ([24, 22, 3, 63] : List TypeId) := by decide
  exact algebra_stand t (hd t (Array.mem_toList_iff.2 (Array.mem_of_getElem? ht)))
theorem valueAlgebra_holds : Rows.ValueAlgebraCardSaid :=
  Claim7.holds_tied_plain_at .later [] _ _ _ _ algebra_said (fun _ h => by cases h) algebra_wf (fun _ h => by cases h) valueAlgebra_row_tie rfl ⟨rfl, rfl⟩ algebra_main rfl algebra_plain algebra_goes
#print axioms valueAlgebra_holds
end Go.Proofs.YtbofonlhakedpaaGreatDoor
