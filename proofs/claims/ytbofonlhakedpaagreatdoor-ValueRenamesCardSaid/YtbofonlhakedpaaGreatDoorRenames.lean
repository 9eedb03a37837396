/-
  The card of ValueRenames holds; no condition is added.
-/
import Derived.Test.YtbofonlhakedpaaGreatDoorRenamesB
import Derived.Test.YtbofonlhakedpaaGreatDoorRenamesC
import Derived.Test.YtbofonlhakedpaaGreatDoorRenamesD
/- ValueRenames: the card. -/
namespace Go.Proofs.YtbofonlhakedpaaGreatDoor
set_option maxRecDepth 100000
theorem renames_inst : Tryz.f8.isInstance Tryz.pinned.checked.prog Rows.valueRenamesRow.origin Rows.valueRenamesRow.targs := of_decide_eq_true (by kernel_rfl)
theorem renames_wrap : Tryz.f8.isWrapper Tryz.pinned.checked.prog Rows.valueRenamesRow.wrapper Rows.valueRenamesRow.mainSum := by unfold Func.isWrapper; first | (rw [if_pos (by decide +kernel)]; kernel_rfl) | (rw [if_neg (by decide +kernel)]; exact ⟨rfl, rfl⟩)
theorem renames_said : Rows.ValueRenamesSaid :=
  OpenClaim.holds_of_cond 8 Tryz.f8 rfl rfl rfl rfl rfl rfl rfl ⟨rfl, rfl, rfl, rfl, rfl⟩ rfl rfl rfl rfl rfl renames_named2 Tryz.func8 renames_closed
    renames_inst renames_wrap (fun os started H enc _ F => by rw [OpenClaim.pre_eq_preRow]; exact renames_lifted os started H enc F)
theorem renames_plain (f : FuncId) (fn : Func) (hf : Tryz.pinned.checked.prog.funcNamed "stutter/stutterlaw08.ValueRenames" = some f) (hfn : Tryz.pinned.checked.prog.funcs[f]? = some fn) :
    true = Tryz.pinned.checked.prog.looks [] ∧ ∀ (j : Nat) t, fn.params[j]? = some t → Tryz.pinned.checked.prog.wantsStandIn t = false := by
  obtain rfl : f = 8 := Option.some.inj (renames_named2.symm.trans hf) |>.symm
  obtain rfl : fn = Tryz.f8 := (Option.some.inj (Tryz.func8.symm.trans hfn)).symm
  refine ⟨renames_looks, fun j t ht => ?_⟩
  rw [Tryz.params8] at ht
  have hd : ∀ t ∈ ([24, 63] : List TypeId), t ∈ ([24, 22, 3, 63] : List TypeId) := by decide
  exact renames_stand t (hd t (Array.mem_toList_iff.2 (Array.mem_of_getElem? ht)))
theorem valueRenames_holds : Rows.ValueRenamesCardSaid :=
  Claim7.holds_tied_plain_at .later [] _ _ _ _ renames_said (fun _ h => by cases h) renames_wf (fun _ h => by cases h) valueRenames_row_tie rfl ⟨rfl, rfl⟩ renames_main rfl renames_plain renames_goes
#print axioms valueRenames_holds
end Go.Proofs.YtbofonlhakedpaaGreatDoor
