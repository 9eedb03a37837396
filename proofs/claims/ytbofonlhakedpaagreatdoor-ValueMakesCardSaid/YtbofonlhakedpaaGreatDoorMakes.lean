/-
  The card of ValueMakes holds; no condition is added.
-/
import Derived.Test.YtbofonlhakedpaaGreatDoorMakesB
import Derived.Test.YtbofonlhakedpaaGreatDoorMakesC
import Derived.Test.YtbofonlhakedpaaGreatDoorMakesD
/- ValueMakes: the card. -/
namespace Go.Proofs.YtbofonlhakedpaaGreatDoor
set_option maxRecDepth 100000
theorem makes_inst : Tryz.f7.isInstance Tryz.pinned.checked.prog Rows.valueMakesRow.origin Rows.valueMakesRow.targs := of_decide_eq_true (by kernel_rfl)
theorem makes_wrap : Tryz.f7.isWrapper Tryz.pinned.checked.prog Rows.valueMakesRow.wrapper Rows.valueMakesRow.mainSum := by unfold Func.isWrapper; first | (rw [if_pos (by decide +kernel)]; kernel_rfl) | (rw [if_neg (by decide +kernel)]; exact ⟨rfl, rfl⟩)
theorem makes_said : Rows.ValueMakesSaid :=
  OpenClaim.holds_of_cond 7 Tryz.f7 rfl rfl rfl rfl rfl rfl rfl ⟨rfl, rfl, rfl, rfl, rfl⟩ rfl rfl rfl rfl rfl makes_named2 Tryz.func7 makes_closed
    makes_inst makes_wrap (fun os started H enc _ F => by rw [OpenClaim.pre_eq_preRow]; exact makes_lifted os started H enc F)
theorem makes_plain (f : FuncId) (fn : Func) (hf : Tryz.pinned.checked.prog.funcNamed "stutter/stutterlaw08.ValueMakes" = some f) (hfn : Tryz.pinned.checked.prog.funcs[f]? = some fn) :
    true = Tryz.pinned.checked.prog.looks [] ∧ ∀ (j : Nat) t, fn.params[j]? = some t → Tryz.pinned.checked.prog.wantsStandIn t = false := by
  obtain rfl : f = 7 := Option.some.inj (makes_named2.symm.trans hf) |>.symm
  obtain rfl : fn = Tryz.f7 := (Option.some.inj (Tryz.func7.symm.trans hfn)).symm
  refine ⟨makes_looks, fun j t ht => ?_⟩
  rw [Tryz.params7] at ht
  have hd : ∀ t ∈ ([22, 22] : List TypeId), t ∈ ([24, 22, 3] : List TypeId) := by decide
  exact makes_stand t (hd t (Array.mem_toList_iff.2 (Array.mem_of_getElem? ht)))
theorem valueMakes_holds : Rows.ValueMakesCardSaid :=
  Claim7.holds_tied_plain_at .later [] _ _ _ _ makes_said (fun _ h => by cases h) makes_wf (fun _ h => by cases h) valueMakes_row_tie rfl ⟨rfl, rfl⟩ makes_main rfl makes_plain makes_goes
#print axioms valueMakes_holds
end Go.Proofs.YtbofonlhakedpaaGreatDoor
