/-
  The card of ValueCombines holds; no condition is added.
-/
import Derived.Test.YtbofonlhakedpaaGreatDoorCombinesB
import Derived.Test.YtbofonlhakedpaaGreatDoorCombinesC
import Derived.Test.YtbofonlhakedpaaGreatDoorCombinesD
/- ValueCombines: the card. -/
namespace Go.Proofs.YtbofonlhakedpaaGreatDoor
set_option maxRecDepth 100000
theorem combines_inst : Tryz.f9.isInstance Tryz.pinned.checked.prog Rows.valueCombinesRow.origin Rows.valueCombinesRow.targs := of_decide_eq_true (by kernel_rfl)
theorem combines_wrap : Tryz.f9.isWrapper Tryz.pinned.checked.prog Rows.valueCombinesRow.wrapper Rows.valueCombinesRow.mainSum := by unfold Func.isWrapper; first | (rw [if_pos (by decide +kernel)]; kernel_rfl) | (rw [if_neg (by decide +kernel)]; exact ⟨rfl, rfl⟩)
theorem combines_said : Rows.ValueCombinesSaid :=
  OpenClaim.holds_of_cond 9 Tryz.f9 rfl rfl rfl rfl rfl rfl rfl ⟨rfl, rfl, rfl, rfl, rfl⟩ rfl rfl rfl rfl rfl combines_named2 Tryz.func9 combines_closed
    combines_inst combines_wrap (fun os started H enc _ F => by rw [OpenClaim.pre_eq_preRow]; exact combines_lifted os started H enc F)
theorem combines_plain (f : FuncId) (fn : Func) (hf : Tryz.pinned.checked.prog.funcNamed "stutter/stutterlaw08.ValueCombines" = some f) (hfn : Tryz.pinned.checked.prog.funcs[f]? = some fn) :
    true = Tryz.pinned.checked.prog.looks [] ∧ ∀ (j : Nat) t, fn.params[j]? = some t → Tryz.pinned.checked.prog.wantsStandIn t = false := by
  obtain rfl : f = 9 := Option.some.inj (combines_named2.symm.trans hf) |>.symm
  obtain rfl : fn = Tryz.f9 := (Option.some.inj (Tryz.func9.symm.trans hfn)).symm
  refine ⟨combines_looks, fun j t ht => ?_⟩
  rw [Tryz.params9] at ht
  have hd : ∀ t ∈ ([3, 24, 24] : List TypeId), t ∈ ([24, 22, 3] : List TypeId) := by decide
  exact combines_stand t (hd t (Array.mem_toList_iff.2 (Array.mem_of_getElem? ht)))
theorem valueCombines_holds : Rows.ValueCombinesCardSaid :=
  Claim7.holds_tied_plain_at .later [] _ _ _ _ combines_said (fun _ h => by cases h) combines_wf (fun _ h => by cases h) valueCombines_row_tie rfl ⟨rfl, rfl⟩ combines_main rfl combines_plain combines_goes
#print axioms valueCombines_holds
end Go.Proofs.YtbofonlhakedpaaGreatDoor
