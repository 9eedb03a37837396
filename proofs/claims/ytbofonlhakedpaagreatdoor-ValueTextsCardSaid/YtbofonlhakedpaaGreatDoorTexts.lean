/-
  The card of ValueTexts holds; no condition is added.
-/
import Derived.Test.YtbofonlhakedpaaGreatDoorTextsB
import Derived.Test.YtbofonlhakedpaaGreatDoorTextsC
import Derived.Test.YtbofonlhakedpaaGreatDoorTextsD
/- ValueTexts: the card. -/
namespace Go.Proofs.YtbofonlhakedpaaGreatDoor
set_option maxRecDepth 100000
theorem texts_inst : Tryz.f5.isInstance Tryz.pinned.checked.prog Rows.valueTextsRow.origin Rows.valueTextsRow.targs := of_decide_eq_true (by kernel_rfl)
theorem texts_wrap : Tryz.f5.isWrapper Tryz.pinned.checked.prog Rows.valueTextsRow.wrapper Rows.valueTextsRow.mainSum := by unfold Func.isWrapper; first | (rw [if_pos (by decide +kernel)]; kernel_rfl) | (rw [if_neg (by decide +kernel)]; exact ⟨rfl, rfl⟩)
theorem texts_said : Rows.ValueTextsSaid :=
  OpenClaim.holds_of_cond 5 Tryz.f5 rfl rfl rfl rfl rfl rfl rfl ⟨rfl, rfl, rfl, rfl, rfl⟩ rfl rfl rfl rfl rfl texts_named2 Tryz.func5 texts_closed
    texts_inst texts_wrap (fun os started H enc _ F => by rw [OpenClaim.pre_eq_preRow]; exact texts_lifted os started H enc F)
theorem texts_plain (f : FuncId) (fn : Func) (hf : Tryz.pinned.checked.prog.funcNamed "stutter/stutterlaw08.ValueTexts" = some f) (hfn : Tryz.pinned.checked.prog.funcs[f]? = some fn) :
    true = Tryz.pinned.checked.prog.looks [] ∧ ∀ (j : Nat) t, fn.params[j]? = some t → Tryz.pinned.checked.prog.wantsStandIn t = false := by
  obtain rfl : f = 5 := Option.some.inj (texts_named2.symm.trans hf) |>.symm
  obtain rfl : fn = Tryz.f5 := (Option.some.inj (Tryz.func5.symm.trans hfn)).symm
  refine ⟨texts_looks, fun j t ht => ?_⟩
  rw [Tryz.params5] at ht
  have hd : ∀ t ∈ ([24, 3, 9] : List TypeId), t ∈ ([24, 22, 3, 9] : List TypeId) := by decide
  exact texts_stand t (hd t (Array.mem_toList_iff.2 (Array.mem_of_getElem? ht)))
theorem valueTexts_holds : Rows.ValueTextsCardSaid :=
  Claim7.holds_tied_plain_at .later [] _ _ _ _ texts_said (fun _ h => by cases h) texts_wf (fun _ h => by cases h) valueTexts_row_tie rfl ⟨rfl, rfl⟩ texts_main rfl texts_plain texts_goes
#print axioms valueTexts_holds
end Go.Proofs.YtbofonlhakedpaaGreatDoor
