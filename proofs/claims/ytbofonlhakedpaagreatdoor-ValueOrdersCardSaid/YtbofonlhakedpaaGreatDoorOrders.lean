/-
  The card of ValueOrders holds; no condition is added.
-/
import Derived.Test.YtbofonlhakedpaaGreatDoorOrdersB
import Derived.Test.YtbofonlhakedpaaGreatDoorOrdersC
import Derived.Test.YtbofonlhakedpaaGreatDoorOrdersD
/- ValueOrders: the card. -/
namespace Go.Proofs.YtbofonlhakedpaaGreatDoor
set_option maxRecDepth 100000
theorem orders_inst : Tryz.f4.isInstance Tryz.pinned.checked.prog Rows.valueOrdersRow.origin Rows.valueOrdersRow.targs := of_decide_eq_true (by kernel_rfl)
theorem orders_wrap : Tryz.f4.isWrapper Tryz.pinned.checked.prog Rows.valueOrdersRow.wrapper Rows.valueOrdersRow.mainSum := by unfold Func.isWrapper; first | (rw [if_pos (by decide +kernel)]; kernel_rfl) | (rw [if_neg (by decide +kernel)]; exact ⟨rfl, rfl⟩)
theorem orders_said : Rows.ValueOrdersSaid :=
  OpenClaim.holds_of_cond 4 Tryz.f4 rfl rfl rfl rfl rfl rfl rfl ⟨rfl, rfl, rfl, rfl, rfl⟩ rfl rfl rfl rfl rfl orders_named2 Tryz.func4 orders_closed
    orders_inst orders_wrap (fun os started H enc _ F => by rw [OpenClaim.pre_eq_preRow]; exact orders_lifted os started H enc F)
theorem orders_plain (f : FuncId) (fn : Func) (hf : Tryz.pinned.checked.prog.funcNamed "stutter/stutterlaw08.ValueOrders" = some f) (hfn : Tryz.pinned.checked.prog.funcs[f]? = some fn) :
    true = Tryz.pinned.checked.prog.looks [] ∧ ∀ (j : Nat) t, fn.params[j]? = some t → Tryz.pinned.checked.prog.wantsStandIn t = false := by
  obtain rfl : f = 4 := Option.some.inj (orders_named2.symm.trans hf) |>.symm
  obtain rfl : fn = Tryz.f4 := (Option.some.inj (Tryz.func4.symm.trans hfn)).symm
  refine ⟨orders_looks, fun j t ht => ?_⟩
  rw [Tryz.params4] at ht
  obtain rfl : t = 24 := by simpa using Array.mem_of_getElem? ht
  exact orders_stand
theorem valueOrders_holds : Rows.ValueOrdersCardSaid :=
  Claim7.holds_tied_plain_at .later [] _ _ _ _ orders_said (fun _ h => by cases h) orders_wf (fun _ h => by cases h) valueOrders_row_tie rfl ⟨rfl, rfl⟩ orders_main rfl orders_plain orders_goes
#print axioms valueOrders_holds
end Go.Proofs.YtbofonlhakedpaaGreatDoor
