/-
  The card of ValueChecks holds; no condition is added.
-/
import Derived.Test.YtbofonlhakedpaaGreatDoorChecksB
import Derived.Test.YtbofonlhakedpaaGreatDoorChecksC
import Derived.Test.YtbofonlhakedpaaGreatDoorChecksD
/- ValueChecks: the card. -/
namespace Go.Proofs.YtbofonlhakedpaaGreatDoor
set_option maxRecDepth 100000
theorem checks_inst : Tryz.f3.isInstance Tryz.pinned.checked.prog Rows.valueChecksRow.origin Rows.valueChecksRow.targs := of_decide_eq_true (by kernel_rfl)
theorem checks_wrap : Tryz.f3.isWrapper Tryz.pinned.checked.prog Rows.valueChecksRow.wrapper Rows.valueChecksRow.mainSum := by unfold Func.isWrapper; first | (rw [if_pos (by decide +kernel)]; kernel_rfl) | (rw [if_neg (by decide +kernel)]; exact ⟨rfl, rfl⟩)
theorem checks_said : Rows.ValueChecksSaid :=
  OpenClaim.holds_of_cond 3 Tryz.f3 rfl rfl rfl rfl rfl rfl rfl ⟨rfl, rfl, rfl, rfl, rfl⟩ rfl rfl rfl rfl rfl checks_named2 Tryz.func3 checks_closed
    checks_inst checks_wrap (fun os started H enc _ F => by rw [OpenClaim.pre_eq_preRow]; exact checks_lifted os started H enc F)
theorem checks_plain (f : FuncId) (fn : Func) (hf : Tryz.pinned.checked.prog.funcNamed "stutter/stutterlaw08.ValueChecks" = some f) (hfn : Tryz.pinned.checked.prog.funcs[f]? = some fn) :
    true = Tryz.pinned.checked.prog.looks [] ∧ ∀ (j : Nat) t, fn.params[j]? = some t → Tryz.pinned.checked.prog.wantsStandIn t = false := by
  obtain rfl : f = 3 := Option.some.inj (checks_named2.symm.trans hf) |>.symm
  obtain rfl : fn = Tryz.f3 := (Option.some.inj (Tryz.func3.symm.trans hfn)).symm
  refine ⟨checks_looks, fun j t ht => ?_⟩
  rw [Tryz.params3] at ht
  have hd : ∀ t ∈ ([24] : List TypeId), t ∈ ([24, 22, 3] : List TypeId) := by decide
  exact checks_stand t (hd t (Array.mem_toList_iff.2 (Array.mem_of_getElem? ht)))
theorem valueChecks_holds : Rows.ValueChecksCardSaid :=
  Claim7.holds_tied_plain_at .later [] _ _ _ _ checks_said (fun _ h => by cases h) checks_wf (fun _ h => by cases h) valueChecks_row_tie rfl ⟨rfl, rfl⟩ checks_main rfl checks_plain checks_goes
#print axioms valueChecks_holds
end Go.Proofs.YtbofonlhakedpaaGreatDoor
