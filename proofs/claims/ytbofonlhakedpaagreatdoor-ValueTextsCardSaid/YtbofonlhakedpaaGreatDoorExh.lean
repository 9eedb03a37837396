/-
  What the functions of chapter 8 compute: Combined.
-/
import Derived.Test.YtbofonlhakedpaaGreatDoorExg
namespace Go.Tv
open Go.Proofs
set_option maxHeartbeats 4000000
set_option maxRecDepth 4000
theorem set_of {H : Heap} {j : Nat} {o : AObj} (h : H[j]? = some o) (x : AObj) : (H.set j x)[j]? = some x := by
  obtain ⟨h1, h2⟩ := List.getElem?_eq_some_iff.1 h
  rw [List.getElem?_set_self h1]
theorem boolT4 (z a : Bool) (al : FuncId -> FuncId) : isBoolT (CX z a al) 4 = true := by kernel_rfl
@[simp] theorem aeq4 (z a : Bool) (al : FuncId -> FuncId) (x y c : Bool) : aeq (CX z a al) 4 (.bool x) (.bool y) c = some (x == y) := by unfold aeq aeq0; simp only [boolT4]; rfl
@[simp] theorem lv_erase (l : List V) (tok : Nat) : (LV l tok).erase = .list (avs l) none := by
  unfold LV; split
  . rename_i h; simp [h, avs]
  . simp
@[simp] theorem lv_one (l : List V) (tok : Nat) : (LV l tok).one = true := by unfold LV; split <;> rfl
@[simp] theorem lv_cells (l : List V) (tok : Nat) : (LV l tok).cells = [LV l tok] := by unfold LV; split <;> rfl
set_option maxHeartbeats 4000000
end Go.Tv
namespace Go.Tv
open Go.Proofs
set_option maxHeartbeats 4000000
end Go.Tv
