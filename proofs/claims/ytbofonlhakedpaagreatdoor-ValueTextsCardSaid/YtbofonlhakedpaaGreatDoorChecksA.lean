/-
  ValueChecks answers true.
-/
import Derived.Test.YtbofonlhakedpaaGreatDoorExk
namespace Go.Tv
open Go.Proofs
set_option maxHeartbeats 4000000
theorem chk_norm {v : V} (h : chkE v = 0) : normW v = v := by
  have h1 : v.small 300 8 = true /\ errV true v = 0 := by
    unfold chkE at h
    cases hs : v.small 300 8
    . rw [hs] at h; simp at h
    . rw [hs] at h; exact ⟨rfl, by simpa using h⟩
  have h2 := err_imp h1.2
  have h3 := nrm_self v h1.2
  have e0 := nl_small h2 h1.1
  rw [h3] at e0
  have e1 : normE v = 0 := by rw [normE, h1.1, if_pos rfl, if_neg (by simp [h2]), e0]
  rw [normW, if_pos e1, nrmD_some h3]
end Go.Tv
