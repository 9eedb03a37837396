/-
  ValueChecks answers true.
-/
import Derived.Test.YtbofonlhakedpaaGreatDoorExk
/- ValueChecks answers true. -/
namespace Go.Tv
open Go.Proofs
set_option maxHeartbeats 4000000
theorem norm_right (v : V) : rightB (normW v) (normE v) (normW v) (normE v) = true := by
  refine right_self _ _ (fun h => by rw [normW, if_neg h]) fun h => ?_
  rw [normW, if_pos h]
  unfold normE at h
  split at h
  · split at h
    · rename_i h1; exact absurd h h1
    · unfold nlE at h
      cases hn : nrm v with
      | none => rw [hn] at h; exact absurd h (by decide)
      | some w => rw [hn] at h; rw [nrmD_some hn]; exact resE_small h
  · exact absurd h (by decide)
theorem chk_norm {v : V} (h : chkE v = 0) : normW v = v := by
  have h1 : v.small 300 8 = true ∧ errV true v = 0 := by
    unfold chkE at h
    cases hs : v.small 300 8
    · rw [hs] at h; simp at h
    · rw [hs] at h; exact ⟨rfl, by simpa using h⟩
  have h2 := err_imp h1.2
  have h3 := nrm_self v h1.2
  have e0 := nl_small h2 h1.1
  rw [h3] at e0
  have e1 : normE v = 0 := by rw [normE, h1.1, if_pos rfl, if_neg (by simp [h2]), e0]
  rw [normW, if_pos e1, nrmD_some h3]
set_option maxRecDepth 100000 in
theorem c3 (h13 : ∀ H, Call CC 13 [] H = some (.ok (.bool true), H)) (v : V) (H : Heap) (hs : v.str) : Call CC 3 [v.av] H = some (.ok (.bool true), H) := by
  have g14 := fun H => c14 [v] H
  simp only [avs, V.av_eq v] at g14
  refine cwp (fn := Tryz.f3) rfl (by kernel_rfl) rfl rfl rfl rfl (by simp) rfl ?_ H
  cases hf : fewB [v]
  · simp [V.av_eq v, h13, g14, hf]
  · have hc0 : cnts [v] ≤ 700 := by unfold fewB at hf; simp only [Bool.and_eq_true, decide_eq_true_eq] at hf; exact hf.1.2
    have hc : v.cnt ≤ 700 := by simp only [cnts] at hc0; omega
    have g1 := fun H => c16 v H (by omega)
    have g2 := fun H => c15 v H hs (by omega)
    have g3 := fun H => c17 v H hs (by omega)
    have g4 := fun H => c18 v H hs (by omega)
    have g5 := fun H => c19 v H hs (by omega)
    have w1 : (normW v).cnt ≤ 1000000000 := by
      unfold normW; split
      · rename_i h
        have he : errV false v = 0 := by
          unfold normE at h
          split at h
          · split at h
            · rename_i h1; exact absurd h h1
            · rename_i h1; exact Classical.not_not.1 h1
          · exact absurd h (by decide)
        have := nrmD_cnt he; omega
      · decide
    have g6 := fun H => c20 (normW v) (normE v) (normW v) (normE v) H w1
    have g7 := fun H => c21 (normW v) v H w1
    rw [norm_right] at g6
    have hz : chkE v = 0 → decide (cmpV (normW v) v = 0) = true := fun h => by rw [chk_norm h]; simp [cmpV_eq]
    generalize normW v = A at *
    rw [V.av_eq v] at g1 g2 g3 g4 g5 g7
    rw [V.av_eq A] at g3 g5 g6 g7
    by_cases h : chkE v = 0
    · have hz := hz h
      rw [hz] at g7
      simp [V.av_eq v, h13, g14, hf, g1, g2, g3, g4, g5, g6, g7, h]
    · simp [V.av_eq v, h13, g14, hf, g1, g2, g3, g4, g5, g6, h]
end Go.Tv
