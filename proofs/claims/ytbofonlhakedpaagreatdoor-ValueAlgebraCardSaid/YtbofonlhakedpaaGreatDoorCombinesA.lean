/-
  ValueCombines answers true.
-/
import Derived.Test.YtbofonlhakedpaaGreatDoorExh
/- ValueCombines answers true. -/
namespace Go.Tv
open Go.Proofs
set_option maxHeartbeats 4000000
set_option maxRecDepth 100000 in
set_option maxHeartbeats 4000000 in
theorem c9 (h13 : ∀ H, Call CC 13 [] H = some (.ok (.bool true), H)) (op : Int) (a b : V) (H : Heap) (ha : a.str) (hb : b.str) : Call CC 9 [.int .i64 op, a.av, b.av] H = some (.ok (.bool true), H) := by
  have g14 := fun H => c14 [a, b] H
  simp only [avs, V.av_eq] at g14
  refine cwp (fn := Tryz.f9) rfl (by kernel_rfl) rfl rfl rfl rfl (by simp) rfl ?_ H
  cases hf : fewB [a, b]
  · simp [V.av_eq, h13, g14, hf]
  · have hc0 : cnts [a, b] ≤ 700 := by unfold fewB at hf; simp only [Bool.and_eq_true, decide_eq_true_eq] at hf; exact hf.1.2
    have hc : a.cnt + b.cnt ≤ 700 := by simp only [cnts] at hc0; omega
    have hcw := comb_cnt op a b
    have hwc : (combW op a b).cnt ≤ 1000000000 := by
      unfold combW; split
      · omega
      · decide
    have ga := fun H => c16 a H (by omega)
    have gb := fun H => c16 b H (by omega)
    have g46 := fun H => c46 op a b H ha hb (by omega)
    have g47 := fun H => c47 a b H ha hb (by omega)
    have g48 := fun H => c48 a b H ha hb (by omega)
    have g49 := fun H => c49 a b H (by omega)
    have g50 := fun H => c50 op a b H ha hb (by omega)
    have g20 := fun w e H => c20 (combW op a b) (combR op a b) w e H hwc
    have g51 := fun H => c51 (combV op a b) H
    have g52 := fun (ho : opB op = true) H => c52 op a b H ho (by omega)
    have r1 : combE op a b ≠ 0 → rightB (combW op a b) (combR op a b) (combW op a b) (combE op a b) = true := fun h => by
      have hr : combR op a b = combE op a b := by rw [combR, if_pos h]
      have hw : combW op a b = zeroV := by rw [combW, hr, if_neg h]
      rw [rightB, if_pos h, hr, hw]
      have z0 : cmpV zeroV zeroV = 0 := cmpV_eq.2 rfl
      simp [z0]
    have r2 : combE op a b = 0 → rightB (combW op a b) (combR op a b) (if fitE (combV op a b) = 0 then combV op a b else zeroV) (fitE (combV op a b)) = true := fun h => by
      have hr : combR op a b = fitE (combV op a b) := by rw [combR, if_neg (by simp [h])]; rfl
      by_cases hs : fitE (combV op a b) = 0
      · have hw : combW op a b = combV op a b := by rw [combW, hr, if_pos hs]
        have hsm : (combV op a b).small 300 8 = true := by
          unfold fitE at hs
          split at hs
          · assumption
          · exact absurd hs (by decide)
        have z0 : cmpV (combV op a b) (combV op a b) = 0 := cmpV_eq.2 rfl
        rw [rightB, if_neg (by simp [hs]), hr, hw, hs, if_pos rfl, hsm, z0]
        simp
      · have hw : combW op a b = zeroV := by rw [combW, hr, if_neg hs]
        have z0 : cmpV zeroV zeroV = 0 := cmpV_eq.2 rfl
        rw [rightB, if_pos hs, hr, hw, z0]
        simp
    have hopb : combE op a b = 0 → opB op = true := fun h => by
      unfold combE at h
      cases ho : opB op
      · rw [ho] at h; simp at h
      · rfl
    have hz : (if fitE (combV op a b) = 0 then (combV op a b).av else zeroV.av) = (if fitE (combV op a b) = 0 then combV op a b else zeroV).av := by split <;> rfl
    rw [hz] at g51
    have hes : opB op = true → combE op a b = setsE a b := fun h => by rw [combE, if_pos h]
    generalize combW op a b = W at *
    generalize combR op a b = R at *
    generalize (if fitE (combV op a b) = 0 then combV op a b else zeroV) = X at *
    generalize fitE (combV op a b) = F at *
    generalize combV op a b = Y at *
    generalize combE op a b = E at *
    simp only [V.av_eq] at ga gb g46 g47 g48 g49 g50 g20 g51 g52
    have rest : E = setsE a b ∨ E ≠ 0 := by
      cases ho : opB op
      · exact .inr fun h => by rw [hopb h] at ho; cases ho
      · exact .inl (hes ho)
    by_cases hE : E = 0
    · have hs' : setsE a b = 0 := by rcases rest with h | h <;> simp_all
      have g52 := g52 (hopb hE)
      have r2 := r2 hE
      subst hE
      simp [V.av_eq, h13, g14, hf, ga, gb, g46, g47, g48, g49, g50, hs', g52, g51, g20, r2]
      exact ⟨by kernel_rfl, by kernel_rfl⟩
    · have r1 := r1 hE
      cases hs : decide (setsE a b = 0)
      · have hs' : ¬ setsE a b = 0 := by simpa using hs
        simp [V.av_eq, h13, g14, hf, ga, gb, g46, g47, g48, g50, g20, hs', hE, r1]
        exact ⟨by kernel_rfl, by kernel_rfl⟩
      · have hs' : setsE a b = 0 := by simpa using hs
        simp [V.av_eq, h13, g14, hf, ga, gb, g46, g47, g48, g49, g50, g20, hs', hE, r1]
        exact ⟨by kernel_rfl, by kernel_rfl⟩
end Go.Tv
