/-
  ValueMakes answers true.
-/
import Derived.Test.YtbofonlhakedpaaGreatDoorExi
/- ValueMakes answers true. -/
namespace Go.Tv
open Go.Proofs
set_option maxHeartbeats 4000000
set_option maxRecDepth 100000 in
theorem c7 (h13 : ∀ H, Call CC 13 [] H = some (.ok (.bool true), H)) (k m : List V) (H : Heap) (hs : strs' k) (hs2 : strs' m) : Call CC 7 [.list (avs k) none, .list (avs m) none] H = some (.ok (.bool true), H) := by
  have g14 := fun l H => c14 l H
  refine cwp (fn := Tryz.f7) rfl (by kernel_rfl) rfl rfl rfl rfl (by simp) rfl ?_ H
  cases hf : fewB k
  · simp [h13, g14, hf]
  · cases hf2 : fewB m
    · simp [h13, g14, hf, hf2]
    · have hc1 : cnts k ≤ 700 := by unfold fewB at hf; simp only [Bool.and_eq_true, decide_eq_true_eq] at hf; exact hf.1.2
      have hc2 : cnts m ≤ 700 := by unfold fewB at hf2; simp only [Bool.and_eq_true, decide_eq_true_eq] at hf2; exact hf2.1.2
      have g1 := fun H => c40 k H (by omega)
      have g2 := fun H => c40 m H (by omega)
      have g3 := fun H => c39 k H hs (by omega)
      have g4 := fun H => c41 k m H hs hs2 (by omega)
      have g5 := fun H => c42 k H hs (by omega)
      have g6 := fun H => c43 k m H hs hs2 (by omega)
      have w1 : (sofW k).cnt ≤ 1000000000 := by
        have := setN_cnt k
        unfold sofW; split
        · omega
        · decide
      have w2 : (fofW k m).cnt ≤ 1000000000 := by
        unfold fofW; split
        · rename_i h
          have hl : k.length = m.length := Classical.byContradiction fun hl => by rw [fofE, if_pos hl] at h; exact absurd h (by decide)
          cases hv : fnV k m with
          | none => rw [Option.getD_none]; decide
          | some v => have := (fnV_cnt hl hv).1; rw [Option.getD_some]; omega
        · decide
      have g7 := fun H => c20 (sofW k) (sofE k) (sofW k) (sofE k) H w1
      have g8 := fun H => c20 (fofW k m) (fofE k m) (fofW k m) (fofE k m) H w2
      rw [sof_right] at g7
      rw [fof_right] at g8
      generalize sofW k = A at *
      generalize fofW k m = B at *
      rw [V.av_eq] at g3 g4 g5 g6 g7 g8
      simp [h13, g14, hf, hf2, g1, g2, g3, g4, g5, g6, g7, g8]
      done
end Go.Tv
