/-
  ValueOrders answers true.
-/
import Derived.Test.YtbofonlhakedpaaGreatDoorExd
/- ValueOrders answers true. -/
namespace Go.Tv
open Go.Proofs
set_option maxRecDepth 100000 in
set_option maxHeartbeats 4000000 in
theorem c4 (h13 : ∀ H, Call CC 13 [] H = some (.ok (.bool true), H)) (a b x : V) (H : Heap) (ha : a.str) (hb : b.str) (hx : x.str) : Call CC 4 [a.av, b.av, x.av] H = some (.ok (.bool true), H) := by
  have g14 := fun H => c14 [a, b, x] H
  simp only [avs, V.av_eq] at g14
  refine cwp (fn := Tryz.f4) rfl (by kernel_rfl) rfl rfl rfl rfl (by simp) rfl ?_ H
  cases hf : fewB [a, b, x]
  · simp [V.av_eq, h13, g14, hf]
  · have hc0 : cnts [a, b, x] ≤ 700 := by unfold fewB at hf; simp only [Bool.and_eq_true, decide_eq_true_eq] at hf; exact hf.1.2
    have hc : a.cnt + b.cnt + x.cnt ≤ 700 := by simp only [cnts] at hc0; omega
    have ga := fun H => c16 a H (by omega)
    have gb := fun H => c16 b H (by omega)
    have gx := fun H => c16 x H (by omega)
    have gab := fun H => c22 a b H ha hb (by omega)
    have gba := fun H => c22 b a H hb ha (by omega)
    have gbx := fun H => c22 b x H hb hx (by omega)
    have gax := fun H => c22 a x H ha hx (by omega)
    have ea := fun H => c18 a H ha (by omega)
    have eb := fun H => c18 b H hb (by omega)
    have ex := fun H => c18 x H hx (by omega)
    have cab := fun H => c23 a b H (by omega)
    have sab := fun H => c21 a b H (by omega)
    simp only [V.av_eq] at ga gb gx gab gba gbx gax ea eb ex cab sab
    by_cases h1 : chkE a = 0
    · by_cases h2 : chkE b = 0
      · have k1 : chkL [a, b] = 0 := by simp [chkL, h1, h2]
        have k2 : chkL [b, a] = 0 := by simp [chkL, h1, h2]
        rw [k1] at gab
        rw [k2] at gba
        by_cases h3 : chkE x = 0
        · have k3 : chkL [b, x] = 0 := by simp [chkL, h2, h3]
          have k4 : chkL [a, x] = 0 := by simp [chkL, h1, h3]
          rw [k3] at gbx
          rw [k4] at gax
          have wn : IntKind.i64.wrap (-cmpV a b) = -cmpV a b := wrapI (by rcases cmpV_rng a b with h | h | h <;> omega) (by rcases cmpV_rng a b with h | h | h <;> omega)
          have nn := cmpV_neg a b
          simp [V.av_eq, h13, g14, hf, ga, gb, gx, gab, gba, gbx, gax, ea, eb, ex, cab, sab, h1, h2, h3, wn, nn]
          refine ⟨by kernel_rfl, by kernel_rfl, by kernel_rfl, by kernel_rfl, ?_⟩
          have tr := cmpV_trans a b x
          rcases cmpV_rng a b with hv | hv | hv
          · cases hm : decide (0 < cmpV b x)
            · have hm' : cmpV b x ≤ 0 := by simp at hm; omega
              have hn : cmpV a x ≤ 0 := tr (by omega) hm'
              simp [hv, hm, hn]
            · have hm' : 0 < cmpV b x := by simpa using hm
              simp [hv, hm']
          · cases hm : decide (0 < cmpV b x)
            · have hm' : cmpV b x ≤ 0 := by simp at hm; omega
              have hn : cmpV a x ≤ 0 := tr (by omega) hm'
              simp [hv, hm, hn, sab]
            · have hm' : 0 < cmpV b x := by simpa using hm
              simp [hv, hm', sab]
          · simp [hv]
        · simp [V.av_eq, h13, g14, hf, ga, gb, gab, ea, eb, ex, cab, h1, h2, h3]
          refine (?_ : drawE _ _ _ = true)
          kernel_rfl
      · have k1 : chkL [a, b] = chkE b := by simp [chkL, h1, h2]
        rw [k1, if_neg h2] at gab
        simp [V.av_eq, h13, g14, hf, ga, gb, gab, ea, eb, h1, h2]
        refine (?_ : drawE _ _ _ = true)
        kernel_rfl
    · have k1 : chkL [a, b] = chkE a := by simp [chkL, h1]
      rw [k1, if_neg h1] at gab
      simp [V.av_eq, h13, g14, hf, ga, gb, gab, ea, h1]
      refine (?_ : drawE _ _ _ = true)
      kernel_rfl
end Go.Tv
