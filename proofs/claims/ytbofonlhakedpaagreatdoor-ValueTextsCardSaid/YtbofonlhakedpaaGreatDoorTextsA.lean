/-
  ValueTexts answers true.
-/
import Derived.Test.YtbofonlhakedpaaGreatDoorTxi
import Derived.Test.YtbofonlhakedpaaGreatDoorTxb
import Derived.Test.YtbofonlhakedpaaGreatDoorChecksA
import Derived.Test.YtbofonlhakedpaaGreatDoorTxa
namespace Go.Tv
open Go.Proofs
set_option maxHeartbeats 16000000
theorem chk3 {v : V} (h : chkE v = 0) : v.small 300 8 = true /\ errV false v = 0 /\ normE v = 0 := by
  have h1 : v.small 300 8 = true /\ errV true v = 0 := by
    unfold chkE at h
    cases hs : v.small 300 8
    . rw [hs] at h; simp at h
    . rw [hs] at h; exact ⟨rfl, by simpa using h⟩
  have h2 := err_imp h1.2
  have h3 := nrm_self v h1.2
  have e0 := nl_small h2 h1.1
  rw [h3] at e0
  exact ⟨h1.1, h2, by rw [normE, h1.1, if_pos rfl, if_neg (by simp [h2]), e0]⟩
theorem norm_small {v : V} (h : normE v = 0) : (normW v).small 300 8 = true := by
  rw [normW, if_pos h]
  unfold normE at h
  split at h
  . split at h
    . rename_i h1; exact absurd h h1
    . unfold nlE at h
      cases hn : nrm v with
      | none => rw [hn] at h; exact absurd h (by decide)
      | some w => rw [hn] at h; rw [nrmD_some hn]; exact resE_small h
  . exact absurd h (by decide)
theorem par_small {x : List UInt8} (h : parE x = 0) : (parV x).small 300 8 = true := by
  unfold parE at h
  unfold parV
  split at h
  . cases h
  . rename_i hl
    rw [if_neg hl]
    cases hp : pO x with
    | error e => rw [hp] at h; cases h
    | ok v => rw [hp] at h; simp only at h ⊢; rw [if_pos h]; exact norm_small h
theorem par_zero {x : List UInt8} (h : parE x ≠ 0) : parV x = zeroV := by
  unfold parE at h
  unfold parV
  split at h
  . rename_i hl; rw [if_pos hl]
  . rename_i hl
    rw [if_neg hl]
    cases hp : pO x with
    | error e => rfl
    | ok v => rw [hp] at h; simp only at h ⊢; rw [if_neg h]
theorem par_right (x : List UInt8) : rightB (parV x) (parE x) (parV x) (parE x) = true := right_self _ _ par_zero par_small
theorem par_cnt (x : List UInt8) : (parV x).cnt ≤ 300 := by
  by_cases h : parE x = 0
  . have := par_small h
    unfold V.small at this
    simp only [Bool.and_eq_true, decide_eq_true_eq] at this
    omega
  . rw [par_zero h]; decide
theorem par_txt {v : V} (h : chkE v = 0) (hl : (txtV v).length ≤ 20000) : parV (txtV v) = v /\ parN (txtV v) = (txtV v).length /\ parE (txtV v) = 0 := by
  obtain ⟨h1, h2, h3⟩ := chk3 h
  have hd : v.dep ≤ 20 := by
    unfold V.small at h1
    simp only [Bool.and_eq_true, decide_eq_true_eq] at h1
    omega
  have hp := pO_of (pT_txt v h2 hd)
  have hl' : ¬ 20000 < (txtV v).length := by omega
  unfold parV parN parE
  rw [if_neg hl', if_neg hl', if_neg hl', hp]
  simp only [h3, if_true]
  exact ⟨chk_norm h, trivial, trivial⟩
set_option maxRecDepth 100000 in
theorem c5 (h13 : ∀ H, Call CC 13 [] H = some (.ok (.bool true), H)) (v : V) (bits : Int) (x : List UInt8) (H : Heap) (hs : v.str) : Call CC 5 [v.av, .int .i64 bits, .str x] H = some (.ok (.bool true), H) := by
  have g14 := fun H => c14 [v] H
  simp only [avs, V.av_eq v] at g14
  refine cwp (fn := Tryz.f5) rfl (by kernel_rfl) rfl rfl rfl rfl (by simp) rfl ?_ H
  cases hf : fewB [v]
  . simp [V.av_eq v, h13, g14, hf]
  by_cases hx : 1500 < x.length
  . have hx' : (1500 : Int) < x.length := by omega
    simp [V.av_eq v, h13, g14, hf, hx']
  have hx' : ¬ (1500 : Int) < x.length := by omega
  have hc0 : cnts [v] ≤ 700 := by unfold fewB at hf; simp only [Bool.and_eq_true, decide_eq_true_eq] at hf; exact hf.1.2
  have hc : v.cnt ≤ 700 := by simp only [cnts] at hc0; omega
  have g16 := fun H => c16 v H (by omega)
  have g24 := fun H => c24 v H hs (by omega)
  have g25 := fun H => c25 v bits H hs (by omega)
  have g18 := fun H => c18 v H hs (by omega)
  have g27 := fun H => c27 x H (by omega)
  have g31 := fun H => c31 x H (by omega)
  have g20 := fun H => c20 (parV x) (parE x) (parV x) (parE x) H (by have := par_cnt x; omega)
  rw [par_right x] at g20
  generalize parV x = A at *
  rw [V.av_eq v] at g16 g24 g25 g18
  rw [V.av_eq A] at g27 g31 g20
  by_cases h : chkE v = 0
  . obtain ⟨h1, h2, h3⟩ := chk3 h
    have hlt := tlen v h2
    have g26 := fun H => c26 v h2 (by omega) H
    have g27t := fun H => c27 (txtV v) H (by omega)
    have g28 := fun H => c28 (parV (txtV v)) H
    have g21 := fun H => c21 (parV (txtV v)) v H (by have := par_cnt (txtV v); omega)
    have hB : (1 ≤ bits /\ bits ≤ 30) -> digE v bits = 0 := fun hb => by unfold digE; rw [if_neg (by simp [h]), if_pos hb]
    have hB' : ¬ (1 ≤ bits /\ bits ≤ 30) -> digE v bits = 3 := fun hb => by unfold digE; rw [if_neg (by simp [h]), if_neg hb]
    have g30 := fun hb H => c30 v bits H h hb
    rw [if_pos h] at g24
    rw [V.av_eq v] at g26 g30
    by_cases hl : (txtV v).length ≤ 20000
    . obtain ⟨p1, p2, p3⟩ := par_txt h hl
      have hl' : ((txtV v).length : Int) ≤ 20000 := by omega
      rw [p1] at g28 g21
      rw [p1, p2, p3] at g27t
      rw [h1] at g28
      rw [show decide (cmpV v v = 0) = true by simp [cmpV_eq]] at g21
      rw [V.av_eq v] at g28 g27t g21
      generalize txtV v = T at *
      by_cases hb : 1 ≤ bits /\ bits ≤ 30
      . have g30 := g30 hb
        rw [hB hb] at g25
        rw [if_pos rfl] at g25
        simp (maxSteps := 8000000) [V.av_eq v, h13, g14, hf, hx', g16, g24, g25, g18, h, g26, g27t, hl', g28, g21, c29, hb.1, hb.2, g30, g27, g31, g20]
      . rw [hB' hb] at g25
        rw [if_neg (by decide)] at g25
        have hb1 : (decide (1 ≤ bits) && decide (bits ≤ 30)) = false := by simpa using hb
        have g29 := fun H => c29 bits 1 30 H
        rw [hb1] at g29
        simp (maxSteps := 8000000) [V.av_eq v, h13, g14, hf, hx', g16, g24, g25, g18, h, g26, g27t, hl', g28, g21, g29, g27, g31, g20]
    . have hl' : ¬ ((txtV v).length : Int) ≤ 20000 := by omega
      generalize hW : parV (txtV v) = W at *
      rw [V.av_eq W] at g28 g27t g21
      generalize txtV v = T at *
      by_cases hb : 1 ≤ bits /\ bits ≤ 30
      . have g30 := g30 hb
        rw [hB hb] at g25
        rw [if_pos rfl] at g25
        simp (maxSteps := 8000000) [V.av_eq v, h13, g14, hf, hx', g16, g24, g25, g18, h, g26, g27t, hl', c29, hb.1, hb.2, g30, g27, g31, g20]
      . rw [hB' hb] at g25
        rw [if_neg (by decide)] at g25
        have hb1 : (decide (1 ≤ bits) && decide (bits ≤ 30)) = false := by simpa using hb
        have g29 := fun H => c29 bits 1 30 H
        rw [hb1] at g29
        simp (maxSteps := 8000000) [V.av_eq v, h13, g14, hf, hx', g16, g24, g25, g18, h, g26, g27t, hl', g29, g27, g31, g20]
  . have hE : digE v bits = chkE v := by unfold digE; rw [if_pos h]
    rw [hE, if_neg h] at g25
    rw [if_neg h] at g24
    simp [V.av_eq v, h13, g14, hf, hx', g16, g24, g25, g18, h, g27, g31, g20]
end Go.Tv
