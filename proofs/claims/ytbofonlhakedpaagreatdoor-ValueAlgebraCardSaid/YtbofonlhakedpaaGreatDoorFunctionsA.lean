/-
  ValueFunctions answers true.
-/
import Derived.Test.YtbofonlhakedpaaGreatDoorExm
/- ValueFunctions answers true. -/
namespace Go.Tv
open Go.Proofs
set_option maxHeartbeats 4000000
theorem dep_in : ∀ {l : List V} {v : V}, v ∈ l → v.dep ≤ deps l
  | a :: r, v, h => by
    rcases List.mem_cons.1 h with rfl | h
    · simp only [deps]; omega
    · have := dep_in h
      simp only [deps]; omega
theorem item_small {f v : V} (h : f.small 300 8 = true) (hm : v ∈ f.items) : v.small 300 8 = true := by
  have h1 := cnt_mem hm
  have h2 := dep_in hm
  have h3 := f.cnt_eq
  have h4 := f.dep_eq
  simp only [V.small, Bool.and_eq_true, decide_eq_true_eq] at h ⊢
  omega
theorem ap_right (f x : V) : rightB (apW f x) (apE f x) (apW f x) (apE f x) = true := by
  refine right_self _ _ (fun h => by rw [apW, if_neg h]) fun h => ?_
  rw [apW, if_pos h]
  unfold apE at h
  split at h
  · rename_i h1; exact absurd h h1
  · rename_i h1
    obtain ⟨h2, h3⟩ := errF_zero (Classical.not_not.1 h1) (by simp)
    cases hm : memB f.keys x
    · rw [hm] at h; exact absurd h (by decide)
    · obtain ⟨hlt, _⟩ := mem_at (asc_keys h2 h3) hm
      have hl := (chk_own h2).len h3
      have hi : atU x f.keys < f.items.length := by omega
      rw [List.getD_eq_getElem?_getD, List.getElem?_eq_getElem hi, Option.getD_some]
      refine item_small (f := f) ?_ (List.getElem_mem hi)
      unfold chkE at h2
      split at h2
      · assumption
      · exact absurd h2 (by decide)
theorem ex_right (f x v : V) : rightB (exW f x v) (exE f x v) (exW f x v) (exE f x v) = true := by
  refine right_self _ _ (fun h => by rw [exW, if_neg h]) fun h => ?_
  rw [exW, if_pos h]
  unfold exE at h
  split at h
  · rename_i h1; exact absurd h h1
  · exact resE_small h
theorem jn_right (a b : V) : rightB (jnW a b) (jnE a b) (jnW a b) (jnE a b) = true := by
  refine right_self _ _ (fun h => by rw [jnW, if_neg h]) fun h => ?_
  rw [jnW, if_pos h]
  unfold jnE at h
  split at h
  · rename_i h1; exact absurd h h1
  · split at h
    · exact resE_small h
    · exact absurd h (by decide)
theorem ap_cnt (f x : V) : (apW f x).cnt ≤ f.cnt + 1 := by
  unfold apW
  split
  · rw [List.getD_eq_getElem?_getD]
    cases hi : f.items[atU x f.keys]? with
    | none => exact Nat.le_add_left _ _
    | some w =>
      have := cnt_mem (List.mem_of_getElem? hi)
      have := f.cnt_eq
      rw [Option.getD_some]; omega
  · exact Nat.le_add_left _ _
set_option maxRecDepth 100000 in
theorem c10 (h13 : ∀ H, Call CC 13 [] H = some (.ok (.bool true), H)) (f x v : V) (H : Heap) (hf : f.str) (hx : x.str) (hv : v.str) : Call CC 10 [f.av, x.av, v.av] H = some (.ok (.bool true), H) := by
  have g14 := fun H => c14 [f, x, v] H
  simp only [avs, V.av_eq] at g14
  refine cwp (fn := Tryz.f10) rfl (by kernel_rfl) rfl rfl rfl rfl (by simp) rfl ?_ H
  cases hw : fewB [f, x, v]
  · simp [V.av_eq, h13, g14, hw]
  · have hc0 : cnts [f, x, v] ≤ 700 := by unfold fewB at hw; simp only [Bool.and_eq_true, decide_eq_true_eq] at hw; exact hw.1.2
    have hc : f.cnt + x.cnt + v.cnt ≤ 700 := by simp only [cnts] at hc0; omega
    have gf := fun H => c16 f H (by omega)
    have gx := fun H => c16 x H (by omega)
    have gv := fun H => c16 v H (by omega)
    have g53 := fun H => c53 f x H hf hx (by omega)
    have g54 := fun H => c54 f x v H hf hx hv (by omega)
    have g55 := fun H => c55 f v H hf hv (by omega)
    have g56 := fun H => c56 f x H hf hx (by omega)
    have g57 := fun H => c57 f x v H hf hx hv (by omega)
    have g58 := fun H => c58 f v H hf hv (by omega)
    have k1 : (apW f x).cnt ≤ 1000000000 := by have := ap_cnt f x; omega
    have k2 : (exW f x v).cnt ≤ 1000000000 := by
      have := exV_cnt f x v
      unfold exW; split
      · omega
      · decide
    have k3 : (jnW f v).cnt ≤ 1000000000 := by
      have h1 := tupV_cnt (f.items ++ v.items)
      have h2 := cnts_append f.items v.items
      have h3 := len_cnts (f.items ++ v.items)
      have h4 := cnt_items f
      have h5 := cnt_items v
      unfold jnW; split
      · omega
      · decide
    have g20a := fun H => c20 (apW f x) (apE f x) (apW f x) (apE f x) H k1
    have g20b := fun H => c20 (exW f x v) (exE f x v) (exW f x v) (exE f x v) H k2
    have g20c := fun H => c20 (jnW f v) (jnE f v) (jnW f v) (jnE f v) H k3
    rw [ap_right] at g20a
    rw [ex_right] at g20b
    rw [jn_right] at g20c
    generalize apW f x = A at *
    generalize exW f x v = B at *
    generalize jnW f v = D at *
    generalize apE f x = a at *
    generalize exE f x v = b at *
    generalize jnE f v = d at *
    simp only [V.av_eq] at gf gx gv g53 g54 g55 g56 g57 g58 g20a g20b g20c
    simp [V.av_eq, h13, g14, hw, gf, gx, gv, g53, g54, g55, g56, g57, g58, g20a, g20b, g20c]
    exact ⟨by kernel_rfl, by kernel_rfl, by kernel_rfl⟩
end Go.Tv
