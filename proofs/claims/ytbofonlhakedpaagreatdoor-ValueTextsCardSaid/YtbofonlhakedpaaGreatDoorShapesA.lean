/-
  ValueShapes answers true.
-/
import Derived.Test.YtbofonlhakedpaaGreatDoorExe
import Derived.Test.YtbofonlhakedpaaGreatDoorPla
namespace Go.Tv
open Go.Proofs
theorem own_int {k : V} (h : ownE k = 0) (h1 : k.kind = 1) : k = intV k.num := by
  have hs : k.s = [] := Classical.byContradiction fun hs => by
    have : ownE k = 5 := by simp [ownE, h1, hs]
    omega
  have hi : k.items = [] := Classical.byContradiction fun hi => by
    have : ownE k = 5 := by simp [ownE, h1, hs, hi]
    omega
  have hk : k.keys = [] := Classical.byContradiction fun hk => by
    have : ownE k = 5 := by simp [ownE, h1, hs, hi, hk]
    omega
  rw [<- V.eta k]
  simp only [intV, V.num, hs, hi, hk, h1]
theorem own_cmp {k : V} (h : ownE k = 0) (n : Int) : decide (cmpV k (intV n) = 0) = (decide (k.kind = 1) && decide (k.num = n)) := by
  rw [Bool.eq_iff_iff]
  simp only [decide_eq_true_eq, Bool.and_eq_true, cmpV_eq]
  constructor
  . rintro rfl; exact ⟨rfl, rfl⟩
  . rintro ⟨h1, rfl⟩; exact own_int h h1
theorem eqt_tup (l : List V) (h : ∀ k ∈ l, ownE k = 0) : ∀ i, i ≤ l.length -> (eqtP l i && tupL (l.drop i) i) = tupL l 0
  | 0, _ => by simp [eqtP]
  | i + 1, hi => by
    have ih := eqt_tup l h i (by omega)
    rw [<- ih, eqtP_succ l i (by omega), tupL_drop l i (by omega), own_cmp (h _ (List.getElem_mem _))]
    simp [Bool.and_assoc]
theorem err_top {o : Bool} {v : V} (h : errV o v = 0) : topE o v = 0 /\ errL o v.keys = 0 /\ errL o v.items = 0 := by
  rw [errV_eq] at h
  by_cases h1 : topE o v = 0
  . rw [if_neg (by simp [h1])] at h
    by_cases h2 : errL o v.keys = 0
    . rw [if_neg (by simp [h2])] at h; exact ⟨h1, h2, h⟩
    . rw [if_pos h2] at h; exact absurd h h2
  . rw [if_pos h1] at h; exact absurd h h1
theorem top_own {o : Bool} {v : V} (h : topE o v = 0) : ownE v = 0 := by
  unfold topE at h
  by_cases h1 : ownE v = 0
  . exact h1
  . rw [if_pos h1] at h; exact absurd h h1
theorem chk_small {v : V} (h : chkE v = 0) : v.small 300 8 = true /\ errV true v = 0 := by
  unfold chkE at h
  cases hs : v.small 300 8
  . rw [hs] at h; simp at h
  . rw [hs] at h; exact ⟨rfl, by simpa using h⟩
end Go.Tv
