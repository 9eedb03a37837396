/-
  ValueShapes answers true.
-/
import Derived.Test.YtbofonlhakedpaaGreatDoorExe
import Derived.Test.YtbofonlhakedpaaGreatDoorPla
/- ValueShapes answers true. -/
namespace Go.Tv
open Go.Proofs
def tyE (k : Int) (v : V) : Int := if v.kind = k then 0 else 20
theorem c96one (k : Int) (v : V) (H : Heap) (h : v.cnt ≤ 1000000000) : Call CC 96 [.int .i64 k, .list [v.av] none] H = some (.ok (.int .i64 (tyE k v)), H) := by
  have g := c96 k [v] H (by simp [cnts]; omega)
  simp only [avs, List.any_cons, List.any_nil, Bool.or_false] at g
  rw [g]
  unfold tyE
  by_cases hk : v.kind = k <;> simp [hk]
theorem c32 (v : V) (H : Heap) (hs : v.str) (hc : v.cnt ≤ 1000000000) : Call CC 32 [v.av] H = some (.ok (.tup [.int .i64 (if chkE v = 0 then shapeF v else 0), .int .i64 (chkE v)]), H) := by
  have g1 := fun H => c15 v H hs hc
  have g2 := fun H => c95 v H hs hc
  rw [V.av_eq] at g1 g2
  refine cwp (fn := Tryz.f32) rfl (by kernel_rfl) rfl rfl rfl rfl (by simp) (by simp) ?_ H
  by_cases h : chkE v = 0
  · simp [V.av_eq, g1, g2, h]
  · simp [V.av_eq, g1, h]
def memE (v : V) : Int := firstNZ [chkE v, tyE 4 v]
theorem c33 (v : V) (H : Heap) (hs : v.str) (hc : v.cnt ≤ 1000000000) : Call CC 33 [v.av] H = some (.ok (.tup [.list (avs (if memE v = 0 then v.items else [])) none, .int .i64 (memE v)]), H) := by
  have q2 := cnt_items v
  have g1 := fun H => c15 v H hs hc
  have g2 := fun H => c96one 4 v H hc
  have g3 := fun H => c75 [chkE v, tyE 4 v] H (by simp)
  have g4 := fun H => c97 v.items H (by omega)
  simp only [il] at g3
  rw [V.av_eq] at g1 g2
  refine cwp (fn := Tryz.f33) rfl (by kernel_rfl) rfl rfl rfl rfl (by simp) (by simp) ?_ H
  unfold memE
  by_cases h : firstNZ [chkE v, tyE 4 v] = 0
  · simp [V.av_eq, g1, g2, g3, g4, h]
    kernel_rfl
  · simp [V.av_eq, g1, g2, g3, h, avs]
    kernel_rfl
def domE (v : V) : Int := resE (setV v.keys) (firstNZ [chkE v, tyE 5 v])
theorem setV_cnt (l : List V) : (setV l).cnt = 1 + cnts l := by simp [setV, V.cnt, cnts]
theorem setV_dep (l : List V) : (setV l).dep = 1 + deps l := by simp [setV, V.dep, deps]
theorem c34 (v : V) (H : Heap) (hs : v.str) (hc : v.cnt ≤ 1000000000) : Call CC 34 [v.av] H = some (.ok (.tup [(if domE v = 0 then (setV v.keys).av else zeroV.av), .int .i64 (domE v)]), H) := by
  have q1 := cnt_keys v
  have g1 := fun H => c15 v H hs hc
  have g2 := fun H => c96one 5 v H hc
  have g3 := fun H => c75 [chkE v, tyE 5 v] H (by simp)
  have g4 := fun H => c98 (setV v.keys) (firstNZ [chkE v, tyE 5 v]) H (by rw [setV_cnt]; omega)
  simp only [il] at g3
  rw [V.av_eq] at g1 g2
  have ht : AV.tree (.tup [(if domE v = 0 then (setV v.keys).av else zeroV.av), .int .i64 (domE v)]) = true := by split <;> simp
  refine cwp (fn := Tryz.f34) rfl (by kernel_rfl) rfl rfl rfl rfl (by simp) ht ?_ H
  unfold domE
  by_cases h : resE (setV v.keys) (firstNZ [chkE v, tyE 5 v]) = 0
  · simp only [h, if_true] at g4
    simp only [setV_av, h, if_true] at g4 ⊢
    simp [V.av_eq, g1, g2, g3, g4, undv24, fv24_all, fv24_0, fv24_4]
    kernel_rfl
  · simp only [h, if_false] at g4
    simp only [setV_av, zeroV_av, h, if_false] at g4 ⊢
    simp [V.av_eq, g1, g2, g3, g4, undv24, fv24_all, fv24_0, fv24_4]
    kernel_rfl

/-! the plain law -/
theorem own_int {k : V} (h : ownE k = 0) (h1 : k.kind = 1) : k = intV k.num := by
  have hs : k.s = [] := Classical.byContradiction fun hs => by
    have : ownE k = 5 := by simp [ownE, h1, hs]
    omega
  have hi : k.items = [] := Classical.byContradiction fun hi => by
    have : ownE k = 5 := by simp [ownE, h1, hs, hi]
    omega
  have hk : k.keys = [] := Classical.byContradiction fun hk => by
    have : ownE k = 5 := by simp [ownE, h1, hs, hi, hk]
    omega
  rw [← V.eta k]
  simp only [intV, V.num, hs, hi, hk, h1]
theorem own_cmp {k : V} (h : ownE k = 0) (n : Int) : decide (cmpV k (intV n) = 0) = (decide (k.kind = 1) && decide (k.num = n)) := by
  rw [Bool.eq_iff_iff]
  simp only [decide_eq_true_eq, Bool.and_eq_true, cmpV_eq]
  constructor
  · rintro rfl; exact ⟨rfl, rfl⟩
  · rintro ⟨h1, rfl⟩; exact own_int h h1
theorem eqt_tup (l : List V) (h : ∀ k ∈ l, ownE k = 0) : ∀ i, i ≤ l.length → (eqtP l i && tupL (l.drop i) i) = tupL l 0
  | 0, _ => by simp [eqtP]
  | i + 1, hi => by
    have ih := eqt_tup l h i (by omega)
    rw [← ih, eqtP_succ l i (by omega), tupL_drop l i (by omega), own_cmp (h _ (List.getElem_mem _))]
    simp [Bool.and_assoc]
theorem err_top {o : Bool} {v : V} (h : errV o v = 0) : topE o v = 0 ∧ errL o v.keys = 0 ∧ errL o v.items = 0 := by
  rw [errV_eq] at h
  by_cases h1 : topE o v = 0
  · rw [if_neg (by simp [h1])] at h
    by_cases h2 : errL o v.keys = 0
    · rw [if_neg (by simp [h2])] at h; exact ⟨h1, h2, h⟩
    · rw [if_pos h2] at h; exact absurd h h2
  · rw [if_pos h1] at h; exact absurd h h1
theorem top_own {o : Bool} {v : V} (h : topE o v = 0) : ownE v = 0 := by
  unfold topE at h
  by_cases h1 : ownE v = 0
  · exact h1
  · rw [if_pos h1] at h; exact absurd h h1
theorem chk_small {v : V} (h : chkE v = 0) : v.small 300 8 = true ∧ errV true v = 0 := by
  unfold chkE at h
  cases hs : v.small 300 8
  · rw [hs] at h; simp at h
  · rw [hs] at h; exact ⟨rfl, by simpa using h⟩
theorem shape_same {v : V} (h : chkE v = 0) : shapeF v = shapeR v := by
  have he := (err_top (chk_small h).2).2.1
  have hk : ∀ k ∈ v.keys, ownE k = 0 := fun k hk => top_own (err_top (errL_mem he k hk)).1
  have e := eqt_tup v.keys hk v.keys.length (Nat.le_refl _)
  rw [List.drop_length, tupL, Bool.and_true] at e
  unfold shapeF shapeR
  rw [e]
  by_cases h5 : v.kind = 5
  · rw [if_pos h5, if_pos h5]
    cases ht : tupL v.keys 0
    · have hl : 0 < v.keys.length := by
        cases hkk : v.keys with
        | nil => rw [hkk] at ht; simp [tupL] at ht
        | cons a r => simp
      have er : recP v.keys v.keys.length = v.keys.all recK := by unfold recP; rw [List.take_length, decide_eq_true hl, Bool.true_and]
      rw [er]
    · simp
  · rw [if_neg h5, if_neg h5]
set_option maxRecDepth 100000 in
set_option maxHeartbeats 4000000 in
theorem c6 (h13 : ∀ H, Call CC 13 [] H = some (.ok (.bool true), H)) (v : V) (H : Heap) (hs : v.str) : Call CC 6 [v.av] H = some (.ok (.bool true), H) := by
  have g14 := fun H => c14 [v] H
  simp only [avs] at g14
  rw [V.av_eq] at g14
  refine cwp (fn := Tryz.f6) rfl (by kernel_rfl) rfl rfl rfl rfl (by simp) rfl ?_ H
  cases hf : fewB [v]
  · simp [V.av_eq, h13, g14, hf]
  · have hc0 : cnts [v] ≤ 700 := by unfold fewB at hf; simp only [Bool.and_eq_true, decide_eq_true_eq] at hf; exact hf.1.2
    have hc : v.cnt ≤ 700 := by simp only [cnts] at hc0; omega
    have q1 := cnt_keys v
    have q2 := cnt_items v
    have go := fun H => c16 v H (by omega)
    have g32 := fun H => c32 v H hs (by omega)
    have g33 := fun H => c33 v H hs (by omega)
    have g34 := fun H => c34 v H hs (by omega)
    have g18 := fun H => c18 v H hs (by omega)
    have g36 := fun H => c36 v H hs (by omega)
    have g38 := fun H => c38 v.keys H
    have gz := fun H => c35 zeroV H (by decide)
    have gi := fun H => c37 v.items v.items H (by omega)
    have gk := fun H => c21 (setV v.keys) (setV v.keys) H (by rw [setV_cnt]; omega)
    have z0 : cmpV zeroV zeroV = 0 := cmpV_eq.2 rfl
    have z1 : cmpVs v.items v.items = 0 := cmpVs_eq.2 rfl
    have z2 : cmpV (setV v.keys) (setV v.keys) = 0 := cmpV_eq.2 rfl
    rw [V.av_eq] at go g32 g33 g34 g18 g36
    rw [setV_av] at g38 gk
    rw [zeroV_av, z0] at gz
    rw [z1] at gi
    rw [z2] at gk
    by_cases h : chkE v = 0
    · have hsm := (chk_small h).1
      have hsh := shape_same h
      rw [if_pos h, h, hsh] at g32
      by_cases h4 : v.kind = 4
      · have m0 : memE v = 0 := by simp [memE, firstNZ, h, tyE, h4]
        have d0 : domE v = 20 := by simp [domE, firstNZ, h, tyE, h4, resE]
        rw [m0, if_pos rfl] at g33
        rw [d0, if_neg (by decide), zeroV_av] at g34
        simp [V.av_eq, h13, g14, hf, go, g32, g33, g34, g18, g36, h]
        simp [gz, gi, h4]
      · have m0 : memE v = 20 := by simp [memE, firstNZ, h, tyE, h4]
        rw [m0, if_neg (by decide)] at g33
        by_cases h5 : v.kind = 5
        · have hs2 : (setV v.keys).small 300 8 = true := by
            simp only [V.small, Bool.and_eq_true, decide_eq_true_eq] at hsm ⊢
            rw [setV_cnt, setV_dep]
            have := V.dep_eq v
            have := V.cnt_eq v
            omega
          have d0 : domE v = 0 := by simp [domE, firstNZ, h, tyE, h5, resE, hs2]
          rw [d0, if_pos rfl, setV_av] at g34
          simp [V.av_eq, h13, g14, hf, go, g32, g33, g34, g18, g36, h]
          simp [h5, g38, gk]
          refine (?_ : drawE _ _ _ = true)
          kernel_rfl
        · have d0 : domE v = 20 := by simp [domE, firstNZ, h, tyE, h5, resE]
          rw [d0, if_neg (by decide), zeroV_av] at g34
          simp [V.av_eq, h13, g14, hf, go, g32, g33, g34, g18, g36, h]
          simp [h4, h5, gz]
    · have m0 : memE v = chkE v := by simp [memE, firstNZ, h]
      have d0 : domE v = chkE v := by simp [domE, firstNZ, h, resE]
      rw [if_neg h] at g32
      rw [m0, if_neg h] at g33
      rw [d0, if_neg h, zeroV_av] at g34
      simp [V.av_eq, h13, g14, hf, go, g32, g33, g34, g18, gz, h]
end Go.Tv
