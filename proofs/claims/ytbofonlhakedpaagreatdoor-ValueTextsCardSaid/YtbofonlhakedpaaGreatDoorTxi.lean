/-
  A value with a text, of the reference.
-/
import Derived.Test.YtbofonlhakedpaaGreatDoorTxh
import Derived.Test.YtbofonlhakedpaaGreatDoorTxe
namespace Go.Tv
open Go.Proofs
set_option maxHeartbeats 16000000
set_option maxRecDepth 8000
theorem zero112 : zeroOf CC 112 = some (.agg [.str [], .int .i64 0, .int .i64 0]) := by kernel_rfl
noncomputable def fv112 : Array Field := match CC.P.underlying 112 with | some (.struct fs) => fs | _ => #[]
theorem undv112 : CC.P.underlying 112 = some (.struct fv112) := by kernel_rfl
theorem fv112_all0 : fv112.toList.all (fun f => (CC.P.info? f.type).isSome) = true := by kernel_rfl
theorem fv112_all : ∀ (i : Nat) (x : i < fv112.size), (CC.P.info? fv112[i].type).isSome = true := fun i x => List.all_eq_true.1 fv112_all0 _ (by simp)
theorem fv112_0 : fv112[0]? = some (fldQ 0) := by kernel_rfl
theorem fv112_2 : fv112[2]? = some (fldQ 2) := by kernel_rfl
attribute [simp] zero112 undv112 fv112_all fv112_0 fv112_2
theorem c31 (s : List UInt8) (H : Heap) (hs : s.length ≤ 1000000) : Call CC 31 [.str s] H = some (.ok (.tup [(parV s).av, .int .i64 (parN s), .int .i64 (parE s)]), H) := by
  refine cwp (fn := Tryz.f31) rfl (by kernel_rfl) rfl rfl rfl rfl (by simp) (by simp [AV.tree, treeL]) ?_ H
  by_cases hl : 20000 < s.length
  . have hl' : (20000 : Int) < s.length := by omega
    simp [hl', undv24, fv24_all, parV, parN, parE, hl, zeroV_av]
  . have hl' : ¬ (20000 : Int) < s.length := by omega
    obtain ⟨r6, a6, b6, J6, g6, v, rfl, q1, q2, -, q4⟩ := valf hs (3 * s.length + 1) (a := 0) (b := -1) (d := 0) (H := [zc24, zc24, RF s 0 (-1)]) (id := 2) (by omega) (by omega) (by omega) (fun _ => by simp) rfl
    have q4 := q4 rfl
    simp only [Int.toNat_zero, List.drop_zero] at q4
    have hpt : pO s = match pV (3 * s.length + 1) 0 s with | .error e => .error ((s.length : Int) - e) | .ok (v, r) => if skipB r = [] then .ok v else .error (pos s (skipB r)) := rfl
    obtain ⟨vo, hvo⟩ : ∃ vo, vo = AObj.cells [.int .i64 v.kind, .int .i64 v.num, .str v.s, .list (avs v.keys) none, .list (avs v.items) none] 24 := ⟨_, rfl⟩
    have g7 := c93 (s := s) (a := a6) (d := b6) (H := zc24 :: zc24 :: RF s a6 b6 :: (J6 ++ [vo])) (id := 2) hs q1 q2 rfl
    have suf : skipB (s.drop a6.toNat) <:+ s := (skip_suf _).trans (List.drop_suffix _ _)
    obtain ⟨u, hu⟩ : ∃ u, u = pos s (skipB (s.drop a6.toNat)) := ⟨_, rfl⟩
    have hu0 : 0 ≤ u := hu ▸ pos_ge suf
    have hu1 : u ≤ s.length := hu ▸ pos_le _ _
    rw [<- hu] at g7
    have g8 := c94 (s := s) (a := u) (b := b6) (H := zc24 :: zc24 :: RF s u b6 :: (J6 ++ [vo])) (id := 2) rfl
    subst hvo
    simp only [RF, zc24, V.av_eq v] at g6 g7 g8
    simp at g6 g7 g8
    have leaf : ∀ b7 : Int, pO s = .error b7 -> parV s = zeroV /\ parN s = b7 /\ parE s = 8 := fun b7 h => by
      simp only [parV, parN, parE, if_neg hl, h]; exact ⟨trivial, trivial, trivial⟩
    by_cases hb6 : b6 = -1
    . cases hpv : pV (3 * s.length + 1) 0 s with
      | error e =>
        rw [hpv] at q4
        have := (errP _).v hpv
        simp only at q4
        omega
      | ok vr =>
      obtain ⟨v', r⟩ := vr
      rw [hpv] at q4 hpt
      obtain ⟨rfl, e6, -, q7⟩ := q4
      simp only at hpt
      have e6' : s.drop a6.toNat = r := by rw [e6]; exact pos_drop q7
      rw [e6'] at hu
      have hbe : skipB r = [] ↔ u = s.length := by
        rw [hu]; unfold pos; rw [<- List.length_eq_zero_iff]; omega
      subst hb6
      by_cases hul : u < s.length
      . rw [if_neg (fun h => by have := hbe.1 h; omega), <- hu] at hpt
        obtain ⟨k1, k2, k3⟩ := leaf u hpt
        rw [k1, k2, k3]
        have hun : ¬ u = -1 := by omega
        simp at g8
        simp [hl', g6, g7, g8, hul, hun, undv24, fv24_all, zeroV_av]
        show _ = true
        kernel_rfl
      . rw [if_pos (hbe.2 (by omega))] at hpt
        obtain ⟨k1, k2⟩ := pO_cnt (by omega) hpt
        simp only [parV, parN, parE, if_neg hl, hpt]
        have g2 := fun H => c19 v H k2 (by omega)
        rw [V.av_eq v] at g2
        by_cases hn : normE v = 0
        . rw [if_pos hn, if_pos hn]
          rw [hn] at g2 ⊢
          rw [V.av_eq (normW v)] at g2 ⊢
          simp [hl', g6, g7, hul, g2, undv24, fv24_all]
        . rw [if_neg hn, if_neg hn]
          rw [V.av_eq (normW v)] at g2
          simp [hl', g6, g7, hul, g2, hn, undv24, fv24_all, zeroV_av]
    . cases hpv : pV (3 * s.length + 1) 0 s with
      | ok vr =>
        obtain ⟨v', r⟩ := vr
        rw [hpv] at q4
        exact absurd q4.2.2.1 hb6
      | error e =>
      rw [hpv] at q4 hpt
      simp only at q4 hpt
      rw [<- q4] at hpt
      obtain ⟨k1, k2, k3⟩ := leaf b6 hpt
      rw [k1, k2, k3]
      simp [hb6] at g8
      by_cases hul : u < s.length
      . simp [hl', g6, g7, g8, hul, hb6, undv24, fv24_all, zeroV_av]
        show _ = true
        kernel_rfl
      . simp [hl', g6, g7, hul, hb6, undv24, fv24_all, zeroV_av]
        show _ = true
        kernel_rfl
end Go.Tv
