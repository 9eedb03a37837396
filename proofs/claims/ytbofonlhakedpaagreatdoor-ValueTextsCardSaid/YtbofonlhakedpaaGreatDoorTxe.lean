/-
  A value with a text, of package value.
-/
import Derived.Test.YtbofonlhakedpaaGreatDoorTxd
import Derived.Test.YtbofonlhakedpaaGreatDoorTxa
import Derived.Test.YtbofonlhakedpaaGreatDoorExk
namespace Go.Tv
open Go.Proofs
set_option maxHeartbeats 8000000
set_option maxRecDepth 8000
def pO (s : List UInt8) : Except Int V := match pV (3 * s.length + 1) 0 s with
  | .error e => .error ((s.length : Int) - e)
  | .ok (v, r) => if skipB r = [] then .ok v else .error (pos s (skipB r))
theorem pO_of {s : List UInt8} {v : V} (h : pT s = .ok v) : pO s = .ok v := by
  unfold pT at h
  unfold pO
  split at h
  . cases h
  . rename_i v' r hv
    rw [hv]
    split at h
    . rename_i hs; injection h with h; subst h; simp only; rw [if_pos hs]
    . cases h
def OUTW (s : List UInt8) (r : ARet) : Prop := match pO s with
  | .ok v => r = .ok (.tup [v.av, .int .i64 (-1)])
  | .error e => r = .ok (.tup [zeroV.av, .int .i64 e])
theorem aeqN : aeq CC 20 .nilIface .nilIface true = some true := by kernel_rfl
theorem aeqI (T : TypeId) (v : AV) : aeq CC 20 (.iface T v) .nilIface true = some false := by kernel_rfl
attribute [simp] aeqN aeqI
theorem lat150n {H : Heap} {a b : AV} {Q : Option AV -> Heap -> Prop} (h : Q none H) : LAT CC (Call CC) 150 [a, b] none H Q := by
  refine lat_rec (fn := Tryz.f150) (by kernel_rfl) rfl rfl rfl rfl rfl ?_
  simp [h]
theorem lat150p {M : Heap} {id : Nat} {x : AObj} {J : Heap} {e n : Int} {c1 c2 c3 c4 c5 : AV} {Q : Option AV -> Heap -> Prop} (h : Q none (M.set id x ++ .cells [.int .i64 0, .int .i64 0, .str [], .empty, .empty] 24 :: .cells [.int .i64 e] 3 :: (J ++ [.cells [.int .i64 e] 160]))) : LAT CC (Call CC) 150 [.ptr M.length 0, .ptr (M.length + 1) 0] (some (wrong e)) (M.set id x ++ .cells [c1, c2, c3, c4, c5] 24 :: .cells [.int .i64 n] 3 :: J) Q := by
  refine lat_rec (fn := Tryz.f150) (by kernel_rfl) rfl rfl rfl rfl rfl ?_
  simp [wrong, undv24, fv24_all, h]
  refine drawE_map (fun j => j - M.length) ?_
  simp [mapE]
  kernel_rfl
theorem c91 {s : List UInt8} {H : Heap} {id : Nat} (hs : s.length ≤ 1000000) (hH : H[id]? = some (RD s 0 0)) :
    ∃ r a' d' J, Call CC 91 [.ptr id 0] H = some (r, H.set id (RD s a' d') ++ J) /\ OUTW s r := by
  refine rdcall (f := 91) (rest := []) (P := fun r _ _ _ => OUTW s r) (fn := Tryz.f91) rfl (by kernel_rfl) rfl rfl rfl rfl hH ?_
  intro M hid
  refine sd_seq rfl ?_
  simp
  refine sd_defer1 rfl (by simp) ?_
  obtain ⟨r6, a6, d6, J6, g6, q6⟩ := valc hs (3 * s.length + 1) (a := 0) (d := 0) (H := M.set id (RD s 0 0) ++ [zc24, .cells [.int .i64 0] 3]) (id := id) (by omega) (by omega) (by omega) (by simp) (by simp [hid])
  simp [hid] at g6
  simp [zc24] at g6
  have hpt : pO s = match pV (3 * s.length + 1) 0 s with | .error e => .error ((s.length : Int) - e) | .ok (v, r) => if skipB r = [] then .ok v else .error (pos s (skipB r)) := rfl
  simp only [Int.toNat_zero, List.drop_zero] at q6
  cases hpv : pV (3 * s.length + 1) 0 s with
  | error e =>
    rw [hpv] at q6 hpt
    simp only [OUT] at q6
    subst q6
    simp [g6]
    refine lat150p ?_
    simp only
    unfold HAND
    simp
    refine ⟨⟨_, _, _, rfl⟩, ?_⟩
    unfold OUTW
    rw [hpt]; rfl
  | ok vr =>
    obtain ⟨v, r⟩ := vr
    rw [hpv] at q6 hpt
    obtain ⟨rfl, rfl, rfl, q7⟩ := q6
    have suf : skipB r <:+ s := (skip_suf _).trans q7
    obtain ⟨b, hb⟩ : ∃ b, b = pos s (skipB r) := ⟨_, rfl⟩
    have hb0 : 0 ≤ b := hb ▸ pos_ge suf
    have hb1 : b ≤ s.length := hb ▸ pos_le _ _
    have hbe : skipB r = [] ↔ b = s.length := by
      rw [hb]; unfold pos; rw [<- List.length_eq_zero_iff]; omega
    have g1 := c152 (s := s) (a := pos s r) (d := 0) (H := M.set id (RD s (pos s r) 0) ++ .cells [.int .i64 v.kind, .int .i64 v.num, .str v.s, .list (avs v.keys) none, .list (avs v.items) none] 24 :: .cells [.int .i64 0] 3 :: J6) (id := id) hs (pos_ge q7) (pos_le _ _) (by simp [hid])
    rw [pos_drop q7, <- hb] at g1
    have g2 := c153 (s := s) (a := b) (d := 0) (H := M.set id (RD s b 0) ++ .cells [.int .i64 v.kind, .int .i64 v.num, .str v.s, .list (avs v.keys) none, .list (avs v.items) none] 24 :: .cells [.int .i64 0] 3 :: J6) (id := id) (by simp [hid])
    simp [hid] at g1
    simp only [RD] at g2
    have g6' : Call CC 151 [.ptr id 0] (M.set id (.cells [.str s, .int .i64 0, .int .i64 0] 108) ++ [.cells [.int .i64 0, .int .i64 0, .str [], .empty, .empty] 24, .cells [.int .i64 0] 3]) = some (.ok (.agg [.int .i64 v.kind, .int .i64 v.num, .str v.s, .list (avs v.keys) none, .list (avs v.items) none]), M.set id (.cells [.str s, .int .i64 (pos s r), .int .i64 0] 108) ++ .cells [.int .i64 0, .int .i64 0, .str [], .empty, .empty] 24 :: .cells [.int .i64 0] 3 :: J6) := by rw [<- V.av_eq]; exact g6
    simp [g6', g1, hid]
    refine ⟨by kernel_rfl, ?_⟩
    by_cases hbl : b = s.length
    . have hlt : ¬ b < (s.length : Int) := by omega
      simp [hlt]
      refine lat150n ?_
      unfold HAND
      simp
      refine ⟨⟨_, _, _, rfl⟩, ?_⟩
      unfold OUTW
      rw [hpt]
      simp only
      rw [if_pos (hbe.2 hbl)]
      simp only
      rw [V.av_eq]
    . have hlt : b < (s.length : Int) := by omega
      simp [hlt, g2]
      refine lat150p ?_
      simp only
      unfold HAND
      simp
      refine ⟨⟨_, _, _, rfl⟩, ?_⟩
      unfold OUTW
      rw [hpt]
      simp only
      rw [if_neg (fun h => hbl (hbe.1 h)), <- hb]
      rfl
theorem pO_cnt {s : List UInt8} {v : V} (hs : s.length ≤ 1000000) (h : pO s = .ok v) : v.cnt ≤ 3 * s.length /\ v.str := by
  unfold pO at h
  split at h
  . cases h
  . rename_i v' r hv
    split at h
    . injection h with h; subst h
      have := (cntP _).v (by omega) hv
      exact ⟨by omega, this.2⟩
    . cases h
def parV (s : List UInt8) : V := if 20000 < s.length then zeroV else match pO s with
  | .error _ => zeroV
  | .ok v => if normE v = 0 then normW v else zeroV
def parN (s : List UInt8) : Int := if 20000 < s.length then 0 else match pO s with
  | .error e => e
  | .ok v => if normE v = 0 then s.length else 0
def parE (s : List UInt8) : Int := if 20000 < s.length then 2 else match pO s with
  | .error _ => 8
  | .ok v => normE v
theorem pO_err {s : List UInt8} {e : Int} (h : pO s = .error e) : 0 ≤ e /\ e ≤ s.length := by
  unfold pO at h
  split at h
  . rename_i e' hv
    have := (errP _).v hv
    injection h with h; omega
  . rename_i v r hv
    have := (lenP _).v hv
    have := skip_len r
    split at h
    . cases h
    . injection h with h; unfold pos at h; omega
theorem zero108 : zeroOf CC 108 = some (.agg [.str [], .int .i64 0, .int .i64 0]) := by kernel_rfl
noncomputable def fv108 : Array Field := match CC.P.underlying 108 with | some (.struct fs) => fs | _ => #[]
theorem undv108 : CC.P.underlying 108 = some (.struct fv108) := by kernel_rfl
theorem fv108_all0 : fv108.toList.all (fun f => (CC.P.info? f.type).isSome) = true := by kernel_rfl
theorem fv108_all : ∀ (i : Nat) (x : i < fv108.size), (CC.P.info? fv108[i].type).isSome = true := fun i x => List.all_eq_true.1 fv108_all0 _ (by simp)
theorem fv108_0 : fv108[0]? = some (fldR 0) := by kernel_rfl
attribute [simp] zero108 undv108 fv108_all fv108_0
theorem c27 (s : List UInt8) (H : Heap) (hs : s.length ≤ 4611686018427387904) : Call CC 27 [.str s] H = some (.ok (.tup [(parV s).av, .int .i64 (parN s), .int .i64 (parE s)]), H) := by
  refine cwp (fn := Tryz.f27) rfl (by kernel_rfl) rfl rfl rfl rfl (by simp) (by simp [AV.tree, treeL]) ?_ H
  by_cases hl : 20000 < s.length
  . have hl' : (20000 : Int) < s.length := by omega
    simp [hl', undv24, fv24_all, parV, parN, parE, hl, zeroV_av]
  . have hl' : ¬ (20000 : Int) < s.length := by omega
    obtain ⟨r, a', d', J, g1, q1⟩ := c91 (s := s) (H := [.cells [.int .i64 0, .int .i64 0, .str [], .empty, .empty] 24, RD s 0 0]) (id := 1) (by omega) rfl
    simp only [parV, parN, parE, if_neg hl]
    unfold OUTW at q1
    cases ho : pO s with
    | error e =>
      rw [ho] at q1
      simp only at q1
      subst q1
      rw [zeroV_av] at g1
      have he : ¬ e = -1 := by have := pO_err ho; omega
      simp at g1
      simp [hl', g1, he, undv24, fv24_all, zeroV_av]
    | ok v =>
      rw [ho] at q1
      simp only at q1
      subst q1
      obtain ⟨k1, k2⟩ := pO_cnt (by omega) ho
      have g2 := fun H => c17 v H k2 (by omega)
      rw [V.av_eq v] at g1 g2
      simp at g1
      simp only
      by_cases hn : normE v = 0
      . rw [if_pos hn, if_pos hn]
        rw [hn] at g2 ⊢
        rw [V.av_eq (normW v)] at g2 ⊢
        simp [hl', g1, g2]
      . rw [if_neg hn, if_neg hn]
        rw [V.av_eq (normW v)] at g2
        simp [hl', g1, g2, hn, undv24, fv24_all, zeroV_av]
end Go.Tv
