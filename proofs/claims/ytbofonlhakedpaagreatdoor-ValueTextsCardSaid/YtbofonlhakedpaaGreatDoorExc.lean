/-
  What the functions of chapter 8 compute: the error of a value alone, by the reference.
-/
import Derived.Test.YtbofonlhakedpaaGreatDoorExb
namespace Go.Tv
open Go.Proofs
set_option maxRecDepth 100000 in
set_option maxHeartbeats 2000000 in
theorem c136_0 (v : V) (o : Bool) (h : v.kind = 0) (H : Heap) (hs : v.s.length ≤ 9223372036854775807) (hc : v.cnt ≤ 1000000000) : Call CC 136 [v.av, .bool o] H = some (.ok (.int .i64 (topE o v)), H) := by
  have g1 := fun H => c207 v.s 40 H hs
  have g2 := fun H => c99 v.s H hs
  have q1 := cnt_keys v
  have q2 := cnt_items v
  have g3 := fun H => c198 v.keys H (by omega)
  have g4 := fun H => c198 v.items H (by omega)
  clear hs
  refine cwp (fn := Tryz.f136) rfl (by kernel_rfl) rfl rfl rfl rfl (by simp) rfl ?_ H
  simp (maxSteps := 1000000) [V.av_eq, *]
  by_cases hs : v.s = []
  . simp (maxSteps := 1000000) [*]
    by_cases hi : v.items = []
    . simp (maxSteps := 1000000) [*]
      by_cases hk : v.keys = []
      . simp (maxSteps := 1000000) [*]
        by_cases hb : 0 ≤ v.num
        . simp (maxSteps := 1000000) [*]
          by_cases hb2 : v.num ≤ 1
          . simp (maxSteps := 1000000) [*]
            have e0 : ownE v = 0 := by simp [ownE, *]
            have e : topE o v = 0 := by simp [topE, ordE, *]
            cases o
            . simp (maxSteps := 1000000) [*]
            . simp (maxSteps := 1000000) [*]
          . have e0 : ownE v = 5 := by simp [ownE, *]
            have e : topE o v = 5 := by simp [topE, *]
            simp (maxSteps := 1000000) [*]
        . have e0 : ownE v = 5 := by simp [ownE, *]
          have e : topE o v = 5 := by simp [topE, *]
          simp (maxSteps := 1000000) [*]
      . have hkp := pos_len hk
        have e0 : ownE v = 5 := by simp [ownE, *]
        have e : topE o v = 5 := by simp [topE, *]
        simp (maxSteps := 1000000) [*]
    . have hip := pos_len hi
      have e0 : ownE v = 5 := by simp [ownE, *]
      have e : topE o v = 5 := by simp [topE, *]
      simp (maxSteps := 1000000) [*]
  . have e0 : ownE v = 5 := by simp [ownE, *]
    have e : topE o v = 5 := by simp [topE, *]
    simp (maxSteps := 1000000) [*]
set_option maxRecDepth 100000 in
set_option maxHeartbeats 2000000 in
theorem c136_1 (v : V) (o : Bool) (h : v.kind = 1) (H : Heap) (hs : v.s.length ≤ 9223372036854775807) (hc : v.cnt ≤ 1000000000) : Call CC 136 [v.av, .bool o] H = some (.ok (.int .i64 (topE o v)), H) := by
  have g1 := fun H => c207 v.s 40 H hs
  have g2 := fun H => c99 v.s H hs
  have q1 := cnt_keys v
  have q2 := cnt_items v
  have g3 := fun H => c198 v.keys H (by omega)
  have g4 := fun H => c198 v.items H (by omega)
  clear hs
  refine cwp (fn := Tryz.f136) rfl (by kernel_rfl) rfl rfl rfl rfl (by simp) rfl ?_ H
  simp (maxSteps := 1000000) [V.av_eq, *]
  by_cases hs : v.s = []
  . simp (maxSteps := 1000000) [*]
    by_cases hi : v.items = []
    . simp (maxSteps := 1000000) [*]
      by_cases hk : v.keys = []
      . simp (maxSteps := 1000000) [*]
        by_cases hb : -10000 ≤ v.num
        . simp (maxSteps := 1000000) [*]
          by_cases hb2 : v.num ≤ 10000
          . simp (maxSteps := 1000000) [*]
            have e0 : ownE v = 0 := by simp [ownE, *]
            have e : topE o v = 0 := by simp [topE, ordE, *]
            cases o
            . simp (maxSteps := 1000000) [*]
            . simp (maxSteps := 1000000) [*]
          . have e0 : ownE v = 3 := by simp [ownE, *]
            have e : topE o v = 3 := by simp [topE, *]
            simp (maxSteps := 1000000) [*]
        . have e0 : ownE v = 3 := by simp [ownE, *]
          have e : topE o v = 3 := by simp [topE, *]
          simp (maxSteps := 1000000) [*]
      . have hkp := pos_len hk
        have e0 : ownE v = 5 := by simp [ownE, *]
        have e : topE o v = 5 := by simp [topE, *]
        simp (maxSteps := 1000000) [*]
    . have hip := pos_len hi
      have e0 : ownE v = 5 := by simp [ownE, *]
      have e : topE o v = 5 := by simp [topE, *]
      simp (maxSteps := 1000000) [*]
  . have e0 : ownE v = 5 := by simp [ownE, *]
    have e : topE o v = 5 := by simp [topE, *]
    simp (maxSteps := 1000000) [*]
set_option maxRecDepth 100000 in
set_option maxHeartbeats 2000000 in
theorem c136_2 (v : V) (o : Bool) (h : v.kind = 2) (H : Heap) (hs : v.s.length ≤ 9223372036854775807) (hc : v.cnt ≤ 1000000000) : Call CC 136 [v.av, .bool o] H = some (.ok (.int .i64 (topE o v)), H) := by
  have g1 := fun H => c207 v.s 40 H hs
  have g2 := fun H => c99 v.s H hs
  have q1 := cnt_keys v
  have q2 := cnt_items v
  have g3 := fun H => c198 v.keys H (by omega)
  have g4 := fun H => c198 v.items H (by omega)
  clear hs
  refine cwp (fn := Tryz.f136) rfl (by kernel_rfl) rfl rfl rfl rfl (by simp) rfl ?_ H
  simp (maxSteps := 1000000) [V.av_eq, *]
  by_cases hn : v.num = 0
  . simp (maxSteps := 1000000) [*]
    by_cases hi : v.items = []
    . simp (maxSteps := 1000000) [*]
      by_cases hk : v.keys = []
      . simp (maxSteps := 1000000) [*]
        by_cases hl : v.s.length ≤ 40
        . have hlp : ¬ 40 < v.s.length := by omega
          have hlr : (v.s.length : Int) ≤ 40 := by omega
          have hlq : ¬ (40 : Int) < v.s.length := by omega
          simp (maxSteps := 1000000) [*]
          by_cases hh : shownB v.s = true
          . simp (maxSteps := 1000000) [*]
            have e0 : ownE v = 0 := by simp [ownE, *]
            have e : topE o v = 0 := by simp [topE, ordE, *]
            cases o
            . simp (maxSteps := 1000000) [*]
            . simp (maxSteps := 1000000) [*]
          . have e0 : ownE v = 7 := by simp [ownE, *]
            have e : topE o v = 7 := by simp [topE, *]
            simp (maxSteps := 1000000) [*]
        . have hlp : 40 < v.s.length := by omega
          have hlq : (40 : Int) < v.s.length := by omega
          have e0 : ownE v = 3 := by simp [ownE, *]
          have e : topE o v = 3 := by simp [topE, *]
          simp (maxSteps := 1000000) [*]
      . have hkp := pos_len hk
        have e0 : ownE v = 5 := by simp [ownE, *]
        have e : topE o v = 5 := by simp [topE, *]
        simp (maxSteps := 1000000) [*]
    . have hip := pos_len hi
      have e0 : ownE v = 5 := by simp [ownE, *]
      have e : topE o v = 5 := by simp [topE, *]
      simp (maxSteps := 1000000) [*]
  . have e0 : ownE v = 5 := by simp [ownE, *]
    have e : topE o v = 5 := by simp [topE, *]
    simp (maxSteps := 1000000) [*]
set_option maxRecDepth 100000 in
set_option maxHeartbeats 2000000 in
theorem c136_3 (v : V) (o : Bool) (h : v.kind = 3) (H : Heap) (hs : v.s.length ≤ 9223372036854775807) (hc : v.cnt ≤ 1000000000) : Call CC 136 [v.av, .bool o] H = some (.ok (.int .i64 (topE o v)), H) := by
  have g1 := fun H => c207 v.s 40 H hs
  have g2 := fun H => c99 v.s H hs
  have q1 := cnt_keys v
  have q2 := cnt_items v
  have g3 := fun H => c198 v.keys H (by omega)
  have g4 := fun H => c198 v.items H (by omega)
  clear hs
  refine cwp (fn := Tryz.f136) rfl (by kernel_rfl) rfl rfl rfl rfl (by simp) rfl ?_ H
  simp (maxSteps := 1000000) [V.av_eq, *]
  by_cases hn : v.num = 0
  . simp (maxSteps := 1000000) [*]
    by_cases hi : v.items = []
    . simp (maxSteps := 1000000) [*]
      by_cases hk : v.keys = []
      . simp (maxSteps := 1000000) [*]
        by_cases hm : nameB v.s = true
        . simp (maxSteps := 1000000) [*]
          have e0 : ownE v = 0 := by simp [ownE, *]
          have e : topE o v = 0 := by simp [topE, ordE, *]
          cases o
          . simp (maxSteps := 1000000) [*]
          . simp (maxSteps := 1000000) [*]
        . have e0 : ownE v = 7 := by simp [ownE, *]
          have e : topE o v = 7 := by simp [topE, *]
          simp (maxSteps := 1000000) [*]
      . have hkp := pos_len hk
        have e0 : ownE v = 5 := by simp [ownE, *]
        have e : topE o v = 5 := by simp [topE, *]
        simp (maxSteps := 1000000) [*]
    . have hip := pos_len hi
      have e0 : ownE v = 5 := by simp [ownE, *]
      have e : topE o v = 5 := by simp [topE, *]
      simp (maxSteps := 1000000) [*]
  . have e0 : ownE v = 5 := by simp [ownE, *]
    have e : topE o v = 5 := by simp [topE, *]
    simp (maxSteps := 1000000) [*]
set_option maxRecDepth 100000 in
set_option maxHeartbeats 2000000 in
theorem c136_4 (v : V) (o : Bool) (h : v.kind = 4) (H : Heap) (hs : v.s.length ≤ 9223372036854775807) (hc : v.cnt ≤ 1000000000) : Call CC 136 [v.av, .bool o] H = some (.ok (.int .i64 (topE o v)), H) := by
  have g1 := fun H => c207 v.s 40 H hs
  have g2 := fun H => c99 v.s H hs
  have q1 := cnt_keys v
  have q2 := cnt_items v
  have g3 := fun H => c198 v.keys H (by omega)
  have g4 := fun H => c198 v.items H (by omega)
  clear hs
  refine cwp (fn := Tryz.f136) rfl (by kernel_rfl) rfl rfl rfl rfl (by simp) rfl ?_ H
  simp (maxSteps := 1000000) [V.av_eq, *]
  by_cases hn : v.num = 0
  . simp (maxSteps := 1000000) [*]
    by_cases hs : v.s = []
    . simp (maxSteps := 1000000) [*]
      by_cases hk : v.keys = []
      . simp (maxSteps := 1000000) [*]
        have e0 : ownE v = 0 := by simp [ownE, *]
        cases o
        . have e : topE false v = 0 := by simp [topE, *]
          simp (maxSteps := 1000000) [*]
        . cases ha : ascL v.items
          . have e : topE true v = 13 := by simp [topE, ordE, *]
            simp (maxSteps := 1000000) [*]
          . have e : topE true v = 0 := by simp [topE, ordE, *]
            simp (maxSteps := 1000000) [*]
      . have hkp := pos_len hk
        have e0 : ownE v = 5 := by simp [ownE, *]
        have e : topE o v = 5 := by simp [topE, *]
        simp (maxSteps := 1000000) [*]
    . have e0 : ownE v = 5 := by simp [ownE, *]
      have e : topE o v = 5 := by simp [topE, *]
      simp (maxSteps := 1000000) [*]
  . have e0 : ownE v = 5 := by simp [ownE, *]
    have e : topE o v = 5 := by simp [topE, *]
    simp (maxSteps := 1000000) [*]
set_option maxRecDepth 100000 in
set_option maxHeartbeats 2000000 in
theorem c136_5 (v : V) (o : Bool) (h : v.kind = 5) (H : Heap) (hs : v.s.length ≤ 9223372036854775807) (hc : v.cnt ≤ 1000000000) : Call CC 136 [v.av, .bool o] H = some (.ok (.int .i64 (topE o v)), H) := by
  have g1 := fun H => c207 v.s 40 H hs
  have g2 := fun H => c99 v.s H hs
  have q1 := cnt_keys v
  have q2 := cnt_items v
  have g3 := fun H => c198 v.keys H (by omega)
  have g4 := fun H => c198 v.items H (by omega)
  clear hs
  refine cwp (fn := Tryz.f136) rfl (by kernel_rfl) rfl rfl rfl rfl (by simp) rfl ?_ H
  simp (maxSteps := 1000000) [V.av_eq, *]
  by_cases hn : v.num = 0
  . simp (maxSteps := 1000000) [*]
    by_cases hs : v.s = []
    . simp (maxSteps := 1000000) [*]
      by_cases he : v.keys.length = v.items.length
      . simp (maxSteps := 1000000) [*]
        have e0 : ownE v = 0 := by simp [ownE, *]
        cases o
        . have e : topE false v = 0 := by simp [topE, *]
          simp (maxSteps := 1000000) [*]
        . cases ha : ascL v.keys
          . have e : topE true v = 13 := by simp [topE, ordE, *]
            simp (maxSteps := 1000000) [*]
          . have e : topE true v = 0 := by simp [topE, ordE, *]
            simp (maxSteps := 1000000) [*]
      . have hep := (by omega : ¬ ((v.keys.length : Int) = v.items.length))
        have e0 : ownE v = 6 := by simp [ownE, *]
        have e : topE o v = 6 := by simp [topE, *]
        simp (maxSteps := 1000000) [*]
    . have e0 : ownE v = 5 := by simp [ownE, *]
      have e : topE o v = 5 := by simp [topE, *]
      simp (maxSteps := 1000000) [*]
  . have e0 : ownE v = 5 := by simp [ownE, *]
    have e : topE o v = 5 := by simp [topE, *]
    simp (maxSteps := 1000000) [*]
set_option maxRecDepth 100000 in
set_option maxHeartbeats 2000000 in
theorem c136 (v : V) (o : Bool) (H : Heap) (hs : v.s.length ≤ 9223372036854775807) (hc : v.cnt ≤ 1000000000) : Call CC 136 [v.av, .bool o] H = some (.ok (.int .i64 (topE o v)), H) := by
  by_cases h0 : ¬ (0 ≤ v.kind /\ v.kind ≤ 5)
  . have e : ownE v = 4 := by unfold ownE; rw [if_pos h0]
    refine cwp (fn := Tryz.f136) rfl (by kernel_rfl) rfl rfl rfl rfl (by simp) rfl ?_ H
    have e1 : topE o v = 4 := by simp [topE, e]
    by_cases h1 : 0 ≤ v.kind
    . have h2 : ¬ v.kind ≤ 5 := fun h => h0 ⟨h1, h⟩
      simp [V.av_eq, h1, h2, e1]
    . simp [V.av_eq, h1, e1]
  . have hk6 : v.kind = 0 \/ v.kind = 1 \/ v.kind = 2 \/ v.kind = 3 \/ v.kind = 4 \/ v.kind = 5 := by omega
    rcases hk6 with h | h | h | h | h | h
    . exact c136_0 v o h H hs hc
    . exact c136_1 v o h H hs hc
    . exact c136_2 v o h H hs hc
    . exact c136_3 v o h H hs hc
    . exact c136_4 v o h H hs hc
    . exact c136_5 v o h H hs hc
theorem c77 (v : V) (H : Heap) (hc : v.cnt ≤ 1000000000) : Call CC 77 [v.av] H = some (.ok (.int .i64 (ordE v)), H) := by
  have q1 := cnt_keys v
  have q2 := cnt_items v
  have g3 := fun H => c134 v.keys H (by omega)
  have g4 := fun H => c134 v.items H (by omega)
  refine cwp (fn := Tryz.f77) rfl (by kernel_rfl) rfl rfl rfl rfl (by simp) rfl ?_ H
  by_cases h4 : v.kind = 4
  . cases ha : ascL v.items
    . simp [V.av_eq, h4, g4, ordE, ha]
    . simp [V.av_eq, h4, g4, ordE, ha]
  . by_cases h5 : v.kind = 5
    . cases ha : ascL v.keys
      . simp [V.av_eq, h5, g3, ordE, ha]
      . simp [V.av_eq, h5, g3, ordE, ha]
    . simp [V.av_eq, h4, h5, ordE]
end Go.Tv
