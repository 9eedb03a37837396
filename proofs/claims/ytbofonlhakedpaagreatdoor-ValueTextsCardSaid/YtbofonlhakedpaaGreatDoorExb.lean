/-
  What the functions of chapter 8 compute: the error of a value alone, by the program.
-/
import Derived.Test.YtbofonlhakedpaaGreatDoorExa
namespace Go.Tv
open Go.Proofs
theorem sz148 : szOf CC 148 = some 1 := by kernel_rfl
theorem el148 : elemT CC 148 = some 27 := by kernel_rfl
theorem und148 : CC.P.underlying 148 = some (.slice 27) := by kernel_rfl
theorem sz27 : szOf CC 27 = some 1 := by kernel_rfl
theorem ag27 : aggT CC 27 = some false := by kernel_rfl
theorem zero27 : zeroOf CC 27 = some (.int .i64 0) := by kernel_rfl
attribute [simp] sz148 el148 und148 sz27 ag27 zero27
theorem beq_nil (s : List UInt8) : (s == []) = decide (s = []) := by cases s <;> rfl
attribute [simp] beq_nil c29 c87
theorem pos_len {α : Type} {l : List α} (h : ¬ l = []) : 0 < l.length := by cases l with | nil => exact absurd rfl h | cons => simp
set_option maxRecDepth 100000 in
set_option maxHeartbeats 2000000 in
theorem c76_0 (v : V) (h : v.kind = 0) (H : Heap) (hs : v.s.length ≤ 9223372036854775807) : Call CC 76 [v.av] H = some (.ok (.int .i64 (ownE v)), H) := by
  have g1 := fun H => c132 v.s H hs
  have g2 := fun H => c133 v.s H hs
  clear hs
  refine cwp (fn := Tryz.f76) rfl (by kernel_rfl) rfl rfl rfl rfl (by simp) rfl ?_ H
  simp (maxSteps := 1000000) [V.av_eq, *]
  by_cases hs : v.s = []
  . simp (maxSteps := 1000000) [*]
    by_cases hi : v.items = []
    . simp (maxSteps := 1000000) [*]
      by_cases hk : v.keys = []
      . simp (maxSteps := 1000000) [*]
        by_cases hb : 0 ≤ v.num
        . simp (maxSteps := 1000000) [*]
          by_cases hb2 : v.num ≤ 1
          . simp (maxSteps := 1000000) [*]
            simp [ownE, *]
          . have e : ownE v = 5 := by simp [ownE, *]
            simp (maxSteps := 1000000) [*]
        . have e : ownE v = 5 := by simp [ownE, *]
          simp (maxSteps := 1000000) [*]
      . have hkp := pos_len hk
        have e : ownE v = 5 := by simp [ownE, *]
        simp (maxSteps := 1000000) [*]
    . have hip := pos_len hi
      have e : ownE v = 5 := by simp [ownE, *]
      simp (maxSteps := 1000000) [*]
  . have e : ownE v = 5 := by simp [ownE, *]
    simp (maxSteps := 1000000) [*]
set_option maxRecDepth 100000 in
set_option maxHeartbeats 2000000 in
theorem c76_1 (v : V) (h : v.kind = 1) (H : Heap) (hs : v.s.length ≤ 9223372036854775807) : Call CC 76 [v.av] H = some (.ok (.int .i64 (ownE v)), H) := by
  have g1 := fun H => c132 v.s H hs
  have g2 := fun H => c133 v.s H hs
  clear hs
  refine cwp (fn := Tryz.f76) rfl (by kernel_rfl) rfl rfl rfl rfl (by simp) rfl ?_ H
  simp (maxSteps := 1000000) [V.av_eq, *]
  by_cases hs : v.s = []
  . simp (maxSteps := 1000000) [*]
    by_cases hi : v.items = []
    . simp (maxSteps := 1000000) [*]
      by_cases hk : v.keys = []
      . simp (maxSteps := 1000000) [*]
        by_cases hb : -10000 ≤ v.num
        . simp (maxSteps := 1000000) [*]
          by_cases hb2 : v.num ≤ 10000
          . simp (maxSteps := 1000000) [*]
            simp [ownE, *]
          . have e : ownE v = 3 := by simp [ownE, *]
            simp (maxSteps := 1000000) [*]
        . have e : ownE v = 3 := by simp [ownE, *]
          simp (maxSteps := 1000000) [*]
      . have hkp := pos_len hk
        have e : ownE v = 5 := by simp [ownE, *]
        simp (maxSteps := 1000000) [*]
    . have hip := pos_len hi
      have e : ownE v = 5 := by simp [ownE, *]
      simp (maxSteps := 1000000) [*]
  . have e : ownE v = 5 := by simp [ownE, *]
    simp (maxSteps := 1000000) [*]
set_option maxRecDepth 100000 in
set_option maxHeartbeats 2000000 in
theorem c76_2 (v : V) (h : v.kind = 2) (H : Heap) (hs : v.s.length ≤ 9223372036854775807) : Call CC 76 [v.av] H = some (.ok (.int .i64 (ownE v)), H) := by
  have g1 := fun H => c132 v.s H hs
  have g2 := fun H => c133 v.s H hs
  clear hs
  refine cwp (fn := Tryz.f76) rfl (by kernel_rfl) rfl rfl rfl rfl (by simp) rfl ?_ H
  simp (maxSteps := 1000000) [V.av_eq, *]
  by_cases hn : v.num = 0
  . simp (maxSteps := 1000000) [*]
    by_cases hi : v.items = []
    . simp (maxSteps := 1000000) [*]
      by_cases hk : v.keys = []
      . simp (maxSteps := 1000000) [*]
        by_cases hl : v.s.length ≤ 40
        . have hlp : ¬ 40 < v.s.length := by omega
          have hlr : (v.s.length : Int) ≤ 40 := by omega
          have hlq : ¬ (40 : Int) < v.s.length := by omega
          simp (maxSteps := 1000000) [*]
          by_cases hh : shownB v.s = true
          . simp (maxSteps := 1000000) [*]
            simp [ownE, *]
          . have e : ownE v = 7 := by simp [ownE, *]
            simp (maxSteps := 1000000) [*]
        . have hlp : 40 < v.s.length := by omega
          have hlq : (40 : Int) < v.s.length := by omega
          have e : ownE v = 3 := by simp [ownE, *]
          simp (maxSteps := 1000000) [*]
      . have hkp := pos_len hk
        have e : ownE v = 5 := by simp [ownE, *]
        simp (maxSteps := 1000000) [*]
    . have hip := pos_len hi
      have e : ownE v = 5 := by simp [ownE, *]
      simp (maxSteps := 1000000) [*]
  . have e : ownE v = 5 := by simp [ownE, *]
    simp (maxSteps := 1000000) [*]
set_option maxRecDepth 100000 in
set_option maxHeartbeats 2000000 in
theorem c76_3 (v : V) (h : v.kind = 3) (H : Heap) (hs : v.s.length ≤ 9223372036854775807) : Call CC 76 [v.av] H = some (.ok (.int .i64 (ownE v)), H) := by
  have g1 := fun H => c132 v.s H hs
  have g2 := fun H => c133 v.s H hs
  clear hs
  refine cwp (fn := Tryz.f76) rfl (by kernel_rfl) rfl rfl rfl rfl (by simp) rfl ?_ H
  simp (maxSteps := 1000000) [V.av_eq, *]
  by_cases hn : v.num = 0
  . simp (maxSteps := 1000000) [*]
    by_cases hi : v.items = []
    . simp (maxSteps := 1000000) [*]
      by_cases hk : v.keys = []
      . simp (maxSteps := 1000000) [*]
        by_cases hm : nameB v.s = true
        . simp (maxSteps := 1000000) [*]
          simp [ownE, *]
        . have e : ownE v = 7 := by simp [ownE, *]
          simp (maxSteps := 1000000) [*]
      . have hkp := pos_len hk
        have e : ownE v = 5 := by simp [ownE, *]
        simp (maxSteps := 1000000) [*]
    . have hip := pos_len hi
      have e : ownE v = 5 := by simp [ownE, *]
      simp (maxSteps := 1000000) [*]
  . have e : ownE v = 5 := by simp [ownE, *]
    simp (maxSteps := 1000000) [*]
set_option maxRecDepth 100000 in
set_option maxHeartbeats 2000000 in
theorem c76_4 (v : V) (h : v.kind = 4) (H : Heap) (hs : v.s.length ≤ 9223372036854775807) : Call CC 76 [v.av] H = some (.ok (.int .i64 (ownE v)), H) := by
  have g1 := fun H => c132 v.s H hs
  have g2 := fun H => c133 v.s H hs
  clear hs
  refine cwp (fn := Tryz.f76) rfl (by kernel_rfl) rfl rfl rfl rfl (by simp) rfl ?_ H
  simp (maxSteps := 1000000) [V.av_eq, *]
  by_cases hn : v.num = 0
  . simp (maxSteps := 1000000) [*]
    by_cases hs : v.s = []
    . simp (maxSteps := 1000000) [*]
      by_cases hk : v.keys = []
      . simp (maxSteps := 1000000) [*]
        simp [ownE, *]
      . have hkp := pos_len hk
        have e : ownE v = 5 := by simp [ownE, *]
        simp (maxSteps := 1000000) [*]
    . have e : ownE v = 5 := by simp [ownE, *]
      simp (maxSteps := 1000000) [*]
  . have e : ownE v = 5 := by simp [ownE, *]
    simp (maxSteps := 1000000) [*]
set_option maxRecDepth 100000 in
set_option maxHeartbeats 2000000 in
theorem c76_5 (v : V) (h : v.kind = 5) (H : Heap) (hs : v.s.length ≤ 9223372036854775807) : Call CC 76 [v.av] H = some (.ok (.int .i64 (ownE v)), H) := by
  have g1 := fun H => c132 v.s H hs
  have g2 := fun H => c133 v.s H hs
  clear hs
  refine cwp (fn := Tryz.f76) rfl (by kernel_rfl) rfl rfl rfl rfl (by simp) rfl ?_ H
  simp (maxSteps := 1000000) [V.av_eq, *]
  by_cases hn : v.num = 0
  . simp (maxSteps := 1000000) [*]
    by_cases hs : v.s = []
    . simp (maxSteps := 1000000) [*]
      by_cases he : v.keys.length = v.items.length
      . simp (maxSteps := 1000000) [*]
        simp [ownE, *]
      . have hep := (by omega : ¬ ((v.keys.length : Int) = v.items.length))
        have e : ownE v = 6 := by simp [ownE, *]
        simp (maxSteps := 1000000) [*]
    . have e : ownE v = 5 := by simp [ownE, *]
      simp (maxSteps := 1000000) [*]
  . have e : ownE v = 5 := by simp [ownE, *]
    simp (maxSteps := 1000000) [*]
set_option maxRecDepth 100000 in
set_option maxHeartbeats 2000000 in
theorem c76 (v : V) (H : Heap) (hs : v.s.length ≤ 9223372036854775807) : Call CC 76 [v.av] H = some (.ok (.int .i64 (ownE v)), H) := by
  by_cases h0 : ¬ (0 ≤ v.kind /\ v.kind ≤ 5)
  . have e : ownE v = 4 := by unfold ownE; rw [if_pos h0]
    refine cwp (fn := Tryz.f76) rfl (by kernel_rfl) rfl rfl rfl rfl (by simp) rfl ?_ H
    by_cases h1 : 0 ≤ v.kind
    . have h2 : ¬ v.kind ≤ 5 := fun h => h0 ⟨h1, h⟩
      simp [V.av_eq, h1, h2, e]
    . simp [V.av_eq, h1, e]
  . have hk6 : v.kind = 0 \/ v.kind = 1 \/ v.kind = 2 \/ v.kind = 3 \/ v.kind = 4 \/ v.kind = 5 := by omega
    rcases hk6 with h | h | h | h | h | h
    . exact c76_0 v h H hs
    . exact c76_1 v h H hs
    . exact c76_2 v h H hs
    . exact c76_3 v h H hs
    . exact c76_4 v h H hs
    . exact c76_5 v h H hs
end Go.Tv
