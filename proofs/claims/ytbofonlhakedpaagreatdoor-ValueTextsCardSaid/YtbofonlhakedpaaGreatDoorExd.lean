/-
  What the functions of chapter 8 compute: the errors of values.
-/
import Derived.Test.YtbofonlhakedpaaGreatDoorExc
namespace Go.Tv
open Go.Proofs
theorem errL_drop (o : Bool) (l : List V) (i : Nat) (h : i < l.length) : errL o (l.drop i) = if errV o l[i] ≠ 0 then errV o l[i] else errL o (l.drop (i + 1)) := by
  rw [List.drop_eq_getElem_cons h, errL]
def IFst (l : List Int) (i : Nat) (t : List AV) (_H : Heap) : Prop := i ≤ l.length /\ firstNZ l = firstNZ (l.drop i) /\ Fit [some (.list (il l) none), none, some (.int .i64 0), none, none, some (.list (il l) none), some (.int .i64 l.length), some (.int .i64 i), none, none, none, none, none, none, none] t
theorem c75 (l : List Int) (H : Heap) (hl : l.length ≤ 1000000000) : Call CC 75 [.list (il l) none] H = some (.ok (.int .i64 (firstNZ l)), H) := by
  refine cwp (fn := Tryz.f75) rfl (by kernel_rfl) rfl rfl rfl rfl (by simp) rfl ?_ H
  simp
  refine st_iter (IFst l) l.length ?_ ?_
  . simp [IFst]
  . rintro i t H ⟨hi, hd, ht⟩
    obtain ⟨d, rfl⟩ := ht.elim
    clear ht
    refine ⟨hi, ?_⟩
    simp
    cases hb : decide (i < l.length)
    . have hb' : i = l.length := by have : ¬ i < l.length := by simpa using hb
                                    omega
      simp [hd, hb', firstNZ]
    . have hb' : i < l.length := by simpa using hb
      have e1 := firstNZ_drop l i hb'
      have w1 := wrapI (i := i + 1) (by omega) (by omega)
      cases he : decide (l[i] = 0)
      . have he' : ¬ l[i] = 0 := by simpa using he
        rw [if_neg he'] at e1
        simp [hb', he', hd, e1]
      . have he' : l[i] = 0 := by simpa using he
        rw [if_pos he'] at e1
        simp [hb', he', w1, IFst, hd, e1]
        omega
theorem c74 (v : V) (H : Heap) (hs : v.s.length ≤ 9223372036854775807) (hc : v.cnt ≤ 1000000000) : Call CC 74 [v.av] H = some (.ok (.int .i64 (topE true v)), H) := by
  have g1 := fun H => c76 v H hs
  have g2 := fun H => c77 v H hc
  have g3 := fun H => c75 [ownE v, ordE v] H (by simp)
  simp only [il] at g3
  refine cwp (fn := Tryz.f74) rfl (by kernel_rfl) rfl rfl rfl rfl (by simp) rfl ?_ H
  rw [V.av_eq] at g1 g2
  have e : topE true v = firstNZ [ownE v, ordE v] := by
    simp only [topE, firstNZ, if_true]
    by_cases h : ownE v = 0 <;> by_cases h2 : ordE v = 0 <;> simp [h, h2]
  rw [e]
  simp [V.av_eq, g1, g2, g3]
  refine (?_ : drawE _ _ _ = true)
  kernel_rfl
theorem sz147 : szOf CC 147 = some 1 := by kernel_rfl
theorem el147 : elemT CC 147 = some 22 := by kernel_rfl
theorem und147 : CC.P.underlying 147 = some (.slice 22) := by kernel_rfl
theorem zero22 : zeroOf CC 22 = some .empty := by kernel_rfl
attribute [simp] sz147 el147 und147 zero22
def WithV (o : Bool) (v : V) : Prop := ∀ H : Heap, v.str -> v.cnt ≤ 1000000000 -> Call CC 80 [v.av, .bool o] H = some (.ok (.int .i64 (errV o v)), H)
def IW1 (o : Bool) (v : V) (i : Nat) (t : List AV) (H : Heap) : Prop := i ≤ v.keys.length /\ errL o v.keys = errL o (v.keys.drop i) /\ H = [.cells [.int .i64 v.kind, .int .i64 v.num, .str v.s, .list (avs v.keys) none, .list (avs v.items) none] 24] /\ Fit [some (.agg [.int .i64 v.kind, .int .i64 v.num, .str v.s, .list (avs v.keys) none, .list (avs v.items) none]), some (.bool o), some (.ptr 0 0), none, some (.int .i64 0), none, some (.int .i64 i), none, none, none, none, none, none, none, none, none, none, none, none, none, none, none, none, none, none, none, none, none, none, none, none, none, none, none, none, none, none, none, none, none, none, none, none, none, none, none, none, none, none, none] t
def IW2 (o : Bool) (v : V) (i : Nat) (t : List AV) (H : Heap) : Prop := i ≤ v.items.length /\ errL o v.items = errL o (v.items.drop i) /\ H = [.cells [.int .i64 v.kind, .int .i64 v.num, .str v.s, .list (avs v.keys) none, .list (avs v.items) none] 24] /\ Fit [some (.agg [.int .i64 v.kind, .int .i64 v.num, .str v.s, .list (avs v.keys) none, .list (avs v.items) none]), some (.bool o), some (.ptr 0 0), none, some (.int .i64 0), none, none, none, some (.int .i64 i), none, none, none, none, none, none, none, none, none, none, none, none, none, none, none, none, none, none, none, none, none, none, none, none, none, none, none, none, none, none, none, none, none, none, none, none, none, none, none, none, none] t
theorem with_of (o : Bool) (v : V) (hk : ∀ x ∈ v.keys, WithV o x) (hi : ∀ x ∈ v.items, WithV o x) : WithV o v := by
  intro H hs hc
  rw [V.str_eq] at hs
  have q1 := cnt_keys v
  have q2 := cnt_items v
  have g0 := fun H => c136 v o H hs.1 hc
  rw [V.av_eq] at g0
  have hI := hi
  clear hi
  refine cwp (fn := Tryz.f80) rfl (by kernel_rfl) rfl rfl rfl rfl (by simp) rfl ?_ H
  simp [V.av_eq, g0]
  cases h0 : decide (topE o v = 0)
  . have h0' : ¬ topE o v = 0 := by simpa using h0
    have e2 : errV o v = topE o v := by rw [errV_eq, if_pos h0']
    simp [e2]
  . have ht0 : topE o v = 0 := by simpa using h0
    simp
    refine st_iter (IW1 o v) v.keys.length ?_ ?_
    . simp [IW1]
    . rintro i t H ⟨hi, hd, rfl, ht⟩
      obtain ⟨d, rfl⟩ := ht.elim
      clear ht
      refine ⟨hi, ?_⟩
      simp
      cases hb : decide (i < v.keys.length)
      . have hb' : i = v.keys.length := by simp at hb; omega
        have hd' : errL o v.keys = 0 := by rw [hd, hb', List.drop_length]; rfl
        simp
        have hk0 := hd'
        refine st_iter (IW2 o v) v.items.length ?_ ?_
        . simp [IW2]
        . rintro i t H ⟨hi, hd, rfl, ht⟩
          obtain ⟨d, rfl⟩ := ht.elim
          clear ht
          refine ⟨hi, ?_⟩
          simp
          cases hb : decide (i < v.items.length)
          . have hb' : i = v.items.length := by simp at hb; omega
            have hd' : errL o v.items = 0 := by rw [hd, hb', List.drop_length]; rfl
            have e2 : errV o v = 0 := by rw [errV_eq, if_neg (by simp [ht0]), if_neg (by simp [hk0]), hd']
            simp [e2]
          . have hb' : i < v.items.length := by simpa using hb
            have q5 := cnt_mem (List.getElem_mem hb')
            have q6 := len_cnts v.items
            have g1 := fun H => hI v.items[i] (List.getElem_mem hb') H (str_mem hs.2.2 _ (List.getElem_mem hb')) (by omega)
            rw [V.av_eq] at g1
            have e1 := errL_drop o v.items i hb'
            have w1 := wrapI (i := i + 1) (by omega) (by omega)
            simp [hb', V.av_eq, g1]
            cases he : decide (errV o v.items[i] = 0)
            . have he' : ¬ errV o v.items[i] = 0 := by simpa using he
              rw [if_pos he', <- hd] at e1
              have e2 : errV o v = errV o v.items[i] := by rw [errV_eq, if_neg (by simp [ht0]), if_neg (by simp [hk0]), e1]
              simp [e2]
            . have he' : errV o v.items[i] = 0 := by simpa using he
              rw [if_neg (by simp [he'])] at e1
              simp [w1, IW2, hd, e1]
              omega
      . have hb' : i < v.keys.length := by simpa using hb
        have q5 := cnt_mem (List.getElem_mem hb')
        have q6 := len_cnts v.keys
        have g1 := fun H => hk v.keys[i] (List.getElem_mem hb') H (str_mem hs.2.1 _ (List.getElem_mem hb')) (by omega)
        rw [V.av_eq] at g1
        have e1 := errL_drop o v.keys i hb'
        have w1 := wrapI (i := i + 1) (by omega) (by omega)
        simp [hb', V.av_eq, g1]
        cases he : decide (errV o v.keys[i] = 0)
        . have he' : ¬ errV o v.keys[i] = 0 := by simpa using he
          rw [if_pos he', <- hd] at e1
          have e2 : errV o v = errV o v.keys[i] := by rw [errV_eq, if_neg (by simp [ht0]), if_pos (by rw [e1]; exact he'), e1]
          simp [e2]
        . have he' : errV o v.keys[i] = 0 := by simpa using he
          rw [if_neg (by simp [he'])] at e1
          simp [w1, IW1, hd, e1]
          omega
theorem with_all (o : Bool) (v : V) : WithV o v := V.ind (P := WithV o) (fun v h1 h2 => with_of o v h1 h2) v
theorem c80 (v : V) (o : Bool) (H : Heap) (hs : v.str) (hc : v.cnt ≤ 1000000000) : Call CC 80 [v.av, .bool o] H = some (.ok (.int .i64 (errV o v)), H) := with_all o v H hs hc
def WalkV (v : V) : Prop := ∀ H : Heap, v.str -> v.cnt ≤ 1000000000 -> Call CC 73 [v.av, .fn (.func 74) [] []] H = some (.ok (.int .i64 (errV true v)), H)
def IK (v : V) (i : Nat) (t : List AV) (_H : Heap) : Prop := i ≤ 2 /\ (0 < i -> errL true v.keys = 0) /\ (1 < i -> errL true v.items = 0) /\ Fit [some (.agg [.int .i64 v.kind, .int .i64 v.num, .str v.s, .list (avs v.keys) none, .list (avs v.items) none]), some (.fn (.func 74) [] []), some (.ptr 0 0), none, some (.int .i64 0), none, none, none, none, none, none, none, none, none, none, none, none, none, none, none, none, some (.list [.list (avs v.keys) none, .list (avs v.items) none] none), some (.int .i64 2), some (.int .i64 i), none, none, none, none, none, none, none, none, none, none, none, none, none, none, none, none, none] t
def IK2 (v : V) (l : List V) (n : Int) (i : Nat) (t : List AV) (_H : Heap) : Prop := i ≤ l.length /\ errL true l = errL true (l.drop i) /\ Fit [some (.agg [.int .i64 v.kind, .int .i64 v.num, .str v.s, .list (avs v.keys) none, .list (avs v.items) none]), some (.fn (.func 74) [] []), some (.ptr 0 0), none, some (.int .i64 0), none, none, none, none, none, none, none, none, none, none, none, none, none, none, none, none, some (.list [.list (avs v.keys) none, .list (avs v.items) none] none), some (.int .i64 2), some (.int .i64 n), none, none, none, some (.list (avs l) none), some (.int .i64 l.length), some (.int .i64 i), none, none, none, none, none, none, none, none, none, none, none] t
theorem walk_of (v : V) (hk : ∀ x ∈ v.keys, WalkV x) (hI : ∀ x ∈ v.items, WalkV x) : WalkV v := by
  intro H hs hc
  rw [V.str_eq] at hs
  have q1 := cnt_keys v
  have q2 := cnt_items v
  have g0 := fun H => c74 v H hs.1 hc
  rw [V.av_eq] at g0
  have w2 : IntKind.i64.wrap 1 = 1 := rfl
  have w3 : IntKind.i64.wrap (1 + 1) = 2 := rfl
  refine cwp (fn := Tryz.f73) rfl (by kernel_rfl) rfl rfl rfl rfl (by simp) rfl ?_ H
  simp [V.av_eq, g0]
  cases h0 : decide (topE true v = 0)
  . have h0' : ¬ topE true v = 0 := by simpa using h0
    have e2 : errV true v = topE true v := by rw [errV_eq, if_pos h0']
    simp [e2]
  . have ht0 : topE true v = 0 := by simpa using h0
    simp
    refine st_iter (IK v) 2 ?_ ?_
    . simp [IK]
    . rintro n t H ⟨hi, h1, h2, ht⟩
      obtain ⟨d, rfl⟩ := ht.elim
      clear ht
      refine ⟨hi, ?_⟩
      have hn : n = 0 \/ n = 1 \/ n = 2 := by omega
      rcases hn with rfl | rfl | rfl
      . simp [idx]
        refine st_iter (IK2 v v.keys 0) v.keys.length ?_ ?_
        . simp [IK2]
        . rintro i t H ⟨hi, hd, ht⟩
          obtain ⟨d, rfl⟩ := ht.elim
          clear ht
          refine ⟨hi, ?_⟩
          simp
          cases hb : decide (i < v.keys.length)
          . have hb' : i = v.keys.length := by simp at hb; omega
            have hd' : errL true v.keys = 0 := by rw [hd, hb', List.drop_length]; rfl
            simp [IK, hd', w2]
          . have hb' : i < v.keys.length := by simpa using hb
            have q5 := cnt_mem (List.getElem_mem hb')
            have q6 := len_cnts v.keys
            have g1 := fun H => hk v.keys[i] (List.getElem_mem hb') H (str_mem hs.2.1 _ (List.getElem_mem hb')) (by omega)
            rw [V.av_eq] at g1
            have e1 := errL_drop true v.keys i hb'
            have w1 := wrapI (i := i + 1) (by omega) (by omega)
            simp [hb', V.av_eq, g1]
            cases he : decide (errV true v.keys[i] = 0)
            . have he' : ¬ errV true v.keys[i] = 0 := by simpa using he
              rw [if_pos he', <- hd] at e1
              have e2 : errV true v = errV true v.keys[i] := by rw [errV_eq, if_neg (by simp [ht0]), if_pos (by rw [e1]; exact he'), e1]
              simp [e2]
            . have he' : errV true v.keys[i] = 0 := by simpa using he
              rw [if_neg (by simp [he'])] at e1
              simp [w1, IK2, hd, e1]
              omega
      . have hk0 := h1 (by omega)
        simp [idx]
        refine st_iter (IK2 v v.items 1) v.items.length ?_ ?_
        . simp [IK2]
        . rintro i t H ⟨hi, hd, ht⟩
          obtain ⟨d, rfl⟩ := ht.elim
          clear ht
          refine ⟨hi, ?_⟩
          simp
          cases hb : decide (i < v.items.length)
          . have hb' : i = v.items.length := by simp at hb; omega
            have hd' : errL true v.items = 0 := by rw [hd, hb', List.drop_length]; rfl
            simp [IK, hd', h1]
            rfl
          . have hb' : i < v.items.length := by simpa using hb
            have q5 := cnt_mem (List.getElem_mem hb')
            have q6 := len_cnts v.items
            have g1 := fun H => hI v.items[i] (List.getElem_mem hb') H (str_mem hs.2.2 _ (List.getElem_mem hb')) (by omega)
            rw [V.av_eq] at g1
            have e1 := errL_drop true v.items i hb'
            have w1 := wrapI (i := i + 1) (by omega) (by omega)
            simp [hb', V.av_eq, g1]
            cases he : decide (errV true v.items[i] = 0)
            . have he' : ¬ errV true v.items[i] = 0 := by simpa using he
              rw [if_pos he', <- hd] at e1
              have e2 : errV true v = errV true v.items[i] := by rw [errV_eq, if_neg (by simp [ht0]), if_neg (by simp [hk0]), e1]
              simp [e2]
            . have he' : errV true v.items[i] = 0 := by simpa using he
              rw [if_neg (by simp [he'])] at e1
              simp [w1, IK2, hd, e1]
              omega
      . have e2 : errV true v = 0 := by rw [errV_eq, if_neg (by simp [ht0]), if_neg (by simp [h1]), h2 (by omega)]
        simp [e2]
theorem c73 (v : V) (H : Heap) (hs : v.str) (hc : v.cnt ≤ 1000000000) : Call CC 73 [v.av, .fn (.func 74) [] []] H = some (.ok (.int .i64 (errV true v)), H) :=
  V.ind (P := WalkV) (fun v h1 h2 => walk_of v h1 h2) v H hs hc
theorem c15 (v : V) (H : Heap) (hs : v.str) (hc : v.cnt ≤ 1000000000) : Call CC 15 [v.av] H = some (.ok (.int .i64 (chkE v)), H) := by
  have g1 := fun H => c72 v H hc
  have g2 := fun H => c73 v H hs hc
  rw [V.av_eq] at g1 g2
  refine cwp (fn := Tryz.f15) rfl (by kernel_rfl) rfl rfl rfl rfl (by simp) rfl ?_ H
  unfold chkE
  cases h : v.small 300 8
  . simp [V.av_eq, g1, h]
  . simp [V.av_eq, g1, g2, h]
theorem c18 (v : V) (H : Heap) (hs : v.str) (hc : v.cnt ≤ 1000000000) : Call CC 18 [v.av] H = some (.ok (.int .i64 (chkE v)), H) := by
  have g1 := fun H => c28 v H
  have g2 := fun H => c80 v true H hs hc
  rw [V.av_eq] at g1 g2
  refine cwp (fn := Tryz.f18) rfl (by kernel_rfl) rfl rfl rfl rfl (by simp) rfl ?_ H
  unfold chkE
  cases h : v.small 300 8
  . simp [V.av_eq, g1, h]
  . simp [V.av_eq, g1, g2, h]
def chkL : List V -> Int
  | [] => 0
  | v :: r => if chkE v ≠ 0 then chkE v else chkL r
end Go.Tv
