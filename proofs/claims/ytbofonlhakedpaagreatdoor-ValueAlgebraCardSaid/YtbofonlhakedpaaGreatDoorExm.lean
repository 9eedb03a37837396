/-
  What the functions of chapter 8 compute: Except.
-/
import Derived.Test.YtbofonlhakedpaaGreatDoorExl
/- own and owns, OwnValue and OwnValues, whose rows may be written. -/
namespace Go.Tv
open Go.Proofs
set_option maxHeartbeats 4000000
/-- A row of its own, in memory from n on. -/
def NSo (n : Nat) (l : List V) (v : AV) (H : Heap) : Prop := (l = [] ∧ v = .empty) ∨ ∃ id, n ≤ id ∧ l ≠ [] ∧ v = .slc id 0 l.length 5 true ∧ H[id]? = some (arrV l)
theorem NSo.app {n : Nat} {l : List V} {v : AV} {H : Heap} (h : NSo n l v H) (L : Heap) : NSo n l v (H ++ L) := by
  rcases h with h | ⟨id, h1, h2, h3, h4⟩
  · exact .inl h
  · exact .inr ⟨id, h1, h2, h3, app_get h4 _⟩
theorem app_NSo {z : Bool} {al : FuncId → FuncId} {n : Nat} {l : List V} {v : AV} {H : Heap} (h : NSo n l v H) (x : V) (hn : n ≤ H.length) (hc : l.length + 1 ≤ 1000000000) :
    ∃ v' H', aappB (CX z true al) [22, 22] [v, .list [x.av] none] H = some (v', H') ∧ NSo n (l ++ [x]) v' H' ∧ H.length ≤ H'.length ∧ ∀ j, j < n → H'[j]? = H[j]? := by
  rcases h with ⟨rfl, rfl⟩ | ⟨id, h1, h2, rfl, h4⟩
  · have e := app_new (z := z) (al := al) [x] (by simp) (by simp) rfl H
    exact ⟨_, _, e, .inr ⟨H.length, hn, by simp, by simp, by simp⟩, by simp, fun j hj => by rw [List.getElem?_append_left (by omega)]⟩
  · have e := app_slc (z := z) (a := true) (al := al) id l.length l [x] H h4 (Nat.le_refl _) (by simp) (by simpa using hc)
    rw [List.take_length] at e
    exact ⟨_, _, e, .inr ⟨H.length, hn, by simp, by simp, by simp⟩, by simp, fun j hj => by rw [List.getElem?_append_left (by simp; omega), List.getElem?_set_ne (by omega)]⟩
def OwnR (n : Nat) (l : List V) (v : AV) (H : Heap) : Prop := (l = [] ∧ v = .list [] none) ∨ ∃ id, n ≤ id ∧ l ≠ [] ∧ v = .slc id 0 l.length 5 true ∧ H[id]? = some (arrV l)
theorem NSo.own {n : Nat} {l : List V} {v : AV} {H : Heap} (h : NSo n l v H) : OwnR n l v.erase H := by
  rcases h with ⟨h1, rfl⟩ | ⟨id, h1, h2, rfl, h4⟩
  · exact .inl ⟨h1, by simp⟩
  · exact .inr ⟨id, h1, h2, by simp, h4⟩
def I97 (l : List V) (M : Heap) (i : Nat) (t : List AV) (H : Heap) : Prop := ∃ v, i ≤ l.length ∧ M.length ≤ H.length ∧ NSo M.length (l.take i) v H ∧ (∀ j, j < M.length → H[j]? = M[j]?) ∧ Fit [some (.list (avs l) none), none, some (.empty), some (v), none, none, some (.list (avs l) none), some (.int .i64 l.length), some (.int .i64 i), none, none, none, none, none, none, none, none, none, none] t
def I78 (l : List V) (M : Heap) (i : Nat) (t : List AV) (H : Heap) : Prop := ∃ v, i ≤ l.length ∧ M.length ≤ H.length ∧ NSo M.length (l.take i) v H ∧ (∀ j, j < M.length → H[j]? = M[j]?) ∧ Fit [some (.list (avs l) none), none, some (.empty), some (v), some (.int .i64 i), none, none, none, none, none, none, none, none, none, none, none, none, none, none, none] t
theorem c10097 (l : List V) (hc : cnts l ≤ 100000000) (H : Heap) : ∃ v H', Call CC 10097 [.list (avs l) none] H = some (.ok v, H') ∧ OwnR H.length l v H' ∧ H.length ≤ H'.length ∧ ∀ j, j < H.length → H'[j]? = H[j]? := by
  have q6 := len_cnts l
  have key := call_objsF (C := CC) (C' := CX false true al0) (f := 10097) (fn := Tryz.f97) (args := [.list (avs l) none]) (H := H) (R := []) (fz := false)
    (P := fun v H1 => OwnR H.length l v H1) rfl rfl rfl (by kernel_rfl) rfl rfl rfl (Bool.and_false _) (by simp [reachL, reach, idsL, AV.ids]) (by simp [closed, idsL, AV.ids]) rfl rfl rfl rfl ?_
  · obtain ⟨v, H1, H', k1, k2, k5, k6, k7, k8, k9⟩ := key
    refine ⟨v, H', k1, ?_, by omega, fun j hj => k8 j hj (by simp)⟩
    rcases k2 with h | ⟨id, h1, h2, h3, h4⟩
    · exact .inl h
    · exact .inr ⟨id, h1, h2, h3, by rw [k9 id h1, h4]⟩
  · intro M hM _
    simp
    refine st_iter (I97 l M) l.length ?_ ?_
    · exact ⟨.empty, by omega, Nat.le_refl _, .inl ⟨rfl, rfl⟩, fun _ _ => rfl, by simp⟩
    · rintro i t H2 ⟨v, hi, hlen, hv, hkp, ht⟩
      obtain ⟨d, rfl⟩ := ht.elim
      clear ht
      refine ⟨hi, ?_⟩
      simp
      cases hb : decide (i < l.length)
      · have hb' : i = l.length := by simp at hb; omega
        subst hb'
        rw [List.take_length] at hv
        have ho := hv.own
        rw [hM] at ho hlen
        simp
        exact ⟨hlen, ho⟩
      · have hb' : i < l.length := by simpa using hb
        have q5 := cnt_mem (List.getElem_mem hb')
        have g1 := fun H => c116 l[i] H (by omega)
        rw [V.av_eq] at g1
        have w1 := wrapI (i := i + 1) (by omega) (by omega)
        have hts := take_succ l i hb'
        obtain ⟨v', H3, a1, a2, a3, a4⟩ := app_NSo (z := false) (al := al0) (hv.app [boxV l[i]]) l[i] (by simp; omega) (by rw [List.length_take]; omega)
        rw [V.av_eq] at a1
        
        try simp at a3
        simp [-aappB, hb', V.av_eq, g1, a1, w1]
        refine ⟨v', by omega, by omega, by rw [hts]; exact a2, fun j hj => ?_, by simp⟩
        rw [a4 j hj, List.getElem?_append_left (by omega)]; exact hkp j hj
theorem c10078 (l : List V) (hc : cnts l ≤ 100000000) (H : Heap) : ∃ v H', Call CC 10078 [.list (avs l) none] H = some (.ok v, H') ∧ OwnR H.length l v H' ∧ H.length ≤ H'.length ∧ ∀ j, j < H.length → H'[j]? = H[j]? := by
  have q6 := len_cnts l
  have key := call_objsF (C := CC) (C' := CX false true al0) (f := 10078) (fn := Tryz.f78) (args := [.list (avs l) none]) (H := H) (R := []) (fz := false)
    (P := fun v H1 => OwnR H.length l v H1) rfl rfl rfl (by kernel_rfl) rfl rfl rfl (Bool.and_false _) (by simp [reachL, reach, idsL, AV.ids]) (by simp [closed, idsL, AV.ids]) rfl rfl rfl rfl ?_
  · obtain ⟨v, H1, H', k1, k2, k5, k6, k7, k8, k9⟩ := key
    refine ⟨v, H', k1, ?_, by omega, fun j hj => k8 j hj (by simp)⟩
    rcases k2 with h | ⟨id, h1, h2, h3, h4⟩
    · exact .inl h
    · exact .inr ⟨id, h1, h2, h3, by rw [k9 id h1, h4]⟩
  · intro M hM _
    simp
    refine st_iter (I78 l M) l.length ?_ ?_
    · exact ⟨.empty, by omega, Nat.le_refl _, .inl ⟨rfl, rfl⟩, fun _ _ => rfl, by simp⟩
    · rintro i t H2 ⟨v, hi, hlen, hv, hkp, ht⟩
      obtain ⟨d, rfl⟩ := ht.elim
      clear ht
      refine ⟨hi, ?_⟩
      simp
      cases hb : decide (i < l.length)
      · have hb' : i = l.length := by simp at hb; omega
        subst hb'
        rw [List.take_length] at hv
        have ho := hv.own
        rw [hM] at ho hlen
        simp
        exact ⟨hlen, ho⟩
      · have hb' : i < l.length := by simpa using hb
        have q5 := cnt_mem (List.getElem_mem hb')
        have g1 := fun H => c16 l[i] H (by omega)
        rw [V.av_eq] at g1
        have w1 := wrapI (i := i + 1) (by omega) (by omega)
        have hts := take_succ l i hb'
        obtain ⟨v', H3, a1, a2, a3, a4⟩ := app_NSo (z := false) (al := al0) (hv.app []) l[i] (by simp; omega) (by rw [List.length_take]; omega)
        rw [V.av_eq] at a1
        rw [List.append_nil] at a1 a3
        try simp at a3
        simp [-aappB, hb', V.av_eq, g1, a1, w1]
        refine ⟨v', by omega, by omega, by rw [hts]; exact a2, fun j hj => ?_, by simp⟩
        rw [a4 j hj, List.append_nil]; exact hkp j hj
end Go.Tv

/- own, OwnValue, whose rows may be written. -/
namespace Go.Tv
open Go.Proofs
set_option maxHeartbeats 4000000
theorem reach_tree (l : List V) (H : Heap) : reachL H [.list (avs l) none] = [] := by simp [reachL, reach, idsL, AV.ids]
theorem OwnR.one {n : Nat} {l : List V} {v : AV} {H : Heap} (h : OwnR n l v H) : v = .list [] none ∨ ∃ id, v = .slc id 0 l.length 5 true := by
  rcases h with ⟨_, h⟩ | ⟨id, _, _, h, _⟩
  · exact .inl h
  · exact .inr ⟨id, h⟩
theorem OwnR.mono {n : Nat} {l : List V} {v : AV} {H H' : Heap} (h : OwnR n l v H) (hk : ∀ j, j < H.length → H'[j]? = H[j]?) : OwnR n l v H' := by
  rcases h with h | ⟨id, h1, h2, h3, h4⟩
  · exact .inl h
  · exact .inr ⟨id, h1, h2, h3, by rw [hk id (lt_of_get h4), h4]⟩
set_option maxRecDepth 100000 in
theorem c10116 (v : V) (hc : v.cnt ≤ 100000000) (H : Heap) : ∃ A1 A2 n2 H', Call CC 10116 [v.av] H = some (.ok (.agg [.int .i64 v.kind, .int .i64 v.num, .str v.s, A1, A2]), H') ∧ OwnR H.length v.keys A1 H' ∧ (∀ id k, A1 = .slc id 0 k 5 true → id < n2) ∧ OwnR n2 v.items A2 H' ∧ H.length ≤ n2 ∧ ∀ j, j < H.length → H'[j]? = H[j]? := by
  have q0 := v.cnt_eq
  have key := call_objsF (C := CC) (C' := CX false false (varyF 10116)) (f := 10116) (fn := Tryz.f116) (args := [v.av]) (H := H) (R := []) (fz := false)
    (P := fun w H1 => ∃ A1 A2 n2, w = .agg [.int .i64 v.kind, .int .i64 v.num, .str v.s, A1, A2] ∧ OwnR H.length v.keys A1 H1 ∧ (∀ id k, A1 = .slc id 0 k 5 true → id < n2) ∧ OwnR n2 v.items A2 H1 ∧ H.length ≤ n2) rfl rfl rfl (by kernel_rfl) rfl rfl rfl (Bool.and_false _) (by simp [reachL, reach, idsL, ids_av]) (by simp [closed, idsL, ids_av]) rfl rfl rfl rfl ?_
  · obtain ⟨w, H1, H', k1, ⟨A1, A2, n2, rfl, k2, k3, k4, k10⟩, k5, k6, k7, k8, k9⟩ := key
    have mv : ∀ {n : Nat} {l : List V} {u : AV}, H.length ≤ n → OwnR n l u H1 → OwnR n l u H' := fun hn h => by
      rcases h with h | ⟨id, h1, h2, h3, h4⟩
      · exact .inl h
      · exact .inr ⟨id, h1, h2, h3, by rw [k9 id (by omega), h4]⟩
    exact ⟨A1, A2, n2, H', k1, mv (Nat.le_refl _) k2, k3, mv k10 k4, k10, fun j hj => k8 j hj (by simp)⟩
  · intro M hM _
    have hal : varyF 10116 97 = 10097 := rfl
    obtain ⟨A1, M1, a1, a2, a3, a4⟩ := c10097 v.keys (by omega) (M ++ [boxV v, .cells [.int .i64 0, .int .i64 0, .str [], .empty, .empty] 24])
    obtain ⟨A2, M2, b1, b2, b3, b4⟩ := c10097 v.items (by omega) M1
    simp at a3 a4
    have l0 : M.length < M1.length := by omega
    have m0 : M1[M.length]? = some (boxV v) := by rw [a4 _ (by omega)]; simp
    have m1 : M1[M.length + 1]? = some (.cells [.int .i64 0, .int .i64 0, .str [], .empty, .empty] 24) := by rw [a4 _ (by omega)]; simp
    have n0 : M2[M.length]? = some (boxV v) := by rw [b4 _ l0, m0]
    have n1 : M2[M.length + 1]? = some (.cells [.int .i64 0, .int .i64 0, .str [], .empty, .empty] 24) := by rw [b4 _ (by omega), m1]
    have u0 := set_of n0
    have r1 := reach_tree v.keys
    have r2 := reach_tree v.items
    have l1 : M1.length ≤ M2.length := b3
    have w1 : ∀ x, (M2.set M.length x)[M.length + 1]? = some (.cells [.int .i64 0, .int .i64 0, .str [], .empty, .empty] 24) := fun x => by rw [List.getElem?_set_ne (by omega)]; exact n1
    have u1 : ∀ x y, ((M2.set M.length x).set (M.length + 1) y)[M.length + 1]? = some y := fun x y => set_of (w1 x) y
    have fa : ∀ x y, OwnR H.length v.keys A1 ((M2.set M.length x).set (M.length + 1) y) := fun x y => by
      rcases a2 with h | ⟨id, h1, h2, h3, h4⟩
      · exact .inl h
      · simp at h1
        exact .inr ⟨id, by omega, h2, h3, by rw [List.getElem?_set_ne (by omega), List.getElem?_set_ne (by omega), b4 _ (lt_of_get h4), h4]⟩
    have fb : ∀ x y, OwnR M1.length v.items A2 ((M2.set M.length x).set (M.length + 1) y) := fun x y => by
      rcases b2 with h | ⟨id, h1, h2, h3, h4⟩
      · exact .inl h
      · exact .inr ⟨id, h1, h2, h3, by rw [List.getElem?_set_ne (by omega), List.getElem?_set_ne (by omega), h4]⟩
    have fi : ∀ id k, A1 = .slc id 0 k 5 true → id < M1.length := fun id k e => by
      rcases a2 with ⟨_, h⟩ | ⟨id', _, _, h3, h4⟩
      · rw [h] at e; cases e
      · rw [h3] at e; injection e with e; rw [← e]; exact lt_of_get h4
    rcases a2.one with hA | ⟨i1, hA⟩
    · rcases b2.one with hB | ⟨i2, hB⟩
      · rw [hA] at a1; rw [hB] at b1
        simp [V.av_eq v, hal, a1, b1, m0, n0, u0, w1, u1, r1, r2]
        exact ⟨by kernel_rfl, by omega, A1, A2, ⟨hA.symm, hB.symm⟩, fa _ _, M1.length, fi, fb _ _, by omega⟩
      · rw [hA] at a1; rw [hB] at b1
        simp [V.av_eq v, hal, a1, b1, m0, n0, u0, w1, u1, r1, r2]
        exact ⟨by kernel_rfl, by omega, A1, A2, ⟨hA.symm, hB.symm⟩, fa _ _, M1.length, fi, fb _ _, by omega⟩
    · rcases b2.one with hB | ⟨i2, hB⟩
      · rw [hA] at a1; rw [hB] at b1
        simp [V.av_eq v, hal, a1, b1, m0, n0, u0, w1, u1, r1, r2]
        exact ⟨by kernel_rfl, by omega, A1, A2, ⟨hA.symm, hB.symm⟩, fa _ _, M1.length, fi, fb _ _, by omega⟩
      · rw [hA] at a1; rw [hB] at b1
        simp [V.av_eq v, hal, a1, b1, m0, n0, u0, w1, u1, r1, r2]
        exact ⟨by kernel_rfl, by omega, A1, A2, ⟨hA.symm, hB.symm⟩, fa _ _, M1.length, fi, fb _ _, by omega⟩
set_option maxRecDepth 100000 in
theorem c10016 (v : V) (hc : v.cnt ≤ 100000000) (H : Heap) : ∃ A1 A2 n2 H', Call CC 10016 [v.av] H = some (.ok (.agg [.int .i64 v.kind, .int .i64 v.num, .str v.s, A1, A2]), H') ∧ OwnR H.length v.keys A1 H' ∧ (∀ id k, A1 = .slc id 0 k 5 true → id < n2) ∧ OwnR n2 v.items A2 H' ∧ H.length ≤ n2 ∧ ∀ j, j < H.length → H'[j]? = H[j]? := by
  have q0 := v.cnt_eq
  have key := call_objsF (C := CC) (C' := CX false false (varyF 10016)) (f := 10016) (fn := Tryz.f16) (args := [v.av]) (H := H) (R := []) (fz := false)
    (P := fun w H1 => ∃ A1 A2 n2, w = .agg [.int .i64 v.kind, .int .i64 v.num, .str v.s, A1, A2] ∧ OwnR H.length v.keys A1 H1 ∧ (∀ id k, A1 = .slc id 0 k 5 true → id < n2) ∧ OwnR n2 v.items A2 H1 ∧ H.length ≤ n2) rfl rfl rfl (by kernel_rfl) rfl rfl rfl (Bool.and_false _) (by simp [reachL, reach, idsL, ids_av]) (by simp [closed, idsL, ids_av]) rfl rfl rfl rfl ?_
  · obtain ⟨w, H1, H', k1, ⟨A1, A2, n2, rfl, k2, k3, k4, k10⟩, k5, k6, k7, k8, k9⟩ := key
    have mv : ∀ {n : Nat} {l : List V} {u : AV}, H.length ≤ n → OwnR n l u H1 → OwnR n l u H' := fun hn h => by
      rcases h with h | ⟨id, h1, h2, h3, h4⟩
      · exact .inl h
      · exact .inr ⟨id, h1, h2, h3, by rw [k9 id (by omega), h4]⟩
    exact ⟨A1, A2, n2, H', k1, mv (Nat.le_refl _) k2, k3, mv k10 k4, k10, fun j hj => k8 j hj (by simp)⟩
  · intro M hM _
    have hal : varyF 10016 78 = 10078 := rfl
    obtain ⟨A1, M1, a1, a2, a3, a4⟩ := c10078 v.keys (by omega) (M ++ [boxV v, .cells [.int .i64 0, .int .i64 0, .str [], .empty, .empty] 24])
    obtain ⟨A2, M2, b1, b2, b3, b4⟩ := c10078 v.items (by omega) M1
    simp at a3 a4
    have l0 : M.length < M1.length := by omega
    have m0 : M1[M.length]? = some (boxV v) := by rw [a4 _ (by omega)]; simp
    have m1 : M1[M.length + 1]? = some (.cells [.int .i64 0, .int .i64 0, .str [], .empty, .empty] 24) := by rw [a4 _ (by omega)]; simp
    have n0 : M2[M.length]? = some (boxV v) := by rw [b4 _ l0, m0]
    have n1 : M2[M.length + 1]? = some (.cells [.int .i64 0, .int .i64 0, .str [], .empty, .empty] 24) := by rw [b4 _ (by omega), m1]
    have u0 := set_of n0
    have r1 := reach_tree v.keys
    have r2 := reach_tree v.items
    have l1 : M1.length ≤ M2.length := b3
    have w1 : ∀ x, (M2.set M.length x)[M.length + 1]? = some (.cells [.int .i64 0, .int .i64 0, .str [], .empty, .empty] 24) := fun x => by rw [List.getElem?_set_ne (by omega)]; exact n1
    have u1 : ∀ x y, ((M2.set M.length x).set (M.length + 1) y)[M.length + 1]? = some y := fun x y => set_of (w1 x) y
    have fa : ∀ x y, OwnR H.length v.keys A1 ((M2.set M.length x).set (M.length + 1) y) := fun x y => by
      rcases a2 with h | ⟨id, h1, h2, h3, h4⟩
      · exact .inl h
      · simp at h1
        exact .inr ⟨id, by omega, h2, h3, by rw [List.getElem?_set_ne (by omega), List.getElem?_set_ne (by omega), b4 _ (lt_of_get h4), h4]⟩
    have fb : ∀ x y, OwnR M1.length v.items A2 ((M2.set M.length x).set (M.length + 1) y) := fun x y => by
      rcases b2 with h | ⟨id, h1, h2, h3, h4⟩
      · exact .inl h
      · exact .inr ⟨id, h1, h2, h3, by rw [List.getElem?_set_ne (by omega), List.getElem?_set_ne (by omega), h4]⟩
    have fi : ∀ id k, A1 = .slc id 0 k 5 true → id < M1.length := fun id k e => by
      rcases a2 with ⟨_, h⟩ | ⟨id', _, _, h3, h4⟩
      · rw [h] at e; cases e
      · rw [h3] at e; injection e with e; rw [← e]; exact lt_of_get h4
    rcases a2.one with hA | ⟨i1, hA⟩
    · rcases b2.one with hB | ⟨i2, hB⟩
      · rw [hA] at a1; rw [hB] at b1
        simp [V.av_eq v, hal, a1, b1, m0, n0, u0, w1, u1, r1, r2]
        exact ⟨by kernel_rfl, by omega, A1, A2, ⟨hA.symm, hB.symm⟩, fa _ _, M1.length, fi, fb _ _, by omega⟩
      · rw [hA] at a1; rw [hB] at b1
        simp [V.av_eq v, hal, a1, b1, m0, n0, u0, w1, u1, r1, r2]
        exact ⟨by kernel_rfl, by omega, A1, A2, ⟨hA.symm, hB.symm⟩, fa _ _, M1.length, fi, fb _ _, by omega⟩
    · rcases b2.one with hB | ⟨i2, hB⟩
      · rw [hA] at a1; rw [hB] at b1
        simp [V.av_eq v, hal, a1, b1, m0, n0, u0, w1, u1, r1, r2]
        exact ⟨by kernel_rfl, by omega, A1, A2, ⟨hA.symm, hB.symm⟩, fa _ _, M1.length, fi, fb _ _, by omega⟩
      · rw [hA] at a1; rw [hB] at b1
        simp [V.av_eq v, hal, a1, b1, m0, n0, u0, w1, u1, r1, r2]
        exact ⟨by kernel_rfl, by omega, A1, A2, ⟨hA.symm, hB.symm⟩, fa _ _, M1.length, fi, fb _ _, by omega⟩
end Go.Tv

/- Except of the program. -/
namespace Go.Tv
open Go.Proofs
set_option maxHeartbeats 4000000
section
variable {z a : Bool} {al : FuncId → FuncId}
theorem el148X : elemT (CX z a al) 148 = some 27 := by kernel_rfl
theorem sz148X : szOf (CX z a al) 148 = some 1 := by kernel_rfl
theorem sz27X : szOf (CX z a al) 27 = some 1 := by kernel_rfl
theorem ag27X : aggT (CX z a al) 27 = some false := by kernel_rfl
theorem zero27X : zeroOf (CX z a al) 27 = some (.int .i64 0) := by kernel_rfl
attribute [simp] el148X sz148X sz27X ag27X zero27X
end
theorem call_same {C : Cfg} {f g : FuncId} {fn : Func} {args : List AV} {r : ARet} {H : Heap} (hp : C.prim f = none) (hf : C.P.funcs[C.real f]? = some fn) (hc : (C.clone f && isEmptyArg args) = false) (ht : treeL args = true) (hm : C.makes f = false)
    (hpg : C.prim g = none) (hfg : C.P.funcs[C.real g]? = some fn) (hcg : (C.clone g && isEmptyArg args) = false) (hmg : C.makes g = false) (hat : C.at f = C.at g) (hfz : C.frz f = C.frz g) (h : Call C g args H = some (r, H)) : Call C f args H = some (r, H) := by
  obtain ⟨n, hn⟩ := Call_ex h
  cases n with
  | zero => simp [acall] at hn
  | succ n =>
    rw [acall] at hn
    simp only [hpg, ht, if_true, hfg, hcg, Bool.false_eq_true, if_false, Bool.not_true, Bool.and_false, hmg, Bool.not_false, Bool.and_self] at hn
    refine Call_of (n := n + 1) ?_
    rw [acall]
    simp only [hp, ht, if_true, hf, hc, Bool.false_eq_true, if_false, Bool.not_true, Bool.and_false, hm, Bool.not_false, Bool.and_self, hat, hfz]
    exact hn
/-- A value whose rows are arrays. -/
def openV (w : V) (A1 A2 : AV) : AV := .agg [.int .i64 w.kind, .int .i64 w.num, .str w.s, A1, A2]
theorem frzC_own {n : Nat} {l : List V} {A : AV} {H : Heap} (h : OwnR n l A H) (r : List AV) : ∃ H', frzC (A :: r) H = (match frzC r H' with | some (r', H2) => some (.list (avs l) none :: r', H2) | none => none) ∧ ∀ j, (∀ id k, A = .slc id 0 k 5 true → j ≠ id) → H'[j]? = H[j]? := by
  rcases h with ⟨rfl, rfl⟩ | ⟨id, h1, h2, rfl, h4⟩
  · exact ⟨H, by simp only [frzC, avs]; cases frzC r H <;> rfl, fun _ _ => rfl⟩
  · refine ⟨H.set id .dead, ?_, fun j hj => by rw [List.getElem?_set_ne]; exact (hj id _ rfl).symm⟩
    have ga := group_vcells l
    have la := vcells_len l
    rw [frzC, h4]
    simp only [Nat.zero_add, la, Nat.le_refl, if_true, List.drop_zero, ga]
    cases frzC r (H.set id .dead) <;> rfl
theorem open_frz {n n2 : Nat} {w : V} {A1 A2 : AV} {H : Heap} (h1 : OwnR n w.keys A1 H) (hlt : ∀ id k, A1 = .slc id 0 k 5 true → id < n2) (h2 : OwnR n2 w.items A2 H) (e : Int) :
    ∃ H', frzL [openV w A1 A2, .int .i64 e] H = some ([w.av, .int .i64 e], H') ∧ ∀ j, (∀ id k, A1 = .slc id 0 k 5 true → j ≠ id) → (∀ id k, A2 = .slc id 0 k 5 true → j ≠ id) → H'[j]? = H[j]? := by
  obtain ⟨H1, e1, k1⟩ := frzC_own h1 [A2]
  have h2' : OwnR n2 w.items A2 H1 := by
    rcases h2 with h | ⟨id, x1, x2, x3, x4⟩
    · exact .inl h
    · refine .inr ⟨id, x1, x2, x3, ?_⟩
      rw [k1 id fun id' k e => by have := hlt id' k e; omega, x4]
  obtain ⟨H2, e2, k2⟩ := frzC_own h2' []
  refine ⟨H2, ?_, fun j ha hb => by rw [k2 j hb, k1 j ha]⟩
  rw [openV, V.av_eq]
  simp only [frzL]
  simp only [frzC] at e1 e2 ⊢
  simp only [e1, e2]
theorem open_reach {n n2 : Nat} {w : V} {A1 A2 : AV} {H : Heap} (h1 : OwnR n w.keys A1 H) (h2 : OwnR n2 w.items A2 H) (e : List AV) (he : idsL e = []) : (idsL (openV w A1 A2 :: e)).all (reachL H (openV w A1 A2 :: e)).contains = true := by
  have hid : ∀ l : List V, idsL (vcells l) = [] := ids_vcells
  rcases h1 with ⟨_, rfl⟩ | ⟨i1, _, _, rfl, x1⟩
  · rcases h2 with ⟨_, rfl⟩ | ⟨i2, _, _, rfl, x2⟩
    · simp [openV, idsL, AV.ids, he]
    · simp [openV, idsL, AV.ids, he, reachL, reach, x2, AObj.ids, hid]
  · rcases h2 with ⟨_, rfl⟩ | ⟨i2, _, _, rfl, x2⟩
    · simp [openV, idsL, AV.ids, he, reachL, reach, x1, AObj.ids, hid]
    · simp [openV, idsL, AV.ids, he, reachL, reach, x1, x2, AObj.ids, hid]
      by_cases e : i2 = i1 <;> simp [e]
theorem open_ids (w : V) (A1 A2 : AV) : treeL [openV w A1 A2, .int .i64 0] = true ∨ treeL [openV w A1 A2, .int .i64 0] = false := by
  cases treeL [openV w A1 A2, .int .i64 0] <;> simp
theorem c10098 {n n2 : Nat} {w : V} {A1 A2 : AV} {H : Heap} (h1 : OwnR n w.keys A1 H) (hlt : ∀ id k, A1 = .slc id 0 k 5 true → id < n2) (h2 : OwnR n2 w.items A2 H) (hn : n ≤ n2) (hc : w.cnt ≤ 1000000000) :
    ∃ H', Call CC 10098 [openV w A1 A2, .int .i64 0] H = some (.ok (.tup [(if resE w 0 = 0 then w.av else zeroV.av), .int .i64 (resE w 0)]), H') ∧ ∀ j, j < n → H'[j]? = H[j]? := by
  have g := fun H => c98 w 0 H hc
  cases ht : treeL [openV w A1 A2, .int .i64 0]
  · obtain ⟨H', f1, f2⟩ := open_frz h1 hlt h2 0
    refine ⟨H', call_frz (g := 98) (fn := Tryz.f98) (H1 := H) rfl rfl (by kernel_rfl) rfl rfl ht f1 (by simp [treeL, tree_av]) (open_reach h1 h2 _ rfl) rfl (by kernel_rfl) rfl rfl rfl rfl (g H), fun j hj => f2 j (fun id k e => ?_) fun id k e => ?_⟩
    · rcases h1 with ⟨_, h⟩ | ⟨i1, x0, _, h, _⟩
      · rw [h] at e; cases e
      · rw [h] at e; injection e with e; omega
    · rcases h2 with ⟨_, h⟩ | ⟨i1, x0, _, h, _⟩
      · rw [h] at e; cases e
      · rw [h] at e; injection e with e; omega
  · have e1 : A1 = .list (avs w.keys) none := by
      rcases h1 with ⟨x, rfl⟩ | ⟨i1, _, _, rfl, _⟩
      · rw [x]; rfl
      · simp [openV, treeL, AV.tree] at ht
    have e2 : A2 = .list (avs w.items) none := by
      rcases h2 with ⟨x, rfl⟩ | ⟨i1, _, _, rfl, _⟩
      · rw [x]; rfl
      · simp [openV, treeL, AV.tree] at ht
    have e3 : openV w A1 A2 = w.av := by rw [openV, e1, e2, V.av_eq]
    rw [e3] at ht ⊢
    exact ⟨H, call_same (g := 98) (fn := Tryz.f98) rfl (by kernel_rfl) rfl ht rfl rfl (by kernel_rfl) rfl rfl rfl rfl (g H), fun _ _ => rfl⟩
/-! ### Except -/
def exV (f x v : V) : V := if memB f.keys x then .mk f.kind f.num f.s f.keys (f.items.set (atU x f.keys) v) else f
def exE (f x v : V) : Int := if errF [f, x, v] f ≠ 0 then errF [f, x, v] f else resE (exV f x v) 0
def exW (f x v : V) : V := if exE f x v = 0 then exV f x v else zeroV
theorem cnts_set : ∀ (l : List V) (i : Nat) (v : V), cnts (l.set i v) ≤ cnts l + v.cnt
  | [], i, v => by simp [cnts]
  | a :: r, 0, v => by simp [cnts]; omega
  | a :: r, i + 1, v => by
    have := cnts_set r i v
    simp only [List.set_cons_succ, cnts]; omega
theorem exV_cnt (f x v : V) : (exV f x v).cnt ≤ f.cnt + v.cnt := by
  unfold exV
  split
  · have := cnts_set f.items (atU x f.keys) v
    have := f.cnt_eq
    simp only [V.cnt]; omega
  · omega
set_option maxRecDepth 100000 in
theorem c54 (f x v : V) (H : Heap) (hf : f.str) (hx : x.str) (hv : v.str) (hc : f.cnt + x.cnt + v.cnt ≤ 1000000) : Call CC 54 [f.av, x.av, v.av] H = some (.ok (.tup [(exW f x v).av, .int .i64 (exE f x v)]), H) := by
  have q0 := f.cnt_eq
  have q6 := len_cnts f.items
  have g1 := fun H => c82 [f, x, v] H ⟨hf, hx, hv, trivial⟩ (by simp [cnts]; omega)
  have g2 := fun H => c96 5 [f] H (by simp [cnts]; omega)
  have g3 := fun H => c75 [chkL [f, x, v], tyAll 5 [f]] H (by simp)
  simp only [il] at g3
  simp only [avs, V.av_eq] at g1 g2
  rw [← tyAll] at g2
  rw [← errF] at g3
  have hw := exV_cnt f x v
  generalize hW : exW f x v = W at *
  have hal1 : varyF 54 116 = 10116 := rfl
  have hal2 : varyF 54 98 = 10098 := rfl
  have h82 : varyF 54 82 = 82 := rfl
  have h96 : varyF 54 96 = 96 := rfl
  have h75 : varyF 54 75 = 75 := rfl
  have h115 : varyF 54 115 = 115 := rfl
  refine call_treeF (C' := CX false false (varyF 54)) (fn := Tryz.f54) (fz := false) rfl (by kernel_rfl) rfl rfl rfl rfl (by simp) rfl rfl rfl rfl (by simp) ?_
  by_cases he : errF [f, x, v] f = 0
  · obtain ⟨h1, h2⟩ := errF_zero he (by simp)
    have hs := asc_keys h1 h2
    have hl := (chk_own h1).len h2
    have g4 := fun H => c115 f.keys x H hs (by omega)
    rw [V.av_eq] at g4
    obtain ⟨A1, A2, n2, H1, a1, a2, a3, a4, a5, a6⟩ := c10116 f (by omega) [boxV f, boxV x, boxV v, .cells [.int .i64 0, .int .i64 0, .str [], .empty, .empty] 24]
    have b0 : H1[0]? = some (boxV f) := a6 0 (by simp)
    have b1 : H1[1]? = some (boxV x) := a6 1 (by simp)
    have b2 : H1[2]? = some (boxV v) := a6 2 (by simp)
    have b3 : H1[3]? = some (.cells [.int .i64 0, .int .i64 0, .str [], .empty, .empty] 24) := a6 3 (by simp)
    rw [V.av_eq] at a1
    have a5' : 4 ≤ n2 := a5
    have n0' : ∀ (x : AObj) (hh : 0 < (H1 ++ [x]).length), (H1 ++ [x])[0]'hh = boxV f := fun x hh => (List.getElem?_eq_some_iff.1 (app_get b0 [x])).2
    have hres : ∀ R, exE f x v = R → R = resE (exV f x v) 0 → (if resE (exV f x v) 0 = 0 then (exV f x v).av else zeroV.av) = W.av := fun R h1 h2 => by
      rw [← hW, exW, h1, h2]; split <;> rfl
    have e1 : exE f x v = resE (exV f x v) 0 := by rw [exE, if_neg (by simp [he])]
    have hres := hres _ e1 rfl
    rw [e1]
    rcases a2 with ⟨hk0, rfl⟩ | ⟨i1, x1, x2, rfl, x4⟩
    · have hi0 : f.items = [] := List.length_eq_zero_iff.1 (by rw [← hl, hk0]; rfl)
      rcases a4 with ⟨_, rfl⟩ | ⟨i2, y1, y2, rfl, y4⟩
      · have hm : memB f.keys x = false := by rw [hk0]; rfl
        have hev : exV f x v = f := by rw [exV, hm]; rfl
        obtain ⟨H3, c1, c2⟩ := c10098 (n := 4) (n2 := 4) (w := f) (A1 := .list [] none) (A2 := .list [] none) (H := H1 ++ [.cells [.int .i64 f.kind, .int .i64 f.num, .str f.s, .list [] none, .list [] none] 24]) (.inl ⟨hk0, rfl⟩) (fun _ _ e => by cases e) (.inl ⟨hi0, rfl⟩) (Nat.le_refl _) (by omega)
        have d3 : H3[3]? = some (.cells [.int .i64 0, .int .i64 0, .str [], .empty, .empty] 24) := by rw [c2 3 (by decide)]; exact app_get b3 _
        have u3 := set_of d3
        rw [hev] at hres ⊢
        rw [hres, openV, V.av_eq W] at c1
        rw [hm] at g4
        have n0 := app_get b0
        have n1 := app_get b1
        have n2' := app_get b2
        simp [V.av_eq f, V.av_eq x, V.av_eq v, V.av_eq W, g1, g2, g3, he, hal1, hal2, h82, h96, h75, h115, a1, n0', n1, g4, c1, d3, u3]
        refine (?_ : drawE _ _ _ = true)
        kernel_rfl
      · exact absurd hi0 y2
    · rcases a4 with ⟨hi0, rfl⟩ | ⟨i2, y1, y2, rfl, y4⟩
      · exact absurd (List.length_eq_zero_iff.1 (by rw [hl, hi0]; rfl)) x2
      · have l2 := lt_of_get y4
        have l1 := lt_of_get x4
        have hlt := a3 i1 _ rfl
        have n0 := app_get b0
        have n1 := app_get b1
        have n2' := app_get b2
        cases hm : memB f.keys x
        · have hev : exV f x v = f := by rw [exV, hm]; rfl
          obtain ⟨H3, c1, c2⟩ := c10098 (n := 4) (n2 := n2) (w := f) (A1 := .slc i1 0 f.keys.length 5 true) (A2 := .slc i2 0 f.items.length 5 true) (H := H1 ++ [.cells [.int .i64 f.kind, .int .i64 f.num, .str f.s, .slc i1 0 f.keys.length 5 true, .slc i2 0 f.items.length 5 true] 24]) (.inr ⟨i1, x1, x2, rfl, app_get x4 _⟩) a3 (.inr ⟨i2, y1, y2, rfl, app_get y4 _⟩) a5 (by omega)
          have d3 : H3[3]? = some (.cells [.int .i64 0, .int .i64 0, .str [], .empty, .empty] 24) := by rw [c2 3 (by decide)]; exact app_get b3 _
          have u3 := set_of d3
          rw [hev] at hres ⊢
          rw [hres, openV, V.av_eq W] at c1
          rw [hm] at g4
          simp [V.av_eq f, V.av_eq x, V.av_eq v, V.av_eq W, g1, g2, g3, he, hal1, hal2, h82, h96, h75, h115, a1, n0', n1, g4, c1, d3, u3]
          refine (?_ : drawE _ _ _ = true)
          kernel_rfl
        · obtain ⟨hat, _⟩ := mem_at hs hm
          have hati : atU x f.keys < f.items.length := by omega
          have hev : exV f x v = .mk f.kind f.num f.s f.keys (f.items.set (atU x f.keys) v) := by rw [exV, hm]; rfl
          generalize hj : atU x f.keys = j at *
          have c1 := splice_one f.items j v hati
          rw [V.av_eq, cells_agg] at c1
          have c2 : j * 5 + 5 ≤ (vcells f.items).length := by rw [vcells_len]; omega
          have y5 := app_get y4
          rw [hm] at g4
          simp [V.av_eq f, V.av_eq x, V.av_eq v, V.av_eq W, g1, g2, g3, he, hal1, h82, h96, h75, h115, a1, n0', n1]
          refine ⟨by kernel_rfl, ?_⟩
          have hTn : i2 ≠ H1.length := by omega
          have K0 := app_get (L := [AObj.cells [.int .i64 f.kind, .int .i64 f.num, .str f.s, .slc i1 0 f.keys.length 5 true, .slc i2 0 f.items.length 5 true] 24]) x4
          have KT : ((H1 ++ [AObj.cells [.int .i64 f.kind, .int .i64 f.num, .str f.s, .slc i1 0 f.keys.length 5 true, .slc i2 0 f.items.length 5 true] 24]).set i2 (.cells (vcells (f.items.set j v)) 24))[H1.length]? = some (.cells [.int .i64 f.kind, .int .i64 f.num, .str f.s, .slc i1 0 f.keys.length 5 true, .slc i2 0 f.items.length 5 true] 24) := by
            rw [List.getElem?_set_ne hTn]; simp
          have K1 : ((H1 ++ [AObj.cells [.int .i64 f.kind, .int .i64 f.num, .str f.s, .slc i1 0 f.keys.length 5 true, .slc i2 0 f.items.length 5 true] 24]).set i2 (.cells (vcells (f.items.set j v)) 24))[i1]? = some (arrV f.keys) := by
            rw [List.getElem?_set_ne (by omega)]; exact app_get x4 _
          have K2 : ((H1 ++ [AObj.cells [.int .i64 f.kind, .int .i64 f.num, .str f.s, .slc i1 0 f.keys.length 5 true, .slc i2 0 f.items.length 5 true] 24]).set i2 (.cells (vcells (f.items.set j v)) 24))[i2]? = some (arrV (f.items.set j v)) := set_of (app_get y4 _) _
          have K3 : ((H1 ++ [AObj.cells [.int .i64 f.kind, .int .i64 f.num, .str f.s, .slc i1 0 f.keys.length 5 true, .slc i2 0 f.items.length 5 true] 24]).set i2 (.cells (vcells (f.items.set j v)) 24))[3]? = some (.cells [.int .i64 0, .int .i64 0, .str [], .empty, .empty] 24) := by
            rw [List.getElem?_set_ne (by omega)]; exact app_get b3 _
          have hwi : (exV f x v).items = f.items.set j v := by rw [hev]; rfl
          have hwk : (exV f x v).keys = f.keys := by rw [hev]; rfl
          have hopen : openV (exV f x v) (.slc i1 0 f.keys.length 5 true) (.slc i2 0 f.items.length 5 true) = .agg [.int .i64 f.kind, .int .i64 f.num, .str f.s, .slc i1 0 f.keys.length 5 true, .slc i2 0 f.items.length 5 true] := by rw [hev]; rfl
          obtain ⟨H3, c3, c4⟩ := c10098 (n := 4) (n2 := n2) (w := exV f x v) (A1 := .slc i1 0 f.keys.length 5 true) (A2 := .slc i2 0 f.items.length 5 true) (H := _) (.inr ⟨i1, x1, by rw [hwk]; exact x2, by rw [hwk], by rw [hwk]; exact K1⟩) a3 (.inr ⟨i2, y1, by rw [hwi]; intro e; exact y2 (List.length_eq_zero_iff.1 (by have := congrArg List.length e; simpa using this)), by rw [hwi]; simp, by rw [hwi]; exact K2⟩) a5 (by omega)
          have d3 : H3[3]? = some (.cells [.int .i64 0, .int .i64 0, .str [], .empty, .empty] 24) := by rw [c4 3 (by decide)]; exact K3
          have u3 := set_of d3
          rw [hres, hopen, V.av_eq W] at c3
          have KT' : ∀ hh, ((H1 ++ [AObj.cells [.int .i64 f.kind, .int .i64 f.num, .str f.s, .slc i1 0 f.keys.length 5 true, .slc i2 0 f.items.length 5 true] 24]).set i2 (.cells (vcells (f.items.set j v)) 24))[H1.length]'hh = .cells [.int .i64 f.kind, .int .i64 f.num, .str f.s, .slc i1 0 f.keys.length 5 true, .slc i2 0 f.items.length 5 true] 24 := fun hh => (List.getElem?_eq_some_iff.1 KT).2
          simp [-splice, hal2, n2', g4, hati, y5, c1, c2, KT', c3, d3, u3]
          simp [splice]
  · have e1 : exE f x v = errF [f, x, v] f := by rw [exE, if_pos he]
    rw [exW, e1, if_neg he] at hW
    subst hW
    rw [e1, zeroV_av]
    simp [V.av_eq, g1, g2, g3, he, h82, h96, h75, undv24X, fv24_allX]
    refine (?_ : drawE _ _ _ = true)
    kernel_rfl
end Go.Tv

/- Except of the reference. -/
namespace Go.Tv
open Go.Proofs
set_option maxHeartbeats 4000000
theorem c10051 {n n2 : Nat} {w : V} {A1 A2 : AV} {H : Heap} (h1 : OwnR n w.keys A1 H) (hlt : ∀ id k, A1 = .slc id 0 k 5 true → id < n2) (h2 : OwnR n2 w.items A2 H) (hn : n ≤ n2) :
    ∃ H', Call CC 10051 [openV w A1 A2] H = some (.ok (.tup [(if resE w 0 = 0 then w.av else zeroV.av), .int .i64 (resE w 0)]), H') ∧ ∀ j, j < n → H'[j]? = H[j]? := by
  have g : ∀ H, Call CC 51 [w.av] H = some (.ok (.tup [(if resE w 0 = 0 then w.av else zeroV.av), .int .i64 (resE w 0)]), H) := fun H => c51 w H
  cases ht : treeL [openV w A1 A2]
  · obtain ⟨H', f1, f2⟩ := open_frz h1 hlt h2 0
    have f3 : frzL [openV w A1 A2] H = some ([w.av], H') := by
      rw [openV] at f1 ⊢
      simp only [frzL] at f1 ⊢
      cases hz : frzC [.int .i64 w.kind, .int .i64 w.num, .str w.s, A1, A2] H with
      | none => rw [hz] at f1; cases f1
      | some p =>
        obtain ⟨cs, K⟩ := p
        rw [hz] at f1
        simp only [frzC] at f1 ⊢
        simp only [Option.some.injEq, Prod.mk.injEq, List.cons.injEq, and_true] at f1 ⊢
        exact ⟨f1.1, f1.2⟩
    refine ⟨H', call_frz (g := 51) (fn := Tryz.f51) (H1 := H) rfl rfl (by kernel_rfl) rfl rfl ht f3 (by simp [treeL, tree_av]) (open_reach h1 h2 _ rfl) rfl (by kernel_rfl) rfl rfl rfl rfl (g H), fun j hj => f2 j (fun id k e => ?_) fun id k e => ?_⟩
    · rcases h1 with ⟨_, h⟩ | ⟨i1, x0, _, h, _⟩
      · rw [h] at e; cases e
      · rw [h] at e; injection e with e; omega
    · rcases h2 with ⟨_, h⟩ | ⟨i1, x0, _, h, _⟩
      · rw [h] at e; cases e
      · rw [h] at e; injection e with e; omega
  · have e1 : A1 = .list (avs w.keys) none := by
      rcases h1 with ⟨x, rfl⟩ | ⟨i1, _, _, rfl, _⟩
      · rw [x]; rfl
      · simp [openV, treeL, AV.tree] at ht
    have e2 : A2 = .list (avs w.items) none := by
      rcases h2 with ⟨x, rfl⟩ | ⟨i1, _, _, rfl, _⟩
      · rw [x]; rfl
      · simp [openV, treeL, AV.tree] at ht
    have e3 : openV w A1 A2 = w.av := by rw [openV, e1, e2, V.av_eq]
    rw [e3] at ht ⊢
    exact ⟨H, call_same (g := 51) (fn := Tryz.f51) rfl (by kernel_rfl) rfl ht rfl rfl (by kernel_rfl) rfl rfl rfl rfl (g H), fun _ _ => rfl⟩
def eI (f x v : V) (i : Nat) : List V := if memB f.keys x = true ∧ atU x f.keys < i then f.items.set (atU x f.keys) v else f.items
theorem eI_len (f x v : V) (i : Nat) : (eI f x v i).length = f.items.length := by unfold eI; split <;> simp
theorem eI_hit {f x v : V} (hs : SAsc f.keys) {i : Nat} (h : i < f.keys.length) (he : cmpV f.keys[i] x = 0) : eI f x v i = f.items ∧ eI f x v (i + 1) = f.items.set i v := by
  have hx := cmpV_eq.1 he
  have hm : memB f.keys x = true := (memB_iff _ _).2 (hx ▸ List.getElem_mem h)
  obtain ⟨hlt, hat⟩ := mem_at hs hm
  have hia : atU x f.keys = i := by
    have h5 := List.pairwise_iff_getElem.1 hs
    rcases Nat.lt_trichotomy (atU x f.keys) i with h6 | h6 | h6
    · have := h5 _ _ hlt h h6; rw [hat, hx, cmpV_self] at this; omega
    · exact h6
    · have := h5 _ _ h hlt h6; rw [hat, hx, cmpV_self] at this; omega
  unfold eI
  rw [hia]
  exact ⟨if_neg (by omega), if_pos ⟨hm, by omega⟩⟩
theorem eI_miss {f x v : V} (hs : SAsc f.keys) {i : Nat} (h : i < f.keys.length) (he : ¬ cmpV f.keys[i] x = 0) : eI f x v (i + 1) = eI f x v i := by
  unfold eI
  by_cases hm : memB f.keys x = true
  · obtain ⟨hlt, hat⟩ := mem_at hs hm
    have hne : atU x f.keys ≠ i := fun e => he (by subst e; exact cmpV_eq.2 hat)
    by_cases hl : atU x f.keys < i
    · rw [if_pos ⟨hm, by omega⟩, if_pos ⟨hm, hl⟩]
    · rw [if_neg (by omega), if_neg (by omega)]
  · rw [if_neg (fun h => hm h.1), if_neg (fun h => hm h.1)]
theorem exV_items {f x v : V} (hs : SAsc f.keys) : exV f x v = .mk f.kind f.num f.s f.keys (eI f x v f.keys.length) := by
  unfold exV eI
  cases hm : memB f.keys x
  · simp only [Bool.false_eq_true, if_false, false_and]; exact (V.eta f).symm
  · obtain ⟨hlt, _⟩ := mem_at hs hm
    rw [if_pos rfl, if_pos ⟨rfl, hlt⟩]
def IE0 (f : V) (T : Nat) (i : Nat) (t : List AV) (H : Heap) : Prop := i = 0 ∧ H[3]? = some (.cells [.int .i64 0, .int .i64 0, .str [], .empty, .empty] 24) ∧ H[T]? = some (.cells [.int .i64 f.kind, .int .i64 f.num, .str f.s, .list [] none, .list [] none] 24) ∧ Fit [none, none, none, some (.ptr 0 0), some (.ptr 1 0), some (.ptr 2 0), some (.ptr 3 0), some (.int .i64 0), some (.ptr 4 0), none, none, some (.ptr T 0), some (.int .i64 0), none, none, none, none, none, none, none, none, none, none, none, none, none, none, none, none, none, none, none, none, none, none, none, none, none, none, none, none, none, none, none, none, none, none, none, none, none, none, none, none] t
def IE1 (f x v : V) (i1 i2 T : Nat) (i : Nat) (t : List AV) (H : Heap) : Prop := i ≤ f.keys.length ∧ H[1]? = some (boxV x) ∧ H[2]? = some (boxV v) ∧ H[3]? = some (.cells [.int .i64 0, .int .i64 0, .str [], .empty, .empty] 24) ∧ H[T]? = some (.cells [.int .i64 f.kind, .int .i64 f.num, .str f.s, .slc i1 0 f.keys.length 5 true, .slc i2 0 f.items.length 5 true] 24) ∧ H[i1]? = some (arrV f.keys) ∧ H[i2]? = some (arrV (eI f x v i)) ∧ Fit [none, none, none, some (.ptr 0 0), some (.ptr 1 0), some (.ptr 2 0), some (.ptr 3 0), some (.int .i64 0), some (.ptr 4 0), none, none, some (.ptr T 0), some (.int .i64 i), none, none, none, none, none, none, none, none, none, none, none, none, none, none, none, none, none, none, none, none, none, none, none, none, none, none, none, none, none, none, none, none, none, none, none, none, none, none, none, none] t
set_option maxRecDepth 100000 in
theorem c57 (f x v : V) (H : Heap) (hf : f.str) (hx : x.str) (hv : v.str) (hc : f.cnt + x.cnt + v.cnt ≤ 1000000) : Call CC 57 [f.av, x.av, v.av] H = some (.ok (.tup [(exW f x v).av, .int .i64 (exE f x v)]), H) := by
  have q0 := f.cnt_eq
  have q6 := len_cnts f.items
  have q7 := len_cnts f.keys
  have g1 := fun H => c102 [f, x, v] H ⟨hf, hx, hv, trivial⟩ (by simp [cnts]; omega)
  simp only [avs, V.av_eq] at g1
  have hw := exV_cnt f x v
  generalize hW : exW f x v = W at *
  have hal1 : varyF 57 16 = 10016 := rfl
  have hal2 : varyF 57 51 = 10051 := rfl
  have h102 : varyF 57 102 = 102 := rfl
  have h21 : varyF 57 21 = 21 := rfl
  refine call_treeF (C' := CX false false (varyF 57)) (fn := Tryz.f57) (fz := false) rfl (by kernel_rfl) rfl rfl rfl rfl (by simp) rfl rfl rfl rfl (by simp) ?_
  by_cases hz : chkL [f, x, v] = 0
  · by_cases h2 : f.kind = 5
    · have he : errF [f, x, v] f = 0 := by simp [errF, firstNZ, hz, tyAll, h2]
      obtain ⟨h1, _⟩ := errF_zero he (by simp)
      have hs := asc_keys h1 h2
      have hl := (chk_own h1).len h2
      have k5 : (f.kind = 5) = True := eq_true h2
      obtain ⟨A1, A2, n2, H1, a1, a2, a3, a4, a5, a6⟩ := c10016 f (by omega) [boxV f, boxV x, boxV v, .cells [.int .i64 0, .int .i64 0, .str [], .empty, .empty] 24, .cells [.int .i64 0, .int .i64 0, .str [], .empty, .empty] 24]
      have b0 : H1[0]? = some (boxV f) := a6 0 (by simp)
      have b1 : H1[1]? = some (boxV x) := a6 1 (by simp)
      have b2 : H1[2]? = some (boxV v) := a6 2 (by simp)
      have b3 : H1[3]? = some (.cells [.int .i64 0, .int .i64 0, .str [], .empty, .empty] 24) := a6 3 (by simp)
      rw [V.av_eq] at a1
      have a5' : 5 ≤ n2 := a5
      have e1 : exE f x v = resE (exV f x v) 0 := by rw [exE, if_neg (by simp [he])]
      have hres : (if resE (exV f x v) 0 = 0 then (exV f x v).av else zeroV.av) = W.av := by
        rw [← hW, exW, e1]; split <;> rfl
      rw [e1]
      rcases a2 with ⟨hk0, rfl⟩ | ⟨i1, x1, x2, rfl, x4⟩
      · have hi0 : f.items = [] := List.length_eq_zero_iff.1 (by rw [← hl, hk0]; rfl)
        rcases a4 with ⟨_, rfl⟩ | ⟨i2, y1, y2, rfl, y4⟩
        · have hm : memB f.keys x = false := by rw [hk0]; rfl
          have hev : exV f x v = f := by rw [exV, hm]; rfl
          simp [V.av_eq f, V.av_eq x, V.av_eq v, V.av_eq W, hal1, h102, g1, hz, k5, a1, undv24X, fv24_allX]
          refine st_iter (IE0 f H1.length) 0 ?_ ?_
          · exact ⟨rfl, app_get b3 _, by simp, by simp⟩
          · rintro i t H2 ⟨rfl, m3, mT, ht⟩
            obtain ⟨d, rfl⟩ := ht.elim
            clear ht
            refine ⟨Nat.le_refl _, ?_⟩
            obtain ⟨H3, c1, c2⟩ := c10051 (n := 5) (n2 := 5) (w := f) (A1 := .list [] none) (A2 := .list [] none) (H := H2) (.inl ⟨hk0, rfl⟩) (fun _ _ e => by cases e) (.inl ⟨hi0, rfl⟩) (Nat.le_refl _)
            have d3 : H3[3]? = some (.cells [.int .i64 0, .int .i64 0, .str [], .empty, .empty] 24) := by rw [c2 3 (by decide)]; exact m3
            have u3 := set_of d3
            rw [hev] at hres ⊢
            rw [hres, openV, V.av_eq W] at c1
            simp [hal2, mT, c1, d3, u3]
            done
        · exact absurd hi0 y2
      · rcases a4 with ⟨hi0, rfl⟩ | ⟨i2, y1, y2, rfl, y4⟩
        · exact absurd (List.length_eq_zero_iff.1 (by rw [hl, hi0]; rfl)) x2
        · have l2 := lt_of_get y4
          have l1 := lt_of_get x4
          have hlt := a3 i1 _ rfl
          have x1' : 5 ≤ i1 := x1
          simp [V.av_eq f, V.av_eq x, V.av_eq v, V.av_eq W, hal1, h102, g1, hz, k5, a1, undv24X, fv24_allX]
          refine st_iter (IE1 f x v i1 i2 H1.length) f.keys.length ?_ ?_
          · exact ⟨by omega, app_get b1 _, app_get b2 _, app_get b3 _, by simp, app_get x4 _, by rw [show eI f x v 0 = f.items from if_neg (by omega)]; exact app_get y4 _, by simp⟩
          · rintro i t H2 ⟨hi, m1, m2, m3, mT, mi1, mi2, ht⟩
            obtain ⟨d, rfl⟩ := ht.elim
            clear ht
            refine ⟨hi, ?_⟩
            simp [mT]
            cases hb : decide (i < f.keys.length)
            · have hb' : i = f.keys.length := by simp at hb; omega
              subst hb'
              have hev := exV_items (x := x) (v := v) hs
              have hwi : (exV f x v).items = eI f x v f.keys.length := by rw [hev]; rfl
              have hwk : (exV f x v).keys = f.keys := by rw [hev]; rfl
              have hwl := eI_len f x v f.keys.length
              have hopen : openV (exV f x v) (.slc i1 0 f.keys.length 5 true) (.slc i2 0 f.items.length 5 true) = .agg [.int .i64 f.kind, .int .i64 f.num, .str f.s, .slc i1 0 f.keys.length 5 true, .slc i2 0 f.items.length 5 true] := by rw [hev]; rfl
              obtain ⟨H3, c3, c4⟩ := c10051 (n := 5) (n2 := n2) (w := exV f x v) (A1 := .slc i1 0 f.keys.length 5 true) (A2 := .slc i2 0 f.items.length 5 true) (H := H2) (.inr ⟨i1, x1, by rw [hwk]; exact x2, by rw [hwk], by rw [hwk]; exact mi1⟩) a3 (.inr ⟨i2, y1, by rw [hwi]; intro e; exact y2 (List.length_eq_zero_iff.1 (by rw [← hwl, e]; rfl)), by rw [hwi, hwl], by rw [hwi]; exact mi2⟩) a5
              have d3 : H3[3]? = some (.cells [.int .i64 0, .int .i64 0, .str [], .empty, .empty] 24) := by rw [c4 3 (by decide)]; exact m3
              have u3 := set_of d3
              rw [hres, hopen, V.av_eq W] at c3
              simp [hal2, mT, c3, d3, u3]
              done
            · have hb' : i < f.keys.length := by simpa using hb
              have hbi : i < f.items.length := by omega
              have w1 := wrapI (i := i + 1) (by omega) (by omega)
              obtain ⟨z1, z2, z3⟩ := arr_at f.keys i hb'
              have q5 := cnt_mem (List.getElem_mem hb')
              have g3 := fun H => c21 f.keys[i] x H (by omega)
              rw [V.av_eq, V.av_eq] at g3
              simp [hb', mT, mi1, m1, z1, z2, z3, h21, g3]
              refine ⟨by kernel_rfl, ?_⟩
              cases hcm : decide (cmpV f.keys[i] x = 0)
              · have hcm' : ¬ cmpV f.keys[i] x = 0 := by simpa using hcm
                simp [w1]
                exact ⟨by omega, m1, m2, m3, mT, mi1, by rw [eI_miss hs hb' hcm']; exact mi2, by simp⟩
              · have hcm' : cmpV f.keys[i] x = 0 := by simpa using hcm
                obtain ⟨t1, t2⟩ := eI_hit (v := v) hs hb' hcm'
                rw [t1] at mi2
                have c1 := splice_one f.items i v hbi
                rw [V.av_eq, cells_agg] at c1
                have c2 : i * 5 + 5 ≤ (vcells f.items).length := by rw [vcells_len]; omega
                have hTl : H1.length ≠ i2 := by omega
                simp [-splice, hbi, mT, mi2, m2, c1, c2, w1]
                refine ⟨by omega, ?_, ?_, ?_, ?_, ?_, by rw [t2]; exact set_of mi2 _, by simp⟩
                · rw [List.getElem?_set_ne (by omega)]; exact m1
                · rw [List.getElem?_set_ne (by omega)]; exact m2
                · rw [List.getElem?_set_ne (by omega)]; exact m3
                · rw [List.getElem?_set_ne (by omega)]; exact mT
                · rw [List.getElem?_set_ne (by omega)]; exact mi1
    · have he : errF [f, x, v] f = 20 := by simp [errF, firstNZ, hz, tyAll, h2]
      have e1 : exE f x v = 20 := by rw [exE, if_pos (by rw [he]; decide), he]
      rw [exW, e1, if_neg (by decide)] at hW
      subst hW
      rw [e1, zeroV_av]
      simp [V.av_eq, g1, hz, h2, h102, undv24X, fv24_allX]
  · have he : errF [f, x, v] f = chkL [f, x, v] := by simp [errF, firstNZ, hz]
    have e1 : exE f x v = chkL [f, x, v] := by rw [exE, if_pos (by rw [he]; exact hz), he]
    rw [exW, e1, if_neg hz] at hW
    subst hW
    rw [e1, zeroV_av]
    simp [V.av_eq, g1, hz, h102, undv24X, fv24_allX]
end Go.Tv
