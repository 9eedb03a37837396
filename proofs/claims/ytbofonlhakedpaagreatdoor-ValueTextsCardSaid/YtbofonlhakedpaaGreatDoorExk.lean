/-
  What the functions of chapter 8 compute: Normal.
-/
import Derived.Test.YtbofonlhakedpaaGreatDoorExi
namespace Go.Tv
open Go.Proofs
set_option maxHeartbeats 4000000
theorem c76t (v : V) (H : Heap) (hs : v.s.length ≤ 9223372036854775807) (_hc : v.cnt ≤ 1000000000) : Call CC 76 [v.av] H = some (.ok (.int .i64 (topE false v)), H) := by
  have e : topE false v = ownE v := by
    unfold topE
    split
    . rfl
    . rename_i h; simpa using (Classical.not_not.1 h).symm
  rw [e]; exact c76 v H hs
def WalkO (v : V) : Prop := ∀ H : Heap, v.str -> v.cnt ≤ 1000000000 -> Call CC 73 [v.av, .fn (.func 76) [] []] H = some (.ok (.int .i64 (errV false v)), H)
def IKo (v : V) (i : Nat) (t : List AV) (_H : Heap) : Prop := i ≤ 2 /\ (0 < i -> errL false v.keys = 0) /\ (1 < i -> errL false v.items = 0) /\ Fit [some (.agg [.int .i64 v.kind, .int .i64 v.num, .str v.s, .list (avs v.keys) none, .list (avs v.items) none]), some (.fn (.func 76) [] []), some (.ptr 0 0), none, some (.int .i64 0), none, none, none, none, none, none, none, none, none, none, none, none, none, none, none, none, some (.list [.list (avs v.keys) none, .list (avs v.items) none] none), some (.int .i64 2), some (.int .i64 i), none, none, none, none, none, none, none, none, none, none, none, none, none, none, none, none, none] t
def IK2o (v : V) (l : List V) (n : Int) (i : Nat) (t : List AV) (_H : Heap) : Prop := i ≤ l.length /\ errL false l = errL false (l.drop i) /\ Fit [some (.agg [.int .i64 v.kind, .int .i64 v.num, .str v.s, .list (avs v.keys) none, .list (avs v.items) none]), some (.fn (.func 76) [] []), some (.ptr 0 0), none, some (.int .i64 0), none, none, none, none, none, none, none, none, none, none, none, none, none, none, none, none, some (.list [.list (avs v.keys) none, .list (avs v.items) none] none), some (.int .i64 2), some (.int .i64 n), none, none, none, some (.list (avs l) none), some (.int .i64 l.length), some (.int .i64 i), none, none, none, none, none, none, none, none, none, none, none] t
theorem walko_of (v : V) (hk : ∀ x ∈ v.keys, WalkO x) (hI : ∀ x ∈ v.items, WalkO x) : WalkO v := by
  intro H hs hc
  rw [V.str_eq] at hs
  have q1 := cnt_keys v
  have q2 := cnt_items v
  have g0 := fun H => c76t v H hs.1 hc
  rw [V.av_eq] at g0
  have w2 : IntKind.i64.wrap 1 = 1 := rfl
  have w3 : IntKind.i64.wrap (1 + 1) = 2 := rfl
  refine cwp (fn := Tryz.f73) rfl (by kernel_rfl) rfl rfl rfl rfl (by simp) rfl ?_ H
  simp [V.av_eq, g0]
  cases h0 : decide (topE false v = 0)
  . have h0' : ¬ topE false v = 0 := by simpa using h0
    have e2 : errV false v = topE false v := by rw [errV_eq, if_pos h0']
    simp [e2]
  . have ht0 : topE false v = 0 := by simpa using h0
    simp
    refine st_iter (IKo v) 2 ?_ ?_
    . simp [IKo]
    . rintro n t H ⟨hi, h1, h2, ht⟩
      obtain ⟨d, rfl⟩ := ht.elim
      clear ht
      refine ⟨hi, ?_⟩
      have hn : n = 0 \/ n = 1 \/ n = 2 := by omega
      rcases hn with rfl | rfl | rfl
      . simp [idx]
        refine st_iter (IK2o v v.keys 0) v.keys.length ?_ ?_
        . simp [IK2o]
        . rintro i t H ⟨hi, hd, ht⟩
          obtain ⟨d, rfl⟩ := ht.elim
          clear ht
          refine ⟨hi, ?_⟩
          simp
          cases hb : decide (i < v.keys.length)
          . have hb' : i = v.keys.length := by simp at hb; omega
            have hd' : errL false v.keys = 0 := by rw [hd, hb', List.drop_length]; rfl
            simp [IKo, hd', w2]
          . have hb' : i < v.keys.length := by simpa using hb
            have q5 := cnt_mem (List.getElem_mem hb')
            have q6 := len_cnts v.keys
            have g1 := fun H => hk v.keys[i] (List.getElem_mem hb') H (str_mem hs.2.1 _ (List.getElem_mem hb')) (by omega)
            rw [V.av_eq] at g1
            have e1 := errL_drop false v.keys i hb'
            have w1 := wrapI (i := i + 1) (by omega) (by omega)
            simp [hb', V.av_eq, g1]
            cases he : decide (errV false v.keys[i] = 0)
            . have he' : ¬ errV false v.keys[i] = 0 := by simpa using he
              rw [if_pos he', <- hd] at e1
              have e2 : errV false v = errV false v.keys[i] := by rw [errV_eq, if_neg (by simp [ht0]), if_pos (by rw [e1]; exact he'), e1]
              simp [e2]
            . have he' : errV false v.keys[i] = 0 := by simpa using he
              rw [if_neg (by simp [he'])] at e1
              simp [w1, IK2o, hd, e1]
              omega
      . have hk0 := h1 (by omega)
        simp [idx]
        refine st_iter (IK2o v v.items 1) v.items.length ?_ ?_
        . simp [IK2o]
        . rintro i t H ⟨hi, hd, ht⟩
          obtain ⟨d, rfl⟩ := ht.elim
          clear ht
          refine ⟨hi, ?_⟩
          simp
          cases hb : decide (i < v.items.length)
          . have hb' : i = v.items.length := by simp at hb; omega
            have hd' : errL false v.items = 0 := by rw [hd, hb', List.drop_length]; rfl
            simp [IKo, hd', h1]
            rfl
          . have hb' : i < v.items.length := by simpa using hb
            have q5 := cnt_mem (List.getElem_mem hb')
            have q6 := len_cnts v.items
            have g1 := fun H => hI v.items[i] (List.getElem_mem hb') H (str_mem hs.2.2 _ (List.getElem_mem hb')) (by omega)
            rw [V.av_eq] at g1
            have e1 := errL_drop false v.items i hb'
            have w1 := wrapI (i := i + 1) (by omega) (by omega)
            simp [hb', V.av_eq, g1]
            cases he : decide (errV false v.items[i] = 0)
            . have he' : ¬ errV false v.items[i] = 0 := by simpa using he
              rw [if_pos he', <- hd] at e1
              have e2 : errV false v = errV false v.items[i] := by rw [errV_eq, if_neg (by simp [ht0]), if_neg (by simp [hk0]), e1]
              simp [e2]
            . have he' : errV false v.items[i] = 0 := by simpa using he
              rw [if_neg (by simp [he'])] at e1
              simp [w1, IK2o, hd, e1]
              omega
      . have e2 : errV false v = 0 := by rw [errV_eq, if_neg (by simp [ht0]), if_neg (by simp [h1]), h2 (by omega)]
        simp [e2]
theorem c73o (v : V) (H : Heap) (hs : v.str) (hc : v.cnt ≤ 1000000000) : Call CC 73 [v.av, .fn (.func 76) [] []] H = some (.ok (.int .i64 (errV false v)), H) :=
  V.ind (P := WalkO) (fun v h1 h2 => walko_of v h1 h2) v H hs hc
theorem sz4 {z a : Bool} {al : FuncId -> FuncId} : szOf (CX z a al) 4 = some 1 := by kernel_rfl
theorem ag4 {z a : Bool} {al : FuncId -> FuncId} : aggT (CX z a al) 4 = some false := by kernel_rfl
theorem zero4 {z a : Bool} {al : FuncId -> FuncId} : zeroOf (CX z a al) 4 = some (.bool false) := by kernel_rfl
attribute [simp] sz4 ag4 zero4
def nrmD (v : V) : V := (nrm v).getD zeroV
def nrmsB (l : List V) : Bool := l.all fun x => (nrm x).isSome
def nDs (l : List V) : List V := l.map nrmD
theorem nDs_len (l : List V) : (nDs l).length = l.length := List.length_map _
theorem nrms_D : ∀ l : List V, nrms l = if nrmsB l then some (nDs l) else none
  | [] => rfl
  | a :: r => by
    have ih := nrms_D r
    have eb : nrmsB (a :: r) = ((nrm a).isSome && nrmsB r) := rfl
    have ed : nDs (a :: r) = nrmD a :: nDs r := rfl
    rw [nrms, ih, eb, ed]
    cases ha : nrm a with
    | none => rfl
    | some w =>
      have : nrmD a = w := by rw [nrmD, ha]; rfl
      rw [this]
      cases nrmsB r <;> rfl
theorem nrmsB_take (l : List V) (i : Nat) (h : i < l.length) : nrmsB (l.take (i + 1)) = (nrmsB (l.take i) && (nrm l[i]).isSome) := by
  unfold nrmsB
  rw [take_succ l i h, List.all_append]; simp
theorem mapD_take (l : List V) (i : Nat) (h : i < l.length) : nDs (l.take (i + 1)) = nDs (l.take i) ++ [nrmD l[i]] := by
  rw [take_succ l i h, nDs, List.map_append]; rfl
theorem lv_two (o : List V) (tok : Nat) : LV o tok = .empty \/ LV o tok = .list (avs o) (some tok) := by
  unfold LV; split
  . exact .inl rfl
  . exact .inr rfl
def At135 (v : V) : Prop := ∀ H : Heap, Call CC 135 [v.av] H = some (.ok (.tup [(nrmD v).av, .bool (nrm v).isSome]), H)
def I206 (l : List V) (pb : Nat) (ok : Bool) (M : Heap) (i : Nat) (t : List AV) (H : Heap) : Prop := ∃ tok, i ≤ l.length /\ M.length ≤ H.length /\ H[pb]? = some (.cells [.bool (ok && nrmsB (l.take i))] 4) /\ TokAt H (nDs (l.take i)) tok /\ Fit [some (.list (avs l) none), some (.ptr pb 0), none, some (.empty), some (LV (nDs (l.take i)) tok), none, none, none, none, some (.list (avs l) none), some (.int .i64 l.length), some (.int .i64 i), none, none, none, none, none, none, none, none, none, none, none, none, none, none, none, none, none, none] t
set_option maxRecDepth 100000 in
theorem c206 (l : List V) (pb : Nat) (ok : Bool) (H : Heap) (hl : ∀ x ∈ l, At135 x) (hc : l.length ≤ 100000000) (h : H[pb]? = some (.cells [.bool ok] 4)) :
    ∃ H', Call CC 206 [.list (avs l) none, .ptr pb 0] H = some (.ok (.list (avs (nDs l)) none), H') /\ H.length ≤ H'.length /\ H'[pb]? = some (.cells [.bool (ok && nrmsB l)] 4) /\ ∀ j, j < H.length -> j ≠ pb -> H'[j]? = H[j]? := by
  obtain ⟨hR, hcl⟩ := reach1o h (by simp) (by simp [AObj.ids, idsL, AV.ids]) [.list (avs l) none, .ptr pb 0] (by simp [idsL, AV.ids, ids_avs])
  have key := cwpo (f := 206) (fn := Tryz.f206) (P := fun w H1 => w = .list (avs (nDs l)) none /\ H1[pb]? = some (.cells [.bool (ok && nrmsB l)] 4)) (args := [.list (avs l) none, .ptr pb 0]) (H := H) rfl (by kernel_rfl) rfl rfl rfl rfl (by simp) hR hcl ?_
  . obtain ⟨w, H1, H', k1, ⟨k2, k3⟩, k6, k7, k8, k9⟩ := key
    subst k2
    exact ⟨H', k1, by omega, by rw [k8 pb (by simp), k3], fun j hj hne => k9 j hj (by simp [hne])⟩
  . intro M hM hR
    have m1 : M[pb]? = some (.cells [.bool ok] 4) := by rw [hR pb (by simp), h]
    simp
    refine st_iter (I206 l pb ok M) l.length ?_ ?_
    . exact ⟨0, by omega, Nat.le_refl _, by simpa [nrmsB] using m1, fun h => absurd rfl h, by simp [lv_nil, show nDs [] = [] from rfl]⟩
    . rintro i t H2 ⟨tok, hi, hml, hp, hk, ht⟩
      obtain ⟨d, rfl⟩ := ht.elim
      clear ht
      refine ⟨hi, ?_⟩
      simp
      cases hb : decide (i < l.length)
      . have hb' : i = l.length := by simp at hb; omega
        subst hb'
        rw [List.take_length] at hp ⊢
        simp [hp]
        omega
      . have hb' : i < l.length := by simpa using hb
        have g1 := fun H => hl l[i] (List.getElem_mem hb') H
        have w1 := wrapI (i := i + 1) (by omega) (by omega)
        have e1 := nrmsB_take l i hb'
        have e2 := mapD_take l i hb'
        have q8 : (nDs (l.take i)).length ≤ i := by rw [nDs_len, List.length_take]; omega
        generalize hno : nDs (l.take i) = o at *
        generalize hy : nrmD l[i] = y at *
        rw [V.av_eq, V.av_eq] at g1
        obtain ⟨t1, H3, a1, b1, k1⟩ := app_LVk (H2 ++ [boxV l[i], boxV y]) o [y] tok (hk.app _) (by simp; omega)
        have hne : o ++ [y] ≠ [] := by simp
        rw [avs, avs, V.av_eq, lv_cons hne] at a1
        have n1 := app_get hp
        have p1 := k1.2 _ _ _ (n1 _)
        have bl := k1.1
        simp at bl
        have e3 : (ok && nrmsB (l.take (i + 1))) = ((ok && nrmsB (l.take i)) && (nrm l[i]).isSome) := by rw [e1, Bool.and_assoc]
        generalize (ok && nrmsB (l.take i)) = q at *
        have s1 := set_of p1
        have tk : ∀ X, TokAt (H3.set pb X) (o ++ [y]) t1 := fun X hh => by
          rw [List.getElem?_set_ne]
          . exact b1 hh
          . intro e; subst e
            have := b1 hh; rw [p1] at this; cases this
        cases q
        . simp [-aappB, hb', V.av_eq, g1, a1, p1, w1]
          refine ⟨?_, ?_⟩
          . refine (?_ : drawE _ _ _ = true)
            rcases lv_two o tok with h | h
            . rw [h]; kernel_rfl
            . rw [h]; kernel_rfl
          . exact ⟨t1, by omega, by simp; omega, by rw [e3]; exact s1 _, by rw [e2]; exact tk _, by rw [e2, lv_cons hne]; simp⟩
        . simp [-aappB, hb', V.av_eq, g1, a1, p1, w1]
          refine ⟨?_, ?_⟩
          . refine (?_ : drawE _ _ _ = true)
            rcases lv_two o tok with h | h
            . rw [h]; kernel_rfl
            . rw [h]; kernel_rfl
          . exact ⟨t1, by omega, by simp; omega, by rw [e3]; exact s1 _, by rw [e2]; exact tk _, by rw [e2, lv_cons hne]; simp⟩
end Go.Tv
namespace Go.Tv
open Go.Proofs
set_option maxHeartbeats 4000000
theorem nrmD_some {v w : V} (h : nrm v = some w) : nrmD v = w := by rw [nrmD, h]; rfl
theorem nrmD_none {v : V} (h : nrm v = none) : nrmD v = zeroV := by rw [nrmD, h]; rfl
theorem nrmD_cnt {v : V} (h : errV false v = 0) : (nrmD v).cnt ≤ v.cnt := by
  cases hn : nrm v with
  | none => rw [nrmD_none hn]; have := cnt_pos v; exact this
  | some w => rw [nrmD_some hn]; exact (nrm_cnt v h w hn).1
theorem nDs_cnt : ∀ {l : List V}, errL false l = 0 -> cnts (nDs l) ≤ cnts l
  | [], _ => Nat.le_refl _
  | a :: r, h => by
    have h1 := errL_mem h a (by simp)
    have h2 : errL false r = 0 := by
      rw [errL, if_neg (by simp [h1])] at h; exact h
    have := nrmD_cnt h1
    have := nDs_cnt h2
    have e : nDs (a :: r) = nrmD a :: nDs r := rfl
    rw [e]; simp only [cnts]; omega
theorem nrm_D (v : V) : nrm v = if nrmsB v.keys && nrmsB v.items then nrmOf v (nDs v.keys) (nDs v.items) else none := by
  rw [nrm_eq, nrms_D, nrms_D]
  cases nrmsB v.keys <;> cases nrmsB v.items <;> rfl
def NV (v : V) : Prop := errV false v = 0 -> v.cnt ≤ 100000000 -> At135 v
set_option maxRecDepth 100000 in
theorem normal_of (v : V) (hk : ∀ x ∈ v.keys, NV x) (hi : ∀ x ∈ v.items, NV x) : NV v := by
  intro he hc H
  obtain ⟨h0, _, hek, hei⟩ := errV_zero he
  have q1 := cnt_keys v
  have q2 := cnt_items v
  have q0 := v.cnt_eq
  have q3 := len_cnts v.keys
  have q4 := len_cnts v.items
  have ck := nDs_cnt hek
  have ci := nDs_cnt hei
  have ak : ∀ x ∈ v.keys, At135 x := fun x hx => hk x hx (errL_mem hek x hx) (by have := cnt_mem hx; omega)
  have ai : ∀ x ∈ v.items, At135 x := fun x hx => hi x hx (errL_mem hei x hx) (by have := cnt_mem hx; omega)
  have hn := nrm_D v
  obtain ⟨H1, s1, s2, s3, s4⟩ := c206 v.keys 2 true [boxV v, .cells [.int .i64 0, .int .i64 0, .str [], .empty, .empty] 24, .cells [.bool true] 4] ak (by omega) rfl
  obtain ⟨H2, t1, t2, t3, t4⟩ := c206 v.items 2 (true && nrmsB v.keys) H1 ai (by omega) s3
  have l1 : 3 ≤ H1.length := s2
  have m0 : H2[0]? = some (boxV v) := by rw [t4 0 (by omega) (by decide), s4 0 (by simp) (by decide)]; rfl
  have m1 : H2[1]? = some (.cells [.int .i64 0, .int .i64 0, .str [], .empty, .empty] 24) := by rw [t4 1 (by omega) (by decide), s4 1 (by simp) (by decide)]; rfl
  have n0 : H1[0]? = some (boxV v) := by rw [s4 0 (by simp) (by decide)]; rfl
  have u1 := set_of m1
  have b2 := lt_of_get t3
  rw [Bool.true_and] at t3
  have h100 := fun H => c100 (nDs v.items) (by omega) H
  have h101 := fun (hl : (nDs v.keys).length = (nDs v.items).length) H => c101 (nDs v.keys) (nDs v.items) hl (by omega) H
  have hRk := (reach1o (pb := 2) (o := .cells [.bool true] 4) (H := [boxV v, .cells [.int .i64 0, .int .i64 0, .str [], .empty, .empty] 24, .cells [.bool true] 4]) rfl (by simp) (by simp [AObj.ids, idsL, AV.ids]) [.list (avs v.keys) none, .ptr 2 0] (by simp [idsL, AV.ids, ids_avs])).1
  obtain ⟨r, hr⟩ : ∃ r, r = nrmD v := ⟨_, rfl⟩
  obtain ⟨q, hq⟩ : ∃ q, q = (nrm v).isSome := ⟨_, rfl⟩
  rw [<- hr, <- hq]
  refine cwp (fn := Tryz.f135) rfl (by kernel_rfl) rfl rfl rfl rfl (by simp) (by simp) ?_ H
  cases hok : (nrmsB v.keys && nrmsB v.items)
  . rw [hok] at hn t3
    rw [if_neg (by decide)] at hn
    have e1 : r = zeroV := by rw [hr, nrmD_none hn]
    have e2 : q = false := by rw [hq, hn]; rfl
    rw [e1, e2, zeroV_av]
    simp [V.av_eq, s1, t1, n0, t3, m1, u1, undv24, fv24_all]
    refine (?_ : drawE _ _ _ = true)
    rw [hRk]
    kernel_rfl
  . rw [hok] at hn t3
    rw [if_pos rfl] at hn
    by_cases h4 : v.kind = 4
    . have k4 : (v.kind = 4) = True := eq_true h4
      rw [nrmOf, if_pos h4] at hn
      have e1 : r = setN (nDs v.items) := by rw [hr, nrmD_some hn]
      have e2 : q = true := by rw [hq, hn]; rfl
      rw [<- e1] at h100
      rw [V.av_eq r] at h100
      simp [V.av_eq, s1, t1, n0, t3, m0, m1, u1, k4, h100, e2]
      refine (?_ : drawE _ _ _ = true)
      rw [hRk]
      kernel_rfl
    . by_cases h5 : v.kind = 5
      . have k5 : (v.kind = 5) = True := eq_true h5
        rw [nrmOf, if_neg h4, if_pos h5] at hn
        have hl : (nDs v.keys).length = (nDs v.items).length := by rw [nDs_len, nDs_len]; exact (own0_of h0).len h5
        have h101 := fun H => h101 hl H
        rw [<- hn, <- hq, show (nrm v).getD zeroV = nrmD v from rfl, <- hr] at h101
        rw [V.av_eq r] at h101
        simp [V.av_eq, s1, t1, n0, t3, m0, m1, u1, h4, k5, h101]
        refine (?_ : drawE _ _ _ = true)
        rw [hRk]
        kernel_rfl
      . rw [nrmOf, if_neg h4, if_neg h5] at hn
        have e1 : r = v := by rw [hr, nrmD_some hn]
        have e2 : q = true := by rw [hq, hn]; rfl
        rw [e1, e2]
        simp [V.av_eq, s1, t1, n0, t3, m0, m1, u1, h4, h5]
        refine (?_ : drawE _ _ _ = true)
        rw [hRk]
        kernel_rfl
theorem c135 (v : V) (he : errV false v = 0) (hc : v.cnt ≤ 100000000) (H : Heap) : Call CC 135 [v.av] H = some (.ok (.tup [(nrmD v).av, .bool (nrm v).isSome]), H) :=
  V.ind (P := NV) normal_of v he hc H
end Go.Tv
namespace Go.Tv
open Go.Proofs
set_option maxHeartbeats 4000000
def nlE (v : V) : Int := match nrm v with | none => 14 | some w => resE w 0
def nlW (v : V) : V := if nlE v = 0 then nrmD v else zeroV
theorem c79 (v : V) (he : errV false v = 0) (hc : v.cnt ≤ 100000000) (H : Heap) : Call CC 79 [v.av] H = some (.ok (.tup [(nlW v).av, .int .i64 (nlE v)]), H) := by
  have g1 := fun H => c135 v he hc H
  have hcn := nrmD_cnt he
  have g2 := fun H => c98 (nrmD v) 0 H (by omega)
  refine cwp (fn := Tryz.f79) rfl (by kernel_rfl) rfl rfl rfl rfl (by simp) (by simp) ?_ H
  cases hn : nrm v with
  | none =>
    have e1 : nlE v = 14 := by rw [nlE, hn]
    have e2 : nlW v = zeroV := by rw [nlW, e1, if_neg (by decide)]
    rw [hn, nrmD_none hn, zeroV_av, V.av_eq] at g1
    rw [e1, e2, zeroV_av]
    simp [V.av_eq, g1, undv24, fv24_all]
  | some w =>
    have e1 : nlE v = resE w 0 := by rw [nlE, hn]
    have hw := nrmD_some hn
    have g3 : ∀ H, Call CC 98 [w.av, .int .i64 0] H = some (.ok (.tup [(nlW v).av, .int .i64 (nlE v)]), H) := fun H => by
      rw [<- hw, g2 H, nlW, e1, hw]
      split <;> rfl
    rw [hn, hw, V.av_eq v, V.av_eq w] at g1
    rw [V.av_eq w, V.av_eq (nlW v)] at g3
    simp [V.av_eq v, V.av_eq (nlW v), g1, g3]
def normE (v : V) : Int := if v.small 300 8 then (if errV false v ≠ 0 then errV false v else nlE v) else 2
def normW (v : V) : V := if normE v = 0 then nrmD v else zeroV
theorem c17 (v : V) (H : Heap) (hs : v.str) (hc : v.cnt ≤ 100000000) : Call CC 17 [v.av] H = some (.ok (.tup [(normW v).av, .int .i64 (normE v)]), H) := by
  have g1 := fun H => c72 v H (by omega)
  have g2 := fun H => c73o v H hs (by omega)
  have g3 := fun he H => c79 v he hc H
  rw [V.av_eq v] at g1 g2 g3
  refine cwp (fn := Tryz.f17) rfl (by kernel_rfl) rfl rfl rfl rfl (by simp) (by simp) ?_ H
  cases h : v.small 300 8
  . have e1 : normE v = 2 := by rw [normE, h]; rfl
    have e2 : normW v = zeroV := by rw [normW, e1, if_neg (by decide)]
    rw [e1, e2, zeroV_av]
    simp [V.av_eq v, g1, h, undv24, fv24_all]
  . by_cases he : errV false v = 0
    . have e1 : normE v = nlE v := by rw [normE, h, if_pos rfl, if_neg (by simp [he])]
      have e2 : normW v = nlW v := by rw [normW, e1]; rfl
      have g3 := g3 he
      rw [<- e1, <- e2, V.av_eq (normW v)] at g3
      simp [V.av_eq v, V.av_eq (normW v), g1, h, g2, he, g3]
    . have e1 : normE v = errV false v := by rw [normE, h, if_pos rfl, if_pos he]
      have e2 : normW v = zeroV := by rw [normW, e1, if_neg he]
      rw [e1, e2, zeroV_av]
      simp [V.av_eq v, g1, h, g2, he, undv24, fv24_all]
def At81 (v : V) : Prop := ∀ H : Heap, Call CC 81 [v.av] H = some (.ok (.tup [(nrmD v).av, .bool (nrm v).isSome]), H)
def IN1 (v : V) (i : Nat) (t : List AV) (H : Heap) : Prop := ∃ tok, i ≤ v.keys.length /\ nrmsB (v.keys.take i) = true /\ H[0]? = some (boxV v) /\ H[1]? = some (.cells [.int .i64 0, .int .i64 0, .str [], .empty, .empty] 24) /\ TokAt H (nDs (v.keys.take i)) tok /\ Fit [some (.agg [.int .i64 v.kind, .int .i64 v.num, .str v.s, .list (avs v.keys) none, .list (avs v.items) none]), some (.ptr 0 0), some (.ptr 1 0), some (.bool false), some (LV (nDs (v.keys.take i)) tok), some (.empty), some (.int .i64 i), none, none, none, none, none, none, none, none, none, none, none, none, none, none, none, none, none, none, none, none, none, none, none, none, none, none, none, none, none, none, none, none, none, none, none, none, none, none, none, none, none, none, none, none, none, none, none, none, none, none, none, none, none, none, none, none, none, none, none, none, none, none, none, none, none, none, none, none, none, none, none] t
def IN2 (v : V) (K : AV) (i : Nat) (t : List AV) (H : Heap) : Prop := ∃ tok, i ≤ v.items.length /\ nrmsB (v.items.take i) = true /\ H[0]? = some (boxV v) /\ H[1]? = some (.cells [.int .i64 0, .int .i64 0, .str [], .empty, .empty] 24) /\ TokAt H (nDs (v.items.take i)) tok /\ Fit [some (.agg [.int .i64 v.kind, .int .i64 v.num, .str v.s, .list (avs v.keys) none, .list (avs v.items) none]), some (.ptr 0 0), some (.ptr 1 0), some (.bool false), some (K), some (LV (nDs (v.items.take i)) tok), none, none, none, some (.int .i64 i), none, none, none, none, none, none, none, none, none, none, none, none, none, none, none, none, none, none, none, none, none, none, none, none, none, none, none, none, none, none, none, none, none, none, none, none, none, none, none, none, none, none, none, none, none, none, none, none, none, none, none, none, none, none, none, none, none, none, none, none, none, none, none, none, none, none, none, none] t
set_option maxRecDepth 100000 in
theorem rnormal_of (v : V) (hk : ∀ x ∈ v.keys, errV false x = 0 -> x.cnt ≤ 100000000 -> At81 x) (hi : ∀ x ∈ v.items, errV false x = 0 -> x.cnt ≤ 100000000 -> At81 x) (he : errV false v = 0) (hc : v.cnt ≤ 100000000) : At81 v := by
  intro H
  obtain ⟨h0, _, hek, hei⟩ := errV_zero he
  have q1 := cnt_keys v
  have q2 := cnt_items v
  have q0 := v.cnt_eq
  have q3 := len_cnts v.keys
  have q4 := len_cnts v.items
  have ck := nDs_cnt hek
  have ci := nDs_cnt hei
  have ak : ∀ x ∈ v.keys, At81 x := fun x hx => hk x hx (errL_mem hek x hx) (by have := cnt_mem hx; omega)
  have ai : ∀ x ∈ v.items, At81 x := fun x hx => hi x hx (errL_mem hei x hx) (by have := cnt_mem hx; omega)
  have h103 := fun H => c103 (nDs v.items) H (by omega)
  have h104 := fun (hl : (nDs v.keys).length = (nDs v.items).length) H => c104 (nDs v.keys) (nDs v.items) hl (by omega) H
  obtain ⟨r, hr⟩ : ∃ r, r = nrmD v := ⟨_, rfl⟩
  obtain ⟨q, hq⟩ : ∃ q, q = (nrm v).isSome := ⟨_, rfl⟩
  rw [<- hr, <- hq]
  refine cwp (fn := Tryz.f81) rfl (by kernel_rfl) rfl rfl rfl rfl (by simp) (by simp) ?_ H
  simp [V.av_eq v]
  refine st_iter (IN1 v) v.keys.length ?_ ?_
  . exact ⟨0, by omega, by simp [nrmsB], rfl, rfl, fun h => absurd rfl h, by simp [lv_nil, show nDs [] = [] from rfl]⟩
  . rintro i t H2 ⟨tok, hi, hkb, m0, m1, hk, ht⟩
    obtain ⟨d, rfl⟩ := ht.elim
    clear ht
    refine ⟨hi, ?_⟩
    simp [m0]
    cases hb : decide (i < v.keys.length)
    . have hb' : i = v.keys.length := by simp at hb; omega
      subst hb'
      rw [List.take_length] at hkb hk ⊢
      generalize hKV : LV (nDs v.keys) tok = KV
      have hKe : KV.erase = .list (avs (nDs v.keys)) none := by rw [<- hKV]; simp
      simp
      refine st_iter (IN2 v KV) v.items.length ?_ ?_
      . exact ⟨0, by omega, by simp [nrmsB], m0, m1, fun h => absurd rfl h, by simp [lv_nil, show nDs [] = [] from rfl]⟩
      . clear m0 m1 hk
        clear H2
        rintro i t H2 ⟨tok, hi, hkb2, m0, m1, hk, ht⟩
        obtain ⟨d, rfl⟩ := ht.elim
        clear ht
        refine ⟨hi, ?_⟩
        simp [m0]
        cases hb : decide (i < v.items.length)
        . have hb' : i = v.items.length := by simp at hb; omega
          subst hb'
          rw [List.take_length] at hkb2 hk ⊢
          have hn := nrm_D v
          rw [hkb, hkb2] at hn
          simp at hn
          have n0 := app_get m0
          have n1 := app_get m1
          have o0 := own0_of h0
          have u0 := set_of m1
          have u1 := fun X => set_of (n1 X)
          have n0' : ∀ (x : AObj) (hh : 0 < (H2 ++ [x]).length), (H2 ++ [x])[0]'hh = boxV v := fun x hh => (List.getElem?_eq_some_iff.1 (n0 [x])).2
          have hAe := lv_erase (nDs v.items) tok
          rcases lv_two (nDs v.items) tok with hA | hA
          . rw [hA] at hAe ⊢
            have hav : avs (nDs v.items) = [] := by
              simp at hAe
              first | exact hAe | exact hAe.symm
            rw [hav] at h103
            simp only [hav] at h104
            by_cases h4 : v.kind = 4
            . have k4 : (v.kind = 4) = True := eq_true h4
              rw [nrmOf, if_pos h4] at hn
              have e1 : r = setN (nDs v.items) := by rw [hr, nrmD_some hn]
              have e2 : q = true := by rw [hq, hn]; rfl
              have z1 := o0.num (by omega) (by omega)
              have z2 := o0.s (by omega) (by omega)
              rw [e1, e2]
              simp [n0', m0, n1, k4, h103, u1, show ¬ v.kind = 5 by omega]
              simp [setN, V.av, avs, h4, z1, z2]
            . by_cases h5 : v.kind = 5
              . have k5 : (v.kind = 5) = True := eq_true h5
                rw [nrmOf, if_neg h4, if_pos h5] at hn
                have hl : (nDs v.keys).length = (nDs v.items).length := by rw [nDs_len, nDs_len]; exact o0.len h5
                have h104 := fun H => h104 hl H
                rw [<- fnV_eq _ _ hl, <- hn, <- hq, show (nrm v).getD zeroV = nrmD v from rfl, <- hr] at h104
                rw [V.av_eq r] at h104
                simp [n0', V.av_eq r, m0, n1, h4, k5, hKe, h104, u1]
                done
              . rw [nrmOf, if_neg h4, if_neg h5] at hn
                have e1 : r = v := by rw [hr, nrmD_some hn]
                have e2 : q = true := by rw [hq, hn]; rfl
                have z1 := o0.items h4 h5
                have z2 := o0.keys h5
                rw [e1, e2]
                simp [n0', V.av_eq v, m0, n1, h4, h5, u1]
                rw [z1, z2]
                exact ⟨rfl, rfl⟩
          . rw [hA]
            by_cases h4 : v.kind = 4
            . have k4 : (v.kind = 4) = True := eq_true h4
              rw [nrmOf, if_pos h4] at hn
              have e1 : r = setN (nDs v.items) := by rw [hr, nrmD_some hn]
              have e2 : q = true := by rw [hq, hn]; rfl
              have z1 := o0.num (by omega) (by omega)
              have z2 := o0.s (by omega) (by omega)
              rw [e1, e2]
              simp [n0', m0, n1, k4, h103, u1, show ¬ v.kind = 5 by omega]
              simp [setN, V.av, avs, h4, z1, z2]
            . by_cases h5 : v.kind = 5
              . have k5 : (v.kind = 5) = True := eq_true h5
                rw [nrmOf, if_neg h4, if_pos h5] at hn
                have hl : (nDs v.keys).length = (nDs v.items).length := by rw [nDs_len, nDs_len]; exact o0.len h5
                have h104 := fun H => h104 hl H
                rw [<- fnV_eq _ _ hl, <- hn, <- hq, show (nrm v).getD zeroV = nrmD v from rfl, <- hr] at h104
                rw [V.av_eq r] at h104
                simp [n0', V.av_eq r, m0, n1, h4, k5, hKe, h104, u1]
                done
              . rw [nrmOf, if_neg h4, if_neg h5] at hn
                have e1 : r = v := by rw [hr, nrmD_some hn]
                have e2 : q = true := by rw [hq, hn]; rfl
                have z1 := o0.items h4 h5
                have z2 := o0.keys h5
                rw [e1, e2]
                simp [n0', V.av_eq v, m0, n1, h4, h5, u1]
                rw [z1, z2]
                exact ⟨rfl, rfl⟩
        . have hb' : i < v.items.length := by simpa using hb
          have g1 := fun H => ai v.items[i] (List.getElem_mem hb') H
          have w1 := wrapI (i := i + 1) (by omega) (by omega)
          have e1 := nrmsB_take v.items i hb'
          have e2 := mapD_take v.items i hb'
          have q8 : (nDs (v.items.take i)).length ≤ i := by rw [nDs_len, List.length_take]; omega
          generalize hno : nDs (v.items.take i) = o at *
          cases hsn : (nrm v.items[i]).isSome
          . have hx : nrmsB v.items = false := by
              rw [Bool.eq_false_iff]; intro hall
              have := List.all_eq_true.1 hall _ (List.getElem_mem hb')
              rw [hsn] at this; cases this
            have hn0 : nrm v = none := by rw [nrm_D, hx]; simp
            rw [hsn, V.av_eq, V.av_eq (nrmD _)] at g1
            have n0 := app_get m0
            have n1 := app_get m1
            have hz : r = zeroV := by rw [hr, nrmD_none hn0]
            have hz2 : q = false := by rw [hq, hn0]; rfl
            rw [hz, hz2, zeroV_av]
            have u1 := set_of (n1 [boxV (nrmD v.items[i])])
            simp [-aappB, hb', V.av_eq v.items[i], m0, n1, g1, undv24, fv24_all, u1]
            done
          . rw [hsn, Bool.and_true] at e1
            generalize hy : nrmD v.items[i] = y at *
            rw [hsn, V.av_eq, V.av_eq y] at g1
            obtain ⟨t1, H3, a1, b1, k1⟩ := app_LVk (H2 ++ [boxV y]) o [y] tok (hk.app _) (by simp; omega)
            have hne : o ++ [y] ≠ [] := by simp
            rw [avs, avs, V.av_eq, lv_cons hne] at a1
            have n0 := app_get m0
            have n1 := app_get m1
            have p0 := k1.2 _ _ _ (n0 _)
            have p1 := k1.2 _ _ _ (n1 _)
            simp [-aappB, hb', V.av_eq v.items[i], m0, g1, a1, w1]
            exact ⟨t1, by omega, by rw [e1]; exact hkb2, p0, p1, by rw [e2]; exact b1, by rw [e2, lv_cons hne]; simp⟩
    . have hb' : i < v.keys.length := by simpa using hb
      have g1 := fun H => ak v.keys[i] (List.getElem_mem hb') H
      have w1 := wrapI (i := i + 1) (by omega) (by omega)
      have e1 := nrmsB_take v.keys i hb'
      have e2 := mapD_take v.keys i hb'
      have q8 : (nDs (v.keys.take i)).length ≤ i := by rw [nDs_len, List.length_take]; omega
      generalize hno : nDs (v.keys.take i) = o at *
      cases hsn : (nrm v.keys[i]).isSome
      . have hx : nrmsB v.keys = false := by
          rw [Bool.eq_false_iff]; intro hall
          have := List.all_eq_true.1 hall _ (List.getElem_mem hb')
          rw [hsn] at this; cases this
        have hn0 : nrm v = none := by rw [nrm_D, hx]; simp
        rw [hsn, V.av_eq, V.av_eq (nrmD _)] at g1
        have n0 := app_get m0
        have n1 := app_get m1
        have hz : r = zeroV := by rw [hr, nrmD_none hn0]
        have hz2 : q = false := by rw [hq, hn0]; rfl
        rw [hz, hz2, zeroV_av]
        have u1 := set_of (n1 [boxV (nrmD v.keys[i])])
        simp [-aappB, hb', V.av_eq v.keys[i], m0, n1, g1, undv24, fv24_all, u1]
        done
      . rw [hsn, Bool.and_true] at e1
        generalize hy : nrmD v.keys[i] = y at *
        rw [hsn, V.av_eq, V.av_eq y] at g1
        obtain ⟨t1, H3, a1, b1, k1⟩ := app_LVk (H2 ++ [boxV y]) o [y] tok (hk.app _) (by simp; omega)
        have hne : o ++ [y] ≠ [] := by simp
        rw [avs, avs, V.av_eq, lv_cons hne] at a1
        have n0 := app_get m0
        have n1 := app_get m1
        have p0 := k1.2 _ _ _ (n0 _)
        have p1 := k1.2 _ _ _ (n1 _)
        simp [-aappB, hb', V.av_eq v.keys[i], m0, g1, a1, w1]
        exact ⟨t1, by omega, by rw [e1]; exact hkb, p0, p1, by rw [e2]; exact b1, by rw [e2, lv_cons hne]; simp⟩
theorem c81 (v : V) (he : errV false v = 0) (hc : v.cnt ≤ 100000000) (H : Heap) : Call CC 81 [v.av] H = some (.ok (.tup [(nrmD v).av, .bool (nrm v).isSome]), H) :=
  V.ind (P := fun v => errV false v = 0 -> v.cnt ≤ 100000000 -> At81 v) (fun v hk hi he hc => rnormal_of v hk hi he hc) v he hc H
theorem nl_small {v : V} (he : errV false v = 0) (hs : v.small 300 8 = true) : nlE v = match nrm v with | none => 14 | some _ => 0 := by
  unfold nlE
  cases hn : nrm v with
  | none => rfl
  | some w =>
    obtain ⟨h1, h2⟩ := nrm_cnt v he w hn
    have : w.small 300 8 = true := by
      simp only [V.small, Bool.and_eq_true, decide_eq_true_eq] at hs ⊢
      omega
    simp [resE, this]
theorem c19 (v : V) (H : Heap) (hs : v.str) (hc : v.cnt ≤ 100000000) : Call CC 19 [v.av] H = some (.ok (.tup [(normW v).av, .int .i64 (normE v)]), H) := by
  have g1 := fun H => c28 v H
  have g2 := fun H => c80 v false H hs (by omega)
  have g3 := fun he H => c81 v he hc H
  rw [V.av_eq v] at g1 g2 g3
  refine cwp (fn := Tryz.f19) rfl (by kernel_rfl) rfl rfl rfl rfl (by simp) (by simp) ?_ H
  cases h : v.small 300 8
  . have e1 : normE v = 2 := by rw [normE, h]; rfl
    have e2 : normW v = zeroV := by rw [normW, e1, if_neg (by decide)]
    rw [e1, e2, zeroV_av]
    simp [V.av_eq v, g1, h, undv24, fv24_all]
  . by_cases he : errV false v = 0
    . have e1 : normE v = nlE v := by rw [normE, h, if_pos rfl, if_neg (by simp [he])]
      have e0 := nl_small he h
      have g3 := g3 he
      cases hn : nrm v with
      | none =>
        rw [hn] at e0 g3
        have e2 : normW v = zeroV := by rw [normW, e1, e0, if_neg (by decide)]
        rw [nrmD_none hn, zeroV_av] at g3
        rw [e1, e0, e2, zeroV_av]
        simp [V.av_eq v, g1, h, g2, he, g3, undv24, fv24_all]
      | some w =>
        rw [hn] at e0 g3
        have e2 : normW v = w := by rw [normW, e1, e0, if_pos rfl, nrmD_some hn]
        rw [nrmD_some hn, V.av_eq w] at g3
        rw [e1, e0, e2]
        simp [V.av_eq v, V.av_eq w, g1, h, g2, he, g3, undv24, fv24_all]
    . have e1 : normE v = errV false v := by rw [normE, h, if_pos rfl, if_pos he]
      have e2 : normW v = zeroV := by rw [normW, e1, if_neg he]
      rw [e1, e2, zeroV_av]
      simp [V.av_eq v, g1, h, g2, he, undv24, fv24_all]
end Go.Tv
