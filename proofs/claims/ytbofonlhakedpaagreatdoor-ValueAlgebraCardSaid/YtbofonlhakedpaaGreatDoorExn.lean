/-
  What the functions of chapter 8 compute: the errors of names, Renamed of the reference.
-/
import Derived.Test.YtbofonlhakedpaaGreatDoorExl
import Derived.Test.YtbofonlhakedpaaGreatDoorPla
import Derived.Test.YtbofonlhakedpaaGreatDoorExg
import Derived.Test.YtbofonlhakedpaaGreatDoorExh
import Derived.Test.YtbofonlhakedpaaGreatDoorChecksA
import Derived.Test.YtbofonlhakedpaaGreatDoorShapesA
/- Rows of any elements that grow. -/
namespace Go.Tv
open Go.Proofs
set_option maxHeartbeats 4000000
def TokY (sz : Nat) (H : Heap) (els : List AV) (tok : Nat) : Prop := els ≠ [] → H[tok]? = some (.tail els.length sz)
theorem TokY.app {sz : Nat} {H : Heap} {l : List AV} {tok : Nat} (h : TokY sz H l tok) (L : Heap) : TokY sz (H ++ L) l tok := fun hl => by rw [List.getElem?_append_left (List.getElem?_eq_some_iff.1 (h hl)).1]; exact h hl
theorem app_LY {T e : TypeId} {sz : Nat} {z : AV} (hel : elemT CC T = some e) (hint : isIntT CC T = false) (hsz : szOf CC e = some sz) (hz : zeroOf CC e = some z) (hzl : z.cells.length = sz) (hzo : z.cells.all AV.one = true) (hpos : 0 < sz) (hroom : ∀ n, n ≤ 1000000000 → roomOk CC e n = true)
    (H : Heap) (a b : List AV) (tok : Nat) (ht : TokY sz H a tok) (ha5 : a.all (fun v => decide (v.cells.length = sz)) = true) (hb5 : b.all (fun v => decide (v.cells.length = sz) && v.cells.all AV.one) = true) (hc : a.length + b.length ≤ 1000000000) :
    ∃ tok' H', aappB CC [T, T] [LX a tok, .list b none] H = some (LX (a ++ b) tok', H') ∧ TokY sz H' (a ++ b) tok' ∧ KC H H' := by
  by_cases hb : b = []
  · subst hb
    refine ⟨tok, H, ?_, by simpa using ht, KC.refl H⟩
    unfold LX
    by_cases ha : a = []
    · subst ha; simp [aappB, aappend, newsH, news, hel, hint, hsz, hz, hpos, hzl, hzo]
    · simp [ha, aappB, aappend, newsH, news, hel, hint, hsz, hz, hpos, hzl, hzo]
  obtain ⟨x, r, rfl⟩ : ∃ x r, b = x :: r := by cases b with | nil => exact absurd rfl hb | cons x r => exact ⟨x, r, rfl⟩
  have hne : a ++ x :: r ≠ [] := by simp
  by_cases ha : a = []
  · subst ha
    have r1 := hroom (x :: r).length (by simpa using hc)
    refine ⟨H.length, H ++ [.tail (x :: r).length sz], ?_, fun _ => by simp, KC.app _ _⟩
    rw [lx_nil, lx_cons hne]
    simp only [aappB, aappend, hel, hint, newsH, news, hsz, hz]
    rw [if_pos ⟨hzl, hpos, hzo, hb5⟩]
    simp only [List.nil_append]
    simp only [r1, if_true, cc_arr, Bool.false_eq_true, if_false]
  · have r1 := hroom (a.length + (x :: r).length) hc
    have hta := ht ha
    have hkc : KC H (H.set tok .dead ++ [.tail (a.length + (x :: r).length) sz]) := ⟨by simp, fun j cs T h => by
      have hjt : tok ≠ j := fun e => by subst e; rw [hta] at h; cases h
      rw [List.getElem?_append_left (by simpa using (List.getElem?_eq_some_iff.1 h).1), List.getElem?_set_ne hjt]; exact h⟩
    refine ⟨H.length, H.set tok .dead ++ [.tail (a.length + (x :: r).length) sz], ?_, fun _ => by simp, hkc⟩
    rw [lx_cons ha, lx_cons hne]
    simp only [aappB, aappend, hel, hint, newsH, news, hsz, hz]
    rw [if_pos ⟨hzl, hpos, hzo, hb5⟩]
    simp only [hta]
    rw [if_pos ⟨trivial, trivial, r1, ha5⟩]
end Go.Tv

/- The errors of names that become others: renamingsErr of the program, RenamingErr of the reference. -/
namespace Go.Tv
open Go.Proofs
set_option maxHeartbeats 4000000
section
variable {z a : Bool} {al : FuncId → FuncId}
theorem sz65 : szOf (CX z a al) 65 = some 2 := by kernel_rfl
theorem ag65 : aggT (CX z a al) 65 = some true := by kernel_rfl
theorem fo65_0 : fieldOf (CX z a al) 65 0 = some (fld 65 0) := by kernel_rfl
theorem fo65_1 : fieldOf (CX z a al) 65 1 = some (fld 65 1) := by kernel_rfl
theorem ft65_0 : (fld 65 0).type = 9 := by kernel_rfl
theorem ft65_1 : (fld 65 1).type = 9 := by kernel_rfl
theorem fx65_0 : (fld 65 0).offset = 0 := by kernel_rfl
theorem fx65_1 : (fld 65 1).offset = 1 := by kernel_rfl
theorem zero65 : zeroOf (CX z a al) 65 = some (.agg [.str [], .str []]) := by kernel_rfl
theorem sz63 : szOf (CX z a al) 63 = some 1 := by kernel_rfl
theorem ag63 : aggT (CX z a al) 63 = some false := by kernel_rfl
theorem el63 : elemT (CX z a al) 63 = some 65 := by kernel_rfl
theorem int63 : isIntT (CX z a al) 63 = false := by kernel_rfl
theorem und63 : (CX z a al).P.underlying 63 = some (.slice 65) := by kernel_rfl
end
attribute [simp] sz65 ag65 fo65_0 fo65_1 ft65_0 ft65_1 fx65_0 fx65_1 zero65 sz63 ag63 el63 int63 und63
attribute [simp] ravs_len ravs_at? ravs_at ravs_cells ravs_tree ravs_erase rav
theorem ids_ravs (l : List Ren) : idsL (ravs l) = [] := treeL_ids _ (ravs_tree l)
attribute [simp] ids_ravs
theorem ravs_tk (l : List Ren) (k : Nat) : (ravs l).take k = ravs (l.take k) := by simp [ravs]
theorem ravs_dr (l : List Ren) (k : Nat) : (ravs l).drop k = ravs (l.drop k) := by simp [ravs]
theorem rav_id (p : Ren) : rav p = .agg [.str p.1, .str p.2] := rfl
/-- A box with two names. -/
abbrev boxR (p : Ren) : AObj := .cells [.str p.1, .str p.2] 65
theorem boxR_ids (p : Ren) : (boxR p).ids = [] := by simp [AObj.ids, idsL, AV.ids]
def fstR (p : Ren → Bool) : List Ren → Int → Int
  | [], _ => -1
  | v :: r, i => if p v then i else fstR p r (i + 1)
theorem fstR_drop (p : Ren → Bool) (l : List Ren) (i : Nat) (h : i < l.length) (k : Int) : fstR p (l.drop i) k = if p l[i] then k else fstR p (l.drop (i + 1)) (k + 1) := by
  rw [List.drop_eq_getElem_cons h, fstR]
theorem fstR_any (p : Ren → Bool) : ∀ (l : List Ren) (i : Int), 0 ≤ i → decide (0 ≤ fstR p l i) = l.any p
  | [], i, h => by simp [fstR]
  | b :: r, i, h => by
    have := fstR_any p r (i + 1) (by omega)
    by_cases hp : p b = true
    · have e : fstR p (b :: r) i = i := by rw [fstR, if_pos hp]
      rw [e, List.any_cons, hp]; simpa using h
    · have e : fstR p (b :: r) i = fstR p r (i + 1) := by rw [fstR, if_neg hp]
      rw [e, List.any_cons, this]; simp [hp]
theorem c179 (y p : Ren) (pb : Nat) (H : Heap) (h : H[pb]? = some (boxR p)) :
    ∃ H', Call CC 179 [rav y, .ptr pb 0] H = some (.ok (.bool (decide (y.1 = p.1))), H') ∧ KeepA H H' := by
  obtain ⟨hR, hcl⟩ := reach1o h (by simp) (boxR_ids p) [rav y, .ptr pb 0] (by simp [idsL, AV.ids])
  have key := cwpo (f := 179) (fn := Tryz.f179) (P := fun w H1 => w = .bool (decide (y.1 = p.1)) ∧ H1[pb]? = H[pb]?) (args := [rav y, .ptr pb 0]) (H := H) rfl (by kernel_rfl) rfl rfl rfl rfl (by simp) hR hcl ?_
  · obtain ⟨w, H1, H', k1, ⟨k2, k3⟩, k6, k7, k8, k9⟩ := key
    subst k2
    refine ⟨H', k1, by omega, fun j hj => ?_⟩
    by_cases e : j = pb
    · subst e; rw [k8 _ (by simp), k3]
    · exact k9 j hj (by simp [e])
  · intro M hM hR
    have m1 : M[pb]? = some (boxR p) := by rw [hR pb (by simp), h]
    have n1 := app_get m1
    have b1 := lt_of_get m1
    simp [n1, h, eqS]
    try omega
theorem c180 (y p : Ren) (pb : Nat) (H : Heap) (h : H[pb]? = some (boxR p)) :
    ∃ H', Call CC 180 [rav y, .ptr pb 0] H = some (.ok (.bool (decide (y.2 = p.2))), H') ∧ KeepA H H' := by
  obtain ⟨hR, hcl⟩ := reach1o h (by simp) (boxR_ids p) [rav y, .ptr pb 0] (by simp [idsL, AV.ids])
  have key := cwpo (f := 180) (fn := Tryz.f180) (P := fun w H1 => w = .bool (decide (y.2 = p.2)) ∧ H1[pb]? = H[pb]?) (args := [rav y, .ptr pb 0]) (H := H) rfl (by kernel_rfl) rfl rfl rfl rfl (by simp) hR hcl ?_
  · obtain ⟨w, H1, H', k1, ⟨k2, k3⟩, k6, k7, k8, k9⟩ := key
    subst k2
    refine ⟨H', k1, by omega, fun j hj => ?_⟩
    by_cases e : j = pb
    · subst e; rw [k8 _ (by simp), k3]
    · exact k9 j hj (by simp [e])
  · intro M hM hR
    have m1 : M[pb]? = some (boxR p) := by rw [hR pb (by simp), h]
    have n1 := app_get m1
    have b1 := lt_of_get m1
    simp [n1, h, eqS]
    try omega
def IIdxR (l : List Ren) (M : Heap) (pb g : Nat) (p : Ren → Bool) (i : Nat) (t : List AV) (H : Heap) : Prop := i ≤ l.length ∧ fstR p l 0 = fstR p (l.drop i) i ∧ KeepA M H ∧ Fit [some (.list (ravs l) none), some (.fn (.func g) [] [.ptr pb 0]), none, none, some (.int .i64 0), none, some (.list (ravs l) none), some (.int .i64 l.length), some (.int .i64 i), none, none, none, none, none, none, none, none, none, none] t
theorem c234 (g pb : Nat) (hg : extF g = none ∧ g < 10000 ∧ makesF g = false) (o : AObj) (hd : o ≠ .dead) (ho : o.ids = []) (p : Ren → Bool) (l : List Ren)
    (hp : ∀ v ∈ l, ∀ H : Heap, H[pb]? = some o → ∃ H', Call CC g [rav v, .ptr pb 0] H = some (.ok (.bool (p v)), H') ∧ KeepA H H') (H : Heap) (h : H[pb]? = some o) (hc : l.length ≤ 1000000000) :
    ∃ H', Call CC 234 [.list (ravs l) none, .fn (.func g) [] [.ptr pb 0]] H = some (.ok (.int .i64 (fstR p l 0)), H') ∧ KeepA H H' := by
  have hx : CC.ext g = none := hg.1
  have hal : g < 10000 := hg.2.1
  obtain ⟨hR, hcl⟩ := reach1o h hd ho [.list (ravs l) none, .fn (.func g) [] [.ptr pb 0]] (by simp [idsL, AV.ids])
  have key := cwpo (f := 234) (fn := Tryz.f234) (P := fun w H1 => w = .int .i64 (fstR p l 0) ∧ H1[pb]? = H[pb]?) (args := [.list (ravs l) none, .fn (.func g) [] [.ptr pb 0]]) (H := H) rfl (by kernel_rfl) rfl rfl rfl rfl (by simp) hR hcl ?_
  · obtain ⟨w, H1, H', k1, ⟨k2, k3⟩, k6, k7, k8, k9⟩ := key
    subst k2
    refine ⟨H', k1, by omega, fun j hj => ?_⟩
    by_cases e : j = pb
    · subst e; rw [k8 _ (by simp), k3]
    · exact k9 j hj (by simp [e])
  · intro M hM hR
    have m1 : M[pb]? = some o := by rw [hR pb (by simp), h]
    simp [-cc_ext, -extF]
    refine st_iter (IIdxR l M pb g p) l.length ?_ ?_
    · simp [IIdxR, KeepA.refl]
    · rintro i t Hi ⟨hi, hd, hk, ht⟩
      obtain ⟨d, rfl⟩ := ht.elim
      clear ht
      refine ⟨hi, ?_⟩
      have hkl := hk.len
      have hpi := hk.at m1
      simp [-cc_ext, -extF]
      cases hb : decide (i < l.length)
      · have hb' : i = l.length := by simp at hb; omega
        simp [-cc_ext, -extF, hd, hb', fstR, hpi, h]
        try omega
      · have hb' : i < l.length := by simpa using hb
        obtain ⟨H2, s1, s2⟩ := hp l[i] (List.getElem_mem hb') Hi hpi
        have e1 := fstR_drop p l i hb' i
        have w1 := wrapI (i := i + 1) (by omega) (by omega)
        have hl2 := s2.len
        have hp2 := s2.at hpi
        rw [rav_id] at s1
        simp [-cc_ext, -extF, hb', s1, hx, hal]
        cases he : p l[i]
        · rw [if_neg (by simp [he])] at e1
          simp [-cc_ext, -extF, w1, IIdxR, hd, e1]
          exact ⟨by omega, hk.trans s2⟩
        · rw [if_pos he] at e1
          simp [-cc_ext, -extF, hd, e1, hp2, h]
          try omega
theorem c178 (g pb : Nat) (hg : extF g = none ∧ g < 10000 ∧ makesF g = false) (o : AObj) (hd : o ≠ .dead) (ho : o.ids = []) (p : Ren → Bool) (l : List Ren)
    (hp : ∀ v ∈ l, ∀ H : Heap, H[pb]? = some o → ∃ H', Call CC g [rav v, .ptr pb 0] H = some (.ok (.bool (p v)), H') ∧ KeepA H H') (H : Heap) (h : H[pb]? = some o) (hc : l.length ≤ 1000000000) :
    ∃ H', Call CC 178 [.list (ravs l) none, .fn (.func g) [] [.ptr pb 0]] H = some (.ok (.bool (l.any p)), H') ∧ KeepA H H' := by
  obtain ⟨hR, hcl⟩ := reach1o h hd ho [.list (ravs l) none, .fn (.func g) [] [.ptr pb 0]] (by simp [idsL, AV.ids])
  have e := fstR_any p l 0 (by omega)
  have key := cwpo (f := 178) (fn := Tryz.f178) (P := fun w H1 => w = .bool (l.any p) ∧ H1[pb]? = H[pb]?) (args := [.list (ravs l) none, .fn (.func g) [] [.ptr pb 0]]) (H := H) rfl (by kernel_rfl) rfl rfl rfl rfl (by simp) hR hcl ?_
  · obtain ⟨w, H1, H', k1, ⟨k2, k3⟩, k6, k7, k8, k9⟩ := key
    subst k2
    refine ⟨H', k1, by omega, fun j hj => ?_⟩
    by_cases e : j = pb
    · subst e; rw [k8 _ (by simp), k3]
    · exact k9 j hj (by simp [e])
  · intro M hM hR
    have m1 : M[pb]? = some o := by rw [hR pb (by simp), h]
    obtain ⟨H2, s1, s2⟩ := c234 g pb hg o hd ho p l hp M m1 hc
    have hl2 := s2.len
    have hp2 := s2.at m1
    rw [← e]
    simp [s1, hp2, h]
    try omega
def IRen (l : List Ren) (i : Nat) (t : List AV) (_H : Heap) : Prop := i ≤ l.length ∧ renS [] l = renS (l.take i) (l.drop i) ∧ Fit [some (.list (ravs l) none), none, some (.int .i64 0), none, none, none, none, none, some (.list (ravs l) none), some (.int .i64 l.length), some (.int .i64 i), none, none, none, none, none, none, none, none, none, none, none, none, none, none, none, none, none, none, none, none, none, none, none, none, none, none] t
theorem c105 (l : List Ren) (H : Heap) (hs : rstr l) : Call CC 105 [.list (ravs l) none] H = some (.ok (.int .i64 (renE l)), H) := by
  refine cwp (fn := Tryz.f105) rfl (by kernel_rfl) rfl rfl rfl rfl (by simp) rfl ?_ H
  simp
  cases hl : decide ((60 : Int) < (l.length : Int))
  · have hl0 : ¬ (60 : Int) < (l.length : Int) := of_decide_eq_false hl
    have hl' : ¬ 60 < l.length := by omega
    have hl2 : l.length ≤ 60 := by omega
    have e0 : renE l = renS [] l := if_neg hl'
    rw [e0]
    simp
    refine st_iter (IRen l) l.length ?_ ?_
    · simp [IRen]
    · rintro i t H ⟨hi, hd, ht⟩
      obtain ⟨d, rfl⟩ := ht.elim
      clear ht
      refine ⟨hi, ?_⟩
      simp
      cases hb : decide (i < l.length)
      · have hb' : i = l.length := by simp at hb; omega
        simp [hd, hb', renS]
      · have hb' : i < l.length := by simpa using hb
        have e1 := renS_step l i hb'
        have w1 := wrapI (i := i + 1) (by omega) (by omega)
        have hm := List.getElem_mem hb'
        have g1 := fun H => c133 l[i].1 H (hs _ hm).1
        have g2 := fun H => c133 l[i].2 H (hs _ hm).2
        have q1 : (H ++ [boxR l[i]])[H.length]? = some (boxR l[i]) := by simp
        obtain ⟨H1, s1, s2⟩ := c178 179 H.length ⟨rfl, by decide, rfl⟩ (boxR l[i]) (by simp) (boxR_ids _) (fun y => decide (y.1 = l[i].1)) (l.take i) (fun y _ H h => c179 y l[i] _ H h) (H ++ [boxR l[i]]) q1 (by rw [List.length_take]; omega)
        obtain ⟨H2, s3, s4⟩ := c178 180 H.length ⟨rfl, by decide, rfl⟩ (boxR l[i]) (by simp) (boxR_ids _) (fun y => decide (y.2 = l[i].2)) (l.take i) (fun y _ H h => c180 y l[i] _ H h) H1 (s2.at q1) (by rw [List.length_take]; omega)
        have s2q := s2.at q1
        generalize hp : l[i] = p at *
        cases hn1 : nameB p.1
        · rw [if_pos (.inl hn1)] at e1
          simp [hb', hp, g1, hn1, hd, e1]
        · cases hn2 : nameB p.2
          · rw [if_pos (.inr hn2)] at e1
            simp [hb', hp, g1, hn1, g2, hn2, hd, e1]
          · rw [if_neg (by simp [hn1, hn2])] at e1
            have ht1 : (List.take i (ravs l)) = ravs (l.take i) := ravs_tk l i
            have hle : i ≤ l.length := by omega
            have hc2 : ∀ x ∈ ravs l, x.cells.length = 2 := fun x hx => of_decide_eq_true (List.all_eq_true.1 (ravs_cells l) x hx)
            simp [-List.any_eq_true, hb', hp, g1, hn1, g2, hn2, ravs_tk, bnd, hle, s1]
            cases hz1 : (l.take i).any (fun y => decide (y.1 = p.1))
            · rw [hz1, if_neg (by decide)] at e1
              simp [-List.any_eq_true, ravs_tk, bnd, hle, s3]
              cases hz2 : (l.take i).any (fun y => decide (y.2 = p.2))
              · rw [hz2, if_neg (by decide)] at e1
                simp [w1]
                exact ⟨by omega, by rw [hd, e1], by simp⟩
              · rw [hz2, if_pos rfl] at e1
                simp [hd, e1]
            · rw [hz1, if_pos rfl] at e1
              simp [hd, e1]
  · have hl0 : (60 : Int) < (l.length : Int) := of_decide_eq_true hl
    have hl' : 60 < l.length := by omega
    have e0 : renE l = 2 := if_pos hl'
    rw [e0]
    simp
end Go.Tv

/- RenamingErr and renamed of the reference. -/
namespace Go.Tv
open Go.Proofs
set_option maxHeartbeats 4000000
theorem anyR_drop (p : Ren → Bool) (l : List Ren) (j : Nat) (h : j < l.length) : (l.drop j).any p = (p l[j] || (l.drop (j + 1)).any p) := by
  rw [List.drop_eq_getElem_cons h, List.any_cons]
def IRe (l : List Ren) (i : Nat) (t : List AV) (_H : Heap) : Prop := i ≤ l.length ∧ renS [] l = renS (l.take i) (l.drop i) ∧ Fit [some (.list (ravs l) none), none, some (.int .i64 0), some (.int .i64 i), none, none, none, none, none, none, none, none, none, none, none, none, none, none, none, none, none, none, none, none, none, none, none, none, none, none, none, none, none, none, none, none, none, none, none, none, none, none, none, none, none, none, none, none, none, none, none, none, none, none, none, none, none, none, none, none, none, none, none] t
def IRf (l : List Ren) (i j : Nat) (t : List AV) (_H : Heap) : Prop := j ≤ i ∧ (l.take i).any (fun y => decide (y.1 = (l.getD i ([], [])).1)) = ((l.take i).drop j).any (fun y => decide (y.1 = (l.getD i ([], [])).1)) ∧ Fit [some (.list (ravs l) none), none, some (.int .i64 0), some (.int .i64 i), some (.int .i64 j), none, none, none, none, none, none, none, none, none, none, none, none, none, none, none, none, none, none, none, none, none, none, none, none, none, none, none, none, none, none, none, none, none, none, none, none, none, none, none, none, none, none, none, none, none, none, none, none, none, none, none, none, none, none, none, none, none, none] t
def IRg (l : List Ren) (i j : Nat) (t : List AV) (_H : Heap) : Prop := j ≤ i ∧ (l.take i).any (fun y => decide (y.2 = (l.getD i ([], [])).2)) = ((l.take i).drop j).any (fun y => decide (y.2 = (l.getD i ([], [])).2)) ∧ Fit [some (.list (ravs l) none), none, some (.int .i64 0), some (.int .i64 i), none, some (.int .i64 j), none, none, none, none, none, none, none, none, none, none, none, none, none, none, none, none, none, none, none, none, none, none, none, none, none, none, none, none, none, none, none, none, none, none, none, none, none, none, none, none, none, none, none, none, none, none, none, none, none, none, none, none, none, none, none, none, none] t
theorem c107 (l : List Ren) (H : Heap) (hs : rstr l) : Call CC 107 [.list (ravs l) none] H = some (.ok (.int .i64 (renE l)), H) := by
  refine cwp (fn := Tryz.f107) rfl (by kernel_rfl) rfl rfl rfl rfl (by simp) rfl ?_ H
  simp
  cases hl : decide ((60 : Int) < (l.length : Int))
  · have hl0 : ¬ (60 : Int) < (l.length : Int) := of_decide_eq_false hl
    have hl' : ¬ 60 < l.length := by omega
    have hl2 : l.length ≤ 60 := by omega
    have e0 : renE l = renS [] l := if_neg hl'
    rw [e0]
    simp
    refine st_iter (IRe l) l.length ?_ ?_
    · simp [IRe]
    · rintro i t H ⟨hi, hd, ht⟩
      obtain ⟨d, rfl⟩ := ht.elim
      clear ht
      refine ⟨hi, ?_⟩
      simp
      cases hb : decide (i < l.length)
      · have hb' : i = l.length := by simp at hb; omega
        simp [hd, hb', renS]
      · have hb' : i < l.length := by simpa using hb
        have e1 := renS_step l i hb'
        have w1 := wrapI (i := i + 1) (by omega) (by omega)
        have hm := List.getElem_mem hb'
        have g1 := fun H => c99 l[i].1 H (hs _ hm).1
        have g2 := fun H => c99 l[i].2 H (hs _ hm).2
        have hgd : l.getD i ([], []) = l[i] := by simp [List.getD_eq_getElem?_getD, hb']
        cases hn1 : nameB l[i].1
        · rw [if_pos (.inl hn1)] at e1
          simp [hb', g1, hn1, hd, e1]
        · cases hn2 : nameB l[i].2
          · rw [if_pos (.inr hn2)] at e1
            simp [hb', g1, hn1, g2, hn2, hd, e1]
          · rw [if_neg (by simp [hn1, hn2])] at e1
            simp [hb', g1, hn1, g2, hn2]
            refine st_iter (IRf l i) i ?_ ?_
            · simp [IRf]
            · rintro j t H ⟨hj, hj2, ht⟩
              obtain ⟨d, rfl⟩ := ht.elim
              clear ht
              refine ⟨hj, ?_⟩
              simp
              cases hb2 : decide (j < i)
              · have hb2' : j = i := by simp at hb2; omega
                have hz : (l.take i).any (fun y => decide (y.1 = l[i].1)) = false := by
                  rw [hgd] at hj2
                  rw [hj2, hb2', List.drop_of_length_le (by rw [List.length_take]; omega)]; rfl
                rw [if_neg (by rw [hz]; decide)] at e1
                simp
                refine st_iter (IRg l i) i ?_ ?_
                · simp [IRg]
                · rintro k t H ⟨hk, hk2, ht⟩
                  obtain ⟨d, rfl⟩ := ht.elim
                  clear ht
                  refine ⟨hk, ?_⟩
                  simp
                  cases hb3 : decide (k < i)
                  · have hb3' : k = i := by simp at hb3; omega
                    have hz2 : (l.take i).any (fun y => decide (y.2 = l[i].2)) = false := by
                      rw [hgd] at hk2
                      rw [hk2, hb3', List.drop_of_length_le (by rw [List.length_take]; omega)]; rfl
                    rw [if_neg (by rw [hz2]; decide)] at e1
                    simp [w1]
                    exact ⟨by omega, by rw [hd, e1], by simp⟩
                  · have hb3' : k < i := by simpa using hb3
                    have hkl : k < l.length := by omega
                    have w3 := wrapI (i := k + 1) (by omega) (by omega)
                    have hkt : k < (l.take i).length := by rw [List.length_take]; omega
                    have e3 := anyR_drop (fun y => decide (y.2 = l[i].2)) (l.take i) k hkt
                    rw [List.getElem_take] at e3
                    simp [hb', hkl, eqS]
                    refine ⟨by kernel_rfl, ?_⟩
                    cases he : decide (l[k].2 = l[i].2)
                    · rw [he] at e3
                      simp [w3]
                      exact ⟨by omega, by rw [hk2, hgd, e3]; simp, by simp⟩
                    · rw [he] at e3
                      rw [hgd] at hk2
                      rw [if_pos (by rw [hk2, e3]; rfl)] at e1
                      simp [hd, e1]
              · have hb2' : j < i := by simpa using hb2
                have hjl : j < l.length := by omega
                have w2 := wrapI (i := j + 1) (by omega) (by omega)
                have hjt : j < (l.take i).length := by rw [List.length_take]; omega
                have e2 := anyR_drop (fun y => decide (y.1 = l[i].1)) (l.take i) j hjt
                rw [List.getElem_take] at e2
                simp [hb', hjl, eqS]
                refine ⟨by kernel_rfl, ?_⟩
                cases he : decide (l[j].1 = l[i].1)
                · rw [he] at e2
                  simp [w2]
                  exact ⟨by omega, by rw [hj2, hgd, e2]; simp, by simp⟩
                · rw [he] at e2
                  rw [hgd] at hj2
                  rw [if_pos (by rw [hj2, e2]; rfl)] at e1
                  simp [hd, e1]
  · have hl0 : (60 : Int) < (l.length : Int) := of_decide_eq_true hl
    have hl' : 60 < l.length := by omega
    have e0 : renE l = 2 := if_pos hl'
    rw [e0]
    simp
end Go.Tv

/- renamed of the reference. -/
namespace Go.Tv
open Go.Proofs
set_option maxHeartbeats 4000000
theorem lv_twoR (o : List V) (tok : Nat) : LV o tok = .empty ∨ LV o tok = .list (avs o) (some tok) := by
  unfold LV; split
  · exact .inl rfl
  · exact .inr rfl
def At108 (l : List Ren) (v : V) : Prop := ∀ H : Heap, Call CC 108 [v.av, .list (ravs l) none] H = some (.ok (renV l v).av, H)
def J1 (l : List Ren) (v : V) (i : Nat) (t : List AV) (H : Heap) : Prop := i ≤ l.length ∧ (v.kind ≠ 3 → i = 0) ∧ H = [boxV v, .cells [.int .i64 0, .int .i64 0, .str [], .empty, .empty] 24, .cells [.int .i64 v.kind, .int .i64 v.num, .str ((lastM v.s (l.take i) none).getD v.s), .empty, .empty] 24] ∧ Fit [some (.agg [.int .i64 v.kind, .int .i64 v.num, .str v.s, .list (avs v.keys) none, .list (avs v.items) none]), some (.list (ravs l) none), some (.ptr 0 0), none, some (.ptr 1 0), some (.ptr 2 0), some (.int .i64 i), none, none, none, none, none, none, none, none, none, none, none, none, none, none, none, none, none, none, none, none, none, none, none, none, none, none, none, none, none, none, none, none, none, none, none, none, none, none, none, none, none, none, none, none, none, none, none, none, none, none, none, none, none, none, none, none, none, none, none, none, none, none, none, none, none, none, none, none, none] t
def J2 (l : List Ren) (v : V) (i : Nat) (t : List AV) (H : Heap) : Prop := ∃ tok, i ≤ v.keys.length ∧ TokAt H (renVs l (v.keys.take i)) tok ∧ H[0]? = some (boxV v) ∧ H[1]? = some (.cells [.int .i64 0, .int .i64 0, .str [], .empty, .empty] 24) ∧ H[2]? = some (.cells [.int .i64 v.kind, .int .i64 v.num, .str (renN l v), LV (renVs l (v.keys.take i)) tok, .empty] 24) ∧ Fit [some (.agg [.int .i64 v.kind, .int .i64 v.num, .str v.s, .list (avs v.keys) none, .list (avs v.items) none]), some (.list (ravs l) none), some (.ptr 0 0), none, some (.ptr 1 0), some (.ptr 2 0), none, some (.int .i64 i), none, none, none, none, none, none, none, none, none, none, none, none, none, none, none, none, none, none, none, none, none, none, none, none, none, none, none, none, none, none, none, none, none, none, none, none, none, none, none, none, none, none, none, none, none, none, none, none, none, none, none, none, none, none, none, none, none, none, none, none, none, none, none, none, none, none, none, none] t
def J3 (l : List Ren) (v : V) (K : AV) (i : Nat) (t : List AV) (H : Heap) : Prop := ∃ tok, i ≤ v.items.length ∧ TokAt H (renVs l (v.items.take i)) tok ∧ H[0]? = some (boxV v) ∧ H[1]? = some (.cells [.int .i64 0, .int .i64 0, .str [], .empty, .empty] 24) ∧ H[2]? = some (.cells [.int .i64 v.kind, .int .i64 v.num, .str (renN l v), K, LV (renVs l (v.items.take i)) tok] 24) ∧ Fit [some (.agg [.int .i64 v.kind, .int .i64 v.num, .str v.s, .list (avs v.keys) none, .list (avs v.items) none]), some (.list (ravs l) none), some (.ptr 0 0), none, some (.ptr 1 0), some (.ptr 2 0), none, none, some (.int .i64 i), none, none, none, none, none, none, none, none, none, none, none, none, none, none, none, none, none, none, none, none, none, none, none, none, none, none, none, none, none, none, none, none, none, none, none, none, none, none, none, none, none, none, none, none, none, none, none, none, none, none, none, none, none, none, none, none, none, none, none, none, none, none, none, none, none, none, none] t
set_option maxRecDepth 100000 in
theorem ren108_of (l : List Ren) (hl : l.length ≤ 1000000) (v : V) (hk : ∀ x ∈ v.keys, At108 l x) (hi : ∀ x ∈ v.items, At108 l x) (hc : v.cnt ≤ 100000000) : At108 l v := by
  intro H
  have q0 := v.cnt_eq
  have q3 := len_cnts v.keys
  have q4 := len_cnts v.items
  refine cwp (fn := Tryz.f108) rfl (by kernel_rfl) rfl rfl rfl rfl (by simp) (by simp) ?_ H
  simp [V.av_eq]
  refine st_iter (J1 l v) l.length ?_ ?_
  · exact ⟨by omega, fun _ => rfl, rfl, by simp⟩
  · rintro i t H ⟨hil, h3, rfl, ht⟩
    obtain ⟨d, rfl⟩ := ht.elim
    clear ht
    refine ⟨hil, ?_⟩
    rw [renV_eq]
    simp only [mk_kind, mk_num, mk_s, mk_keys, mk_items]
    simp
    cases hb : decide (i < l.length)
    · have hN : (lastM v.s (l.take i) none).getD v.s = renN l v := by
        have hb' : ¬ i < l.length := of_decide_eq_false hb
        unfold renN
        by_cases h : v.kind = 3
        · rw [if_pos h, List.take_of_length_le (by omega)]
        · rw [if_neg h, h3 h]; rfl
      simp
      refine st_iter (J2 l v) v.keys.length ?_ ?_
      · exact ⟨0, by omega, fun h => absurd rfl h, rfl, rfl, by rw [← hN]; rfl, by simp⟩
      · rintro i t H ⟨tok, hi2, hk2, m0, m1, m2, ht⟩
        obtain ⟨d, rfl⟩ := ht.elim
        clear ht
        refine ⟨hi2, ?_⟩
        simp [m0]
        cases hb : decide (i < v.keys.length)
        · have hb' : i = v.keys.length := by simp at hb; omega
          subst hb'
          rw [List.take_length] at m2 hk2
          simp
          generalize hK : LV (renVs l v.keys) tok = K at m2
          have hKe : K.erase = .list (avs (renVs l v.keys)) none := by rw [← hK]; simp
          have hK1 : K.one = true := by rw [← hK]; exact lv_one _ _
          simp only [AV.one] at hK1
          have hKc : K.cells = [K] := by rw [← hK]; simp
          refine st_iter (J3 l v K) v.items.length ?_ ?_
          · exact ⟨0, by omega, fun h => absurd rfl h, m0, m1, by simpa [renVs, lv_nil] using m2, by simp⟩
          · rintro i t H ⟨tok, hi3, hk, m0, m1, m2, ht⟩
            obtain ⟨d, rfl⟩ := ht.elim
            clear ht
            refine ⟨hi3, ?_⟩
            simp [m0]
            cases hb : decide (i < v.items.length)
            · have hb' : i = v.items.length := by simp at hb; omega
              subst hb'
              rw [List.take_length] at m2 hk
              have s1 := set_of m1
              have hI1 := lv_one (renVs l v.items) tok
              simp only [AV.one] at hI1
              simp [m1, m2, s1, hKe, hK1, hI1]
            · have hb' : i < v.items.length := by simpa using hb
              have g1 := fun H => hi v.items[i] (List.getElem_mem hb') H
              rw [V.av_eq, V.av_eq] at g1
              have w1 := wrapI (i := i + 1) (by omega) (by omega)
              have e2 := renVs_take l v.items i hb'
              have q8 : (renVs l (v.items.take i)).length ≤ i := by rw [renVs_len, List.length_take]; omega
              generalize hno : renVs l (v.items.take i) = o at *
              generalize hy : renV l v.items[i] = y at *
              obtain ⟨t1, H3, a1, b1, k1⟩ := app_LVk H o [y] tok hk (by simp; omega)
              have hne : o ++ [y] ≠ [] := by simp
              rw [avs, avs, V.av_eq, lv_cons hne] at a1
              have p0 := k1.2 _ _ _ m0
              have p1 := k1.2 _ _ _ m1
              have p2 := k1.2 _ _ _ m2
              have s1 := set_of p2
              have tk : ∀ X, TokAt (H3.set 2 X) (o ++ [y]) t1 := fun X hh => by
                rw [List.getElem?_set_ne]
                · exact b1 hh
                · intro e; subst e
                  have := b1 hh; rw [p2] at this; cases this
              simp [-aappB, hb', V.av_eq, m0, m2, g1, a1, p2, w1]
              refine ⟨?_, ?_⟩
              · refine (?_ : drawE _ _ _ = true)
                rcases lv_twoR o tok with h | h
                · rw [h]; kernel_rfl
                · rw [h]; kernel_rfl
              · exact ⟨t1, by omega, by rw [e2]; exact tk _, by rw [List.getElem?_set_ne (by decide)]; exact p0, by rw [List.getElem?_set_ne (by decide)]; exact p1, by rw [e2, lv_cons hne]; exact s1 _, by simp⟩
        · have hb' : i < v.keys.length := by simpa using hb
          have g1 := fun H => hk v.keys[i] (List.getElem_mem hb') H
          rw [V.av_eq, V.av_eq] at g1
          have w1 := wrapI (i := i + 1) (by omega) (by omega)
          have e2 := renVs_take l v.keys i hb'
          have q8 : (renVs l (v.keys.take i)).length ≤ i := by rw [renVs_len, List.length_take]; omega
          generalize hno : renVs l (v.keys.take i) = o at *
          generalize hy : renV l v.keys[i] = y at *
          obtain ⟨t1, H3, a1, b1, k1⟩ := app_LVk H o [y] tok hk2 (by simp; omega)
          have hne : o ++ [y] ≠ [] := by simp
          rw [avs, avs, V.av_eq, lv_cons hne] at a1
          have p0 := k1.2 _ _ _ m0
          have p1 := k1.2 _ _ _ m1
          have p2 := k1.2 _ _ _ m2
          have s1 := set_of p2
          have tk : ∀ X, TokAt (H3.set 2 X) (o ++ [y]) t1 := fun X hh => by
            rw [List.getElem?_set_ne]
            · exact b1 hh
            · intro e; subst e
              have := b1 hh; rw [p2] at this; cases this
          simp [-aappB, hb', V.av_eq, m0, m2, g1, a1, p2, w1]
          refine ⟨?_, ?_⟩
          · refine (?_ : drawE _ _ _ = true)
            rcases lv_twoR o tok with h | h
            · rw [h]; kernel_rfl
            · rw [h]; kernel_rfl
          · exact ⟨t1, by omega, by rw [e2]; exact tk _, by rw [List.getElem?_set_ne (by decide)]; exact p0, by rw [List.getElem?_set_ne (by decide)]; exact p1, by rw [e2, lv_cons hne]; exact s1 _, by simp⟩
    · have hb' : i < l.length := of_decide_eq_true hb
      by_cases hk3 : v.kind = 3
      · have k3 : (v.kind = 3) = True := eq_true hk3
        have w0 := wrapI (i := i + 1) (by omega) (by omega)
        have e9 := lastM_take v.s l i hb' none
        simp [k3, hb', eqS]
        refine ⟨by kernel_rfl, ?_⟩
        cases he : decide (l[i].1 = v.s)
        · rw [if_neg (of_decide_eq_false he)] at e9
          simp [w0]
          exact ⟨by omega, fun h => absurd hk3 h, by rw [e9], by simp⟩
        · rw [if_pos (of_decide_eq_true he)] at e9
          simp [hb', w0]
          exact ⟨by omega, fun h => absurd hk3 h, by rw [e9]; rfl, by simp⟩
      · have hN : (lastM v.s (l.take i) none).getD v.s = renN l v := by
          unfold renN
          rw [if_neg hk3, h3 hk3]; rfl
        simp [hk3]
        refine st_iter (J2 l v) v.keys.length ?_ ?_
        · exact ⟨0, by omega, fun h => absurd rfl h, rfl, rfl, by rw [← hN]; rfl, by simp⟩
        · rintro i t H ⟨tok, hi2, hk2, m0, m1, m2, ht⟩
          obtain ⟨d, rfl⟩ := ht.elim
          clear ht
          refine ⟨hi2, ?_⟩
          simp [m0]
          cases hb : decide (i < v.keys.length)
          · have hb' : i = v.keys.length := by simp at hb; omega
            subst hb'
            rw [List.take_length] at m2 hk2
            simp
            generalize hK : LV (renVs l v.keys) tok = K at m2
            have hKe : K.erase = .list (avs (renVs l v.keys)) none := by rw [← hK]; simp
            have hK1 : K.one = true := by rw [← hK]; exact lv_one _ _
            simp only [AV.one] at hK1
            have hKc : K.cells = [K] := by rw [← hK]; simp
            refine st_iter (J3 l v K) v.items.length ?_ ?_
            · exact ⟨0, by omega, fun h => absurd rfl h, m0, m1, by simpa [renVs, lv_nil] using m2, by simp⟩
            · rintro i t H ⟨tok, hi3, hk, m0, m1, m2, ht⟩
              obtain ⟨d, rfl⟩ := ht.elim
              clear ht
              refine ⟨hi3, ?_⟩
              simp [m0]
              cases hb : decide (i < v.items.length)
              · have hb' : i = v.items.length := by simp at hb; omega
                subst hb'
                rw [List.take_length] at m2 hk
                have s1 := set_of m1
                have hI1 := lv_one (renVs l v.items) tok
                simp only [AV.one] at hI1
                simp [m1, m2, s1, hKe, hK1, hI1]
              · have hb' : i < v.items.length := by simpa using hb
                have g1 := fun H => hi v.items[i] (List.getElem_mem hb') H
                rw [V.av_eq, V.av_eq] at g1
                have w1 := wrapI (i := i + 1) (by omega) (by omega)
                have e2 := renVs_take l v.items i hb'
                have q8 : (renVs l (v.items.take i)).length ≤ i := by rw [renVs_len, List.length_take]; omega
                generalize hno : renVs l (v.items.take i) = o at *
                generalize hy : renV l v.items[i] = y at *
                obtain ⟨t1, H3, a1, b1, k1⟩ := app_LVk H o [y] tok hk (by simp; omega)
                have hne : o ++ [y] ≠ [] := by simp
                rw [avs, avs, V.av_eq, lv_cons hne] at a1
                have p0 := k1.2 _ _ _ m0
                have p1 := k1.2 _ _ _ m1
                have p2 := k1.2 _ _ _ m2
                have s1 := set_of p2
                have tk : ∀ X, TokAt (H3.set 2 X) (o ++ [y]) t1 := fun X hh => by
                  rw [List.getElem?_set_ne]
                  · exact b1 hh
                  · intro e; subst e
                    have := b1 hh; rw [p2] at this; cases this
                simp [-aappB, hb', V.av_eq, m0, m2, g1, a1, p2, w1]
                refine ⟨?_, ?_⟩
                · refine (?_ : drawE _ _ _ = true)
                  rcases lv_twoR o tok with h | h
                  · rw [h]; kernel_rfl
                  · rw [h]; kernel_rfl
                · exact ⟨t1, by omega, by rw [e2]; exact tk _, by rw [List.getElem?_set_ne (by decide)]; exact p0, by rw [List.getElem?_set_ne (by decide)]; exact p1, by rw [e2, lv_cons hne]; exact s1 _, by simp⟩
          · have hb' : i < v.keys.length := by simpa using hb
            have g1 := fun H => hk v.keys[i] (List.getElem_mem hb') H
            rw [V.av_eq, V.av_eq] at g1
            have w1 := wrapI (i := i + 1) (by omega) (by omega)
            have e2 := renVs_take l v.keys i hb'
            have q8 : (renVs l (v.keys.take i)).length ≤ i := by rw [renVs_len, List.length_take]; omega
            generalize hno : renVs l (v.keys.take i) = o at *
            generalize hy : renV l v.keys[i] = y at *
            obtain ⟨t1, H3, a1, b1, k1⟩ := app_LVk H o [y] tok hk2 (by simp; omega)
            have hne : o ++ [y] ≠ [] := by simp
            rw [avs, avs, V.av_eq, lv_cons hne] at a1
            have p0 := k1.2 _ _ _ m0
            have p1 := k1.2 _ _ _ m1
            have p2 := k1.2 _ _ _ m2
            have s1 := set_of p2
            have tk : ∀ X, TokAt (H3.set 2 X) (o ++ [y]) t1 := fun X hh => by
              rw [List.getElem?_set_ne]
              · exact b1 hh
              · intro e; subst e
                have := b1 hh; rw [p2] at this; cases this
            simp [-aappB, hb', V.av_eq, m0, m2, g1, a1, p2, w1]
            refine ⟨?_, ?_⟩
            · refine (?_ : drawE _ _ _ = true)
              rcases lv_twoR o tok with h | h
              · rw [h]; kernel_rfl
              · rw [h]; kernel_rfl
            · exact ⟨t1, by omega, by rw [e2]; exact tk _, by rw [List.getElem?_set_ne (by decide)]; exact p0, by rw [List.getElem?_set_ne (by decide)]; exact p1, by rw [e2, lv_cons hne]; exact s1 _, by simp⟩
theorem c108 (l : List Ren) (hl : l.length ≤ 1000000) (v : V) (hc : v.cnt ≤ 100000000) : At108 l v := by
  have key := V.ind (P := fun v => v.cnt ≤ 100000000 → At108 l v) (fun v hk hi hc => ren108_of l hl v (fun x hx => hk x hx (by have := cnt_mem hx; have := cnt_keys v; omega)) (fun x hx => hi x hx (by have := cnt_mem hx; have := cnt_items v; omega)) hc) v
  exact key hc
end Go.Tv

/- Renamed, in plain Lean. -/
namespace Go.Tv
set_option maxHeartbeats 4000000
theorem small_iff (v : V) (m d : Nat) : v.small m d = true ↔ v.cnt ≤ m ∧ v.dep ≤ d := by simp [V.small]
/-- Renamed. -/
def rnE (v : V) (l : List Ren) : Int := if chkE v ≠ 0 then chkE v else if renE l ≠ 0 then renE l else nlE (renV l v)
def rnW (v : V) (l : List Ren) : V := if rnE v l = 0 then nrmD (renV l v) else zeroV
theorem ren_err {v : V} {l : List Ren} (hv : chkE v = 0) (hl : renE l = 0) : errV false (renV l v) = 0 :=
  err_ren (fun p hp => (renE_names hl p hp).2) v (err_imp (chk_small hv).2)
theorem ren_normE {v : V} {l : List Ren} (hv : chkE v = 0) (hl : renE l = 0) : normE (renV l v) = nlE (renV l v) := by
  rw [normE, small_ren, (chk_small hv).1, if_pos rfl, if_neg (by simp [ren_err hv hl])]
theorem rn_right (v : V) (l : List Ren) : rightB (rnW v l) (rnE v l) (rnW v l) (rnE v l) = true := by
  refine right_self _ _ (fun h => by rw [rnW, if_neg h]) fun h => ?_
  rw [rnW, if_pos h]
  unfold rnE at h
  split at h
  · rename_i h1; exact absurd h h1
  rename_i h1
  split at h
  · rename_i h2; exact absurd h h2
  rename_i h2
  have hv := Classical.not_not.1 h1
  have hl := Classical.not_not.1 h2
  have he := ren_err hv hl
  cases hn : nrm (renV l v) with
  | none => rw [nlE, hn] at h; exact absurd h (by decide)
  | some w =>
    rw [nrmD_some hn]
    obtain ⟨h3, h4⟩ := nrm_cnt _ he w hn
    have h5 := (small_iff _ _ _).1 (chk_small hv).1
    rw [cnt_ren] at h3
    rw [dep_ren] at h4
    rw [small_iff]; omega

end Go.Tv
