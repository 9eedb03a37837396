/-
  What the functions of chapter 8 compute: Clone, SortFunc, CompactFunc, sets.
-/
import Derived.Test.YtbofonlhakedpaaGreatDoorExe
import Derived.Test.YtbofonlhakedpaaGreatDoorPla
namespace Go.Tv
open Go.Proofs
set_option maxHeartbeats 4000000
variable {z : Bool}
def FINR (o : Option (List AV × Heap)) (P : AV -> Heap -> Prop) : Prop := match o with | some ([v], H) => P v.erase H | some (l, H) => P (.tup (eraseL l)) H | none => False
theorem finr_one (v : AV) (H : Heap) (P : AV -> Heap -> Prop) : FINR (some ([v], H)) P ↔ P v.erase H := Iff.rfl
theorem finr_nil (H : Heap) (P : AV -> Heap -> Prop) : FINR (some ([], H)) P ↔ P (.tup []) H := Iff.rfl
theorem finr_two (v u : AV) (r : List AV) (H : Heap) (P : AV -> Heap -> Prop) : FINR (some (v :: u :: r, H)) P ↔ P (.tup (eraseL (v :: u :: r))) H := Iff.rfl
theorem finr_of {o : Option (List AV × Heap)} {P : AV -> Heap -> Prop} (h : FINR o P) : ∃ l H', o = some (l, H') /\ (match l with | [v] => P v.erase H' | l => P (AV.tup (eraseL l)) H') := by
  match o, h with
  | some ([], H), h => exact ⟨_, _, rfl, h⟩
  | some ([v], H), h => exact ⟨_, _, rfl, h⟩
  | some (v :: u :: r, H), h => exact ⟨_, _, rfl, h⟩
theorem finr_to {o : Option (List AV × Heap)} {P : AV -> Heap -> Prop} {l : List AV} {H' : Heap} (h2 : (match l with | [v] => P v.erase H' | l => P (AV.tup (eraseL l)) H')) (h1 : o = some (l, H')) : FINR o P := by
  subst h1
  match l, h2 with
  | [], h => exact h
  | [v], h => exact h
  | v :: u :: r, h => exact h
theorem respf_r {C : Cfg} {fz : Bool} {rs : List ResultVar} {P : AV -> Heap -> Prop} {t : List AV} {H : Heap} : RESPF C fz rs P .ret t H ↔ ∃ l, aresults C t H rs = some l /\ FINR (if fz then frzL l H else some (l, H)) P := by
  rw [respf_ret]
  constructor
  . rintro ⟨l, l', H', h1, h2, h3⟩; exact ⟨l, h1, finr_to h3 h2⟩
  . rintro ⟨l, h1, h2⟩; obtain ⟨l', H', h3, h4⟩ := finr_of h2; exact ⟨l, l', H', h1, h3, h4⟩
theorem respf_n {C : Cfg} {fz : Bool} {rs : List ResultVar} {P : AV -> Heap -> Prop} {t : List AV} {H : Heap} : RESPF C fz rs P .normal t H ↔ ∃ l, aresults C t H rs = some l /\ FINR (if fz then frzL l H else some (l, H)) P := by
  rw [respf_normal]
  constructor
  . rintro ⟨l, l', H', h1, h2, h3⟩; exact ⟨l, h1, finr_to h3 h2⟩
  . rintro ⟨l, h1, h2⟩; obtain ⟨l', H', h3, h4⟩ := finr_of h2; exact ⟨l, l', H', h1, h3, h4⟩
attribute [simp] finr_one finr_nil finr_two respf_r respf_n
theorem cells_slc (i o n k : Nat) (b : Bool) : AV.cells (.slc i o n k b) = [.slc i o n k b] := rfl
attribute [simp] cells_slc
def vcells (l : List V) : List AV := l.flatMap fun v => v.av.cells
theorem flat_avs (l : List V) : flat (avs l) = vcells l := by simp [flat, avs_map, vcells, List.flatMap_map]
theorem vcells_len (l : List V) : (vcells l).length = l.length * 5 := by
  induction l with
  | nil => rfl
  | cons a r ih => simp only [vcells, List.flatMap_cons, List.length_append, av_cells, List.length_cons] at *; omega
theorem vcells_append (a b : List V) : vcells (a ++ b) = vcells a ++ vcells b := by simp [vcells]
theorem vcells_take (l : List V) (k : Nat) : (vcells l).take (k * 5) = vcells (l.take k) := by
  induction l generalizing k with
  | nil => simp [vcells]
  | cons a r ih =>
    cases k with
    | zero => simp [vcells]
    | succ k =>
      have h := ih k
      simp only [vcells, List.flatMap_cons, List.take_succ_cons] at *
      have e : (k + 1) * 5 = a.av.cells.length + k * 5 := by rw [av_cells]; omega
      rw [e, List.take_length_add_append, h]
theorem vcells_drop (l : List V) (k : Nat) : (vcells l).drop (k * 5) = vcells (l.drop k) := by
  induction l generalizing k with
  | nil => simp [vcells]
  | cons a r ih =>
    cases k with
    | zero => simp [vcells]
    | succ k =>
      have h := ih k
      simp only [vcells, List.flatMap_cons, List.drop_succ_cons] at *
      have e : (k + 1) * 5 = a.av.cells.length + k * 5 := by rw [av_cells]; omega
      rw [e, List.drop_length_add_append, h]
theorem vcells_get (l : List V) (k : Nat) (h : k < l.length) : ((vcells l).drop (k * 5)).take 5 = l[k].av.cells := by
  rw [vcells_drop, List.drop_eq_getElem_cons h]
  have e : (5 : Nat) = l[k].av.cells.length := by rw [av_cells]
  simp only [vcells, List.flatMap_cons]
  rw [e, List.take_left']
  rfl
theorem group_vcells : ∀ l : List V, group true 5 l.length (vcells l) = some (avs l)
  | [] => rfl
  | v :: r => by
    have ih := group_vcells r
    have hl : 5 ≤ (vcells (v :: r)).length := by rw [vcells_len]; simp; omega
    have h1 := vcells_drop (v :: r) 1
    have h2 := vcells_take (v :: r) 1
    simp only [Nat.one_mul, List.drop_succ_cons, List.drop_zero, List.take_succ_cons, List.take_zero] at h1 h2
    simp only [List.length_cons, group, if_true, if_pos hl, h1, h2, ih, avs]
    congr 2
    rw [V.av_eq]; simp [vcells, V.av_eq, AV.cells]
theorem decs_avs (l : List V) : decs unV (avs l) = some l := by rw [avs_map]; exact decs_of unV_av l
theorem splice_all (l m : List V) (h : m.length = l.length) : splice (vcells l) 0 (vcells m) = vcells m := by
  have e : (vcells m).length = (vcells l).length := by rw [vcells_len, vcells_len, h]
  simp [splice, e]
theorem splice_one (l : List V) (k : Nat) (v : V) (h : k < l.length) : splice (vcells l) (k * 5) v.av.cells = vcells (l.set k v) := by
  unfold splice
  have e1 : k * 5 + v.av.cells.length = (k + 1) * 5 := by rw [av_cells]; omega
  rw [e1, vcells_take, vcells_drop, List.set_eq_take_append_cons_drop, if_pos h, vcells_append]
  simp [vcells]
theorem treeL_vcells (l : List V) : treeL (vcells l) = true := by
  rw [<- flat_avs]
  refine tree_flat fun x hx => ?_
  . simp only [flat, avs_map, List.mem_flatMap, List.mem_map] at hx
    obtain ⟨_, ⟨v, _, rfl⟩, hx⟩ := hx
    exact treeL_mem (treeL_cells (tree_av v)) x hx
theorem ids_vcells (l : List V) : idsL (vcells l) = [] := treeL_ids _ (treeL_vcells l)
abbrev arrV (l : List V) : AObj := .cells (vcells l) 24
theorem ones_av (v : V) : v.av.cells.all AV.one = true := by rw [V.av_eq]; rfl
theorem avs_ok (l : List V) : (avs l).all (fun v => decide (v.cells.length = 5) && v.cells.all AV.one) = true := by
  rw [avs_map]; simp only [List.all_map, List.all_eq_true, Function.comp_apply, av_cells, decide_true, Bool.true_and]
  exact fun v _ => List.all_eq_true.1 (ones_av v)
theorem app_new {a : Bool} {al : FuncId -> FuncId} (l : List V) (hl : l ≠ []) (hc : l.length ≤ 1000000000) (ha : a = true) (H : Heap) :
    aappB (CX z a al) [22, 22] [.empty, .list (avs l) none] H = some (.slc H.length 0 l.length 5 true, H ++ [arrV l]) := by
  subst ha
  have r1 := room24X (z := z) (a := true) (al := al) l.length hc
  have ho := avs_ok l
  have hf := flat_avs l
  have hlen := avs_len l
  obtain ⟨x, r, rfl⟩ : ∃ a r, l = a :: r := by cases l with | nil => exact absurd rfl hl | cons a r => exact ⟨a, r, rfl⟩
  simp only [aappB, aappend, el22, int22, newsH, news, sz24, zero24]
  rw [if_pos ⟨rfl, by omega, rfl, ho⟩]
  simp only [avs] at hlen hf ⊢
  simp only [hlen, r1, if_true, cc_arr, ag24, hf]
theorem app_slc {a : Bool} {al : FuncId -> FuncId} (id m : Nat) (ms l : List V) (H : Heap) (hH : H[id]? = some (arrV ms)) (hm : m ≤ ms.length) (hl : l ≠ []) (hc : m + l.length ≤ 1000000000) :
    aappB (CX z a al) [22, 22] [.slc id 0 m 5 true, .list (avs l) none] H = some (.slc H.length 0 (m + l.length) 5 true, H.set id .dead ++ [arrV (ms.take m ++ l)]) := by
  have r1 := room24X (z := z) (a := a) (al := al) (m + l.length) hc
  have ho := avs_ok l
  have hf := flat_avs l
  have hlen := avs_len l
  have hk : m * 5 ≤ (vcells ms).length := by rw [vcells_len]; omega
  have hv := vcells_take ms m
  have ha := vcells_append (ms.take m) l
  obtain ⟨x, r, rfl⟩ : ∃ a r, l = a :: r := by cases l with | nil => exact absurd rfl hl | cons a r => exact ⟨a, r, rfl⟩
  simp only [aappB, aappend, el22, int22, newsH, news, sz24, zero24]
  rw [if_pos ⟨rfl, by omega, rfl, ho⟩]
  simp only [avs] at hlen hf ⊢
  simp only [hH, hlen]
  rw [if_pos ⟨trivial, trivial, trivial, hk, r1⟩, hv, hf, <- ha]
theorem c172 (l : List V) (hl : l ≠ []) (hc : l.length ≤ 1000000000) (H : Heap) : Call CC 172 [.list (avs l) none] H = some (.ok (.slc H.length 0 l.length 5 true), H ++ [arrV l]) := by
  have hne : isEmptyArg [.list (avs l) none] = false := by cases l with | nil => exact absurd rfl hl | cons a r => rfl
  have key := call_objsF (C := CC) (C' := CX false true al0) (f := 172) (fn := Tryz.f172) (args := [.list (avs l) none]) (H := H) (R := []) (fz := false)
    (P := fun v H1 => v = .slc H.length 0 l.length 5 true /\ H1.length = H.length + 1 /\ H1[H.length]? = some (arrV l)) rfl rfl rfl (by kernel_rfl) (by rw [hne, Bool.and_false]) rfl rfl (by simp) (by simp [reachL, reach, idsL, AV.ids]) (by simp [closed, idsL, AV.ids]) rfl rfl rfl rfl ?_
  . obtain ⟨v, H1, H', k1, ⟨k2, k3, k4⟩, k5, k6, k7, k8, k9⟩ := key
    subst k2
    rw [k1]
    congr 2
    apply List.ext_getElem?
    intro j
    rcases Nat.lt_trichotomy j H.length with h | h | h
    . rw [k8 j h (by simp), List.getElem?_append_left h]
    . subst h; rw [k9 _ (Nat.le_refl _), k4]; simp
    . rw [List.getElem?_eq_none (by omega), List.getElem?_eq_none (by simp; omega)]
  . intro M hM _
    have ha := app_new (z := false) (a := true) (al := al0) l hl hc rfl M
    have hn : nilness (.list (avs l) none) = some false := by cases l with | nil => exact absurd rfl hl | cons a r => rfl
    simp [-aappB, hn, ha, hM]
theorem acall_tree {n : Nat} {f : FuncId} {args : List AV} {r : ARet} {H0 : Heap} (hm : makesF f = false) (ht : treeL args = true) (h : acall CC n f args [] = some (r, H0)) (H : Heap) : Call CC f args H = some (r, H) :=
  Call_of (((acall_pure (C := CC) (hp_ok false) n).pure f args [] r H0 ht hm h).2 H)
theorem c173 (l : List V) (id : Nat) (H : Heap) (hH : H[id]? = some (arrV l)) (hn : l.length < 4611686018427387904) (hc : ∀ v ∈ l, v.cnt ≤ 1000000000) :
    Call CC 173 [.slc id 0 l.length 5 true, .fn (.func 83) [] []] H = some (.ok (.tup []), H.set id (arrV (sortBy cmpV l))) := by
  refine call_hprim (g := sortH 5 83 unV (fun v => v.av.cells) cmpV cntOk) rfl rfl rfl ?_
  have h1 : l.all cntOk = true := by simp only [List.all_eq_true, cntOk, decide_eq_true_eq]; exact hc
  have h2 : 0 + l.length * 5 ≤ (vcells l).length := by rw [vcells_len]; omega
  simp only [sortH, sortG, hH]
  rw [if_pos ⟨trivial, trivial, trivial, hn⟩, if_pos h2, List.drop_zero, group_vcells]
  simp only [decs_avs, h1, if_true]
  have h3 := splice_all l (sortBy cmpV l) (sortBy_len _ _)
  unfold vcells at h3 ⊢
  rw [h3]; rfl
theorem c173e (H : Heap) : Call CC 173 [.list [] none, .fn (.func 83) [] []] H = some (.ok (.tup []), H) := acall_tree (n := 12) (H0 := []) rfl rfl (by kernel_rfl) H
theorem c174e (H : Heap) : Call CC 174 [.list [] none, .fn (.func 175) [] []] H = some (.ok (.list [] none), H) := acall_tree (n := 12) (H0 := []) rfl rfl (by kernel_rfl) H
theorem c172e (H : Heap) : Call CC 172 [.list [] none] H = some (.ok (.list [] none), H) := Call_of (n := 5) (by
  rw [acall]
  have h1 : afn ((CX false false al0).at 172) (acall CC 4) 4 (CC.frz 172) Tryz.f172 [.nilS] [] = some (.ok (.list [] none), []) := by kernel_rfl
  have h2 : afn ((CX false false al0).at 172) (acall CC 4) 4 (CC.frz 172) Tryz.f172 [.someS] [] = some (.ok (.list [] none), []) := by kernel_rfl
  have h3 : CC.P.funcs[CC.real 172]? = some Tryz.f172 := by kernel_rfl
  have h4 : CC.prim 172 = none := rfl
  have h5 : (if treeL [.list [] none] = true then none else CC.hprim 172) = none := rfl
  have h6 : (CC.clone 172 && isEmptyArg [.list [] none]) = true := rfl
  simp only [h4, h5, h3, h6, if_true, h1, h2]
  rfl)
theorem c175 (a b : V) (H : Heap) (h : a.cnt ≤ 1000000000) : Call CC 175 [a.av, b.av] H = some (.ok (.bool (decide (cmpV a b = 0))), H) := by
  have g1 := fun H => c83 a b H h
  rw [V.av_eq, V.av_eq] at g1
  refine cwp (fn := Tryz.f175) rfl (by kernel_rfl) rfl rfl rfl rfl (by simp) rfl ?_ H
  simp [V.av_eq, g1]
theorem ddp_snoc (x y : V) : ∀ p : List V, ddp (p ++ [y] ++ [x]) = if cmpV x y = 0 then ddp (p ++ [y]) else ddp (p ++ [y]) ++ [x]
  | [] => by
    simp only [List.nil_append, List.cons_append, ddp]
    split
    . rename_i h; rw [cmpV_eq.1 h]
    . rfl
  | [a] => by
    simp only [List.nil_append, List.cons_append, ddp]
    split <;> split <;> simp_all [cmpV_eq]
  | a :: b :: p => by
    have ih := ddp_snoc x y (b :: p)
    simp only [List.cons_append] at ih ⊢
    rw [ddp, ddp, ih]
    split <;> split <;> simp_all
theorem ddp_take (l : List V) (i : Nat) (h0 : 0 < i) (h : i < l.length) : ddp (l.take (i + 1)) = if cmpV l[i] l[i - 1] = 0 then ddp (l.take i) else ddp (l.take i) ++ [l[i]] := by
  obtain ⟨j, rfl⟩ : ∃ j, i = j + 1 := ⟨i - 1, by omega⟩
  rw [take_succ l (j + 1) h, take_succ l j (by omega)]
  exact ddp_snoc _ _ _
def ICo (l : List V) (id : Nat) (M : Heap) (i : Nat) (t : List AV) (H : Heap) : Prop := ∃ k : Nat, k = i + 1 /\ k ≤ l.length /\ ddp (l.take k) = l.take k /\ H = M /\ Fit [some (.slc id 0 l.length 5 true), some (.fn (.func 175) [] []), none, none, some (.empty), some (.int .i64 k), none, none, none, none, none, none, none, none, none, none, none, none, none, none, none, none, none, none, none, none, none, none, none, none, none, none, none, none, none, none, none, none, none, none, none, none, none, none, none, none, none, none, none, none, none, none, none, none, none, none, none, none, none, none, none, none, none, none, none, none] t
def ICi (l : List V) (id : Nat) (M : Heap) (k : Nat) (j : Nat) (t : List AV) (H : Heap) : Prop := ∃ (m : List V) (k' q : Nat), q = j + 1 /\ q ≤ l.length - k /\ m.length = l.length /\ k' < k + q /\ m.take k' = ddp (l.take (k + q)) /\ m.drop (k + q - 1) = l.drop (k + q - 1) /\ H = M.set id (arrV m) /\ Fit [some (.slc id 0 l.length 5 true), some (.fn (.func 175) [] []), none, none, some (.empty), some (.int .i64 k'), some (.slc id (k * 5) (l.length - k) 5 true), some (.int .i64 q), none, none, none, none, none, none, none, none, none, none, none, none, none, none, none, none, none, none, none, none, none, none, none, none, none, none, none, none, none, none, none, none, none, none, none, none, none, none, none, none, none, none, none, none, none, none, none, none, none, none, none, none, none, none, none, none, none, none] t
theorem set_same {α : Type} {H : List α} {i : Nat} {o : α} (h : H[i]? = some o) : H.set i o = H := by
  apply List.ext_getElem?
  intro j
  by_cases e : i = j
  . subst e; rw [List.getElem?_set_self (List.getElem?_eq_some_iff.1 h).1, h]
  . rw [List.getElem?_set_ne e]
theorem aclr_arr {a : Bool} {al : FuncId -> FuncId} (id k : Nat) (m : List V) (H : Heap) (hH : H[id]? = some (arrV m)) (hk : k < m.length) :
    aclrB (CX z a al) [22] [.slc id (k * 5) (m.length - k) 5 true] H = some (.undef, H.set id (.cells (vcells (m.take k) ++ (List.replicate (m.length - k) [AV.int .i64 0, .int .i64 0, .str [], .empty, .empty]).flatten) 24)) := by
  have h1 : ¬ m.length - k = 0 := by omega
  have h2 : k * 5 + (m.length - k) * 5 ≤ (vcells m).length := by rw [vcells_len]; omega
  have h3 : ((List.replicate (m.length - k) [AV.int .i64 0, .int .i64 0, .str [], .empty, .empty]).flatten).length = (m.length - k) * 5 := by simp
  have h4 : (vcells m).drop (k * 5 + (m.length - k) * 5) = [] := List.drop_eq_nil_of_le (by rw [vcells_len]; omega)
  simp only [aclrB, aclear, el22, if_neg h1, zero24, sz24, hH]
  rw [if_pos ⟨rfl, rfl, h2⟩]
  simp only [cells_agg, splice, h3, h4, vcells_take, List.append_nil]
theorem arr_at (l : List V) (k : Nat) (h : k < l.length) : k * 5 ≤ (vcells l).length /\ 5 ≤ (vcells l).length - k * 5 /\
    ((vcells l).drop (k * 5)).take 5 = [.int .i64 l[k].kind, .int .i64 l[k].num, .str l[k].s, .list (avs l[k].keys) none, .list (avs l[k].items) none] := by
  refine ⟨by rw [vcells_len]; omega, by rw [vcells_len]; omega, ?_⟩
  rw [vcells_get l k h, V.av_eq]; rfl
theorem arr_at2 (l : List V) (k q : Nat) (h : k + q < l.length) : k * 5 + q * 5 ≤ (vcells l).length /\ 5 ≤ (vcells l).length - (k * 5 + q * 5) /\
    ((vcells l).drop (k * 5 + q * 5)).take 5 = [.int .i64 l[k + q].kind, .int .i64 l[k + q].num, .str l[k + q].s, .list (avs l[k + q].keys) none, .list (avs l[k + q].items) none] := by
  have := arr_at l (k + q) h
  rw [Nat.add_mul] at this; exact this
theorem c174 (l : List V) (id : Nat) (H : Heap) (hH : H[id]? = some (arrV l)) (h0 : l ≠ []) (hl : l.length ≤ 1000000000) (hc : ∀ v ∈ l, v.cnt ≤ 1000000000) :
    ∃ H' rest, Call CC 174 [.slc id 0 l.length 5 true, .fn (.func 175) [] []] H = some (.ok (.slc id 0 (ddp l).length 5 true), H') /\ H'[id]? = some (.cells (vcells (ddp l) ++ rest) 24) /\ H'.length = H.length /\ ∀ j, j ≠ id -> H'[j]? = H[j]? := by
  have hid : id < H.length := (List.getElem?_eq_some_iff.1 hH).1
  have hpos : 0 < l.length := List.length_pos_iff.2 h0
  have key := call_objsF (C := CC) (C' := CC) (f := 174) (fn := Tryz.f174) (args := [.slc id 0 l.length 5 true, .fn (.func 175) [] []]) (H := H) (R := [id]) (fz := false)
    (P := fun v H1 => v = .slc id 0 (ddp l).length 5 true /\ H1.length = H.length /\ ∃ rest, H1[id]? = some (.cells (vcells (ddp l) ++ rest) 24)) rfl rfl rfl (by kernel_rfl) rfl rfl rfl rfl
    (by simp [reachL, reach, idsL, AV.ids, hH, AObj.ids, ids_vcells]) (by simp [closed, idsL, AV.ids, hH, AObj.ids, ids_vcells]) rfl rfl rfl rfl ?_
  . obtain ⟨v, H1, H', k1, ⟨k2, k3, rest, k4⟩, k5, k6, k7, k8, k9⟩ := key
    subst k2
    refine ⟨H', rest, k1, by rw [k7 id (by simp), k4], by omega, fun j hj => ?_⟩
    by_cases hlt : j < H.length
    . exact k8 j hlt (by simpa using hj)
    . rw [List.getElem?_eq_none (by omega), List.getElem?_eq_none (by omega)]
  . intro M hM hR
    have hMi : M[id]? = some (arrV l) := by rw [hR id (by simp), hH]
    simp
    cases hb : decide ((l.length : Int) < 2)
    . have hb' : 2 ≤ l.length := by simp at hb; omega
      simp
      refine st_iter (ICo l id M) l.length ?_ ?_
      . refine ⟨1, rfl, by omega, ?_, rfl, by simp⟩
        rw [take_succ l 0 hpos]; rfl
      . rintro i t Hi ⟨k, hk, hkl, hd, rfl, ht⟩
        obtain ⟨d, rfl⟩ := ht.elim
        clear ht
        refine ⟨by omega, ?_⟩
        simp
        cases hb2 : decide (k < l.length)
        . have hb2' : k = l.length := by simp at hb2; omega
          have hdl : ddp l = l := by rw [hb2', List.take_length] at hd; exact hd
          simp [hdl, hM, hMi]
        . have hb2' : k < l.length := by simpa using hb2
          have e1 := ddp_take l k (by omega) hb2'
          have w1 : IntKind.i64.wrap ((k : Int) - 1) = ((k - 1 : Nat) : Int) := by rw [wrapI (by omega) (by omega)]; omega
          have w2 : IntKind.i64.wrap ((k : Int) + 1) = ((k + 1 : Nat) : Int) := by rw [wrapI (by omega) (by omega)]; omega
          obtain ⟨a0, b0, g0⟩ := arr_at l k hb2'
          obtain ⟨a1, b1, g1⟩ := arr_at l (k - 1) (by omega)
          have hk1 : k - 1 < l.length := by omega
          have f1 := fun H => c175 l[k] l[k - 1] H (hc _ (List.getElem_mem hb2'))
          rw [V.av_eq, V.av_eq] at f1
          simp [hb2', w1, hMi, hk1, a0, b0, g0, a1, b1, g1, f1]
          refine ⟨by kernel_rfl, ?_⟩
          cases he : decide (cmpV l[k] l[k - 1] = 0)
          . have he' : ¬ cmpV l[k] l[k - 1] = 0 := by simpa using he
            rw [if_neg he', hd, <- take_succ l k hb2'] at e1
            simp [w2]
            exact ⟨k + 1, by omega, by omega, e1, rfl, by simp⟩
          . have he' : cmpV l[k] l[k - 1] = 0 := by simpa using he
            rw [if_pos he', hd] at e1
            simp [bnd, hkl]
            refine st_iter (ICi l id Hi k) l.length ?_ ?_
            . refine ⟨l, k, 1, rfl, by omega, rfl, by omega, e1.symm, rfl, (set_same hMi).symm, by simp⟩
            . rintro j t H2 ⟨m, k', q, hq, hqn, hml, hkq, htk, hdr, rfl, ht⟩
              obtain ⟨d, rfl⟩ := ht.elim
              clear ht
              refine ⟨by omega, ?_⟩
              have hidM : id < Hi.length := (List.getElem?_eq_some_iff.1 hMi).1
              have hset : (Hi.set id (arrV m))[id]? = some (arrV m) := List.getElem?_set_self hidM
              have hmget : ∀ p (h1 : p < m.length) (h2 : p < l.length), k + q - 1 ≤ p -> m[p] = l[p] := fun p h1 h2 hp => by
                have : (m.drop (k + q - 1))[p - (k + q - 1)]? = (l.drop (k + q - 1))[p - (k + q - 1)]? := by rw [hdr]
                rw [List.getElem?_drop, List.getElem?_drop, Nat.add_sub_cancel' hp, List.getElem?_eq_getElem h1, List.getElem?_eq_getElem h2] at this
                exact Option.some.inj this
              simp
              cases hb3 : decide (q < l.length - k)
              . have hb3' : q = l.length - k := by simp at hb3; omega
                have hkn : k + q = l.length := by omega
                have htd : m.take k' = ddp l := by rw [htk, hkn, List.take_length]
                have hlk : (ddp l).length = k' := by rw [<- htd, List.length_take]; omega
                have hkl' : k' < l.length := by omega
                have hcl := aclr_arr (z := false) (a := false) (al := al0) id k' m _ hset (by omega)
                rw [hml, htd] at hcl
                simp [-splice, bnd, Nat.le_of_lt hkl', hcl, hlk, hM]
                exact ⟨_, List.getElem?_set_self hidM⟩
              . have hb3' : q < l.length - k := by simpa using hb3
                have e3 := ddp_take l (k + q) (by omega) (by omega)
                have w3 : IntKind.i64.wrap ((q : Int) - 1) = ((q - 1 : Nat) : Int) := by rw [wrapI (by omega) (by omega)]; omega
                have w4 : IntKind.i64.wrap ((q : Int) + 1) = ((q + 1 : Nat) : Int) := by rw [wrapI (by omega) (by omega)]; omega
                have w5 : IntKind.i64.wrap ((k' : Int) + 1) = ((k' + 1 : Nat) : Int) := by rw [wrapI (by omega) (by omega)]; omega
                obtain ⟨a2, b2, g2⟩ := arr_at2 m k q (by omega)
                obtain ⟨a3, b3, g3⟩ := arr_at2 m k (q - 1) (by omega)
                have hq1 : q - 1 < l.length - k := by omega
                have m1 := hmget (k + q) (by omega) (by omega) (by omega)
                have m2 := hmget (k + (q - 1)) (by omega) (by omega) (by omega)
                rw [m1] at g2; rw [m2] at g3
                have f2 := fun H => c175 l[k + q] l[k + (q - 1)] H (hc _ (List.getElem_mem (by omega)))
                rw [V.av_eq, V.av_eq] at f2
                have hix : k + q - 1 = k + (q - 1) := by omega
                simp only [hix] at e3
                simp [hb3', w3, hset, hq1, a2, b2, g2, a3, b3, g3, f2]
                refine ⟨by kernel_rfl, ?_⟩
                cases he2 : decide (cmpV l[k + q] l[k + (q - 1)] = 0)
                . have he2' : ¬ cmpV l[k + q] l[k + (q - 1)] = 0 := by simpa using he2
                  rw [if_neg he2', <- htk] at e3
                  have hk'l : k' < l.length := by omega
                  have hk'm : k' < m.length := by omega
                  have c1 := splice_one m k' l[k + q] hk'm
                  rw [V.av_eq, cells_agg] at c1
                  have c2 : k' * 5 + 5 ≤ (vcells m).length := by rw [vcells_len]; omega
                  have t1 : (m.set k' l[k + q]).take (k' + 1) = m.take k' ++ [l[k + q]] := by
                    rw [take_succ _ k' (by simpa using hk'm), List.take_set_of_le (Nat.le_refl _)]; simp
                  have t2 : (m.set k' l[k + q]).drop (k + (q + 1) - 1) = l.drop (k + (q + 1) - 1) := by
                    rw [List.drop_set_of_lt (by omega), show k + (q + 1) - 1 = (k + q - 1) + 1 by omega, <- List.drop_drop, <- List.drop_drop, hdr]
                  simp [-splice, hb3', w4, w5, hset, hk'l, a2, b2, g2, c1, c2]
                  exact ⟨m.set k' l[k + q], k' + 1, q + 1, by omega, by omega, by simpa using hml, by omega, by rw [t1, <- e3]; rfl, t2, rfl, by simp⟩
                . have he2' : cmpV l[k + q] l[k + (q - 1)] = 0 := by simpa using he2
                  rw [if_pos he2'] at e3
                  simp [w4]
                  refine ⟨m, k', q + 1, by omega, by omega, hml, by omega, by rw [htk, <- e3]; rfl, ?_, rfl, by simp⟩
                  rw [show k + (q + 1) - 1 = (k + q - 1) + 1 by omega, <- List.drop_drop, <- List.drop_drop, hdr]
    . have hb' : l.length = 1 := by simp at hb; omega
      obtain ⟨a, rfl⟩ : ∃ a, l = [a] := by
        match l, hb' with
        | [a], _ => exact ⟨a, rfl⟩
      simp [ddp, hM, hMi]
theorem cnt_of_mem {l : List V} {n : Nat} (h : cnts l ≤ n) : ∀ v ∈ l, v.cnt ≤ n := fun _v hv => Nat.le_trans (cnt_mem hv) h
theorem group_pre (rest : List AV) : ∀ l : List V, group true 5 l.length (vcells l ++ rest) = some (avs l)
  | [] => rfl
  | v :: r => by
    have ih := group_pre rest r
    have e : vcells (v :: r) ++ rest = v.av.cells ++ (vcells r ++ rest) := by simp [vcells]
    have hl : 5 ≤ (vcells (v :: r) ++ rest).length := by rw [e, List.length_append, av_cells]; omega
    have h1 : (vcells (v :: r) ++ rest).drop 5 = vcells r ++ rest := by rw [e, List.drop_left' (av_cells v)]
    have h2 : (vcells (v :: r) ++ rest).take 5 = v.av.cells := by rw [e, List.take_left' (av_cells v)]
    simp only [List.length_cons, group, if_true, if_pos hl, h1, h2, ih, avs]
    congr 2
    rw [V.av_eq]; rfl
theorem two_of {α : Type} {H : List α} {a b : α} (h : H.length = 2) (h0 : H[0]? = some a) (h1 : H[1]? = some b) : H = [a, b] := by
  match H, h with
  | [x, y], _ => simp at h0 h1; rw [h0, h1]
theorem c100 (l : List V) (hc : cnts l ≤ 1000000000) (H : Heap) : Call CC 100 [.list (avs l) none] H = some (.ok (setN l).av, H) := by
  have hav : (setN l).av = .agg [.int .i64 4, .int .i64 0, .str [], .list [] none, .list (avs (ddp (sortBy cmpV l))) none] := by rw [setN, srtU_eq]; rfl
  refine call_treeF (C' := CC) (fn := Tryz.f100) (fz := true) rfl (by kernel_rfl) rfl rfl rfl rfl (by simp) rfl rfl rfl rfl (tree_av _) ?_
  rw [hav]
  by_cases hl : l = []
  . subst hl
    simp [avs, c172e, c173e, c174e, undv24, fv24_all, fv24_0, fv24_4, frzL, frzC, sortBy, ddp]
    done
  . have q6 := len_cnts l
    have g1 := fun H => c172 l hl (by omega) H
    have g2 := c173 l 1 [.cells [.int .i64 0, .int .i64 0, .str [], .empty, .empty] 24, arrV l] rfl (by omega) (cnt_of_mem hc)
    have hl2 : sortBy cmpV l ≠ [] := fun e => hl (List.length_eq_zero_iff.1 (by rw [<- sortBy_len cmpV, e]; rfl))
    have hsl := sortBy_len cmpV l
    obtain ⟨H', rest, g3, g4, g5, g6⟩ := c174 (sortBy cmpV l) 1 [.cells [.int .i64 0, .int .i64 0, .str [], .empty, .empty] 24, arrV (sortBy cmpV l)] rfl hl2 (by omega) (fun v hv => cnt_of_mem hc v ((sortBy_mem _ _ _).1 hv))
    have g7 := g6 0 (by decide)
    obtain rfl := two_of (by simpa using g5) (by simpa using g7) g4
    rw [hsl] at g3
    have g8 := group_pre rest (ddp (sortBy cmpV l))
    have g9 : (ddp (sortBy cmpV l)).length * 5 ≤ (vcells (ddp (sortBy cmpV l)) ++ rest).length := by rw [List.length_append, vcells_len]; omega
    simp only [List.length_append] at g9
    simp [g1, g2, g3, undv24, fv24_all, fv24_0, fv24_4, frzL, frzC, g8, g9]
    done
end Go.Tv
