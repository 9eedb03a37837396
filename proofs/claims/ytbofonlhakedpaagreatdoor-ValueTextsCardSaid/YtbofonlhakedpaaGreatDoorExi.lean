/-
  What the functions of chapter 8 compute: SetOf, FunctionOf.
-/
import Derived.Test.YtbofonlhakedpaaGreatDoorExh
namespace Go.Tv
open Go.Proofs
set_option maxHeartbeats 4000000
variable {z : Bool}
def dePut (k : Nat) : Eff -> Eff
  | .put j => if j = k then .new else .put j
  | e => e
theorem dePut_put (k : Nat) : dePut k (.put k) = .new := if_pos rfl
theorem dePut_q (k : Nat) : dePut k .quiet = .quiet := rfl
theorem dePut_new (k : Nat) : dePut k .new = .new := rfl
theorem dePut_ne {k j : Nat} (h : j ≠ k) : dePut k (.put j) = .put j := if_neg h
theorem drawE_put {ops : Array Oper} {es : List Eff} {rs : List (Option Nat)} (k : Nat) (hr : ∀ r ∈ rs, r ≠ some k) (h : drawE ops (es.map (dePut k)) rs = true) : drawE ops es rs = true := by
  have hrd : ∀ i, rs.getD i none ≠ some k := fun i => by
    rw [List.getD_eq_getElem?_getD]
    cases hi : rs[i]? with
    | none => simp
    | some r => simpa using hr r (List.mem_of_getElem? hi)
  have hed : ∀ i, (es.map (dePut k)).getD i .all = dePut k (es.getD i .all) := fun i => by
    rw [List.getD_eq_getElem?_getD, List.getD_eq_getElem?_getD, List.getElem?_map]
    cases es[i]? <;> rfl
  have hc : ∀ (r : Option Nat) (e : Eff), r ≠ some k -> commutes r (dePut k e) = commutes r e := fun r e hrk => by
    cases e <;> try rfl
    rename_i j
    by_cases hj : j = k
    . subst hj
      rw [dePut_put]
      cases r with
      | none => rfl
      | some i =>
        have : i ≠ j := fun e => hrk (by rw [e])
        simp [commutes, this]
    . rw [dePut_ne hj]
  have hq : ∀ e, dePut k e = .quiet ↔ e = .quiet := fun e => by
    cases e <;> simp [dePut]
    split <;> simp
  have hp : ∀ i j, pairE ops (es.map (dePut k)) rs i j = pairE ops es rs i j := fun i j => by
    simp only [pairE, hed]
    congr 1
    have h1 := hc (rs.getD i none) (es.getD j .all) (hrd i)
    have h2 := hc (rs.getD j none) (es.getD i .all) (hrd j)
    have hn : ∀ e, e ≠ .quiet -> dePut k e ≠ .quiet := fun e he h => he ((hq e).1 h)
    have ef : ∀ (a b : Eff) (r q : Option Nat), a ≠ .quiet -> b ≠ .quiet -> effR a r b q = false := fun a b r q ha hb => by
      cases a <;> cases b <;> first | rfl | exact absurd rfl ha | exact absurd rfl hb
    have e1 : ∀ (e : Eff) (r q : Option Nat), effR .quiet r e q = commutes r e := fun e r q => by cases e <;> rfl
    have e2 : ∀ (e : Eff) (r q : Option Nat), e ≠ .quiet -> effR e r .quiet q = commutes q e := fun e r q he => by
      cases e <;> first | rfl | exact absurd rfl he
    by_cases hi : es.getD i .all = .quiet
    . rw [hi, show dePut k .quiet = .quiet from rfl, e1, e1, h1]
    . by_cases hj : es.getD j .all = .quiet
      . rw [hj, show dePut k .quiet = .quiet from rfl, e2 _ _ _ hi, e2 _ _ _ (hn _ hi), h2]
      . rw [ef _ _ _ _ hi hj, ef _ _ _ _ (hn _ hi) (hn _ hj)]
  simp only [drawE, hp] at h
  exact h
def pcl (l : List (V × V)) : List AV := l.flatMap P2.cells
theorem p2_len (p : V × V) : (P2.cells p).length = 10 := by rw [p2_eq]; rfl
theorem pcl_len (l : List (V × V)) : (pcl l).length = l.length * 10 := by
  induction l with
  | nil => rfl
  | cons a r ih => simp only [pcl, List.flatMap_cons, List.length_append, p2_len, List.length_cons] at *; omega
theorem pcl_take (l : List (V × V)) (k : Nat) : (pcl l).take (k * 10) = pcl (l.take k) := by
  induction l generalizing k with
  | nil => simp [pcl]
  | cons a r ih =>
    cases k with
    | zero => simp [pcl]
    | succ k =>
      have h := ih k
      simp only [pcl, List.flatMap_cons, List.take_succ_cons] at *
      have e : (k + 1) * 10 = (P2.cells a).length + k * 10 := by rw [p2_len]; omega
      rw [e, List.take_length_add_append, h]
theorem pcl_drop (l : List (V × V)) (k : Nat) : (pcl l).drop (k * 10) = pcl (l.drop k) := by
  induction l generalizing k with
  | nil => simp [pcl]
  | cons a r ih =>
    cases k with
    | zero => simp [pcl]
    | succ k =>
      have h := ih k
      simp only [pcl, List.flatMap_cons, List.drop_succ_cons] at *
      have e : (k + 1) * 10 = (P2.cells a).length + k * 10 := by rw [p2_len]; omega
      rw [e, List.drop_length_add_append, h]
theorem pcl_get (l : List (V × V)) (k : Nat) (h : k < l.length) : ((pcl l).drop (k * 10)).take 10 = P2.cells l[k] := by
  rw [pcl_drop, List.drop_eq_getElem_cons h]
  have e : (10 : Nat) = (P2.cells l[k]).length := by rw [p2_len]
  simp only [pcl, List.flatMap_cons]
  rw [e, List.take_left']
  rfl
def pavs (l : List (V × V)) : List AV := l.map fun p => .agg (P2.cells p)
theorem group_pcl : ∀ l : List (V × V), group true 10 l.length (pcl l) = some (pavs l)
  | [] => rfl
  | v :: r => by
    have ih := group_pcl r
    have hl : 10 ≤ (pcl (v :: r)).length := by rw [pcl_len]; simp; omega
    have h1 := pcl_drop (v :: r) 1
    have h2 := pcl_take (v :: r) 1
    simp only [Nat.one_mul, List.drop_succ_cons, List.drop_zero, List.take_succ_cons, List.take_zero] at h1 h2
    simp only [List.length_cons, group, if_true, if_pos hl, h1, h2, ih, pavs, List.map_cons]
    congr 2
    simp [pcl]
theorem decs_pavs (l : List (V × V)) : decs unP (pavs l) = some l := decs_of (f := fun p => .agg (P2.cells p)) (fun p => unP_pair p.1 p.2) l
theorem splice_allP (l m : List (V × V)) (h : m.length = l.length) : splice (pcl l) 0 (pcl m) = pcl m := by
  have e : (pcl m).length = (pcl l).length := by rw [pcl_len, pcl_len, h]
  simp [splice, e]
abbrev arrP (l : List (V × V)) : AObj := .cells (pcl l) 175
theorem room175X {a : Bool} {al : FuncId -> FuncId} (n : Nat) (h : n ≤ 1000000000) : roomOk (CX z a al) 175 n = true := by
  have hb : (Tryz.prog.info? 175).map (fun i => (i.bytes, i.zero.isSome)) = some (160, true) := by kernel_rfl
  unfold roomOk
  rw [cc_P]
  cases hi : Tryz.prog.info? 175 with
  | none => rw [hi] at hb; cases hb
  | some i =>
    rw [hi] at hb
    simp only [Option.map_some, Option.some.injEq, Prod.mk.injEq] at hb
    simp only [hb.1, hb.2, Bool.and_true, decide_eq_true_eq]
    refine ⟨?_, ?_, by omega⟩ <;> omega
theorem p2_ones (p : V × V) : (P2.cells p).all AV.one = true := by rw [p2_eq]; rfl
theorem app_newP {a : Bool} {al : FuncId -> FuncId} (p : V × V) (ha : a = true) (H : Heap) :
    aappB (CX z a al) [173, 173] [.empty, .list [.agg (P2.cells p)] none] H = some (.slc H.length 0 1 10 true, H ++ [arrP [p]]) := by
  subst ha
  have r1 := room175X (z := z) (a := true) (al := al) 1 (by omega)
  have ho := p2_ones p
  have hl := p2_len p
  simp only [aappB, aappend, el173, int173, newsH, news, sz175, zero175]
  rw [if_pos ⟨rfl, by decide, rfl, by simp [AV.cells, hl, ho]⟩]
  simp only [List.length_cons, List.length_nil, Nat.zero_add, r1, if_true, cc_arr, ag175, flat, List.flatMap_cons, List.flatMap_nil, AV.cells, List.append_nil, arrP, pcl]
theorem app_slcP {a : Bool} {al : FuncId -> FuncId} (id : Nat) (ms : List (V × V)) (p : V × V) (H : Heap) (hH : H[id]? = some (arrP ms)) (hc : ms.length + 1 ≤ 1000000000) :
    aappB (CX z a al) [173, 173] [.slc id 0 ms.length 10 true, .list [.agg (P2.cells p)] none] H = some (.slc H.length 0 (ms.length + 1) 10 true, H.set id .dead ++ [arrP (ms ++ [p])]) := by
  have r1 := room175X (z := z) (a := a) (al := al) (ms.length + 1) hc
  have ho := p2_ones p
  have hl := p2_len p
  have hk : ms.length * 10 ≤ (pcl ms).length := by rw [pcl_len]; omega
  have hv : (pcl ms).take (ms.length * 10) = pcl ms := List.take_of_length_le (by rw [pcl_len]; omega)
  simp only [aappB, aappend, el173, int173, newsH, news, sz175, zero175]
  rw [if_pos ⟨rfl, by decide, rfl, by simp [AV.cells, hl, ho]⟩]
  simp only [hH, List.length_cons, List.length_nil, Nat.zero_add]
  rw [if_pos ⟨trivial, trivial, trivial, hk, r1⟩, hv]
  simp only [flat, List.flatMap_cons, List.flatMap_nil, AV.cells, List.append_nil, arrP, pcl, List.flatMap_append]
def PSt (l : List (V × V)) (v : AV) (H : Heap) : Prop := (l = [] /\ v = .empty) \/ ∃ id, 0 < id /\ l ≠ [] /\ v = .slc id 0 l.length 10 true /\ H[id]? = some (arrP l)
theorem PSt.app {l : List (V × V)} {v : AV} {H : Heap} (h : PSt l v H) (L : Heap) : PSt l v (H ++ L) := by
  rcases h with h | ⟨id, h1, h2, h3, h4⟩
  . exact .inl h
  . exact .inr ⟨id, h1, h2, h3, app_get h4 _⟩
theorem app_PS {al : FuncId -> FuncId} {l : List (V × V)} {v : AV} {H : Heap} (h : PSt l v H) (p : V × V) (hc : l.length + 1 ≤ 1000000000) {o : AObj} (h0 : H[0]? = some o) :
    ∃ v' H', aappB (CX z true al) [173, 173] [v, .list [.agg (P2.cells p)] none] H = some (v', H') /\ PSt (l ++ [p]) v' H' /\ H'[0]? = some o := by
  have hl := lt_of_get h0
  rcases h with ⟨rfl, rfl⟩ | ⟨id, h1, h2, rfl, h4⟩
  . exact ⟨_, _, app_newP p rfl H, .inr ⟨H.length, hl, by simp, rfl, by simp⟩, app_get h0 _⟩
  . refine ⟨_, _, app_slcP id l p H h4 hc, .inr ⟨H.length, hl, by simp, by simp, by simp⟩, ?_⟩
    refine app_get ?_ _
    rw [List.getElem?_set_ne (by omega)]; exact h0
def prv (ps : List (V × V)) (i : Nat) : Option (V × V) := if i = 0 then none else ps[i - 1]?
def NS2 (T : Nat) (out : List (V × V)) (A1 A2 : AV) (H : Heap) : Prop := (out = [] /\ A1 = .empty /\ A2 = .empty) \/ ∃ a b, T < a /\ T < b /\ a ≠ b /\ out ≠ [] /\ A1 = .slc a 0 out.length 5 true /\ A2 = .slc b 0 out.length 5 true /\ H[a]? = some (arrV (out.map Prod.fst)) /\ H[b]? = some (arrV (out.map Prod.snd))
theorem c176 (l : List (V × V)) (id : Nat) (H : Heap) (hH : H[id]? = some (arrP l)) (hn : l.length < 4611686018427387904) (hc : ∀ p ∈ l, p.1.cnt ≤ 1000000000 /\ p.2.cnt ≤ 1000000000) :
    Call CC 176 [.slc id 0 l.length 10 true, .fn (.func 177) [] []] H = some (.ok (.tup []), H.set id (arrP (sortBy cmpP l))) := by
  refine call_hprim (g := sortH 10 177 unP P2.cells cmpP fun p => cntOk p.1 && cntOk p.2) rfl rfl rfl ?_
  have h1 : l.all (fun p => cntOk p.1 && cntOk p.2) = true := by simp only [List.all_eq_true, cntOk, Bool.and_eq_true, decide_eq_true_eq]; exact hc
  have h2 : 0 + l.length * 10 ≤ (pcl l).length := by rw [pcl_len]; omega
  simp only [sortH, sortG, hH]
  rw [if_pos ⟨trivial, trivial, trivial, hn⟩, if_pos h2, List.drop_zero, group_pcl]
  simp only [decs_pavs, h1, if_true]
  have h3 := splice_allP l (sortBy cmpP l) (sortBy_len _ _)
  have h4 : List.flatMap P2.cells (sortBy cmpP l) = pcl (sortBy cmpP l) := rfl
  rw [h4, h3]
theorem app2 {T : Nat} {out : List (V × V)} {A1 A2 : AV} {H : Heap} (h : NS2 T out A1 A2 H) (x y : V) (bx : AObj) (hT : T < H.length) (hc : out.length + 1 ≤ 1000000000) :
    ∃ a b M1 M2, aappB (CX z true al0) [22, 22] [A1, .list [x.av] none] (H ++ [bx]) = some (.slc a 0 (out.length + 1) 5 true, M1) /\ aappB (CX z true al0) [22, 22] [A2, .list [y.av] none] M1 = some (.slc b 0 (out.length + 1) 5 true, M2) /\
      a ≠ b /\ T < a /\ T < b /\ M2[a]? = some (arrV ((out ++ [(x, y)]).map Prod.fst)) /\ M2[b]? = some (arrV ((out ++ [(x, y)]).map Prod.snd)) /\
      (∀ j o, j ≤ T -> H[j]? = some o -> M1[j]? = some o /\ M2[j]? = some o) /\ M1[H.length]? = some bx /\ M2[H.length]? = some bx := by
  rcases h with ⟨rfl, rfl, rfl⟩ | ⟨a0, b0, ha, hb, hab, hne, rfl, rfl, hA, hB⟩
  . have e1 := app_new (z := z) (al := al0) [x] (by simp) (by simp) rfl (H ++ [bx])
    have e2 := app_new (z := z) (al := al0) [y] (by simp) (by simp) rfl (H ++ [bx] ++ [arrV [x]])
    refine ⟨_, _, _, _, e1, e2, by simp, by simp; omega, by simp; omega, ?_, ?_, fun j o hj ho => ⟨?_, ?_⟩, ?_, ?_⟩
    . simp
    . rw [show (H ++ [bx] ++ [arrV [x]]).length = H.length + 2 by simp]; simp
    . exact app_get (app_get ho _) _
    . exact app_get (app_get (app_get ho _) _) _
    . simp
    . simp
  . have la := lt_of_get hA
    have lb := lt_of_get hB
    have hA' : (H ++ [bx])[a0]? = some (arrV (out.map Prod.fst)) := app_get hA _
    have e1 := app_slc (z := z) (a := true) (al := al0) a0 out.length (out.map Prod.fst) [x] (H ++ [bx]) hA' (by simp) (by simp) (by simpa using hc)
    have hB' : ((H ++ [bx]).set a0 .dead ++ [arrV ((out.map Prod.fst).take out.length ++ [x])])[b0]? = some (arrV (out.map Prod.snd)) := by
      refine app_get ?_ _
      rw [List.getElem?_set_ne hab]; exact app_get hB _
    have e2 := app_slc (z := z) (a := true) (al := al0) b0 out.length (out.map Prod.snd) [y] _ hB' (by simp) (by simp) (by simpa using hc)
    have t1 : (out.map Prod.fst).take out.length = out.map Prod.fst := List.take_of_length_le (by simp)
    have t2 : (out.map Prod.snd).take out.length = out.map Prod.snd := List.take_of_length_le (by simp)
    rw [t1] at e1 e2
    rw [t2] at e2
    refine ⟨_, _, _, _, e1, e2, by simp, by simp; omega, by simp; omega, ?_, ?_, fun j o hj ho => ⟨?_, ?_⟩, ?_, ?_⟩
    . refine app_get ?_ _
      rw [List.getElem?_set_ne (by simp; omega)]
      simp
    . simp
    . refine app_get ?_ _
      rw [List.getElem?_set_ne (by omega)]; exact app_get ho _
    . refine app_get ?_ _
      rw [List.getElem?_set_ne (by omega)]
      refine app_get ?_ _
      rw [List.getElem?_set_ne (by omega)]; exact app_get ho _
    . refine app_get ?_ _
      rw [List.getElem?_set_ne (by omega)]; simp
    . refine app_get ?_ _
      rw [List.getElem?_set_ne (by omega)]
      refine app_get ?_ _
      rw [List.getElem?_set_ne (by omega)]; simp
theorem prv_succ (ps : List (V × V)) (i : Nat) (h : i < ps.length) : prv ps (i + 1) = some ps[i] := by
  rw [prv, if_neg (by omega), Nat.add_sub_cancel, List.getElem?_eq_getElem h]
theorem fnGo_step (ps : List (V × V)) (i : Nat) (h : i < ps.length) : fnGo (prv ps i) (ps.drop i) =
    if _hp : i = 0 then (fnGo (prv ps (i + 1)) (ps.drop (i + 1))).map ([ps[i]] ++ ·)
    else if cmpV (ps[i - 1]'(by omega)).1 ps[i].1 = 0 then (if cmpV (ps[i - 1]'(by omega)).2 ps[i].2 = 0 then fnGo (prv ps (i + 1)) (ps.drop (i + 1)) else none)
    else (fnGo (prv ps (i + 1)) (ps.drop (i + 1))).map ([ps[i]] ++ ·) := by
  rw [List.drop_eq_getElem_cons h, prv_succ ps i h]
  by_cases h0 : i = 0
  . subst h0
    rw [dif_pos rfl, show prv ps 0 = none from rfl, fnGo]
    cases fnGo (some ps[0]) (ps.drop (0 + 1)) <;> rfl
  . have e : prv ps i = some (ps[i - 1]'(by omega)) := by rw [prv, if_neg h0, List.getElem?_eq_getElem (by omega)]
    rw [dif_neg h0, e, fnGo]
    split
    . rfl
    . cases fnGo (some ps[i]) (ps.drop (i + 1)) <;> rfl
theorem parr_at (l : List (V × V)) (k : Nat) (h : k < l.length) : k * 10 ≤ (pcl l).length /\ 10 ≤ (pcl l).length - k * 10 /\ 5 ≤ (pcl l).length - k * 10 /\ k * 10 + 5 ≤ (pcl l).length /\ 5 ≤ (pcl l).length - (k * 10 + 5) /\
    ((pcl l).drop (k * 10)).take 10 = [.int .i64 l[k].1.kind, .int .i64 l[k].1.num, .str l[k].1.s, .list (avs l[k].1.keys) none, .list (avs l[k].1.items) none, .int .i64 l[k].2.kind, .int .i64 l[k].2.num, .str l[k].2.s, .list (avs l[k].2.keys) none, .list (avs l[k].2.items) none] /\ ((pcl l).drop (k * 10)).take 5 = [.int .i64 l[k].1.kind, .int .i64 l[k].1.num, .str l[k].1.s, .list (avs l[k].1.keys) none, .list (avs l[k].1.items) none] /\ ((pcl l).drop (k * 10 + 5)).take 5 = [.int .i64 l[k].2.kind, .int .i64 l[k].2.num, .str l[k].2.s, .list (avs l[k].2.keys) none, .list (avs l[k].2.items) none] := by
  have h1 := pcl_get l k h
  rw [p2_eq] at h1
  refine ⟨by rw [pcl_len]; omega, by rw [pcl_len]; omega, by rw [pcl_len]; omega, by rw [pcl_len]; omega, by rw [pcl_len]; omega, h1, ?_, ?_⟩
  . have := congrArg (List.take 5) h1
    rw [List.take_take] at this
    exact this
  . have := congrArg (List.drop 5) h1
    rw [List.drop_take, List.drop_drop] at this
    exact this
theorem c176e (H : Heap) : Call CC 176 [.list [] none, .fn (.func 177) [] []] H = some (.ok (.tup []), H) := acall_tree (n := 12) (H0 := []) rfl rfl (by kernel_rfl) H
noncomputable def fv175 : Array Field := match CC.P.underlying 175 with | some (.struct fs) => fs | _ => #[]
theorem undv175 : CC.P.underlying 175 = some (.struct fv175) := by kernel_rfl
theorem undv175X {a : Bool} {al : FuncId -> FuncId} : (CX z a al).P.underlying 175 = some (.struct fv175) := undv175
theorem fv175_all0 : fv175.toList.all (fun f => (CC.P.info? f.type).isSome) = true := by kernel_rfl
theorem fv175_all : ∀ (i : Nat) (x : i < fv175.size), (CC.P.info? fv175[i].type).isSome = true := fun i x => List.all_eq_true.1 fv175_all0 _ (by simp)
theorem fv175_allX {a : Bool} {al : FuncId -> FuncId} : ∀ (i : Nat) (x : i < fv175.size), ((CX z a al).P.info? fv175[i].type).isSome = true := fv175_all
theorem fv24_allX {a : Bool} {al : FuncId -> FuncId} : ∀ (i : Nat) (x : i < fv24.size), ((CX z a al).P.info? fv24[i].type).isSome = true := fv24_all
theorem fv175_0 : fv175[0]? = some (fld175 0) := by kernel_rfl
theorem fv175_1 : fv175[1]? = some (fld175 1) := by kernel_rfl
theorem undv24X {a : Bool} {al : FuncId -> FuncId} : (CX z a al).P.underlying 24 = some (.struct fv24) := undv24
def IPr (k m : List V) (i : Nat) (t : List AV) (H : Heap) : Prop := ∃ v, i ≤ k.length /\ H[0]? = some (.cells [.int .i64 0, .int .i64 0, .str [], .empty, .empty] 24) /\ PSt ((k.zip m).take i) v H /\ Fit [some (.list (avs k) none), some (.list (avs m) none), none, none, some (.ptr 0 0), some (.bool false), some (v), none, none, none, none, none, some (.list (avs k) none), some (.int .i64 k.length), some (.int .i64 i), none, none, none, none, none, none, none, none, none, none, none, none, none, none, none, none, none, none, none, none, none, none, none, none, none, none, none, none, none, none, none, none, none, none, none, none, none, none, none, none, none, none, none, none, none, none, none, none, none, none, none, none, none, none, none, none, none, none, none, none, none, none, none, none, none] t
def IFe (k m : List V) (T : Nat) (i : Nat) (t : List AV) (H : Heap) : Prop := i = 0 /\ H[0]? = some (.cells [.int .i64 0, .int .i64 0, .str [], .empty, .empty] 24) /\ H[T]? = some (.cells [.int .i64 5, .int .i64 0, .str [], .empty, .empty] 24) /\ Fit [some (.list (avs k) none), some (.list (avs m) none), none, none, some (.ptr 0 0), some (.bool false), some (.empty), none, none, some (.ptr T 0), none, none, none, none, none, none, none, none, none, none, none, none, none, none, none, none, none, none, none, none, none, none, some (.empty), some (.int .i64 0), some (.int .i64 0), none, none, none, none, none, none, none, none, none, none, none, none, none, none, none, none, none, none, none, none, none, none, none, none, none, none, none, none, none, none, none, none, none, none, none, none, none, none, none, none, none, none, none, none, none] t
def I2 (k m : List V) (ps : List (V × V)) (id T : Nat) (i : Nat) (t : List AV) (H : Heap) : Prop := ∃ out A1 A2, i ≤ ps.length /\ H[0]? = some (.cells [.int .i64 0, .int .i64 0, .str [], .empty, .empty] 24) /\ H[T]? = some (.cells [.int .i64 5, .int .i64 0, .str [], A1, A2] 24) /\ H[id]? = some (arrP ps) /\ NS2 T out A1 A2 H /\ fnGo none ps = (fnGo (prv ps i) (ps.drop i)).map (out ++ ·) /\ out.length ≤ i /\ Fit [some (.list (avs k) none), some (.list (avs m) none), none, none, some (.ptr 0 0), some (.bool false), some (.slc id 0 ps.length 10 true), none, none, some (.ptr T 0), none, none, none, none, none, none, none, none, none, none, none, none, none, none, none, none, none, none, none, none, none, none, some (.slc id 0 ps.length 10 true), some (.int .i64 ps.length), some (.int .i64 i), none, none, none, none, none, none, none, none, none, none, none, none, none, none, none, none, none, none, none, none, none, none, none, none, none, none, none, none, none, none, none, none, none, none, none, none, none, none, none, none, none, none, none, none, none] t
set_option maxRecDepth 100000 in
set_option maxHeartbeats 4000000 in
theorem c101 (k m : List V) (hl : k.length = m.length) (hc : cnts k + cnts m ≤ 100000000) (H : Heap) :
    Call CC 101 [.list (avs k) none, .list (avs m) none] H = some (.ok (.tup [((fnV k m).getD zeroV).av, .bool (fnV k m).isSome]), H) := by
  have q1 := len_cnts k
  have q2 := len_cnts m
  have hzl : (k.zip m).length = k.length := by rw [List.length_zip]; omega
  refine call_treeF (C' := CX false true al0) (fn := Tryz.f101) (fz := true) rfl (by kernel_rfl) rfl rfl rfl rfl (by simp) rfl rfl rfl rfl (by simp) ?_
  simp
  refine st_iter (IPr k m) k.length ?_ ?_
  . exact ⟨_, by omega, rfl, .inl ⟨rfl, rfl⟩, by simp⟩
  . rintro i t H ⟨v, hi, h0, hv, ht⟩
    obtain ⟨d, rfl⟩ := ht.elim
    clear ht
    refine ⟨hi, ?_⟩
    simp
    cases hb : decide (i < k.length)
    . have hb' : i = k.length := by simp at hb; omega
      rw [List.take_of_length_le (by omega)] at hv
      have hsl := sortBy_len cmpP (k.zip m)
      rcases hv with ⟨hz0, rfl⟩ | ⟨id, hid0, hz0, rfl, hH⟩
      . have hk0 : k = [] := List.length_eq_zero_iff.1 (by rw [<- hzl, hz0]; rfl)
        have hfn : fnV k m = some (.mk 5 0 [] [] []) := by rw [fnV, hz0]; rfl
        have b0 := lt_of_get h0
        have hn0 := app_get h0
        have hs0 := set_of h0
        simp [c176e, undv24X, fv24_allX, fv24_0]
        refine st_iter (IFe k m H.length) 0 ?_ ?_
        . exact ⟨rfl, hn0 _, by simp, by simp⟩
        . rintro i2 t H2 ⟨rfl, h20, h2T, ht⟩
          obtain ⟨d, rfl⟩ := ht.elim
          clear ht
          refine ⟨Nat.le_refl _, ?_⟩
          have hs2 := set_of h20
          simp [h20, h2T, hs2, hfn, frzL, frzC]
          rfl
      . generalize hps : sortBy cmpP (k.zip m) = ps at *
        have hcc : ∀ p ∈ k.zip m, p.1.cnt ≤ 1000000000 /\ p.2.cnt ≤ 1000000000 := fun p hp => by
          have := cnt_mem (List.of_mem_zip (a := p.1) (b := p.2) hp).1
          have := cnt_mem (List.of_mem_zip (a := p.1) (b := p.2) hp).2
          omega
        have g1 := c176 (k.zip m) id H hH (by omega) hcc
        rw [hps, hzl] at g1
        have hidl := lt_of_get hH
        have hm0 : (H.set id (arrP ps))[0]? = some (.cells [.int .i64 0, .int .i64 0, .str [], .empty, .empty] 24) := by rw [List.getElem?_set_ne (by omega)]; exact h0
        have hmi : (H.set id (arrP ps))[id]? = some (arrP ps) := set_of hH _
        simp [g1, undv24X, fv24_allX, fv24_0, hzl]
        refine st_iter (I2 k m ps id H.length) ps.length ?_ ?_
        . exact ⟨[], _, _, by omega, app_get hm0 _, by simp, app_get hmi _, .inl ⟨rfl, rfl, rfl⟩, by simp [prv], by simp, by simp [hsl, hzl]⟩
        . rintro i2 t H2 ⟨out, A1, A2, hi2, h20, h2T, h2i, hns, hgo, hol, ht⟩
          obtain ⟨d, rfl⟩ := ht.elim
          clear ht
          refine ⟨hi2, ?_⟩
          simp
          cases hb2 : decide (i2 < ps.length)
          . have hb2' : i2 = ps.length := by simp at hb2; omega
            have hs2 := set_of h20
            have hgo' : fnGo none ps = some out := by rw [hgo, hb2', List.drop_length, fnGo]; simp
            have hfn : fnV k m = some (.mk 5 0 [] (out.map Prod.fst) (out.map Prod.snd)) := by rw [fnV, hps, hgo']
            rcases hns with ⟨rfl, rfl, rfl⟩ | ⟨a, b, ha, hbT, hab, hne, rfl, rfl, hA, hB⟩
            . simp [h20, h2T, hs2, hfn, frzL, frzC]
              rfl
            . have fa : ∀ X, (H2.set 0 X)[a]? = some (arrV (out.map Prod.fst)) := fun X => by rw [List.getElem?_set_ne (by omega)]; exact hA
              have fb : ∀ X, ((H2.set 0 X).set a .dead)[b]? = some (arrV (out.map Prod.snd)) := fun X => by rw [List.getElem?_set_ne hab, List.getElem?_set_ne (by omega)]; exact hB
              have ga := group_vcells (out.map Prod.fst)
              have gb := group_vcells (out.map Prod.snd)
              have la := vcells_len (out.map Prod.fst)
              have lb := vcells_len (out.map Prod.snd)
              rw [List.length_map] at ga gb la lb
              simp [h20, h2T, hs2, hfn, frzL, frzC, fa, fb, ga, gb, la, lb]
              rfl
          . have hb2' : i2 < ps.length := by simpa using hb2
            obtain ⟨z1, z2, z3, z4, z5, z6, z7, z8⟩ := parr_at ps i2 hb2'
            have n20 := app_get h20
            have n2T := app_get h2T
            have n2i := app_get h2i
            have hTl := lt_of_get h2T
            have hstep := fnGo_step ps i2 hb2'
            have w2 := wrapI (i := i2 + 1) (by omega) (by omega)
            have hpc : ∀ p ∈ ps, p.1.cnt ≤ 1000000000 /\ p.2.cnt ≤ 1000000000 := fun p hp => hcc p ((sortBy_mem cmpP _ p).1 (by rw [hps]; exact hp))
            simp [h2i, hb2', z1, z2, z6]
            by_cases hi0 : i2 = 0
            . have hstep' : fnGo (prv ps i2) (ps.drop i2) = (fnGo (prv ps (i2 + 1)) (ps.drop (i2 + 1))).map ([ps[i2]] ++ ·) := by rw [hstep, dif_pos hi0]
              subst hi0
              obtain ⟨a, b, M1, M2, a1, a2, a3, a4, a5, a6, a7, a8, a9, a10⟩ := app2 (z := false) hns ps[0].1 ps[0].2 (.cells [.int .i64 ps[0].1.kind, .int .i64 ps[0].1.num, .str ps[0].1.s, .list (avs ps[0].1.keys) none, .list (avs ps[0].1.items) none, .int .i64 ps[0].2.kind, .int .i64 ps[0].2.num, .str ps[0].2.s, .list (avs ps[0].2.keys) none, .list (avs ps[0].2.items) none] 175) hTl (by omega)
              have k1 := a8 _ _ (by omega) h2T
              have k2 := a8 _ _ (by omega) h20
              have k3 := a8 _ _ (by omega) h2i
              have k4 := set_of k1.2
              rw [V.av_eq] at a1 a2
              have w4 : IntKind.i64.wrap 1 = 1 := rfl
              simp [-aappB, n2T, a1, a2, a9, k1.1, k1.2, k4, w4]
              refine ⟨by kernel_rfl, ?_, ?_⟩
              . rcases hns with ⟨rfl, rfl, rfl⟩ | ⟨a0, b0, ha, hbT, hab, hne, rfl, rfl, hA, hB⟩
                . refine (?_ : drawE _ [.quiet, .quiet, .quiet, .quiet, .quiet, .new, .quiet, .quiet, .quiet, .quiet, .quiet, .new, .quiet, .put H.length, .quiet, .put H.length] [none, some H.length, none, some H2.length, none, none, none, some H.length, none, some H2.length, none, none, none, none, none, none] = true)
                  kernel_rfl
                . have la := lt_of_get hA
                  have lb := lt_of_get hB
                  refine drawE_put (es := [.quiet, .quiet, .quiet, .quiet, .quiet, .put a0, .quiet, .quiet, .quiet, .quiet, .quiet, .put b0, .quiet, .put H.length, .quiet, .put H.length]) (rs := [none, some H.length, none, some H2.length, none, none, none, some H.length, none, some H2.length, none, none, none, none, none, none]) a0 (by simp; omega) ?_
                  simp only [List.map_cons, List.map_nil, dePut_q, dePut_put, dePut_ne (Ne.symm hab), dePut_ne (Nat.ne_of_lt ha)]
                  refine drawE_put (es := [.quiet, .quiet, .quiet, .quiet, .quiet, .new, .quiet, .quiet, .quiet, .quiet, .quiet, .put b0, .quiet, .put H.length, .quiet, .put H.length]) (rs := [none, some H.length, none, some H2.length, none, none, none, some H.length, none, some H2.length, none, none, none, none, none, none]) b0 (by simp; omega) ?_
                  simp only [List.map_cons, List.map_nil, dePut_q, dePut_new, dePut_put, dePut_ne (Nat.ne_of_lt hbT)]
                  kernel_rfl
              . refine ⟨out ++ [ps[0]], _, _, by omega, ?_, k4 _, ?_, .inr ⟨a, b, a4, a5, a3, by simp, by simp, by simp, ?_, ?_⟩, ?_, by simp only [List.length_append, List.length_cons, List.length_nil]; omega, by simp⟩
                . rw [List.getElem?_set_ne (by omega)]; exact k2.2
                . rw [List.getElem?_set_ne (by omega)]; exact k3.2
                . rw [List.getElem?_set_ne (by omega)]; exact a6
                . rw [List.getElem?_set_ne (by omega)]; exact a7
                . rw [hgo, hstep']
                  cases fnGo (prv ps (0 + 1)) (ps.drop (0 + 1)) <;> simp
            . have w3 : IntKind.i64.wrap ((i2 : Int) - 1) = ((i2 - 1 : Nat) : Int) := by rw [wrapI (by omega) (by omega)]; omega
              have hpos : 0 < i2 := by omega
              have hp1 : i2 - 1 < ps.length := by omega
              obtain ⟨y1, y2, y3, y4, y5, y6, y7, y8⟩ := parr_at ps (i2 - 1) (by omega)
              have g83 := fun H => c83 ps[i2 - 1].1 ps[i2].1 H (hpc _ (List.getElem_mem hp1)).1
              have h83 := fun H => c83 ps[i2 - 1].2 ps[i2].2 H (hpc _ (List.getElem_mem hp1)).2
              rw [V.av_eq, V.av_eq] at g83 h83
              simp [-aappB, hpos, hp1, w3, n2i, y1, y3, y7, g83]
              refine ⟨by kernel_rfl, ?_⟩
              cases hcm : decide (cmpV ps[i2 - 1].1 ps[i2].1 = 0)
              . have hcm' : ¬ cmpV ps[i2 - 1].1 ps[i2].1 = 0 := by simpa using hcm
                have hstep' : fnGo (prv ps i2) (ps.drop i2) = (fnGo (prv ps (i2 + 1)) (ps.drop (i2 + 1))).map ([ps[i2]] ++ ·) := by rw [hstep, dif_neg hi0, if_neg hcm']
                obtain ⟨a, b, M1, M2, a1, a2, a3, a4, a5, a6, a7, a8, a9, a10⟩ := app2 (z := false) hns ps[i2].1 ps[i2].2 (.cells [.int .i64 ps[i2].1.kind, .int .i64 ps[i2].1.num, .str ps[i2].1.s, .list (avs ps[i2].1.keys) none, .list (avs ps[i2].1.items) none, .int .i64 ps[i2].2.kind, .int .i64 ps[i2].2.num, .str ps[i2].2.s, .list (avs ps[i2].2.keys) none, .list (avs ps[i2].2.items) none] 175) hTl (by omega)
                have k1 := a8 _ _ (by omega) h2T
                have k2 := a8 _ _ (by omega) h20
                have k3 := a8 _ _ (by omega) h2i
                have k4 := set_of k1.2
                rw [V.av_eq] at a1 a2
                simp [-aappB, n2T, a1, a2, a9, k1.1, k1.2, k4, w2]
                refine ⟨?_, ?_⟩
                . rcases hns with ⟨rfl, rfl, rfl⟩ | ⟨a0, b0, ha, hbT, hab, hne, rfl, rfl, hA, hB⟩
                  . refine (?_ : drawE _ [.quiet, .quiet, .quiet, .quiet, .quiet, .new, .quiet, .quiet, .quiet, .quiet, .quiet, .new, .quiet, .put H.length, .quiet, .put H.length] [none, some H.length, none, some H2.length, none, none, none, some H.length, none, some H2.length, none, none, none, none, none, none] = true)
                    kernel_rfl
                  . have la := lt_of_get hA
                    have lb := lt_of_get hB
                    refine drawE_put (es := [.quiet, .quiet, .quiet, .quiet, .quiet, .put a0, .quiet, .quiet, .quiet, .quiet, .quiet, .put b0, .quiet, .put H.length, .quiet, .put H.length]) (rs := [none, some H.length, none, some H2.length, none, none, none, some H.length, none, some H2.length, none, none, none, none, none, none]) a0 (by simp; omega) ?_
                    simp only [List.map_cons, List.map_nil, dePut_q, dePut_put, dePut_ne (Ne.symm hab), dePut_ne (Nat.ne_of_lt ha)]
                    refine drawE_put (es := [.quiet, .quiet, .quiet, .quiet, .quiet, .new, .quiet, .quiet, .quiet, .quiet, .quiet, .put b0, .quiet, .put H.length, .quiet, .put H.length]) (rs := [none, some H.length, none, some H2.length, none, none, none, some H.length, none, some H2.length, none, none, none, none, none, none]) b0 (by simp; omega) ?_
                    simp only [List.map_cons, List.map_nil, dePut_q, dePut_new, dePut_put, dePut_ne (Nat.ne_of_lt hbT)]
                    kernel_rfl
                . refine ⟨out ++ [ps[i2]], _, _, by omega, ?_, k4 _, ?_, .inr ⟨a, b, a4, a5, a3, by simp, by simp, by simp, ?_, ?_⟩, ?_, by simp only [List.length_append, List.length_cons, List.length_nil]; omega, by simp⟩
                  . rw [List.getElem?_set_ne (by omega)]; exact k2.2
                  . rw [List.getElem?_set_ne (by omega)]; exact k3.2
                  . rw [List.getElem?_set_ne (by omega)]; exact a6
                  . rw [List.getElem?_set_ne (by omega)]; exact a7
                  . rw [hgo, hstep']
                    cases fnGo (prv ps (i2 + 1)) (ps.drop (i2 + 1)) <;> simp
              . have hcm' : cmpV ps[i2 - 1].1 ps[i2].1 = 0 := by simpa using hcm
                simp [-aappB, hp1, w3, n2i, y4, y5, y8, h83]
                refine ⟨by kernel_rfl, ?_⟩
                cases hdm : decide (cmpV ps[i2 - 1].2 ps[i2].2 = 0)
                . have hdm' : ¬ cmpV ps[i2 - 1].2 ps[i2].2 = 0 := by simpa using hdm
                  have hfn : fnV k m = none := by rw [fnV, hps, hgo, hstep, dif_neg hi0, if_pos hcm', if_neg hdm']; rfl
                  have m20 := n20 [.cells [.int .i64 ps[i2].1.kind, .int .i64 ps[i2].1.num, .str ps[i2].1.s, .list (avs ps[i2].1.keys) none, .list (avs ps[i2].1.items) none, .int .i64 ps[i2].2.kind, .int .i64 ps[i2].2.num, .str ps[i2].2.s, .list (avs ps[i2].2.keys) none, .list (avs ps[i2].2.items) none] 175]
                  generalize H2 ++ [.cells [.int .i64 ps[i2].1.kind, .int .i64 ps[i2].1.num, .str ps[i2].1.s, .list (avs ps[i2].1.keys) none, .list (avs ps[i2].1.items) none, .int .i64 ps[i2].2.kind, .int .i64 ps[i2].2.num, .str ps[i2].2.s, .list (avs ps[i2].2.keys) none, .list (avs ps[i2].2.items) none] 175] = M at *
                  have m21 := set_of m20
                  simp [undv24X, fv24_allX, m20, m21, hfn, frzL, frzC, zeroV, V.kind, V.num, V.s, V.keys, V.items]
                  rfl
                . have hdm' : cmpV ps[i2 - 1].2 ps[i2].2 = 0 := by simpa using hdm
                  simp [hdm', w2]
                  refine ⟨out, A1, A2, by omega, n20 _, n2T _, n2i _, ?_, by rw [hgo, hstep, dif_neg hi0, if_pos hcm', if_pos hdm'], by omega, by simp⟩
                  rcases hns with h | ⟨a0, b0, ha, hbT, hab, hne, e1, e2, hA, hB⟩
                  . exact .inl h
                  . exact .inr ⟨a0, b0, ha, hbT, hab, hne, e1, e2, app_get hA _, app_get hB _⟩
    . have hb' : i < k.length := by simpa using hb
      have hbm : i < m.length := by omega
      have w1 := wrapI (i := i + 1) (by omega) (by omega)
      have hzi : (k.zip m)[i]'(by omega) = (k[i], m[i]) := by simp
      have hts := take_succ (k.zip m) i (by omega)
      rw [hzi] at hts
      have hn0 := app_get h0
      obtain ⟨v', H1, a1, a2, a3⟩ := app_PS (z := false) (al := al0) (hv.app [boxV k[i]]) (k[i], m[i]) (by rw [List.length_take]; omega) (hn0 _)
      rw [p2_eq] at a1
      simp [-aappB, hb', hbm, V.av_eq, undv175X, fv175_allX, fv175_0, fv175_1, a1, w1]
      refine ⟨by kernel_rfl, ?_⟩
      exact ⟨v', by omega, a3, by rw [hts]; exact a2, by simp⟩
end Go.Tv
namespace Go.Tv
open Go.Proofs
set_option maxHeartbeats 4000000
def fofE (k m : List V) : Int := if k.length ≠ m.length then 6 else if k.length > 300 then 2 else if firstNZ [chkL k, chkL m] ≠ 0 then firstNZ [chkL k, chkL m] else match fnV k m with | none => 14 | some v => resE v 0
end Go.Tv
namespace Go.Tv
open Go.Proofs
set_option maxHeartbeats 4000000
theorem refItem_step (K : V) (ps : List (V × V)) (j : Nat) (h : j < ps.length) (cur : Option V) : refItem K (ps.drop j) cur =
    if cmpV ps[j].1 K = 0 then (match cur with | none => refItem K (ps.drop (j + 1)) (some ps[j].2) | some x => if cmpV ps[j].2 x = 0 then refItem K (ps.drop (j + 1)) (some x) else none)
    else refItem K (ps.drop (j + 1)) cur := by
  rw [List.drop_eq_getElem_cons h]
  cases cur with
  | none => rw [refItem]
  | some x => rw [refItem]
theorem refFn_step (ps : List (V × V)) (ks : List V) (i : Nat) (h : i < ks.length) : refFn ps (ks.drop i) = match refItem ks[i] ps none with
    | none => none
    | some none => refFn ps (ks.drop (i + 1))
    | some (some x) => (refFn ps (ks.drop (i + 1))).map ([x] ++ ·) := by
  rw [List.drop_eq_getElem_cons h, refFn]
  cases refItem ks[i] ps none with
  | none => rfl
  | some o => cases o with
    | none => rfl
    | some x => cases refFn ps (ks.drop (i + 1)) <;> rfl
def IO (k m : List V) (i : Nat) (t : List AV) (H : Heap) : Prop := ∃ its tok, i ≤ (srtU k).length /\ its.length = i /\ refFn (k.zip m) (srtU k) = (refFn (k.zip m) ((srtU k).drop i)).map (its ++ ·) /\ TokAt H its tok /\ H[0]? = some (.cells [.int .i64 0, .int .i64 0, .str [], .empty, .empty] 24) /\ H[1]? = some (.cells [.int .i64 5, .int .i64 0, .str [], .list (avs (srtU k)) none, LV its tok] 24) /\ Fit [some (.list (avs k) none), some (.list (avs m) none), none, none, some (.ptr 0 0), some (.bool false), some (.ptr 1 0), some (.int .i64 i), none, none, none, none, none, none, none, none, none, none, none, none, none, none, none, none, none, none, none, none, none, none, none, none, none, none, none, none, none, none, none, none, none, none, none, none, none, none, none, none, none, none, none, none, none, none, none, none, none, none, none, none, none, none, none, none] t
def IJ (k m its : List V) (i : Nat) (K : V) (j : Nat) (t : List AV) (H : Heap) : Prop := ∃ cur tok, j ≤ k.length /\ refItem K (k.zip m) none = refItem K ((k.zip m).drop j) cur /\ TokAt H (its ++ cur.toList) tok /\ H[0]? = some (.cells [.int .i64 0, .int .i64 0, .str [], .empty, .empty] 24) /\ H[1]? = some (.cells [.int .i64 5, .int .i64 0, .str [], .list (avs (srtU k)) none, LV (its ++ cur.toList) tok] 24) /\ Fit [some (.list (avs k) none), some (.list (avs m) none), none, none, some (.ptr 0 0), some (.bool false), some (.ptr 1 0), some (.int .i64 i), some (.bool cur.isSome), some (.int .i64 j), none, none, none, none, none, none, none, none, none, none, none, none, none, none, none, none, none, none, none, none, none, none, none, none, none, none, none, none, none, none, none, none, none, none, none, none, none, none, none, none, none, none, none, none, none, none, none, none, none, none, none, none, none, none] t
set_option maxRecDepth 100000 in
theorem c104 (k m : List V) (hl : k.length = m.length) (hc : cnts k + cnts m ≤ 100000000) (H : Heap) :
    Call CC 104 [.list (avs k) none, .list (avs m) none] H = some (.ok (.tup [((refFnV k m).getD zeroV).av, .bool (refFnV k m).isSome]), H) := by
  have q1 := len_cnts k
  have q2 := len_cnts m
  have q3 := len_cnts (srtU k)
  have q4 := cnts_srtU k
  have hzl : (k.zip m).length = k.length := by rw [List.length_zip]; omega
  have g1 := fun H => c103 k H (by omega)
  have g21 := fun a b (ha : a ∈ k \/ a ∈ m) H => c21 a b H (by
    rcases ha with h | h
    . have := cnt_mem h; omega
    . have := cnt_mem h; omega)
  simp only [V.av_eq] at g21
  refine cwp (fn := Tryz.f104) rfl (by kernel_rfl) rfl rfl rfl rfl (by simp) (by simp) ?_ H
  simp [g1, undv24, fv24_all, fv24_0, fv24_3]
  refine st_iter (IO k m) (srtU k).length ?_ ?_
  . exact ⟨[], 0, by omega, rfl, by simp, fun h => absurd rfl h, rfl, rfl, by simp⟩
  . rintro i t H ⟨its, tok, hi, hil, hgo, hk, h0, h1, ht⟩
    obtain ⟨d, rfl⟩ := ht.elim
    clear ht
    refine ⟨hi, ?_⟩
    simp [h1]
    cases hb : decide (i < (srtU k).length)
    . have hb' : i = (srtU k).length := by simp at hb; omega
      have hgo' : refFn (k.zip m) (srtU k) = some its := by rw [hgo, hb', List.drop_length, refFn]; simp
      have hfn : refFnV k m = some (.mk 5 0 [] (srtU k) its) := by rw [refFnV, hgo']
      have hs0 := set_of h0
      by_cases hn : its = []
      . rw [hn, lv_nil] at h1
        rw [hn] at hfn
        simp [h0, h1, hs0, hfn]
        rfl
      . rw [lv_cons hn] at h1
        simp [h0, h1, hs0, hfn]
        rfl
    . have hb' : i < (srtU k).length := by simpa using hb
      obtain ⟨K, hK⟩ : ∃ K, K = (srtU k)[i] := ⟨_, rfl⟩
      have hKm : K ∈ k := (srtU_mem k K).1 (hK ▸ List.getElem_mem hb')
      have hst := refFn_step (k.zip m) (srtU k) i hb'
      rw [<- hK] at hst
      simp
      refine st_iter (IJ k m its i K) k.length ?_ ?_
      . exact ⟨none, tok, by omega, rfl, by simpa using hk, h0, by simpa using h1, by simp⟩
      . rintro j t H ⟨cur, tok, hj, hit, hk, h0, h1, ht⟩
        obtain ⟨d, rfl⟩ := ht.elim
        clear ht
        refine ⟨hj, ?_⟩
        simp
        cases hb2 : decide (j < k.length)
        . have hb2' : j = k.length := by simp at hb2; omega
          have hit' : refItem K (k.zip m) none = some cur := by rw [hit, hb2', <- hzl, List.drop_length]; cases cur <;> rfl
          have w1 := wrapI (i := i + 1) (by omega) (by omega)
          cases cur with
          | none =>
            have := (refItem_none K (k.zip m)).1 hit'
            obtain ⟨n, hn, hn2⟩ := List.getElem_of_mem hKm
            refine absurd ?_ (this (k[n], m[n]'(by omega)) ?_)
            . exact hn2
            . have : (k.zip m)[n]'(by omega) = (k[n], m[n]'(by omega)) := by simp
              exact this ▸ List.getElem_mem _
          | some x =>
            rw [hit'] at hst
            simp [w1]
            refine ⟨its ++ [x], tok, by omega, by simp [hil], ?_, hk, h0, h1, by simp⟩
            rw [hgo, hst]
            cases refFn (k.zip m) ((srtU k).drop (i + 1)) <;> simp
        . have hb2' : j < k.length := by simpa using hb2
          have hb2m : j < m.length := by omega
          have w2 := wrapI (i := j + 1) (by omega) (by omega)
          have hst2 := refItem_step K (k.zip m) j (by omega) cur
          have hzj : (k.zip m)[j]'(by omega) = (k[j], m[j]) := by simp
          rw [hzj] at hst2
          have gK := fun H => g21 k[j] K (.inl (List.getElem_mem hb2')) H
          simp [hb2', hb', h1, <- hK, V.av_eq, gK]
          refine ⟨by kernel_rfl, ?_⟩
          cases hcm : decide (cmpV k[j] K = 0)
          . have hcm' : ¬ cmpV k[j] K = 0 := by simpa using hcm
            rw [if_neg hcm'] at hst2
            simp [w2]
            exact ⟨cur, tok, by omega, by rw [hit, hst2], hk, h0, h1, by simp⟩
          . have hcm' : cmpV k[j] K = 0 := by simpa using hcm
            rw [if_pos hcm'] at hst2
            cases cur with
            | none =>
              obtain ⟨t1, H1, a1, b1, k1⟩ := app_LVk H its [m[j]] tok (by simpa using hk) (by simp; omega)
              have hne : its ++ [m[j]] ≠ [] := by simp
              rw [avs, avs, V.av_eq, lv_cons hne] at a1
              rw [Option.toList_none, List.append_nil] at h1
              have p0 := k1.2 _ _ _ h0
              have p1 := k1.2 _ _ _ h1
              have b1s := set_of p1
              simp [-aappB, hb2m, V.av_eq, h1, a1, p1, w2]
              refine ⟨by kernel_rfl, by kernel_rfl, ?_⟩
              refine ⟨some m[j], t1, by omega, by rw [hit, hst2], ?_, ?_, ?_, by simp⟩
              . intro hh
                rw [List.getElem?_set_ne]
                . exact b1 hh
                . intro e; subst e
                  have := b1 hh; rw [p1] at this; cases this
              . rw [List.getElem?_set_ne (by decide)]; exact p0
              . rw [Option.toList_some, lv_cons hne]; exact b1s _
            | some x =>
              have gm := fun H => g21 m[j] x (.inr (List.getElem_mem hb2m)) H
              simp at h1
              rw [lv_cons (by simp)] at h1
              have hii : i < its.length + 1 := by omega
              have hgx : (its ++ [x])[i]'(by simp; omega) = x := by simp [<- hil]
              simp [hb2m, V.av_eq, h1, gm, hii, hgx]
              refine ⟨by kernel_rfl, ?_⟩
              cases hdm : decide (cmpV m[j] x = 0)
              . have hdm' : ¬ cmpV m[j] x = 0 := by simpa using hdm
                simp only [if_neg hdm'] at hst2
                rw [hit, hst2] at hst
                have hfn : refFnV k m = none := by rw [refFnV, hgo, hst]; rfl
                have hs0 := set_of h0
                simp [h0, hs0, hfn, undv24, fv24_all]
                exact ⟨rfl, rfl, rfl, rfl, rfl⟩
              . have hdm' : cmpV m[j] x = 0 := by simpa using hdm
                simp only [if_pos hdm'] at hst2
                simp [w2]
                exact ⟨some x, tok, by omega, by rw [hit, hst2], hk, h0, by rw [Option.toList_some, lv_cons (by simp)]; exact h1, by simp⟩
theorem right_self (w : V) (e : Int) (h1 : e ≠ 0 -> w = zeroV) (h2 : e = 0 -> w.small 300 8 = true) : rightB w e w e = true := by
  have z0 : cmpV w w = 0 := cmpV_eq.2 rfl
  have z1 : cmpV zeroV zeroV = 0 := cmpV_eq.2 rfl
  unfold rightB
  by_cases he : e = 0
  . rw [if_neg (by simp [he]), h2 he, z0, he]; simp
  . rw [if_pos he, h1 he, z1]; simp
theorem resE_small {v : V} (h : resE v 0 = 0) : v.small 300 8 = true := by
  unfold resE at h
  cases hs : v.small 300 8
  . rw [hs] at h; simp at h
  . rfl
end Go.Tv
