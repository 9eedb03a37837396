/-
  strings.Replacer, as this program uses it; the contracts that the evaluator takes.
-/
import Derived.Test.YtbofonlhakedpaaGreatDoorPla
import Derived.Test.YtbofonlhakedpaaGreatDoorTvd
import Derived.Shelf.SlSortCmp.NoneTotal
import Derived.Test.YtbofonlhakedpaaGreatDoorCfg
import Derived.Test.YtbofonlhakedpaaGreatDoorShelf
import Derived.Test.YtbofonlhakedpaaGreatDoorSrt
import Derived.Test.YtbofonlhakedpaaGreatDoorExa
import Derived.Test.YtbofonlhakedpaaGreatDoorProg
import Derived.Tactics
import Derived.Tactics2
import Derived.Defers
import Derived.Laws.Pointers
import Derived.Laws.LoneSync
import Derived.RegionTactic
import Derived.RegionCalls
import Derived.ChangeAlike
namespace Go.Tv
open Go.Shelf Go.RowKit Go.Sort Go.Proofs
open Go.RowKit (Below)
theorem world_grow {W w' : World} (ho : w'.os = W.os) (ht : w'.tape = W.tape) (hp : w'.output = W.output) (hs : W.heap.size ≤ w'.heap.size) (hk : ∀ b, b < W.heap.size -> w'.heap[b]? = W.heap[b]?) (hd : W.drawn ≤ w'.drawn) :
    ∃ q os, w' = grow (W.drewN q) os := by
  refine ⟨w'.drawn - W.drawn, w'.heap.extract W.heap.size w'.heap.size, ?_⟩
  have e1 : ∀ (u v : World), u.heap = v.heap -> u.tape = v.tape -> u.drawn = v.drawn -> u.os = v.os -> u.output = v.output -> u = v := by
    intro u v a b c d e; cases u; cases v; simp_all
  refine e1 _ _ ?_ ht ?_ ho hp
  . apply Array.ext_getElem?
    intro i
    simp only [grow, World.drewN]
    by_cases h : i < W.heap.size
    . rw [hk i h, Array.getElem?_append_left h]
    . rw [Array.getElem?_append_right (by omega)]
      simp only [Array.getElem?_extract]
      split
      . congr 1; omega
      . rename_i h2; rw [Array.getElem?_eq_none (by omega)]
  . simp only [grow, World.drewN]; omega
theorem group_len {ag : Bool} {n : Nat} : ∀ {k : Nat} {cs l : List AV}, group ag n k cs = some l -> l.length = k
  | 0, cs, l, h => by simp only [group] at h; injection h with h; subst h; rfl
  | k + 1, cs, l, h => by
    simp only [group] at h
    split at h
    . split at h <;> try (cases h; done)
      split at h <;> try (cases h; done)
      rename_i l' hl; injection h with h; subst h
      simp [group_len hl]
    . split at h <;> try (cases h; done)
      split at h <;> try (cases h; done)
      split at h <;> try (cases h; done)
      rename_i l' hl; injection h with h; subst h
      simp [group_len hl]
section
variable {α : Type} {P : Program} {ρ : Go.Shelf.Ren}
def El (E : Env) (ok : α -> Bool) (enc : α -> List AV) : Type := { p : α × List Value // ok p.1 = true /\ RepL E (enc p.1) p.2.toArray }
theorem rep_slot {E : Env} {cs : List AV} {vs : Array Value} (h : RepP E cs vs) {off k : Nat} {l : List AV} (hk : off + k ≤ cs.length) (hl : l = (cs.drop off).take k) : RepL E l ((vs.toList.drop off).take k).toArray := by
  have hs := h.size
  refine ⟨by subst hl; simp; omega, fun i hi => ?_⟩
  have hi' : i < k := by subst hl; simp at hi; omega
  have e1 : l.getD i .empty = cs.getD (off + i) .empty := by
    subst hl; simp only [List.getD_eq_getElem?_getD]; rw [List.getElem?_take, if_pos hi', List.getElem?_drop]
  have e2 : ((vs.toList.drop off).take k).toArray.getD i undef = vs.getD (off + i) undef := by
    simp only [Array.getD_eq_getD_getElem?, List.getElem?_toArray]; rw [List.getElem?_take, if_pos hi', List.getElem?_drop]; simp
  rw [e1, e2]; exact h.get _ (by omega)
theorem flatMap_slot {enc : α -> List AV} {k : Nat} (hk : ∀ x, (enc x).length = k) : ∀ {l : List α} {i : Nat} (hi : i < l.length), ((l.flatMap enc).drop (i * k)).take k = enc l[i]
  | a :: r, 0, hi => by simp [<- hk a]
  | a :: r, i + 1, hi => by
    have := flatMap_slot hk (l := r) (i := i) (by simpa using hi)
    simp only [List.flatMap_cons, List.getElem_cons_succ]
    rw [<- this, show (i + 1) * k = (enc a).length + i * k by rw [hk a, Nat.succ_mul]; omega, List.drop_length_add_append]
theorem flat_aggs (enc : α -> List AV) : ∀ l : List α, flat (l.map fun x => .agg (enc x)) = l.flatMap enc
  | [] => rfl
  | a :: r => by rw [List.map_cons, flat_cons, flat_aggs enc r]; rfl
structure SortOk (P : Program) (ρ : Go.Shelf.Ren) (g : FuncId) (k : Nat) (enc : α -> List AV) (c : α -> α -> Int) (ok : α -> Bool) : Prop where
  aE : ∀ w, (isAgg (ρ.t 24)).run P w = .ok true w
  zE : ∀ w, (Go.sizeOf (ρ.t 24)).run P w = .ok k w
  eg : ∀ args w, (callFunc g args).run P w = .ok (.enter g args) w
  ord : Ord3 c
  len : ∀ x, (enc x).length = k
  ones : ∀ x, (enc x).all AV.one = true
  tree : ∀ x, treeL (enc x) = true
  cmp : ∀ x y, ok x = true -> ok y = true -> ∀ (E : Env) (w : World) (vx vy : List Value), E.d -> (∀ i, E.f i = none) -> Holds E [] w -> RepL E (enc x) vx.toArray -> RepL E (enc y) vy.toArray ->
    Calls P g #[.agg vx.toArray, .agg vy.toArray] w fun e w' => e = .returned (.int .i64 (c x y)) /\ ∃ E', Ext E w E' w'
theorem swo_of {α β : Type} {c : α -> α -> Int} (hc : Ord3 c) (f : β -> α) : SWO (ltOf fun x y => c (f x) (f y)) where
  irrefl x := by have := hc.neg (f x) (f x); simp only [ltOf, decide_eq_false_iff_not]; omega
  trans x y z h1 h2 := by
    simp only [ltOf, decide_eq_true_eq] at *
    have h3 := hc.trans _ _ _ (Int.le_of_lt h1) (Int.le_of_lt h2)
    rcases Int.lt_or_eq_of_le h3 with h | h
    . exact h
    . have e := hc.eq _ _ h
      rw [e, hc.neg] at h1; omega
  ntrans x y z h1 h2 := by
    simp only [ltOf, decide_eq_false_iff_not, Int.not_lt] at *
    have a1 := hc.neg (f x) (f y); have a2 := hc.neg (f y) (f z); have a3 := hc.neg (f x) (f z)
    have := hc.trans (f z) (f y) (f x) (by omega) (by omega)
    omega
theorem putCells_take (o : Nat) (nv vs0 : Array Value) (h : o + nv.size ≤ vs0.size) : putCells id o nv vs0 = (vs0.toList.take o ++ nv.toList ++ vs0.toList.drop (o + nv.toList.length)).toArray := by
  apply Array.ext_getElem?
  intro i
  simp only [putCells, Array.getElem?_mapIdx, List.append_assoc, List.getElem?_toArray, id]
  by_cases h1 : i < o
  . rw [List.getElem?_append_left (by simp; omega), List.getElem?_take, if_pos h1]
    have hlt : i < vs0.size := by omega
    simp [hlt]; omega
  . by_cases h2 : i < o + nv.size
    . rw [List.getElem?_append_right (by simp; omega), List.getElem?_append_left (by simp; omega)]
      have hlt : i < vs0.size := by omega
      have e : i - (List.take o vs0.toList).length = i - o := by simp; omega
      rw [e, Array.getElem?_eq_getElem hlt, Option.map_some, if_pos ⟨by omega, h2⟩]
      have hlt2 : i - o < nv.size := by omega
      rw [getElem!_pos nv (i - o) hlt2]
      simp [hlt2]
    . rw [List.getElem?_append_right (by simp; omega), List.getElem?_append_right (by simp; omega), List.getElem?_drop]
      have e : o + nv.toList.length + (i - (List.take o vs0.toList).length - nv.toList.length) = i := by simp; omega
      rw [e]
      cases hx : vs0[i]? with
      | none => simpa using hx
      | some x =>
        have : vs0.toList[i]? = some x := by simpa using hx
        rw [this, Option.map_some, if_neg (by omega)]
theorem sortG_ok {g : FuncId} {k : Nat} {dec : AV -> Option α} {enc : α -> List AV} {c : α -> α -> Int} {ok : α -> Bool} (L : SlLaysF0.n6 P ρ) (S : SortOk P ρ g k enc c ok) (hdec : ∀ a x, dec a = some x -> a = .agg (enc x)) {args : List AV} {H H' : Heap} (h : sortG k g dec enc c ok args H = some H') :
    (H.length ≤ H'.length /\ ∀ id, id < H.length -> (reachL H args).contains id = false -> H'[id]? = H[id]?) /\ ∀ E w vs, RepL E args vs -> Holds E H w -> Calls P (ρ.f 6) vs w (CallPost E w (.ok (.tup [])) H') := by
  have h0 := h
  unfold sortG at h
  split at h <;> try (cases h; done)
  rename_i id off n sz ag g'
  split at h <;> try (cases h; done)
  rename_i hcond
  obtain ⟨rfl, rfl, rfl, hn62⟩ := hcond
  split at h <;> try (cases h; done)
  rename_i cs T0 hi
  split at h <;> try (cases h; done)
  rename_i hle
  split at h <;> try (cases h; done)
  rename_i els hg
  split at h <;> try (cases h; done)
  rename_i l hl
  split at h <;> try (cases h; done)
  rename_i hok
  injection h with h; subst h
  have hels := decs_inv hdec hl
  obtain ⟨q1, q2, q3⟩ := group_flat hg
  have hlen : l.length = n := by have := group_len hg; rw [hels] at this; simpa using this
  have hflat : flat els = l.flatMap enc := by rw [hels, flat_aggs]
  have hslot : ∀ i (hi : i < l.length), enc l[i] = (cs.drop (off + i * sz)).take sz := by
    intro i hil
    rw [<- flatMap_slot S.len hil, <- hflat, q3, List.drop_take, List.drop_drop, List.take_take]
    congr 1
    have : (i + 1) * sz ≤ n * sz := Nat.mul_le_mul_right sz (by omega)
    rw [Nat.add_mul, Nat.one_mul] at this
    omega
  refine ⟨sortG_frame h0, fun E w vs hr hH => ?_⟩
  have hs := hr.size
  match vs, hs with
  | ⟨[c1, c2]⟩, _ =>
  have r1 := hr.get 0 (by simp)
  have r2 := hr.get 1 (by simp)
  simp at r1 r2
  obtain ⟨b, nc, s, cap, o, hf, hcap, ho, rfl⟩ := r1.inv_slc
  obtain ⟨as1, cs', rfl, ra, rc⟩ := r2.inv_fn
  obtain rfl : as1 = #[] := Array.eq_empty_of_size_eq_zero (by simpa using ra.size.symm)
  obtain rfl : cs' = #[] := Array.eq_empty_of_size_eq_zero (by simpa using rc.size.symm)
  obtain ⟨b', nc', s', hf', hO⟩ := hH.obj _ _ hi (by simp)
  rw [hf] at hf'; injection hf' with hf'; injection hf' with e1 e2; injection e2 with e2 e3; subst e1 e2 e3
  obtain ⟨vs0, hv, hnc, hR, hS⟩ := hO
  have hRs := hR.size
  by_cases hn0 : n = 0
  . subst hn0
    obtain rfl : l = [] := List.length_eq_zero_iff.1 hlen
    have hH' : H.set id (.cells (splice cs off ((sortBy c ([] : List α)).flatMap enc)) T0) = H := by
      have : splice cs off ((sortBy c ([] : List α)).flatMap enc) = cs := by simp [splice, sortBy]
      rw [this]
      apply List.ext_getElem?
      intro j
      by_cases e : id = j
      . subst e; rw [List.getElem?_set_self (List.getElem?_eq_some_iff.1 hi).1, hi]
      . rw [List.getElem?_set_ne e]
    rw [hH']
    refine (AnyF.slices_SortFunc_none L _ cap _ w).mono ?_
    rintro e w' ⟨rfl, rfl⟩
    exact ⟨E, Ext.refl _ _, hH, rep_undef⟩
  have ho' : o = off := ho (by omega)
  subst ho'
  have hokm : ∀ x ∈ l, ok x = true := by simpa using hok
  have hmk : ∀ i : Fin n, ok (l[i.1]'(by omega)) = true /\ RepL E (enc (l[i.1]'(by omega))) ((vs0.toList.drop (o + i.1 * sz)).take sz).toArray := fun i => by
    have hil : i.1 < l.length := by omega
    refine ⟨hokm _ (List.getElem_mem hil), rep_slot hR ?_ (hslot i.1 hil)⟩
    have : (i.1 + 1) * sz ≤ n * sz := Nat.mul_le_mul_right sz i.2
    rw [Nat.add_mul, Nat.one_mul] at this
    omega
  let mk : Fin n -> El E ok enc := fun i => ⟨(l[i.1]'(by omega), (vs0.toList.drop (o + i.1 * sz)).take sz), hmk i⟩
  letI : Inhabited (El E ok enc) := ⟨mk ⟨0, by omega⟩⟩
  let d : Array (El E ok enc) := Array.ofFn mk
  have hdn : d.size = n := by simp [d]
  have hdl : d.toList.map (fun x => x.1.1) = l := by
    apply List.ext_getElem
    . simp [d, hlen]
    . intro i h1 h2
      have hin : i < n := by omega
      have e : d.toList[i]'(by simpa using h1) = mk ⟨i, hin⟩ := by rw [Array.getElem_toList]; exact Array.getElem_ofFn _
      rw [List.getElem_map, e]
  let enc' : El E ok enc -> List Value := fun x => x.1.2
  have hk' : ∀ x, (enc' x).length = sz := fun x => by have := x.2.2.size; rw [S.len] at this; simpa [enc'] using this.symm
  have h1' : ∀ x, ∀ v ∈ enc' x, v.oneCell' = true := fun x => x.2.2.ones (S.ones _)
  have hlt := (hH.dom _ _ hf).2
  have hget : ∀ t, t < n * sz -> (flatK enc' sz d)[t]! = vs0.getD (o + t) undef := fun t ht => by
    rw [get_flatK enc' sz d t (by rw [hdn]; exact ht)]
    have hsz : 0 < sz := by rcases Nat.eq_zero_or_pos sz with h | h
                            . subst h; simp at ht
                            . exact h
    have hti : t / sz < n := (Nat.div_lt_iff_lt_mul hsz).2 ht
    have htm : t % sz < sz := Nat.mod_lt _ hsz
    have ed : d[t / sz]! = mk ⟨t / sz, hti⟩ := by rw [getElem!_pos d _ (by rw [hdn]; exact hti)]; simp [d]
    rw [ed]
    have hdm := Nat.div_add_mod t sz
    rw [Nat.mul_comm] at hdm
    have hin : o + t < vs0.size := by omega
    show ((vs0.toList.drop (o + t / sz * sz)).take sz)[t % sz]! = _
    rw [getElem!_pos _ _ (by simp; omega)]
    simp only [List.getElem_take, List.getElem_drop]
    have e2 : o + t / sz * sz + t % sz = o + t := by omega
    simp only [e2]
    simp [Array.getD_eq_getD_getElem?, hin]
  have hHK : HoldsK enc' sz w b o d := by
    intro j hj
    rw [size_flatK, hdn] at hj
    have hin : o + j < vs0.size := by omega
    refine ⟨?_, ?_⟩
    . rw [cell_of hv, hget j hj]; simp [Array.getD_eq_getD_getElem?, hin]
    . simp [World.frozen?, hv]
  have hcmp : CmpLays P g' #[] enc' sz (fun x y => c x.1.1 y.1.1) b o d.size w := by
    intro m os dk hdk x y
    have hst : ∀ b' o' v, E.st b' o' = some v -> (sortWorldK enc' sz w b o m dk os).cell? ⟨b', o', none⟩ = some v := by
      intro b' o' v hv'
      have hb' : b' ≠ b := fun e => by subst e; rw [hS] at hv'; cases hv'
      have hc := hH.st _ _ _ hv'
      have hlt := w.block_lt_of_cell? _ hc
      unfold sortWorldK
      rw [cell?_grow _ _ _ (by rw [size_putRowK]; exact hlt), cell?_putRowK_other _ _ _ _ _ _ _ hb']
      exact hc
    have hH0 : Holds (⟨E.st, fun _ => none, 0, True, fun _ => none⟩ : Env) [] (sortWorldK enc' sz w b o m dk os) := ⟨hst, fun i p hp => (by cases hp), fun i o hi => (by simp at hi), fun i j p q hp => (by cases hp), rfl, fun b o hb => (by cases hb)⟩
    have hc := S.cmp x.1.1 y.1.1 x.2.1 y.2.1 ⟨E.st, fun _ => none, 0, True, fun _ => none⟩ _ _ _ trivial (fun _ => rfl) hH0 (x.2.2.treeAt _ _ (S.tree _)) (y.2.2.treeAt _ _ (S.tree _))
    rw [Array.append_empty]
    refine hc.mono ?_
    rintro e w' ⟨rfl, E', hE⟩
    exact ⟨rfl, world_grow hE.os hE.tape hE.output hE.size (fun b hb => hE.keep b hb fun i p hp => by cases hp) (hE.drawn trivial)⟩
  have key := AnyQ.slices_SortFunc L sz S.aE S.zE enc' hk' h1' (fun x y => c x.1.1 y.1.1) (swo_of S.ord fun x : El E ok enc => x.1.1) g' #[] b o cap d w S.eg hcmp hHK hlt (by rw [hdn]; exact hn62)
  rw [hdn] at key
  refine key.mono ?_
  rintro e w' ⟨rfl, d', n', os, hp, hss, rfl⟩
  obtain ⟨hp1, _, hp3⟩ := hp
  have hd'n : d'.size = n := by rw [hp1, hdn]
  have hex : ∀ a : Array (El E ok enc), a.size = n -> a.extract 0 n = a := fun a ha => by rw [<- ha]; simp
  rw [hex d' hd'n, hex d hdn] at hp3
  have hl' : d'.toList.map (fun x => x.1.1) = sortBy c l := by
    refine sortBy_uniq S.ord ?_ (by rw [<- hdl]; exact hp3.map _)
    unfold Srtd
    rw [List.pairwise_iff_getElem]
    intro i j hi hj hij
    simp only [List.length_map, Array.length_toList] at hi hj
    have := hss i j (Nat.zero_le _) hij (by omega)
    rw [getElem!_pos d' j hj, getElem!_pos d' i hi] at this
    simp only [ltOf, decide_eq_false_iff_not, Int.not_lt] at this
    have hn := S.ord.neg d'[j].1.1 d'[i].1.1
    simp only [List.getElem_map, Array.getElem_toList]
    omega
  have hll : (sortBy c l).length = n := by rw [sortBy_len, hlen]
  have hfl : ((sortBy c l).flatMap enc).length = n * sz := by
    rw [<- hll]
    generalize sortBy c l = m
    induction m with
    | nil => simp
    | cons a r ih => rw [List.flatMap_cons, List.length_append, ih, S.len, List.length_cons, Nat.succ_mul]; omega
  have hnv : RepL E ((sortBy c l).flatMap enc) (flatK enc' sz d') := by
    refine ⟨by rw [hfl, size_flatK, hd'n], fun t ht => ?_⟩
    rw [hfl] at ht
    have hsz : 0 < sz := by rcases Nat.eq_zero_or_pos sz with h | h
                            . subst h; simp at ht
                            . exact h
    have hti : t / sz < n := (Nat.div_lt_iff_lt_mul hsz).2 ht
    have htm : t % sz < sz := Nat.mod_lt _ hsz
    have hil : t / sz < (sortBy c l).length := by omega
    have hdm := Nat.div_add_mod t sz
    rw [Nat.mul_comm] at hdm
    have hlx : (sortBy c l)[t / sz] = (d'[t / sz]'(by omega)).1.1 := by
      have : (sortBy c l)[t / sz]? = (d'.toList.map (fun x => x.1.1))[t / sz]? := by rw [hl']
      rw [List.getElem?_eq_getElem hil] at this
      simp [hd'n, hti] at this
      exact this
    have hsl := flatMap_slot S.len hil
    have e1 : ((sortBy c l).flatMap enc).getD t .empty = (enc (sortBy c l)[t / sz]).getD (t % sz) .empty := by
      rw [<- hsl]
      simp only [List.getD_eq_getElem?_getD]
      rw [List.getElem?_take, if_pos htm, List.getElem?_drop, hdm]
    have e2 : (flatK enc' sz d').getD t undef = ((d'[t / sz]'(by omega)).1.2).toArray.getD (t % sz) undef := by
      have hb : t < (flatK enc' sz d').size := by rw [size_flatK, hd'n]; exact ht
      have h3 := get_flatK enc' sz d' t (by rw [hd'n]; exact ht)
      rw [getElem!_pos (flatK enc' sz d') t hb, getElem!_pos d' (t / sz) (by omega)] at h3
      have hb2 : t % sz < (enc' (d'[t / sz]'(by omega))).length := by rw [hk']; exact htm
      rw [getElem!_pos (enc' (d'[t / sz]'(by omega))) (t % sz) hb2] at h3
      have hb3 : t % sz < ((d'[t / sz]'(by omega)).1.2).length := hb2
      simp only [Array.getD_eq_getD_getElem?, List.getElem?_toArray, Array.getElem?_eq_getElem hb, List.getElem?_eq_getElem hb3, Option.getD_some]
      exact h3
    rw [e1, e2, hlx]
    exact (d'[t / sz]'(by omega)).2.2.get _ (by rw [S.len]; exact htm)
  obtain ⟨vs1, hv1, _, g1, g2⟩ := hH.put hi hf hnv (off := o) (by rw [hfl]; exact hle)
  rw [hv] at hv1; injection hv1 with hv1; injection hv1 with hv1; subst hv1
  have hnvs : (flatK enc' sz d').size = n * sz := by rw [size_flatK, hd'n]
  have hbel : Below (w.setRow b (vs0.toList.take o ++ (flatK enc' sz d').toList ++ vs0.toList.drop (o + (flatK enc' sz d').toList.length)).toArray).heap.size
      (w.setRow b (vs0.toList.take o ++ (flatK enc' sz d').toList ++ vs0.toList.drop (o + (flatK enc' sz d').toList.length)).toArray) (sortWorldK enc' sz w b o n' d' os) := by
    refine ⟨rfl, rfl, rfl, by simp [sortWorldK, putRowK], fun k hk => ?_⟩
    have hk' : k < w.heap.size := by simpa using hk
    unfold sortWorldK
    rw [heap_grow_old _ _ (by rw [size_putRowK]; exact hk')]
    by_cases e : k = b
    . subst e
      rw [setRow_heap w k vs0 _ T0 (0, 0) hv, <- putCells_take o _ _ (by rw [hnvs]; omega)]
      simp [putRowK, putRow, mapBlock, Array.getElem?_modify, hv, onCells]
    . rw [setRow_other w b k _ e]
      simp [putRowK, putRow, mapBlock, Array.getElem?_modify, Ne.symm e]
  obtain ⟨k1, k2⟩ := g2.below hbel (fun _ => Nat.le_add_right _ _)
  exact ⟨E, g1.trans k1, k2, rep_undef⟩
end
end Go.Tv
namespace Go.Tv
open Go.Proofs
open Go.RowKit (Below)
theorem rep_str_inv {E : Env} {s : List UInt8} {c : Value} (h : Rep E (.str s) c) : c = .string ⟨s.toArray⟩ := by
  obtain ⟨b, rfl, rfl⟩ := h.inv_str
  congr 1
theorem repL_one {E : Env} {a : AV} {vs : Array Value} (h : RepL E [a] vs) : ∃ c, vs = #[c] /\ Rep E a c := by
  have hs := h.size
  match vs, hs with
  | ⟨[c]⟩, _ => exact ⟨c, rfl, by simpa using h.get 0 (by simp)⟩
theorem repL_two {E : Env} {a b : AV} {vs : Array Value} (h : RepL E [a, b] vs) : ∃ c d, vs = #[c, d] /\ Rep E a c /\ Rep E b d := by
  have hs := h.size
  match vs, hs with
  | ⟨[c, d]⟩, _ => exact ⟨c, d, rfl, by simpa using h.get 0 (by simp), by simpa using h.get 1 (by simp)⟩
theorem strs_flat : ∀ {l : List AV} {x : List (List UInt8)}, strs l = some x -> l = x.map .str /\ flat l = l
  | [], x, h => by simp [strs] at h; subst h; exact ⟨rfl, rfl⟩
  | v :: r, x, h => by
    cases v <;> simp only [strs] at h <;> try (cases h; done)
    split at h <;> try (cases h; done)
    rename_i s y hy; injection h with h; subst h
    obtain ⟨h1, h2⟩ := strs_flat hy
    exact ⟨by simp [<- h1], by rw [flat_cons, h2]; rfl⟩
theorem below_refl (w : World) : Below w.heap.size w w := Below.refl _ _
theorem cc_names : ∀ (f : FuncId) (fn : Func), Tryz.prog.funcs[f]? = some fn -> (fn.name == "runtime.NumGoroutine") = false := by
  intro f fn h
  have hall : (Tryz.prog.funcs.toList.all fun fn => !(fn.name == "runtime.NumGoroutine")) = true := by kernel_rfl
  rw [List.all_eq_true] at hall
  have hm : fn ∈ Tryz.prog.funcs.toList := by
    have := (Array.getElem?_eq_some_iff.1 h)
    obtain ⟨hlt, he⟩ := this
    rw [<- he]; exact Array.getElem_mem_toList hlt
  simpa using hall fn hm
theorem contains_ok {args : List AV} {v : AV} (h : containsF args = some v) {E : Env} {w : World} {vs : Array Value} (hr : RepL E args vs) (hg : GlobOk CC E) (hst : ∀ b o v, E.st b o = some v -> w.cell? ⟨b, o, none⟩ = some v) :
    Calls CC.P 205 vs w fun e w' => ∃ c, e = .returned c /\ Below w.heap.size w w' /\ Rep E v c := by
  unfold containsF at h
  split at h <;> try (cases h; done)
  rename_i s t
  split at h <;> try (cases h; done)
  rename_i hs; injection h with h; subst h
  obtain ⟨c, d, rfl, h1, h2⟩ := repL_two hr
  have e1 := rep_str_inv h1; have e2 := rep_str_inv h2; subst e1 e2
  obtain ⟨n, hn⟩ := hg.ints 0 (by simp [CX])
  refine (Tryz.strings_Contains ⟨s.toArray⟩ ⟨t.toArray⟩ n w (by simpa [ByteArray.size] using hs) (hst _ _ _ hn)).mono ?_
  rintro e w' ⟨rfl, rfl⟩
  exact ⟨_, rfl, below_refl _, by simpa using Rep.bool (E := E) (Lib.contains s t)⟩
theorem below_grow (w : World) (k : Nat) (os : Array Obj) : Below w.heap.size w (Go.Sort.grow (w.drewN k) os) := by
  refine ⟨rfl, rfl, rfl, by simp [Go.Sort.grow, World.drewN], fun b hb => ?_⟩
  simp only [Go.Sort.grow, World.drewN]
  rw [Array.getElem?_append_left hb]
theorem itoa_ok {args : List AV} {v : AV} (h : itoaF args = some v) {E : Env} {w : World} {vs : Array Value} (hr : RepL E args vs) (hg : GlobOk CC E) (hbk : ∀ b o, E.k b = some o -> w.heap[b]? = some o) :
    Calls CC.P 143 vs w fun e w' => ∃ c, e = .returned c /\ Below w.heap.size w w' /\ Rep E v c := by
  unfold itoaF at h
  split at h <;> try (cases h; done)
  rename_i n
  split at h <;> try (cases h; done)
  rename_i hn; injection h with h; subst h
  obtain ⟨c, rfl, h1⟩ := repL_one hr
  have e1 := h1.inv_int; subst e1
  obtain ⟨o, ho, T, z, hob⟩ := hg.tab 4 _ (show tabF false 4 = some _ from rfl)
  have hw := hbk 4 o ho
  rw [hob] at hw
  have htab : Lib.TabIs Tryz.prog w "internal/strconv.uint64pow10" .u64 Lib.pow10Tab := by
    unfold Lib.TabIs World.var?
    rw [show Tryz.prog.globalNamed "internal/strconv.uint64pow10" = some 4 by kernel_rfl]
    simp only [Option.bind_some, hw]
  refine (Tryz.strconv_Itoa n hn.1 hn.2 w htab).mono ?_
  rintro e w' ⟨rfl, k, os, rfl⟩
  exact ⟨_, rfl, below_grow w k os, str_rep _⟩
theorem upper_ok {args : List AV} {v : AV} (h : upperF args = some v) {E : Env} {w : World} {vs : Array Value} (hr : RepL E args vs) :
    Calls CC.P 141 vs w fun e w' => ∃ c, e = .returned c /\ Below w.heap.size w w' /\ Rep E v c := by
  unfold upperF at h
  split at h <;> try (cases h; done)
  rename_i s
  split at h <;> try (cases h; done)
  rename_i hs; injection h with h; subst h
  simp only [Bool.and_eq_true, decide_eq_true_eq, List.all_eq_true] at hs
  obtain ⟨c, rfl, h1⟩ := repL_one hr
  have e1 := rep_str_inv h1; subst e1
  refine (Tryz.strings_ToUpper_ascii ⟨s.toArray⟩ w (by simpa [ByteArray.size] using hs.1) (fun j b hb => hs.2 b (List.mem_of_getElem? (by simpa using hb)))).mono ?_
  rintro e w' ⟨rfl, hb⟩
  exact ⟨_, rfl, hb, by simpa using str_rep (E := E) (Lib.toUpperA s)⟩
theorem join_ok {args : List AV} {v : AV} (h : joinF args = some v) {E : Env} {w : World} {vs : Array Value} (hr : RepL E args vs) (hst : ∀ b o v, E.st b o = some v -> w.cell? ⟨b, o, none⟩ = some v) :
    Calls CC.P 195 vs w fun e w' => ∃ c, e = .returned c /\ Below w.heap.size w w' /\ Rep E v c := by
  unfold joinF at h
  split at h <;> try (cases h; done)
  rename_i l t
  split at h <;> try (cases h; done)
  rename_i x hx
  split at h <;> try (cases h; done)
  rename_i hs; injection h with h; subst h
  simp only [Bool.and_eq_true, decide_eq_true_eq] at hs
  obtain ⟨c, d, rfl, h1, h2⟩ := repL_two hr
  have e2 := rep_str_inv h2; subst e2
  obtain ⟨base, cap, rfl, hL⟩ := h1.inv_list
  obtain ⟨hl, hfl⟩ := strs_flat hx
  have hlen : l.length = x.length := by rw [hl]; simp
  cases hxs : x with
  | nil =>
    subst hxs
    rw [hlen]
    refine (Tryz.strings_Join_none base cap ⟨t.toArray⟩ w).mono ?_
    rintro e w' ⟨rfl, rfl⟩
    exact ⟨_, rfl, below_refl _, by have := str_rep (E := E) []; simpa [Lib.join] using this⟩
  | cons y ys =>
    have hpos : 0 < l.length := by rw [hlen, hxs]; simp
    obtain ⟨a, v0, ea, ha, hv0, _⟩ := hL.cells 0 (by rw [hfl]; exact hpos)
    subst ea
    obtain ⟨bk, o, sp⟩ := a
    simp only at ha; subst ha
    have hxl : (x.map fun s => (⟨s.toArray⟩ : ByteArray)).length = l.length := by simp [hlen]
    have hxm : (x.map fun s => (⟨s.toArray⟩ : ByteArray)).map (·.data.toList) = x := by
      rw [List.map_map]; exact (List.map_congr_left (fun a _ => rfl)).trans (List.map_id x)
    have := Tryz.strings_Join bk o cap (x.map fun s => ⟨s.toArray⟩) ⟨t.toArray⟩ w (fun j z hz => ?_) (by have := w.block_lt_of_cell? _ (hst _ _ _ hv0); exact this) (by rw [hxl]; exact hs.2) (by rw [hxl]; exact hL.capLe)
      (by rw [hxm]; simpa using hs.1)
    . rw [hxl] at this
      refine this.mono ?_
      rintro e w' ⟨rfl, hb⟩
      refine ⟨_, rfl, hb, ?_⟩
      rw [hxm, <- hxs]
      exact str_rep _
    . simp only [List.getElem?_map, Option.map_eq_some_iff] at hz
      obtain ⟨s, hs', rfl⟩ := hz
      have hj : j < x.length := (List.getElem?_eq_some_iff.1 hs').1
      obtain ⟨a, v, ea, ha, hv, hrv⟩ := hL.cells j (by rw [hfl, hlen]; exact hj)
      injection ea with ea; subst ea
      rw [hst _ _ _ hv]
      rw [hfl, hl] at hrv
      have : (x.map AV.str).getD j .empty = .str s := by simp [List.getD_eq_getElem?_getD, hs']
      rw [this] at hrv
      rw [rep_str_inv hrv]
theorem real_al0 (g : FuncId) : realF (al0 g) = g := by
  unfold al0 realF
  by_cases h : g < 10000
  . simp [h]
  . rw [if_neg h, if_neg (Nat.not_lt.2 (Nat.le_add_left 10000 g))]; exact Nat.add_sub_cancel g 10000
theorem cz_ok {z : Bool} (hs : ∀ f h, hprF z f = some h -> (∃ (fn : Func) (c : Code), Tryz.prog.funcs[realF f]? = some fn /\ fn.body = some c) /\ ∀ args H v H', h args H = some (v, H') -> (H.length ≤ H'.length /\ ∀ id, id < H.length -> (reachL H args).contains id = false -> H'[id]? = H[id]?) /\
    ∀ E w vs, RepL E args vs -> GlobOk (CZ z) E -> Holds E H w -> Calls Tryz.prog (realF f) vs w (CallPost E w (.ok v) H')) : CfgOk (CZ z) := by
  refine ⟨cc_names, by kernel_rfl, ?_, ?_, ?_, fun g => ?_, fun f g => ?_, fun f h hf => (hs f h hf).1, fun f h hf => (hs f h hf).2⟩
  . intro f h hf args v hv E w vs hr
    have hf' : extF f = some h := hf
    unfold extF at hf'
    split at hf' <;> try (cases hf'; done)
    rename_i e; subst e; injection hf' with hf'; subst hf'
    simp only at hv
    split at hv <;> try (cases hv; done)
    rename_i a b
    injection hv with hv; subst hv
    obtain ⟨c, d, rfl, h1, h2⟩ := repL_two hr
    have e1 := rep_str_inv h1; have e2 := rep_str_inv h2; subst e1 e2
    exact ⟨_, ext_run ⟨a.toArray⟩ ⟨b.toArray⟩ w, by simpa using Rep.int (E := E) .i64 (cmpB a b)⟩
  . intro f h hf
    have hf' : prF z f = some h := hf
    unfold prF at hf'
    split at hf' <;> try (cases hf'; done)
    unfold primF at hf'
    split at hf'
    . rename_i e; subst e; exact ⟨_, _, (by kernel_rfl : Tryz.prog.funcs[205]? = some Tryz.f205), rfl⟩
    split at hf'
    . rename_i e; subst e; exact ⟨_, _, (by kernel_rfl : Tryz.prog.funcs[195]? = some Tryz.f195), rfl⟩
    split at hf'
    . rename_i e; subst e; exact ⟨_, _, (by kernel_rfl : Tryz.prog.funcs[141]? = some Tryz.f141), rfl⟩
    split at hf'
    . rename_i e; subst e; exact ⟨_, _, (by kernel_rfl : Tryz.prog.funcs[143]? = some Tryz.f143), rfl⟩
    . cases hf'
  . intro f h hf args v hv E w vs hr hg hst hbk
    have hf' : prF z f = some h := hf
    unfold prF at hf'
    split at hf' <;> try (cases hf'; done)
    rename_i hz
    obtain rfl : z = false := by simpa using hz
    have add : ∀ {f vs}, (Calls CC.P f vs w fun e w' => ∃ c, e = .returned c /\ Below w.heap.size w w' /\ Rep E v c) -> Calls CC.P f vs w fun e w' => ∃ c, e = .returned c /\ Below w.heap.size w w' /\ (CC.dr = true -> w.drawn ≤ w'.drawn) /\ Rep E v c := fun hc =>
      hc.mono fun e w' ⟨c, h1, h2, h3⟩ => ⟨c, h1, h2, (fun hd => by cases hd), h3⟩
    unfold primF at hf'
    split at hf'
    . rename_i e; subst e; injection hf' with hf'; subst hf'; exact add (contains_ok hv hr hg hst)
    split at hf'
    . rename_i e; subst e; injection hf' with hf'; subst hf'; exact add (join_ok hv hr hst)
    split at hf'
    . rename_i e; subst e; injection hf' with hf'; subst hf'; exact add (upper_ok hv hr)
    split at hf'
    . rename_i e; subst e; injection hf' with hf'; subst hf'; exact add (itoa_ok hv hr hg hbk)
    . cases hf'
  . exact real_al0 g
  . show realF (varyF f g) = g
    unfold varyF
    repeat' split
    all_goals first | exact real_al0 g | (subst_vars; rfl)
theorem zt_ok : CfgOk (CZ true) := cz_ok fun f h hf => by cases hf
theorem cmp_calls {x y : V} (hx : x.cnt ≤ 1000000000) {E : Env} {w : World} {vx vy : List Value} (hH : Holds E [] w) (rx : RepL E x.av.cells vx.toArray) (ry : RepL E y.av.cells vy.toArray) :
    Calls Tryz.prog 83 #[.agg vx.toArray, .agg vy.toArray] w fun e w' => e = .returned (.int .i64 (cmpV x y)) /\ ∃ E', Ext E w E' w' := by
  obtain ⟨n, hn⟩ := Call_ex (c83z (z := true) x y [] hx)
  have ra : ∀ {v : V} {l : List Value}, RepL E v.av.cells l.toArray -> Rep E v.av (.agg l.toArray) := fun {v l} h => by
    cases v; exact .agg _ _ h.size h.get
  refine ((acall_ok zt_ok n).run 83 _ [] _ _ hn E w #[.agg vx.toArray, .agg vy.toArray] ⟨rfl, fun i hi => ?_⟩ ⟨fun g cs hc => (by cases hc), fun g hg => (by cases hg), fun _ => rfl, fun g p hp => (by cases hp)⟩ hH).mono ?_
  . match i, hi with
    | 0, _ => exact ra rx
    | 1, _ => exact ra ry
  . rintro e w' ⟨E', h1, _, h3⟩
    cases e with
    | returned c => exact ⟨by rw [Rep.inv_int h3], E', h1⟩
    | _ => exact h3.elim
theorem ones_v (v : V) : v.av.cells.all AV.one = true := by rw [V.av_eq]; rfl
theorem cmpP_calls {x y : V × V} (hx : x.1.cnt ≤ 1000000000) (hx2 : x.2.cnt ≤ 1000000000) {E : Env} {w : World} {vx vy : List Value} (hH : Holds E [] w) (rx : RepL E (P2.cells x) vx.toArray) (ry : RepL E (P2.cells y) vy.toArray) :
    Calls Tryz.prog 177 #[.agg vx.toArray, .agg vy.toArray] w fun e w' => e = .returned (.int .i64 (cmpP x y)) /\ ∃ E', Ext E w E' w' := by
  obtain ⟨n, hn⟩ := Call_ex (c177z (z := true) x y [] hx hx2)
  refine ((acall_ok zt_ok n).run 177 _ [] _ _ hn E w #[.agg vx.toArray, .agg vy.toArray] ⟨rfl, fun i hi => ?_⟩ ⟨fun g cs hc => (by cases hc), fun g hg => (by cases hg), fun _ => rfl, fun g p hp => (by cases hp)⟩ hH).mono ?_
  . match i, hi with
    | 0, _ => exact .agg _ _ rx.size rx.get
    | 1, _ => exact .agg _ _ ry.size ry.get
  . rintro e w' ⟨E', h1, _, h3⟩
    cases e with
    | returned c => exact ⟨by rw [Rep.inv_int h3], E', h1⟩
    | _ => exact h3.elim
theorem unV_dec (a : AV) (x : V) (h : unV a = some x) : a = .agg x.av.cells := by rw [unV_inv a x h, V.av_eq]; rfl
theorem sortV_ok : SortOk Tryz.prog Tryz.sortV_ren 83 5 (fun v : V => v.av.cells) cmpV cntOk where
  aE := fun w => aggT_run (C := CC) (T := 24) ag24 w
  zE := fun w => szOf_run (C := CC) (T := 24) sz24 w
  eg := enters_of Tryz.func83 (by kernel_rfl) rfl
  ord := ord_V
  len := av_cells
  ones := ones_v
  tree v := treeL_cells (tree_av v)
  cmp x y hx _ E w vx vy _ _ hH rx ry := cmp_calls (by simpa [cntOk] using hx) hH rx ry
theorem sortP_ok : SortOk Tryz.prog Tryz.sortP_ren 177 10 P2.cells cmpP (fun p => cntOk p.1 && cntOk p.2) where
  aE := fun w => aggT_run (C := CC) (T := 175) ag175 w
  zE := fun w => szOf_run (C := CC) (T := 175) sz175 w
  eg := enters_of Tryz.func177 (by kernel_rfl) rfl
  ord := ord_P
  len p := by rw [p2_eq]; rfl
  ones p := by rw [p2_eq]; rfl
  tree p := by rw [p2_eq]; simp
  cmp x y hx _ E w vx vy _ _ hH rx ry := by
    simp only [cntOk, Bool.and_eq_true, decide_eq_true_eq] at hx
    exact cmpP_calls hx.1 hx.2 hH rx ry
end Go.Tv
namespace Go.Proofs.Tv
set_option maxRecDepth 100000
set_option maxHeartbeats 4000000
open Go.Proofs
theorem disable (w : World) : (callFunc 355 #[]).run Tryz.prog w = .ok (.value (.tuple #[])) w := run_call_mark0 Tryz.func355 (by kernel_rfl) (by kernel_rfl) (by kernel_rfl) .disable (by kernel_rfl) w
theorem enable (w : World) : (callFunc 357 #[]).run Tryz.prog w = .ok (.value (.tuple #[])) w := run_call_mark0 Tryz.func357 (by kernel_rfl) (by kernel_rfl) (by kernel_rfl) .enable (by kernel_rfl) w
theorem acquire (a : Addr) (w : World) : (callFunc 358 #[.pointer (some a)]).run Tryz.prog w = .ok (.value (.tuple #[])) w := run_call_marked Tryz.func358 (by kernel_rfl) (by kernel_rfl) (by kernel_rfl) .acquire (by kernel_rfl) a w
theorem releaseMerge (a : Addr) (w : World) : (callFunc 360 #[.pointer (some a)]).run Tryz.prog w = .ok (.value (.tuple #[])) w := run_call_marked Tryz.func360 (by kernel_rfl) (by kernel_rfl) (by kernel_rfl) .releaseMerge (by kernel_rfl) a w
theorem store_deferred (a : Addr) (x : Value) (u : FrameMode) (w : World) (hc : w.cell? a = some x) (hz : w.frozen? a = false) :
    CallsD Tryz.prog 320 #[.pointer (some a), .bool true] u w fun e u' w' => u' = u /\ (e = .returned (.tuple #[]) /\ w' = w.drew.setCell a (.int .u32 1)) := by
  have hc' : w.drew.cell? a = some x := by go_simp
  have hz' : w.drew.frozen? a = false := by go_simp
  have hst := run_call_store (P := Tryz.prog) Tryz.func345 (by kernel_rfl) (by kernel_rfl) (by kernel_rfl) (by kernel_rfl) (k := .u32) (y := 1) hc' hz'
  go_enter_d Tryz.func320, Tryz.ntmps320
  go_wp2
  go_region_calls
  all_goals (go_end0; exact ⟨rfl, rfl⟩)
theorem unlock_deferred (a : Addr) (u : FrameMode) (w : World) (hc : w.cell? a = some (.int .i32 1)) (hz : w.frozen? a = false) :
    CallsD Tryz.prog 319 #[.pointer (some a)] u w fun e u' w' => u' = u /\ (e = .returned (.tuple #[]) /\ w' = w.setCell a (.int .i32 0)) := by
  have hd := disable
  have he := enable
  have hr := releaseMerge
  have hadd := run_call_add (P := Tryz.prog) Tryz.func361 (by kernel_rfl) (by kernel_rfl) (by kernel_rfl) .i32 (by kernel_rfl) (y := -1) (s := 0) hc hz (by simp [go_sem]; rfl)
  have hcv := run_convert_to_unsafe (P := Tryz.prog) (src := 342) (dst := 275) Tryz.underlying342 Tryz.underlying275 (by kernel_rfl) hc
  go_enter_d Tryz.func319, Tryz.ntmps319
  go_wp2
  go_end0
  go_wp2
  go_end0
  exact ⟨rfl, rfl⟩
theorem lock_free (a : Addr) (w : World) (hc : w.cell? a = some (.int .i32 0)) (hz : w.frozen? a = false) :
    Calls Tryz.prog 318 #[.pointer (some a)] w fun e w' => e = .returned (.tuple #[]) /\ w' = w.setCell a (.int .i32 1) := by
  have hd := disable
  have he := enable
  have ha := acquire
  have hcas := run_call_cas_hit (P := Tryz.prog) Tryz.func356 (by kernel_rfl) (by kernel_rfl) (by kernel_rfl) .i32 (by kernel_rfl) (y := 1) hc hz
  have hc' : (w.setCell a (.int .i32 1)).cell? a = some (.int .i32 1) := World.cell?_setCell_same w a _ hc
  have hcv := run_convert_to_unsafe (P := Tryz.prog) (src := 342) (dst := 275) Tryz.underlying342 Tryz.underlying275 (by kernel_rfl) hc'
  go_enter Tryz.func318, Tryz.ntmps318
  go_wp2
  first | go_end0 | (simp only [Exit.inBlock, Exit.then]; refine bodyPost_ret (results_none rfl _ _ _) rfl ?_) | refine bodyPost_ret (results_none rfl _ _ _) rfl ?_
  go_wp2
  go_end0
  exact ⟨rfl, rfl⟩
end Go.Proofs.Tv
namespace Go.Proofs.Tv
set_option maxRecDepth 100000
set_option maxHeartbeats 4000000
theorem slow_any (b : Nat) (cl : Value) (R : World -> World -> Prop) (g : FuncId) (args : Array Value) (w : World) (hcl : cl = .func (.func g) args #[]) (eg : ∀ args w, (callFunc g args).run Tryz.prog w = .ok (.enter g args) w)
    (hrun : ∀ u : World, u = w.setCell ⟨b, 1, none⟩ (.int .i32 1) -> Calls Tryz.prog g args u fun e w' => e = .returned (.tuple #[]) /\ R u w')
    (hR : ∀ u u', u = w.setCell ⟨b, 1, none⟩ (.int .i32 1) -> R u u' -> u'.cell? ⟨b, 0, none⟩ = some (.int .u32 0) /\ u'.cell? ⟨b, 1, none⟩ = some (.int .i32 1) /\ u'.frozen? ⟨b, 0, none⟩ = false /\ u'.frozen? ⟨b, 1, none⟩ = false)
    (h0 : w.cell? ⟨b, 0, none⟩ = some (.int .u32 0)) (h1 : w.cell? ⟨b, 1, none⟩ = some (.int .i32 0))
    (_f0 : w.frozen? ⟨b, 0, none⟩ = false) (f1 : w.frozen? ⟨b, 1, none⟩ = false) :
    Calls Tryz.prog 270 #[.pointer (some ⟨b, 0, none⟩), cl] w fun e w' => e = .returned (.tuple #[]) /\
      ∃ u', R (w.setCell ⟨b, 1, none⟩ (.int .i32 1)) u' /\ w' = (u'.drew.setCell ⟨b, 0, none⟩ (.int .u32 1)).setCell ⟨b, 1, none⟩ (.int .i32 0) := by
  subst hcl
  have hl := run_call_load (P := Tryz.prog) Tryz.func317 (by kernel_rfl) (by kernel_rfl) (by kernel_rfl) .u32 (by kernel_rfl) (w := w.setCell ⟨b, 1, none⟩ (.int .i32 1)) (a := ⟨b, 0, none⟩) (x := 0) ((World.cell?_setCell_other _ ⟨b, 1, none⟩ ⟨b, 0, none⟩ _ (by simp)).trans h0)
  have hnot : ∀ (x : Bool) (w : World), (Op.unary .not (.bool x)).run Tryz.prog w = .ok (.bool (!x)) w := fun _ _ => rfl
  go_enter_defers Tryz.func270, Tryz.ntmps270
  go_wp2_with (go_at_call 318; refine (lock_free ⟨b, 1, none⟩ _ (by go_simp) (by go_simp)).mono ?_; rintro e w' ⟨rfl, rfl⟩)
  go_wp2
  refine (hrun _ rfl).mono ?_
  rintro e u' ⟨rfl, hr⟩
  obtain ⟨q0, q1, q2, q3⟩ := hR _ _ rfl hr
  rename_i hK
  refine hK _ _ ?_
  go_wp2
  refine leaves_cons (f := 320) (args := #[.pointer (some ⟨b, 0, none⟩), .bool true]) (by simp) (by simp [go_sem]) ?_
  refine (store_deferred ⟨b, 0, none⟩ (.int .u32 0) .returning _ q0 q2).mono ?_
  rintro e u'' w'' ⟨rfl, rfl, rfl⟩
  refine leaves_cons (f := 319) (args := #[.pointer (some ⟨b, 1, none⟩)]) (by simp [settle]) (by simp [go_sem]) ?_
  refine (unlock_deferred ⟨b, 1, none⟩ _ _ ?_ (by simp [q3])).mono ?_
  . refine (World.cell?_setCell_other _ ⟨b, 0, none⟩ ⟨b, 1, none⟩ _ (by simp)).trans ?_
    rw [World.cell?_drew]
    exact q1
  rintro e u'' w'' ⟨rfl, rfl, rfl⟩
  simp [Leaves, settle, results, Tryz.results270]
  exact ⟨u', hr, rfl⟩
end Go.Proofs.Tv
namespace Go.Proofs.Tv
set_option maxRecDepth 100000
set_option maxHeartbeats 400000
theorem load_bool (a : Addr) (w : World) (h0 : w.cell? a = some (.int .u32 0)) : Calls Tryz.prog 269 #[.pointer (some a)] w fun e w' => e = .returned (.bool false) /\ w' = w := by
  have hl := run_call_load (P := Tryz.prog) Tryz.func317 (by kernel_rfl) (by kernel_rfl) (by kernel_rfl) .u32 (by kernel_rfl) (w := w) (a := a) (x := 0) h0
  go_enter Tryz.func269, Tryz.ntmps269
  go_wp2
  go_ret
  exact ⟨rfl, rfl⟩
theorem do_any (b : Nat) (cl : Value) (R : World -> World -> Prop) (g : FuncId) (args : Array Value) (w : World) (hcl : cl = .func (.func g) args #[]) (eg : ∀ args w, (callFunc g args).run Tryz.prog w = .ok (.enter g args) w)
    (hrun : ∀ u : World, u = w.setCell ⟨b, 1, none⟩ (.int .i32 1) -> Calls Tryz.prog g args u fun e w' => e = .returned (.tuple #[]) /\ R u w')
    (hR : ∀ u u', u = w.setCell ⟨b, 1, none⟩ (.int .i32 1) -> R u u' -> u'.cell? ⟨b, 0, none⟩ = some (.int .u32 0) /\ u'.cell? ⟨b, 1, none⟩ = some (.int .i32 1) /\ u'.frozen? ⟨b, 0, none⟩ = false /\ u'.frozen? ⟨b, 1, none⟩ = false)
    (h0 : w.cell? ⟨b, 0, none⟩ = some (.int .u32 0)) (h1 : w.cell? ⟨b, 1, none⟩ = some (.int .i32 0))
    (f0 : w.frozen? ⟨b, 0, none⟩ = false) (f1 : w.frozen? ⟨b, 1, none⟩ = false) :
    Calls Tryz.prog 218 #[.pointer (some ⟨b, 0, none⟩), cl] w fun e w' => e = .returned (.tuple #[]) /\
      ∃ u', R (w.setCell ⟨b, 1, none⟩ (.int .i32 1)) u' /\ w' = (u'.drew.setCell ⟨b, 0, none⟩ (.int .u32 1)).setCell ⟨b, 1, none⟩ (.int .i32 0) := by
  subst hcl
  have hnot : ∀ (x : Bool) (w : World), (Op.unary .not (.bool x)).run Tryz.prog w = .ok (.bool (!x)) w := fun _ _ => rfl
  go_enter Tryz.func218, Tryz.ntmps218
  go_wp2_with (go_at_call 269; refine (load_bool ⟨b, 0, none⟩ _ h0).mono ?_; rintro e w' ⟨rfl, rfl⟩)
  go_wp2_with (go_at_call 270; refine (slow_any b _ R g args _ rfl eg hrun hR h0 h1 f0 f1).mono ?_; rintro e w' ⟨rfl, u', hr, rfl⟩)
  go_end0
  exact ⟨rfl, u', hr, rfl⟩
end Go.Proofs.Tv
namespace Go.Tv
open Go.Proofs
open Go.RowKit (Below)
set_option maxHeartbeats 4000000
def countF : List AV -> Option AV
  | [.str s, .str [c]] => some (.int .i64 (Lib.countByte s c))
  | _ => none
noncomputable def CR : Cfg := { CX true false al0 with prim := fun f => if f = 400 then some countF else none, dr := false, nilzs := fun f => f == 271 }
theorem cr_ok : CfgOk CR := by
  refine ⟨zt_ok.names, zt_ok.mixed, zt_ok.ext, ?_, ?_, zt_ok.alias, zt_ok.vary, fun f h hf => (by cases hf), fun f h hf => (by cases hf)⟩
  . intro f h hf
    have hf' : (if f = 400 then some countF else none) = some h := hf
    split at hf' <;> try (cases hf'; done)
    rename_i e; subst e; exact ⟨_, _, Tryz.func400, rfl⟩
  . intro f h hf args v hv E w vs hr hg hst hbk
    have hf' : (if f = 400 then some countF else none) = some h := hf
    split at hf' <;> try (cases hf'; done)
    rename_i e; subst e; injection hf' with hf'; subst hf'
    unfold countF at hv
    split at hv <;> try (cases hv; done)
    rename_i s c
    injection hv with hv; subst hv
    obtain ⟨x, y, rfl, h1, h2⟩ := repL_two hr
    have e1 := rep_str_inv h1; have e2 := rep_str_inv h2; subst e1 e2
    refine (Tryz.strings_Count_one ⟨s.toArray⟩ c w).mono ?_
    rintro e w' ⟨rfl, rfl⟩
    exact ⟨_, rfl, below_refl _, (fun hd => by cases hd), by simpa using Rep.int (E := E) .i64 (Lib.countByte s c)⟩
def boxO (lk : Int) (l : List AV) : AObj := .cells [.int .u32 0, .int .i32 lk, .int .u32 0, .nilIface, .list l none] 222
def olds : List AV := [.str [34], .str [92, 34], .str [92], .str [92, 92]]
def bsRow : List AV := ((List.replicate 256 AV.nilS).set 34 (.list (ofBytes [92, 34]) none)).set 92 (.list (ofBytes [92, 92]) none)
def bsObj : AObj := .cells (bsRow ++ [.list [.str [92], .str [34]] (some 4)]) 299
def builtH : Heap := [.cells [.int .u32 0, .int .i32 1, .int .u32 0, .iface 300 (.ptr 2 0), .empty] 222, .dead, bsObj, .dead, .tail 2 1]
set_option maxRecDepth 100000 in
theorem built_run : acall CR 40 219 [.ptr 0 0] [boxO 1 olds] = some (.ok (.tup []), builtH) := by kernel_rfl
end Go.Tv
namespace Go.Tv
open Go.Proofs
open Go.RowKit (Below)
set_option maxHeartbeats 4000000
theorem cr_ext : CR.ext = extF := rfl
theorem cr_makes : CR.makes = makesF := rfl
theorem cr_arr : CR.arr = false := rfl
theorem cr_alias : CR.alias = al0 := rfl
theorem cr_ers (g : FuncId) (l : List AV) : CR.ers g l = if keepF g then l else eraseL l := rfl
theorem cr_P : CR.P = Tryz.prog := rfl
theorem cr_lit : CR.lit = false := rfl
theorem cr_at {f : FuncId} (h : variesF f = false) (h2 : arrsF f = false) (h3 : (f == 271) = false) : CR.at f = CR := by
  unfold Cfg.at
  rw [show CR.arrs f = CR.arr from h2, show CR.vary f = CR.alias from vary_id h, show CR.lits f = CR.lit from rfl, show CR.nilzs f = CR.nilz from h3]
theorem rsz3 : szOf CR 3 = some 1 := by kernel_rfl
theorem rsz4 : szOf CR 4 = some 1 := by kernel_rfl
theorem rsz5 : szOf CR 5 = some 1 := by kernel_rfl
theorem rsz9 : szOf CR 9 = some 1 := by kernel_rfl
theorem rsz101 : szOf CR 101 = some 1 := by kernel_rfl
theorem rsz105 : szOf CR 105 = some 1 := by kernel_rfl
theorem rsz297 : szOf CR 297 = some 256 := by kernel_rfl
theorem rag5 : aggT CR 5 = some false := by kernel_rfl
theorem rag9 : aggT CR 9 = some false := by kernel_rfl
theorem rag101 : aggT CR 101 = some false := by kernel_rfl
theorem rag105 : aggT CR 105 = some false := by kernel_rfl
theorem rel101 : elemT CR 101 = some 5 := by kernel_rfl
theorem rel105 : elemT CR 105 = some 9 := by kernel_rfl
theorem rel297 : elemT CR 297 = none := by kernel_rfl
theorem rund297 : CR.P.underlying 297 = some (.array 256 101) := by kernel_rfl
theorem rund101 : CR.P.underlying 101 = some (.slice 5) := by kernel_rfl
theorem rund105 : CR.P.underlying 105 = some (.slice 9) := by kernel_rfl
theorem rund9 : CR.P.underlying 9 = some .string := by kernel_rfl
theorem rund5 : CR.P.underlying 5 = some (.int .u8) := by kernel_rfl
theorem rzero5 : zeroOf CR 5 = some (.int .u8 0) := by kernel_rfl
theorem rfo0 : fieldOf CR 299 0 = some (fld 299 0) := by kernel_rfl
theorem rfo1 : fieldOf CR 299 1 = some (fld 299 1) := by kernel_rfl
theorem rft0 : (fld 299 0).type = 297 := by kernel_rfl
theorem rft1 : (fld 299 1).type = 105 := by kernel_rfl
theorem rfx0 : (fld 299 0).offset = 0 := by kernel_rfl
theorem rfx1 : (fld 299 1).offset = 256 := by kernel_rfl
attribute [local simp] cr_ext cr_makes cr_arr cr_alias cr_ers cr_lit rsz3 rsz4 rsz5 rsz9 rsz101 rsz105 rsz297 rag5 rag9 rag101 rag105 rel101 rel105 rel297 rund297 rund101 rund105 rund9 rund5 rzero5 rfo0 rfo1 rft0 rft1 rfx0 rfx1
theorem makeOk5 (n : Nat) (h : n ≤ 1000000000000) : makeOk CR 5 n = true := by
  have hb : (Tryz.prog.info? 5).map (fun i => i.bytes) = some 1 := by kernel_rfl
  unfold makeOk
  rw [cr_P]
  cases hi : Tryz.prog.info? 5 with
  | none => rw [hi] at hb; cases hb
  | some i =>
    rw [hi] at hb
    simp only [Option.map_some, Option.some.injEq] at hb
    simp only [hb, decide_eq_true_eq]
    omega
def spB (c : UInt8) : Bool := decide (c = 34 \/ c = 92)
def spc (s : List UInt8) : Nat := s.countP spB
theorem quoS_lenE : ∀ s : List UInt8, (quoS s).length = s.length + spc s
  | [] => rfl
  | c :: r => by
    have := quoS_lenE r
    have e : quoS (c :: r) = (if c = 34 \/ c = 92 then [92, c] else [c]) ++ quoS r := rfl
    rw [e, List.length_append, List.length_cons, this, spc, spc, List.countP_cons]
    unfold spB
    split
    . rename_i h; simp [h]; omega
    . rename_i h; simp [h]; omega
theorem spc_count : ∀ s : List UInt8, spc s = s.count 92 + s.count 34
  | [] => rfl
  | c :: r => by
    have := spc_count r
    rw [spc] at this ⊢
    rw [List.countP_cons, List.count_cons, List.count_cons, this]
    unfold spB
    by_cases h1 : c = 34
    . subst h1; simp; omega
    . by_cases h2 : c = 92
      . subst h2; simp; omega
      . simp [h1, h2]
theorem quoS_self {s : List UInt8} (h : spc s = 0) : quoS s = s := by
  induction s with
  | nil => rfl
  | cons c r ih =>
    have e : quoS (c :: r) = (if c = 34 \/ c = 92 then [92, c] else [c]) ++ quoS r := rfl
    rw [spc, List.countP_cons] at h
    have h1 : ¬ (c = 34 \/ c = 92) := fun hc => by simp [spB, hc] at h
    have h2 : spc r = 0 := by rw [spc]; omega
    rw [e, if_neg h1, ih h2]; rfl
def repA (c : UInt8) : AV := if c = 34 then .list (ofBytes [92, 34]) none else if c = 92 then .list (ofBytes [92, 92]) none else .nilS
set_option maxRecDepth 100000 in
theorem bsRow_at (c : UInt8) : bsRow[c.toNat]? = some (repA c) := by
  have h := c.toNat_lt
  unfold bsRow repA
  rw [List.getElem?_set, List.getElem?_set]
  by_cases h1 : c = 34
  . subst h1; rfl
  . by_cases h2 : c = 92
    . subst h2; rfl
    . have n1 : ¬ 34 = c.toNat := fun e => h1 (UInt8.toNat_inj.1 e.symm)
      have n2 : ¬ 92 = c.toNat := fun e => h2 (UInt8.toNat_inj.1 e.symm)
      rw [if_neg n2, if_neg n1, if_neg h1, if_neg h2, List.getElem?_replicate, if_pos h]
def bsO : AObj := .cells (bsRow ++ [.list [.str [92], .str [34]] none]) 299
theorem bsRow_len : bsRow.length = 256 := by unfold bsRow; rw [List.length_set, List.length_set, List.length_replicate]
attribute [local irreducible] bsRow
theorem bs_drop (c : UInt8) (T : List AV) : ((bsRow ++ T).drop c.toNat).head? = some (repA c) := by
  have h := c.toNat_lt
  rw [List.head?_drop, List.getElem?_append_left (by rw [bsRow_len]; exact h)]
  exact bsRow_at c
theorem c400 (s : List UInt8) (c : UInt8) (H : Heap) : Call CR 400 [.str s, .str [c]] H = some (.ok (.int .i64 (s.count c)), H) := call_prim (g := countF) rfl rfl rfl
def IRA (s : List UInt8) (i : Nat) (t : List AV) (H : Heap) : Prop := i ≤ s.length /\ H = [bsO] /\ Fit [some (.ptr 0 0), some (.str s), none, none, some (.str []), some (.int .i64 ((s.length + spc (s.take i) : Nat) : Int)), some (.bool (decide (0 < spc (s.take i)))), none, none, none, some (.int .i64 i), none, none, none, none, none, none, none, none, none, none, none, none, none, none, none, none, none, none, none, none, none, none, none, none, none, none, none, none, none, none, none, none, none, none, none, none, none, none, none, none, none, none, none, none, none, none, none, none, none, none, none, none, none, none, none, none, none, none, none, none, none, none, none, none, none, none, none, none, none, none, none, none, none, none, none, none, none, none, none, none, none, none, none, none, none, none, none, none, none, none, none, none, none, none, none, none, none, none, none, none, none, none, none, none, none, none, none, none, none, none, none] t
def bufR (q : List UInt8) (N : Nat) : List AV := ofBytes q ++ List.replicate (N - q.length) (.int .u8 0)
theorem bufR_nil (N : Nat) : bufR [] N = List.replicate N (.int .u8 0) := rfl
theorem buf_len (q : List UInt8) (N : Nat) (h : q.length ≤ N) : (bufR q N).length = N := by simp [bufR, ofBytes]; omega
theorem buf_splice (q x : List UInt8) (N : Nat) (h : q.length + x.length ≤ N) : splice (bufR q N) q.length (ofBytes x) = bufR (q ++ x) N := by
  have hq : (ofBytes q).length = q.length := by simp [ofBytes]
  have hx : (ofBytes x).length = x.length := by simp [ofBytes]
  unfold splice bufR
  rw [List.take_append_of_le_length (by omega), List.take_of_length_le (by omega), hx, List.drop_append, List.drop_of_length_le (by omega), List.nil_append, List.drop_replicate, hq]
  rw [show ofBytes (q ++ x) = ofBytes q ++ ofBytes x from by simp [ofBytes], List.append_assoc, List.length_append]
  congr 3
  omega
theorem toBytes_of : ∀ l : List UInt8, toBytes (ofBytes l) = some l
  | [] => rfl
  | c :: r => by
    have := toBytes_of r
    show (match toBytes (ofBytes r) with | some l => some (UInt8.ofNat ((c.toNat : Int)).toNat :: l) | none => none) = _
    rw [this]; simp
theorem buf_end (q : List UInt8) (N : Nat) (h : q.length = N) : toBytes (List.take N (bufR q N)) = some q := by
  unfold bufR
  rw [List.take_append_of_le_length (by simp [ofBytes]; omega), List.take_of_length_le (by simp [ofBytes]; omega), toBytes_of]
theorem quoS_succ (s : List UInt8) (i : Nat) (h : i < s.length) : quoS (s.take (i + 1)) = quoS (s.take i) ++ if spB s[i] = true then [92, s[i]] else [s[i]] := by
  rw [List.take_succ_eq_append_getElem h]
  unfold quoS spB
  rw [List.flatMap_append]
  simp
theorem quoS_take (s : List UInt8) (i : Nat) : (quoS (s.take i)).length ≤ (quoS s).length := by
  have : quoS s = quoS (s.take i) ++ quoS (s.drop i) := by unfold quoS; rw [<- List.flatMap_append, List.take_append_drop]
  rw [this, List.length_append]; omega
theorem repA_sp {c : UInt8} (h : spB c = true) : repA c = .list (ofBytes [92, c]) none := by
  have h' : c = 34 \/ c = 92 := of_decide_eq_true h
  rcases h' with rfl | rfl <;> rfl
theorem repA_no {c : UInt8} (h : ¬ spB c = true) : repA c = .nilS := by
  have h' : ¬ (c = 34 \/ c = 92) := fun e => h (decide_eq_true e)
  unfold repA; rw [if_neg fun e => h' (.inl e), if_neg fun e => h' (.inr e)]
theorem nil_sp (c : UInt8) : nilness (.list (ofBytes [92, c]) none) = some false := rfl
theorem cp_run (q : List UInt8) (c : UInt8) (N : Nat) (h : q.length + 2 ≤ N) (o : AObj) : acopyB CR [101, 101] [.slc 1 q.length (N - q.length) 1 false, .list (ofBytes [92, c]) none] [o, .cells (bufR q N) 5] = some (.int .i64 2, [o, .cells (bufR (q ++ [92, c]) N) 5]) := by
  have k1 := buf_len q N (by omega)
  have k2 := buf_splice q [92, c] N (by simpa using h)
  have k3 : (ofBytes [92, c]).take (N - q.length) = ofBytes [92, c] := List.take_of_length_le (by simp [ofBytes]; omega)
  have k4 : min 2 (N - q.length) = 2 := by omega
  simp only [acopyB, rel101, rsz5, List.getElem?_cons_succ, List.getElem?_cons_zero]
  rw [if_pos ⟨rfl, by omega, by omega, by simp [ofBytes]⟩]
  rw [k3, k2]
  simp [ofBytes, k4]
def IRB (s : List UInt8) (N : Nat) (i : Nat) (t : List AV) (H : Heap) : Prop := i ≤ s.length /\ H = [bsO, .cells (bufR (quoS (s.take i)) N) 5] /\ Fit [some (.ptr 0 0), some (.str s), none, none, some (.str []), none, none, none, none, none, none, none, some (.slc 1 0 N 1 false), some (.int .i64 ((quoS (s.take i)).length : Nat)), some (.int .i64 i), none, none, none, none, none, none, none, none, none, none, none, none, none, none, none, none, none, none, none, none, none, none, none, none, none, none, none, none, none, none, none, none, none, none, none, none, none, none, none, none, none, none, none, none, none, none, none, none, none, none, none, none, none, none, none, none, none, none, none, none, none, none, none, none, none, none, none, none, none, none, none, none, none, none, none, none, none, none, none, none, none, none, none, none, none, none, none, none, none, none, none, none, none, none, none, none, none, none, none, none, none, none, none, none, none, none, none] t
def cnJ (c1 c2 : Nat) (j : Nat) : Nat := (if 1 ≤ j then c1 else 0) + (if 2 ≤ j then c2 else 0)
def IRC (s : List UInt8) (c1 c2 : Nat) (i : Nat) (t : List AV) (H : Heap) : Prop := i ≤ 2 /\ H = [bsO] /\ Fit [some (.ptr 0 0), some (.str s), none, none, some (.str []), some (.int .i64 ((s.length + cnJ c1 c2 i : Nat) : Int)), some (.bool (decide (0 < cnJ c1 c2 i))), none, none, none, none, none, none, none, none, none, none, none, none, none, none, none, none, none, none, none, none, none, none, none, some (.list [.str [92], .str [34]] none), some (.int .i64 2), some (.int .i64 i), none, none, none, none, none, none, none, none, none, none, none, none, none, none, none, none, none, none, none, none, none, none, none, none, none, none, none, none, none, none, none, none, none, none, none, none, none, none, none, none, none, none, none, none, none, none, none, none, none, none, none, none, none, none, none, none, none, none, none, none, none, none, none, none, none, none, none, none, none, none, none, none, none, none, none, none, none, none, none, none, none, none, none, none, none, none, none, none, none] t
theorem spc_succ (s : List UInt8) (i : Nat) (h : i < s.length) : spc (s.take (i + 1)) = spc (s.take i) + if spB s[i] then 1 else 0 := by
  rw [List.take_succ_eq_append_getElem h, spc, List.countP_append, List.countP_singleton]; rfl
theorem spc_le (s : List UInt8) : spc s ≤ s.length := List.countP_le_length
theorem bs_get (c : UInt8) (T : List AV) : (bsRow ++ T)[c.toNat]? = some (repA c) := by
  have h := c.toNat_lt
  rw [List.getElem?_append_left (by rw [bsRow_len]; exact h)]
  exact bsRow_at c
theorem c398 (s : List UInt8) (hs : s.length ≤ 1000000000) : ∃ H', Call CR 398 [.ptr 0 0, .str s] [bsO] = some (.ok (.str (quoS s)), H') := by
  have hR : reachL [bsO] [.ptr 0 0, .str s] = [0] := by kernel_rfl
  have key := call_objs (C := CR) (f := 398) (fn := Tryz.f398) (P := fun w H1 => w = .str (quoS s)) (args := [.ptr 0 0, .str s]) (H := [bsO]) rfl rfl rfl (by kernel_rfl) rfl (cr_at rfl rfl rfl) rfl rfl hR (by kernel_rfl) rfl rfl rfl rfl ?_
  . obtain ⟨w, H1, H', k1, k2, _⟩ := key
    subst k2; exact ⟨H', k1⟩
  . intro M hM hm
    have m0 : M = [bsO] := by
      match M, hM with
      | [x], _ => have := hm 0 (by simp); simpa using this
    subst m0
    have b0 : bsRow.length = 256 := bsRow_len
    obtain ⟨N, hN⟩ : ∃ N, N = s.length + spc s := ⟨_, rfl⟩
    have hsl := spc_le s
    have hmk := makeOk5 N (by omega)
    have w16 : IntKind.i64.wrap 16 = 16 := wrapI (by omega) (by omega)
    simp [bsO, b0, w16]
    cases h16 : decide ((16 : Int) ≤ (s.length : Int))
    . simp
      refine st_iter (IRA s) s.length ?_ ?_
      . simp [IRA, bsO, spc]
      . rintro i t H ⟨hi, rfl, ht⟩
        obtain ⟨d, rfl⟩ := ht.elim
        clear ht
        refine ⟨hi, ?_⟩
        simp [bsO]
        cases hb : decide (i < s.length)
        . have hb' : i = s.length := by simp at hb; omega
          simp [hb']
          have eN : (s.length : Int) + (spc s : Int) = (N : Int) := by omega
          rw [eN]
          cases h0 : decide (0 < spc s)
          . have hz : spc s = 0 := by simpa using h0
            simp [quoS_self hz]
          . simp [hmk]
            refine st_iter (IRB s N) s.length ?_ ?_
            . simp [IRB, bsO, bufR_nil, quoS]
            . rintro i2 t2 H2 ⟨hi2, rfl, ht2⟩
              obtain ⟨d2, rfl⟩ := ht2.elim
              clear ht2
              refine ⟨hi2, ?_⟩
              simp [bsO]
              cases hbb : decide (i2 < s.length)
              . have hb2 : i2 = s.length := by simp at hbb; omega
                have eq := quoS_lenE s
                have k1 := buf_len (quoS s) N (by omega)
                have k2 := buf_end (quoS s) N (by omega)
                simp [hb2, k1, k2]
              . have hb2 : i2 < s.length := by simpa using hbb
                obtain ⟨q, hq⟩ : ∃ q, q = quoS (s.take i2) := ⟨_, rfl⟩
                have e1 := quoS_succ s i2 hb2
                have e4 := quoS_take s (i2 + 1)
                have eq := quoS_lenE s
                have hlt : s[i2].toNat < 256 := s[i2].toNat_lt
                have hle : s[i2].toNat ≤ 257 := by omega
                have e3 := bs_drop s[i2] [.list [.str [92], .str [34]] none]
                have w1 := wrapI (i := i2 + 1) (by omega) (by omega)
                rw [<- hq] at e1 ⊢
                by_cases hsp : spB s[i2] = true
                . have hr : repA s[i2] = .list (ofBytes [92, s[i2]]) none := repA_sp hsp
                  rw [hr] at e3
                  rw [if_pos hsp] at e1
                  rw [e1, List.length_append, List.length_cons, List.length_cons, List.length_nil] at e4
                  have k1 := buf_len q N (by omega)
                  have k3 := cp_run q s[i2] N (by omega)
                  have w2 := wrapI (i := (q.length : Int) + 2) (by omega) (by omega)
                  have hql : q.length ≤ N := by omega
                  simp [-splice, hb2, b0, hlt, hle, e3, nil_sp, hql, k3, bnd, w1, w2]
                  refine ⟨by kernel_rfl, ?_⟩
                  simp [IRB, e1, bsO]
                  try omega
                . have hr : repA s[i2] = .nilS := repA_no hsp
                  rw [hr] at e3
                  rw [if_neg hsp] at e1
                  rw [e1, List.length_append, List.length_cons, List.length_nil] at e4
                  have k1 := buf_len q N (by omega)
                  have k3 : splice (bufR q N) q.length [.int .u8 s[i2].toNat] = bufR (q ++ [s[i2]]) N := buf_splice q [s[i2]] N (by simp; omega)
                  have w2 := wrapI (i := (q.length : Int) + 1) (by omega) (by omega)
                  have hql : q.length < N := by omega
                  have hql2 : q.length + 1 ≤ N := by omega
                  simp [-splice, hb2, b0, hlt, hle, e3, nilness, k1, hql, hql2, k3, w1, w2, IRB, e1, bsO]
                  try omega
        . have hb' : i < s.length := by simpa using hb
          have e1 := spc_succ s i hb'
          have e2 := bs_get s[i] [.list [.str [92], .str [34]] none]
          have hlt : s[i].toNat < 256 := s[i].toNat_lt
          have hle : s[i].toNat ≤ 257 := by omega
          have e3 := bs_drop s[i] [.list [.str [92], .str [34]] none]
          have w1 := wrapI (i := i + 1) (by omega) (by omega)
          have w01 : IntKind.i64.wrap 1 = 1 := wrapI (by omega) (by omega)
          have hsp := spc_le (s.take i)
          rw [List.length_take] at hsp
          have w2 := wrapI (i := (s.length : Int) + (spc (s.take i) : Int) + 1) (by omega) (by omega)
          by_cases h34 : s[i] = 34
          . have hr : repA s[i] = .list (ofBytes [92, 34]) none := by rw [h34]; rfl
            have hs1 : spB s[i] = true := by rw [h34]; rfl
            rw [hr] at e2 e3
            rw [if_pos hs1] at e1
            simp [hb', b0, hlt, hle, e3, nilness, ofBytes, w01, w2, w1, IRA, e1, bsO]
            omega
          . by_cases h92 : s[i] = 92
            . have hr : repA s[i] = .list (ofBytes [92, 92]) none := by rw [h92]; rfl
              have hs1 : spB s[i] = true := by rw [h92]; rfl
              rw [hr] at e2 e3
              rw [if_pos hs1] at e1
              simp [hb', b0, hlt, hle, e3, nilness, ofBytes, w01, w2, w1, IRA, e1, bsO]
              omega
            . have hr : repA s[i] = .nilS := by unfold repA; rw [if_neg h34, if_neg h92]
              have hs1 : spB s[i] = false := by simp [spB, h34, h92]
              rw [hr] at e2 e3
              rw [hs1] at e1
              simp [hb', b0, hlt, hle, e3, nilness, w1, IRA, e1, bsO]
              try omega
    . simp [b0]
      obtain ⟨c1, hc1⟩ : ∃ c1, c1 = s.count 92 := ⟨_, rfl⟩
      obtain ⟨c2, hc2⟩ : ∃ c2, c2 = s.count 34 := ⟨_, rfl⟩
      have q92 := List.count_le_length (l := s) (a := (92 : UInt8))
      have q34 := List.count_le_length (l := s) (a := (34 : UInt8))
      have g1 := fun H => c400 s 92 H
      have g2 := fun H => c400 s 34 H
      have esp := spc_count s
      rw [<- hc1] at q92 g1 esp
      rw [<- hc2] at q34 g2 esp
      refine st_iter (IRC s c1 c2) 2 ?_ ?_
      . simp [IRC, bsO, cnJ]
      . rintro i t H ⟨hi, rfl, ht⟩
        obtain ⟨d, rfl⟩ := ht.elim
        clear ht
        refine ⟨hi, ?_⟩
        have e92 : (List.drop 92 (bsRow ++ [AV.list [.str [92], .str [34]] none])).head? = some (.list (ofBytes [92, 92]) none) := bs_drop 92 _
        have e34 : (List.drop 34 (bsRow ++ [AV.list [.str [92], .str [34]] none])).head? = some (.list (ofBytes [92, 34]) none) := bs_drop 34 _
        have w01 : IntKind.i64.wrap 1 = 1 := wrapI (by omega) (by omega)
        have w02 : IntKind.i64.wrap 2 = 2 := wrapI (by omega) (by omega)
        have w92 := wrapI (i := (c1 : Nat)) (by omega) (by omega)
        have w34 := wrapI (i := (c2 : Nat)) (by omega) (by omega)
        have x92 := wrapI (i := (s.length : Int) + (c1 : Nat)) (by omega) (by omega)
        have x34 := wrapI (i := (s.length : Int) + (c1 : Nat) + (c2 : Nat)) (by omega) (by omega)
        simp [bsO]
        have hcase : i = 0 \/ i = 1 \/ i = 2 := by omega
        rcases hcase with rfl | rfl | rfl
        . simp [idx, g1, cnJ]
          by_cases hz : c1 = 0
          . simp [hz, w01, IRC, cnJ, bsO]
          . have hz' : 0 < c1 := by omega
            simp [hz, idx, e92, ofBytes, w01, w92, x92, b0]
            refine ⟨by kernel_rfl, ?_⟩
            simp [IRC, cnJ, bsO, hz']
        . simp [idx, g2, cnJ]
          by_cases hz : c2 = 0
          . simp [hz, w02, IRC, cnJ, bsO]
          . have hz' : 0 < c1 + c2 := by omega
            simp [hz, idx, e34, ofBytes, w01, w34, x34, w02, b0]
            refine ⟨by kernel_rfl, ?_⟩
            simp [IRC, cnJ, bsO, hz']
            try omega
        . simp [cnJ]
          have eN : (s.length : Int) + ((c1 : Nat) + (c2 : Nat) : Int) = (N : Int) := by omega
          rw [eN, <- esp]
          cases h0 : decide (0 < spc s)
          . have hz : spc s = 0 := by simpa using h0
            simp [quoS_self hz]
          . simp [hmk]
            refine st_iter (IRB s N) s.length ?_ ?_
            . simp [IRB, bsO, bufR_nil, quoS]
            . rintro i2 t2 H2 ⟨hi2, rfl, ht2⟩
              obtain ⟨d2, rfl⟩ := ht2.elim
              clear ht2
              refine ⟨hi2, ?_⟩
              simp [bsO]
              cases hbb : decide (i2 < s.length)
              . have hb2 : i2 = s.length := by simp at hbb; omega
                have eq := quoS_lenE s
                have k1 := buf_len (quoS s) N (by omega)
                have k2 := buf_end (quoS s) N (by omega)
                simp [hb2, k1, k2]
              . have hb2 : i2 < s.length := by simpa using hbb
                obtain ⟨q, hq⟩ : ∃ q, q = quoS (s.take i2) := ⟨_, rfl⟩
                have e1 := quoS_succ s i2 hb2
                have e4 := quoS_take s (i2 + 1)
                have eq := quoS_lenE s
                have hlt : s[i2].toNat < 256 := s[i2].toNat_lt
                have hle : s[i2].toNat ≤ 257 := by omega
                have e3 := bs_drop s[i2] [.list [.str [92], .str [34]] none]
                have w1 := wrapI (i := i2 + 1) (by omega) (by omega)
                rw [<- hq] at e1 ⊢
                by_cases hsp : spB s[i2] = true
                . have hr : repA s[i2] = .list (ofBytes [92, s[i2]]) none := repA_sp hsp
                  rw [hr] at e3
                  rw [if_pos hsp] at e1
                  rw [e1, List.length_append, List.length_cons, List.length_cons, List.length_nil] at e4
                  have k1 := buf_len q N (by omega)
                  have k3 := cp_run q s[i2] N (by omega)
                  have w2 := wrapI (i := (q.length : Int) + 2) (by omega) (by omega)
                  have hql : q.length ≤ N := by omega
                  simp [-splice, hb2, b0, hlt, hle, e3, nil_sp, hql, k3, bnd, w1, w2]
                  refine ⟨by kernel_rfl, ?_⟩
                  simp [IRB, e1, bsO]
                  try omega
                . have hr : repA s[i2] = .nilS := repA_no hsp
                  rw [hr] at e3
                  rw [if_neg hsp] at e1
                  rw [e1, List.length_append, List.length_cons, List.length_nil] at e4
                  have k1 := buf_len q N (by omega)
                  have k3 : splice (bufR q N) q.length [.int .u8 s[i2].toNat] = bufR (q ++ [s[i2]]) N := buf_splice q [s[i2]] N (by simp; omega)
                  have w2 := wrapI (i := (q.length : Int) + 1) (by omega) (by omega)
                  have hql : q.length < N := by omega
                  have hql2 : q.length + 1 ≤ N := by omega
                  simp [-splice, hb2, b0, hlt, hle, e3, nilness, k1, hql, hql2, k3, w1, w2, IRB, e1, bsO]
                  try omega
end Go.Tv
namespace Go.Tv
open Go.Proofs
open Go.RowKit (Below)
set_option maxHeartbeats 4000000
theorem hold_one {E : Env} {w : World} {b nc sz : Nat} {cs : List AV} {T : TypeId} (hf : E.f = fun i => if i = 0 then some (b, nc, sz) else none) (hn : E.n = 1)
    (hst : ∀ b' o v, E.st b' o = some v -> w.cell? ⟨b', o, none⟩ = some v) (hO : ObjRel E w b nc sz (.cells cs T)) (hk : ∀ b' o, E.k b' = some o -> w.heap[b']? = some o /\ b ≠ b') : Holds E [.cells cs T] w := by
  have hb : b < w.heap.size := by
    obtain ⟨vs, h1, _⟩ := hO
    exact (Array.getElem?_eq_some_iff.1 h1).1
  have hfi : ∀ i p, E.f i = some p -> i = 0 /\ p = (b, nc, sz) := by
    intro i p hp
    rw [hf] at hp
    simp only at hp
    split at hp
    . rename_i e; injection hp with hp; exact ⟨e, hp.symm⟩
    . cases hp
  refine ⟨hst, fun i p hp => ?_, fun i o hi hd => ?_, fun i j p q hp hq e => .inl ?_, by simpa using hn, fun b' o hb' => ⟨(hk b' o hb').1, fun i p hp => ?_⟩⟩
  . obtain ⟨rfl, rfl⟩ := hfi i p hp; exact ⟨by simp, hb⟩
  . match i, hi with
    | 0, hi =>
      simp at hi; subst hi
      exact ⟨b, nc, sz, by rw [hf]; rfl, hO⟩
    | i + 1, hi => simp at hi
  . exact (hfi i p hp).1.trans (hfi j q hq).1.symm
  . obtain ⟨rfl, rfl⟩ := hfi i p hp; exact (hk b' o hb').2
theorem setCell_heap {w : World} {b : Nat} {vs : Array Value} {T : TypeId} {z : Nat × Nat} (h : w.heap[b]? = some (.cells vs T z)) (o : Nat) (v : Value) : (w.setCell ⟨b, o, none⟩ v).heap[b]? = some (.cells (vs.setIfInBounds o v) T z) := by
  have hlt := (Array.getElem?_eq_some_iff.1 h).1
  simp [World.setCell, Array.getElem?_modify, h]
theorem tree_mem : ∀ {cs : List AV} {x : AV}, treeL cs = true -> x ∈ cs -> x.tree = true
  | a :: r, x, h, hx => by
    simp only [treeL, Bool.and_eq_true] at h
    rcases List.mem_cons.1 hx with rfl | e
    . exact h.1
    . exact tree_mem h.2 e
theorem lone_rep {E : Env} {f : Nat -> Option (Nat × Nat × Nat)} {n : Nat} {d : Prop} {k : Nat -> Option Obj} {cs : List AV} {vs : Array Value} (h : RepP E cs vs) (ht : treeL cs = true) : RepP ⟨E.st, f, n, d, k⟩ cs vs :=
  ⟨h.size, fun i hi => (h.get i hi).treeAt f n (tree_mem ht (by rw [List.getD_eq_getElem?_getD, List.getElem?_eq_getElem hi]; exact List.getElem_mem hi))⟩
def Env.lone (E : Env) (p : Nat × Nat × Nat) : Env := ⟨E.st, fun i => if i = 0 then some p else none, 1, False, E.k⟩
theorem glob_cr {E : Env} (hd : ¬ E.d) : GlobOk CR E := ⟨fun g cs hc => (by cases hc), fun g hg => (by cases hg), fun h => (hd h).elim, fun g p hp => (by cases hp)⟩
set_option maxRecDepth 100000 in
theorem meth_run (a : Addr) (w : World) : (method 482 300 (.pointer (some a)) "Replace").run Tryz.prog w = .ok (398, .pointer (some a)) w := by
  kernel_rfl
theorem replace_run (b : Nat) (s : ByteArray) (w : World) (R : Ending -> World -> Prop)
    (hdo : Calls Tryz.prog 218 #[.pointer (some ⟨b, 0, none⟩), .func (.func 219) #[.pointer (some ⟨b, 0, none⟩)] #[]] w fun e w' => e = .returned (.tuple #[]) /\
      (∃ b2, w'.cell? ⟨b, 3, none⟩ = some (.iface 300 (.pointer (some ⟨b2, 0, none⟩))) /\ Calls Tryz.prog 398 #[.pointer (some ⟨b2, 0, none⟩), .string s] w' fun e w'' => (∃ c, e = .returned (.string c)) /\ R e w'')) :
    Calls Tryz.prog 145 #[.pointer (some ⟨b, 0, none⟩), .string s] w R := by
  go_enter Tryz.func145, Tryz.ntmps145
  have hm : ∀ (b2 : Nat) (w : World), (method 482 300 (.pointer (some ⟨b2, 0, none⟩)) "Replace").run Tryz.prog w = .ok (398, .pointer (some ⟨b2, 0, none⟩)) w := fun _ w => meth_run _ w
  go_wp2_with (go_at_call 218; refine hdo.mono ?_; rintro e w' ⟨rfl, b2, hc, hr⟩)
  refine hr.mono ?_
  rintro e w'' ⟨⟨c, rfl⟩, hR⟩
  rename_i hK
  refine hK _ _ ?_
  go_wp2
  exact hR
theorem frozen_no {w : World} {b o : Nat} {vs : Array Value} {T : TypeId} (h : w.heap[b]? = some (.cells vs T (0, 0))) : w.frozen? ⟨b, o, none⟩ = false := by
  simp [World.frozen?, h]
theorem Rep.inv_tup0 {E : Env} {c : Value} (h : Rep E (.tup []) c) : c = .tuple #[] := by
  cases h with
  | tup cs vs hn hr => exact congrArg Value.tuple (Array.eq_empty_of_size_eq_zero (by simpa using hn.symm))
theorem acall_run {f : FuncId} {n : Nat} {args : List AV} {H H' : Heap} {r : ARet} (hr : CR.real f = f) (h : acall CR n f args H = some (r, H')) {E : Env} {w : World} {vs : Array Value} (hd : ¬ E.d) (ra : RepL E args vs) (hH : Holds E H w) :
    Calls Tryz.prog f vs w (CallPost E w r H') := by
  have := (acall_ok cr_ok n).run f args H r H' h E w vs ra (glob_cr hd) hH
  rw [hr] at this; exact this
theorem repl_ok {args : List AV} {v : AV} {H H' : Heap} (h : replF args H = some (v, H')) : (H.length ≤ H'.length /\ ∀ id, id < H.length -> (reachL H args).contains id = false -> H'[id]? = H[id]?) /\
    ∀ E w vs, RepL E args vs -> GlobOk CC E -> Holds E H w -> Calls Tryz.prog 145 vs w (CallPost E w (.ok v) H') := by
  refine ⟨replF_frame h, fun E w vs hr hg hH => ?_⟩
  have hEd : ¬ E.d := fun hd => by cases hg.d hd
  unfold replF at h
  split at h <;> try (cases h; done)
  rename_i id s
  split at h <;> try (cases h; done)
  rename_i l tok hi
  split at h <;> try (cases h; done)
  rename_i hst0
  split at h <;> try (cases h; done)
  rename_i hsl
  injection h with h; injection h with e1 e2; subst e1 e2
  obtain ⟨hl, _⟩ := strs_flat hst0
  have hlo : l = olds := hl
  subst hlo
  obtain ⟨x, y, rfl, h1, h2⟩ := repL_two hr
  have e2 := rep_str_inv h2; subst e2
  obtain ⟨b, nc, sz, hf, rfl⟩ := h1.inv_ptr
  obtain ⟨b', nc', sz', hf', hO⟩ := hH.obj _ _ hi (by simp)
  rw [hf] at hf'; injection hf' with hf'; injection hf' with q1 q2; injection q2 with q2 q3; subst q1 q2 q3
  obtain ⟨vs0, hv0, hn0, hR0, hS0⟩ := hO
  have hbw := (hH.dom _ _ hf).2
  have hR1 : RepP E [.int .u32 0, .int .i32 0, .int .u32 0, .nilIface, .list olds none] vs0 := by
    refine ⟨hR0.size, fun i hi' => ?_⟩
    match i, hi' with
    | 0, _ => exact hR0.get 0 (by simp)
    | 1, _ => exact hR0.get 1 (by simp)
    | 2, _ => exact hR0.get 2 (by simp)
    | 3, _ => exact hR0.get 3 (by simp)
    | 4, _ =>
      have := (hR0.get 4 (by simp)).erase
      simpa [AV.erase, olds, eraseL] using this
  have g0 := (hR0.get 0 (by simp)).inv_int
  have g1 := (hR0.get 1 (by simp)).inv_int
  have hvs : 5 ≤ vs0.size := by simpa using hR0.size
  have c0 : w.cell? ⟨b, 0, none⟩ = some (.int .u32 0) := by
    rw [cell_of hv0, <- g0, Array.getD_eq_getD_getElem?, Array.getElem?_eq_getElem (by omega)]; rfl
  have c1 : w.cell? ⟨b, 1, none⟩ = some (.int .i32 0) := by
    rw [cell_of hv0, <- g1, Array.getD_eq_getD_getElem?, Array.getElem?_eq_getElem (by omega)]; rfl
  obtain ⟨u, hu⟩ : ∃ u, u = w.setCell ⟨b, 1, none⟩ (.int .i32 1) := ⟨_, rfl⟩
  have hub : u.heap[b]? = some (.cells (vs0.setIfInBounds 1 (.int .i32 1)) 222 (0, 0)) := by rw [hu]; exact setCell_heap hv0 1 _
  have huo : ∀ k, k ≠ b -> u.heap[k]? = w.heap[k]? := fun k hk => by rw [hu]; exact Below.heap_setCell w _ _ k hk
  have hus : u.heap.size = w.heap.size := by rw [hu]; simp
  have hstu : ∀ b' o v, E.st b' o = some v -> u.cell? ⟨b', o, none⟩ = some v := by
    intro b' o v hv
    have hne : b' ≠ b := fun e => by subst e; rw [hS0] at hv; cases hv
    have := hH.st _ _ _ hv
    simp only [World.cell?] at this ⊢
    rw [huo b' hne]; exact this
  have hU : Holds (E.lone (b, nc, sz)) [boxO 1 olds] u := by
    refine hold_one rfl rfl hstu ⟨_, hub, by simpa using hn0, lone_rep (E := E) ?_ rfl, hS0⟩ fun b' o hb' => ?_
    . refine ⟨by simpa using hvs, fun i hi' => ?_⟩
      match i, hi' with
      | 0, _ => have := hR1.get 0 (by simp); simpa [Array.getD_eq_getD_getElem?, Array.getElem?_setIfInBounds] using this
      | 1, _ =>
        have : (vs0.setIfInBounds 1 (.int .i32 1)).getD 1 undef = .int .i32 1 := by rw [Array.getD_eq_getD_getElem?, Array.getElem?_setIfInBounds, if_pos rfl, if_pos (by omega)]; rfl
        rw [this]; exact .int _ _
      | 2, _ => have := hR1.get 2 (by simp); simpa [Array.getD_eq_getD_getElem?, Array.getElem?_setIfInBounds] using this
      | 3, _ => have := hR1.get 3 (by simp); simpa [Array.getD_eq_getD_getElem?, Array.getElem?_setIfInBounds] using this
      | 4, _ => have := hR1.get 4 (by simp); simpa [Array.getD_eq_getD_getElem?, Array.getElem?_setIfInBounds] using this
    . obtain ⟨k1, k2⟩ := hH.blk b' o hb'
      have hne : b ≠ b' := k2 _ _ hf
      exact ⟨(huo b' (Ne.symm hne)).trans k1, hne⟩
  have hd0 : ¬ (E.lone (b, nc, sz)).d := fun h => h
  refine replace_run b ⟨s.toArray⟩ w _ ((Go.Proofs.Tv.do_any b _ (fun u u' => ∃ E2, Ext (E.lone (b, nc, sz)) u E2 u' /\ Holds E2 builtH u') 219 #[.pointer (some ⟨b, 0, none⟩)] w rfl (enters_of Tryz.func219 (by kernel_rfl) rfl) ?_ ?_ c0 c1 (frozen_no hv0) (frozen_no hv0)).mono ?_)
  . intro u1 hu1
    rw [<- hu] at hu1; subst hu1
    refine (acall_run rfl built_run hd0 ⟨rfl, fun i hi' => ?_⟩ hU).mono ?_
    . match i, hi' with
      | 0, _ => exact .ptr 0 0 b nc sz rfl
    . rintro e w' ⟨E2, x1, x2, x3⟩
      cases e with
      | returned c => exact ⟨congrArg Ending.returned x3.inv_tup0, E2, x1, x2⟩
      | _ => exact x3.elim
  . intro u1 u' hu1 ⟨E2, x1, x2⟩
    have hf2 := x1.le.f 0 (b, nc, sz) rfl
    obtain ⟨b', nc', sz', hf', vs1, hv1, hn1, hR2, _⟩ := x2.obj 0 _ rfl (by simp)
    rw [hf2] at hf'; injection hf' with hf'; injection hf' with q1 q2; injection q2 with q2 q3; subst q1 q2 q3
    have g0 := (hR2.get 0 (by simp)).inv_int
    have g1 := (hR2.get 1 (by simp)).inv_int
    have hvs1 : 5 ≤ vs1.size := by simpa using hR2.size
    refine ⟨?_, ?_, frozen_no hv1, frozen_no hv1⟩
    . rw [cell_of hv1, <- g0, Array.getD_eq_getD_getElem?, Array.getElem?_eq_getElem (by omega)]; rfl
    . rw [cell_of hv1, <- g1, Array.getD_eq_getD_getElem?, Array.getElem?_eq_getElem (by omega)]; rfl
  rintro e w2 ⟨rfl, u', ⟨E2, x1, x2⟩, rfl⟩
  rw [<- hu] at x1
  refine ⟨rfl, ?_⟩
  have hf0 := x1.le.f 0 (b, nc, sz) rfl
  obtain ⟨b', nc', sz', hf', vs1, hv1, hn1, hR2, hS1⟩ := x2.obj 0 _ rfl (by simp)
  rw [hf0] at hf'; injection hf' with hf'; injection hf' with q1 q2; injection q2 with q2 q3; subst q1 q2 q3
  obtain ⟨b2, nc2, sz2, hf2, vs2, hv2, hn2, hR3, hS2⟩ := x2.obj 2 _ rfl (by simp [bsObj])
  have hvs1 : 5 ≤ vs1.size := by simpa using hR2.size
  have hne : b2 ≠ b := fun e => by
    rcases x2.inj 2 0 _ _ hf2 hf0 e with hh | hh | hh
    . cases hh
    . simp [builtH, bsObj] at hh
    . simp [builtH] at hh
  have g3 : vs1[3]? = some (.iface 300 (.pointer (some ⟨b2, 0, none⟩))) := by
    have h3 := hR2.get 3 (by simp)
    rw [Array.getD_eq_getD_getElem?, Array.getElem?_eq_getElem (by omega)] at h3
    obtain ⟨c, hc, hrc⟩ := Rep.inv_iface (show Rep E2 (.iface 300 (.ptr 2 0)) vs1[3] from h3)
    obtain ⟨b3, nc3, sz3, hf3, rfl⟩ := hrc.inv_ptr
    rw [hf2] at hf3; injection hf3 with hf3; injection hf3 with q1 _; subst q1
    rw [Array.getElem?_eq_getElem (by omega), hc]
  obtain ⟨w2, hw2⟩ : ∃ w2, w2 = (u'.drew.setCell ⟨b, 0, none⟩ (.int .u32 1)).setCell ⟨b, 1, none⟩ (.int .i32 0) := ⟨_, rfl⟩
  rw [<- hw2]
  have hw2b : w2.heap[b]? = some (.cells ((vs1.setIfInBounds 0 (.int .u32 1)).setIfInBounds 1 (.int .i32 0)) 222 (0, 0)) := by
    rw [hw2]; exact setCell_heap (setCell_heap (w := u'.drew) hv1 0 _) 1 _
  have hw2o : ∀ k, k ≠ b -> w2.heap[k]? = u'.heap[k]? := fun k hk => by
    rw [hw2, Below.heap_setCell _ _ _ k hk, Below.heap_setCell _ _ _ k hk]; rfl
  have hw2s : w2.heap.size = u'.heap.size := by rw [hw2]; simp
  have hus' := x1.size
  have hb2 : w.heap.size ≤ b2 := by
    rcases x1.newf 2 _ hf2 with hh | ⟨_, hh | ⟨j, q, hh, hq⟩⟩
    . cases hh
    . rw [hus] at hh; exact hh
    . simp only [Env.lone] at hh
      split at hh
      . injection hh with hh; subst hh; exact absurd hq.symm hne
      . cases hh
  have hV : Holds (E2.lone (b2, nc2, sz2)) [bsO] w2 := by
    refine hold_one rfl rfl (fun b' o v hv => ?_) ⟨vs2, (hw2o b2 hne).trans hv2, hn2, lone_rep (E := E2) ?_ (by kernel_rfl), hS2⟩ fun b' o hb' => ?_
    . have hne' : b' ≠ b := fun e => by subst e; have h9 : E2.st b' o = some v := hv; rw [hS1 o] at h9; cases h9
      have := x2.st _ _ _ hv
      simp only [World.cell?] at this ⊢
      rw [hw2o b' hne']; exact this
    . have hlen : bsRow.length = 256 := bsRow_len
      refine ⟨by have := hR3.size; simpa [hlen] using this, fun i hi' => ?_⟩
      have hi2 : i < 257 := by simpa [hlen] using hi'
      have := hR3.get i (by simpa [hlen] using hi2)
      by_cases h256 : i < 256
      . have e1 : (bsRow ++ [AV.list [.str [92], .str [34]] none]).getD i .empty = (bsRow ++ [AV.list [.str [92], .str [34]] (some 4)]).getD i .empty := by
          rw [List.getD_eq_getElem?_getD, List.getD_eq_getElem?_getD, List.getElem?_append_left (by omega), List.getElem?_append_left (by omega)]
        rw [e1]; exact this
      . have hi3 : i = 256 := by omega
        subst hi3
        have e1 : (bsRow ++ [AV.list [.str [92], .str [34]] none]).getD 256 .empty = .list [.str [92], .str [34]] none := by
          rw [List.getD_eq_getElem?_getD, List.getElem?_append_right (by omega), hlen]; rfl
        have e2 : (bsRow ++ [AV.list [.str [92], .str [34]] (some 4)]).getD 256 .empty = .list [.str [92], .str [34]] (some 4) := by
          rw [List.getD_eq_getElem?_getD, List.getElem?_append_right (by omega), hlen]; rfl
        rw [e1]; rw [e2] at this
        simpa [AV.erase, eraseL] using this.erase
    . obtain ⟨k1, k2⟩ := x2.blk b' o hb'
      have n1 : b ≠ b' := k2 _ _ hf0
      exact ⟨(hw2o b' (Ne.symm n1)).trans k1, k2 _ _ hf2⟩
  refine ⟨b2, ?_, ?_⟩
  . rw [cell_of hw2b]
    simpa [Array.getElem?_setIfInBounds] using g3
  obtain ⟨H4, hc4⟩ := c398 s hsl
  obtain ⟨n, hn⟩ := Call_ex hc4
  refine (acall_run (E := E2.lone (b2, nc2, sz2)) rfl hn (fun h => h) ⟨rfl, fun i hi' => ?_⟩ hV).mono ?_
  . match i, hi' with
    | 0, _ => exact .ptr 0 0 b2 nc2 sz2 rfl
    | 1, _ => exact str_rep s
  rintro e w4 ⟨E4, y1, y2, y3⟩
  cases e with
  | panicked c => exact y3.elim
  | outgrown => exact y3.elim
  | returned c =>
  have y3' : Rep E4 (.str (quoS s)) c := y3
  have hkeep : ∀ k, k < w.heap.size -> k ≠ b -> w4.heap[k]? = w.heap[k]? := by
    intro k hk hkb
    have k1 : w4.heap[k]? = w2.heap[k]? := y1.keep k (by omega) fun i p hp => by
      simp only [Env.lone] at hp
      split at hp
      . injection hp with hp; subst hp; simp only; omega
      . cases hp
    have k2 : u'.heap[k]? = u.heap[k]? := x1.keep k (by omega) fun i p hp => by
      simp only [Env.lone] at hp
      split at hp
      . injection hp with hp; subst hp; exact fun e => hkb e.symm
      . cases hp
    rw [k1, hw2o k hkb, k2, huo k hkb]
  have hnew : ∀ b' o v, E4.st b' o = some v -> E.st b' o = some v \/ w.heap.size ≤ b' \/ b' = b := by
    intro b' o v hv
    rcases y1.newst b' o v hv with hh | hh | ⟨j, q, hh, hq⟩
    . rcases x1.newst b' o v hh with h2 | h2 | ⟨j, q, h2, hq⟩
      . exact .inl h2
      . exact .inr (.inl (by omega))
      . simp only [Env.lone] at h2
        split at h2
        . injection h2 with h2; subst h2; exact .inr (.inr hq.symm)
        . cases h2
    . exact .inr (.inl (by omega))
    . simp only [Env.lone] at hh
      split at hh
      . injection hh with hh; subst hh; simp only at hq; exact .inr (.inl (by omega))
      . cases hh
  have hle : E.le ⟨E4.st, E.f, E.n, E.d, E.k⟩ := ⟨fun b' o v hv => y1.le.st b' o v (x1.le.st b' o v hv), fun _ _ h => h, Nat.le_refl _, rfl, rfl⟩
  have hs4 := y1.size
  obtain ⟨c', rfl, _⟩ := y3'.inv_str
  refine ⟨⟨c', rfl⟩, ⟨E4.st, E.f, E.n, E.d, E.k⟩, ⟨hle, ?_, ?_, ?_, by omega, fun k hk hn => hkeep k hk fun e => hn _ _ hf e.symm, fun i p hp => .inl hp, fun b' o v hv => ?_, fun hd => (hEd hd).elim⟩, ?_, y3'.treeAt _ _ rfl⟩
  . rw [y1.os, hw2]; exact x1.os.trans (by rw [hu]; rfl)
  . rw [y1.tape, hw2]; exact x1.tape.trans (by rw [hu]; rfl)
  . rw [y1.output, hw2]; exact x1.output.trans (by rw [hu]; rfl)
  . rcases hnew b' o v hv with hh | hh | hh
    . exact .inl hh
    . exact .inr (.inl hh)
    . exact .inr (.inr ⟨id, _, hf, hh.symm⟩)
  . have hk := hH.kill id
    refine ⟨y2.st, fun i p hp => ?_, fun i o hi' hd => ?_, hk.inj, hk.len, fun b' o hb' => ?_⟩
    . have := hk.dom i p hp; exact ⟨this.1, by omega⟩
    . obtain ⟨b3, nc3, sz3, h3, h4⟩ := hk.obj i o hi' hd
      have hid : i ≠ id := fun e => by
        subst e
        rw [List.getElem?_set_self (hH.dom _ _ hf).1] at hi'; injection hi' with hi'; exact hd hi'.symm
      have hb3 : b3 ≠ b := fun e => by
        rcases hH.inj i id _ _ h3 hf e with hh | hh | hh
        . exact hid hh
        . rw [List.getElem?_set_ne (Ne.symm hid)] at hi'; rw [hi'] at hh; injection hh with hh; exact hd hh
        . rw [hi] at hh; cases hh
      have hlt := (hH.dom _ _ h3).2
      refine ⟨b3, nc3, sz3, h3, (h4.mono_world (hkeep b3 hlt hb3)).mono_env hle fun o' => ?_⟩
      show E4.st b3 o' = E.st b3 o'
      cases hs5 : E4.st b3 o' with
      | none =>
        cases hs6 : E.st b3 o' with
        | none => rfl
        | some v => rw [hle.st b3 o' v hs6] at hs5; cases hs5
      | some v =>
        rcases hnew b3 o' v hs5 with hh | hh | hh
        . exact hh.symm
        . simp only at hlt; omega
        . exact absurd hh hb3
    . obtain ⟨k1, k2⟩ := hH.blk b' o hb'
      exact ⟨(hkeep b' (Array.getElem?_eq_some_iff.1 k1).1 (fun e => k2 _ _ hf e.symm)).trans k1, k2⟩
end Go.Tv
