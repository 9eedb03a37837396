/-
  The evaluator is sound over this program; values that come in are trees; a call that answers true answers true in every world.
-/
import Derived.Test.YtbofonlhakedpaaGreatDoorPla
import Derived.Test.YtbofonlhakedpaaGreatDoorTvd
import Derived.Shelf.SlSortCmp.NoneTotal
import Derived.Test.YtbofonlhakedpaaGreatDoorCfg
import Derived.Test.YtbofonlhakedpaaGreatDoorShelf
import Derived.Test.YtbofonlhakedpaaGreatDoorSrt
import Derived.Test.YtbofonlhakedpaaGreatDoorExa
import Derived.ProofKit
import Derived.Shelf.Vars
/- slices.SortFunc by the shelf's contract, as the evaluator takes it. -/
namespace Go.Tv
open Go.Shelf Go.RowKit Go.Sort Go.Proofs
open Go.RowKit (Below)

theorem world_grow {W w' : World} (ho : w'.os = W.os) (ht : w'.tape = W.tape) (hp : w'.output = W.output) (hs : W.heap.size ≤ w'.heap.size) (hk : ∀ b, b < W.heap.size → w'.heap[b]? = W.heap[b]?) (hd : W.drawn ≤ w'.drawn) :
    ∃ q os, w' = grow (W.drewN q) os := by
  refine ⟨w'.drawn - W.drawn, w'.heap.extract W.heap.size w'.heap.size, ?_⟩
  have e1 : ∀ (u v : World), u.heap = v.heap → u.tape = v.tape → u.drawn = v.drawn → u.os = v.os → u.output = v.output → u = v := by
    intro u v a b c d e; cases u; cases v; simp_all
  refine e1 _ _ ?_ ht ?_ ho hp
  · apply Array.ext_getElem?
    intro i
    simp only [grow, World.drewN]
    by_cases h : i < W.heap.size
    · rw [hk i h, Array.getElem?_append_left h]
    · rw [Array.getElem?_append_right (by omega)]
      simp only [Array.getElem?_extract]
      split
      · congr 1; omega
      · rename_i h2; rw [Array.getElem?_eq_none (by omega)]
  · simp only [grow, World.drewN]; omega

theorem group_len {ag : Bool} {n : Nat} : ∀ {k : Nat} {cs l : List AV}, group ag n k cs = some l → l.length = k
  | 0, cs, l, h => by simp only [group] at h; injection h with h; subst h; rfl
  | k + 1, cs, l, h => by
    simp only [group] at h
    split at h
    · split at h <;> try (cases h; done)
      split at h <;> try (cases h; done)
      rename_i l' hl; injection h with h; subst h
      simp [group_len hl]
    · split at h <;> try (cases h; done)
      split at h <;> try (cases h; done)
      split at h <;> try (cases h; done)
      rename_i l' hl; injection h with h; subst h
      simp [group_len hl]

section
variable {α : Type} {P : Program} {ρ : Go.Shelf.Ren}

/-- An element with its cells. -/
def El (E : Env) (ok : α → Bool) (enc : α → List AV) : Type := { p : α × List Value // ok p.1 = true ∧ RepL E (enc p.1) p.2.toArray }

theorem rep_slot {E : Env} {cs : List AV} {vs : Array Value} (h : RepP E cs vs) {off k : Nat} {l : List AV} (hk : off + k ≤ cs.length) (hl : l = (cs.drop off).take k) : RepL E l ((vs.toList.drop off).take k).toArray := by
  have hs := h.size
  refine ⟨by subst hl; simp; omega, fun i hi => ?_⟩
  have hi' : i < k := by subst hl; simp at hi; omega
  have e1 : l.getD i .empty = cs.getD (off + i) .empty := by
    subst hl; simp only [List.getD_eq_getElem?_getD]; rw [List.getElem?_take, if_pos hi', List.getElem?_drop]
  have e2 : ((vs.toList.drop off).take k).toArray.getD i undef = vs.getD (off + i) undef := by
    simp only [Array.getD_eq_getD_getElem?, List.getElem?_toArray]; rw [List.getElem?_take, if_pos hi', List.getElem?_drop]; simp
  rw [e1, e2]; exact h.get _ (by omega)

theorem flatMap_slot {enc : α → List AV} {k : Nat} (hk : ∀ x, (enc x).length = k) : ∀ {l : List α} {i : Nat} (hi : i < l.length), ((l.flatMap enc).drop (i * k)).take k = enc l[i]
  | a :: r, 0, hi => by simp [← hk a]
  | a :: r, i + 1, hi => by
    have := flatMap_slot hk (l := r) (i := i) (by simpa using hi)
    simp only [List.flatMap_cons, List.getElem_cons_succ]
    rw [← this, show (i + 1) * k = (enc a).length + i * k by rw [hk a, Nat.succ_mul]; omega, List.drop_length_add_append]

theorem flat_aggs (enc : α → List AV) : ∀ l : List α, flat (l.map fun x => .agg (enc x)) = l.flatMap enc
  | [] => rfl
  | a :: r => by rw [List.map_cons, flat_cons, flat_aggs enc r]; rfl

structure SortOk (P : Program) (ρ : Go.Shelf.Ren) (g : FuncId) (k : Nat) (enc : α → List AV) (c : α → α → Int) (ok : α → Bool) : Prop where
  aE : ∀ w, (isAgg (ρ.t 24)).run P w = .ok true w
  zE : ∀ w, (Go.sizeOf (ρ.t 24)).run P w = .ok k w
  eg : ∀ args w, (callFunc g args).run P w = .ok (.enter g args) w
  ord : Ord3 c
  len : ∀ x, (enc x).length = k
  ones : ∀ x, (enc x).all AV.one = true
  tree : ∀ x, treeL (enc x) = true
  cmp : ∀ x y, ok x = true → ok y = true → ∀ (E : Env) (w : World) (vx vy : List Value), E.d → (∀ i, E.f i = none) → Holds E [] w → RepL E (enc x) vx.toArray → RepL E (enc y) vy.toArray →
    Calls P g #[.agg vx.toArray, .agg vy.toArray] w fun e w' => e = .returned (.int .i64 (c x y)) ∧ ∃ E', Ext E w E' w'

theorem swo_of {α β : Type} {c : α → α → Int} (hc : Ord3 c) (f : β → α) : SWO (ltOf fun x y => c (f x) (f y)) where
  irrefl x := by have := hc.neg (f x) (f x); simp only [ltOf, decide_eq_false_iff_not]; omega
  trans x y z h1 h2 := by
    simp only [ltOf, decide_eq_true_eq] at *
    have h3 := hc.trans _ _ _ (Int.le_of_lt h1) (Int.le_of_lt h2)
    rcases Int.lt_or_eq_of_le h3 with h | h
    · exact h
    · have e := hc.eq _ _ h
      rw [e, hc.neg] at h1; omega
  ntrans x y z h1 h2 := by
    simp only [ltOf, decide_eq_false_iff_not, Int.not_lt] at *
    have a1 := hc.neg (f x) (f y); have a2 := hc.neg (f y) (f z); have a3 := hc.neg (f x) (f z)
    have := hc.trans (f z) (f y) (f x) (by omega) (by omega)
    omega

theorem putCells_take (o : Nat) (nv vs0 : Array Value) (h : o + nv.size ≤ vs0.size) : putCells id o nv vs0 = (vs0.toList.take o ++ nv.toList ++ vs0.toList.drop (o + nv.toList.length)).toArray := by
  apply Array.ext_getElem?
  intro i
  simp only [putCells, Array.getElem?_mapIdx, List.append_assoc, List.getElem?_toArray, id]
  by_cases h1 : i < o
  · rw [List.getElem?_append_left (by simp; omega), List.getElem?_take, if_pos h1]
    have hlt : i < vs0.size := by omega
    simp [hlt]; omega
  · by_cases h2 : i < o + nv.size
    · rw [List.getElem?_append_right (by simp; omega), List.getElem?_append_left (by simp; omega)]
      have hlt : i < vs0.size := by omega
      have e : i - (List.take o vs0.toList).length = i - o := by simp; omega
      rw [e, Array.getElem?_eq_getElem hlt, Option.map_some, if_pos ⟨by omega, h2⟩]
      have hlt2 : i - o < nv.size := by omega
      rw [getElem!_pos nv (i - o) hlt2]
      simp [hlt2]
    · rw [List.getElem?_append_right (by simp; omega), List.getElem?_append_right (by simp; omega), List.getElem?_drop]
      have e : o + nv.toList.length + (i - (List.take o vs0.toList).length - nv.toList.length) = i := by simp; omega
      rw [e]
      cases hx : vs0[i]? with
      | none => simpa using hx
      | some x =>
        have : vs0.toList[i]? = some x := by simpa using hx
        rw [this, Option.map_some, if_neg (by omega)]

theorem sortG_ok {g : FuncId} {k : Nat} {dec : AV → Option α} {enc : α → List AV} {c : α → α → Int} {ok : α → Bool} (L : SlLaysF0.n6 P ρ) (S : SortOk P ρ g k enc c ok) (hdec : ∀ a x, dec a = some x → a = .agg (enc x)) {args : List AV} {H H' : Heap} (h : sortG k g dec enc c ok args H = some H') :
    (H.length ≤ H'.length ∧ ∀ id, id < H.length → (reachL H args).contains id = false → H'[id]? = H[id]?) ∧ ∀ E w vs, RepL E args vs → Holds E H w → Calls P (ρ.f 6) vs w (CallPost E w (.ok (.tup [])) H') := by
  have h0 := h
  unfold sortG at h
  split at h <;> try (cases h; done)
  rename_i id off n sz ag g'
  split at h <;> try (cases h; done)
  rename_i hcond
  obtain ⟨rfl, rfl, rfl, hn62⟩ := hcond
  split at h <;> try (cases h; done)
  rename_i cs T0 hi
  split at h <;> try (cases h; done)
  rename_i hle
  split at h <;> try (cases h; done)
  rename_i els hg
  split at h <;> try (cases h; done)
  rename_i l hl
  split at h <;> try (cases h; done)
  rename_i hok
  injection h with h; subst h
  have hels := decs_inv hdec hl
  obtain ⟨q1, q2, q3⟩ := group_flat hg
  have hlen : l.length = n := by have := group_len hg; rw [hels] at this; simpa using this
  have hflat : flat els = l.flatMap enc := by rw [hels, flat_aggs]
  have hslot : ∀ i (hi : i < l.length), enc l[i] = (cs.drop (off + i * sz)).take sz := by
    intro i hil
    rw [← flatMap_slot S.len hil, ← hflat, q3, List.drop_take, List.drop_drop, List.take_take]
    congr 1
    have : (i + 1) * sz ≤ n * sz := Nat.mul_le_mul_right sz (by omega)
    rw [Nat.add_mul, Nat.one_mul] at this
    omega
  refine ⟨sortG_frame h0, fun E w vs hr hH => ?_⟩
  have hs := hr.size
  match vs, hs with
  | ⟨[c1, c2]⟩, _ =>
  have r1 := hr.get 0 (by simp)
  have r2 := hr.get 1 (by simp)
  simp at r1 r2
  obtain ⟨b, nc, s, cap, o, hf, hcap, ho, rfl⟩ := r1.inv_slc
  obtain ⟨as1, cs', rfl, ra, rc⟩ := r2.inv_fn
  obtain rfl : as1 = #[] := Array.eq_empty_of_size_eq_zero (by simpa using ra.size.symm)
  obtain rfl : cs' = #[] := Array.eq_empty_of_size_eq_zero (by simpa using rc.size.symm)
  obtain ⟨b', nc', s', hf', hO⟩ := hH.obj _ _ hi (by simp)
  rw [hf] at hf'; injection hf' with hf'; injection hf' with e1 e2; injection e2 with e2 e3; subst e1 e2 e3
  obtain ⟨vs0, hv, hnc, hR, hS⟩ := hO
  have hRs := hR.size
  by_cases hn0 : n = 0
  · subst hn0
    obtain rfl : l = [] := List.length_eq_zero_iff.1 hlen
    have hH' : H.set id (.cells (splice cs off ((sortBy c ([] : List α)).flatMap enc)) T0) = H := by
      have : splice cs off ((sortBy c ([] : List α)).flatMap enc) = cs := by simp [splice, sortBy]
      rw [this]
      apply List.ext_getElem?
      intro j
      by_cases e : id = j
      · subst e; rw [List.getElem?_set_self (List.getElem?_eq_some_iff.1 hi).1, hi]
      · rw [List.getElem?_set_ne e]
    rw [hH']
    refine (AnyF.slices_SortFunc_none L _ cap _ w).mono ?_
    rintro e w' ⟨rfl, rfl⟩
    exact ⟨E, Ext.refl _ _, hH, rep_undef⟩
  have ho' : o = off := ho (by omega)
  subst ho'
  have hokm : ∀ x ∈ l, ok x = true := by simpa using hok
  have hmk : ∀ i : Fin n, ok (l[i.1]'(by omega)) = true ∧ RepL E (enc (l[i.1]'(by omega))) ((vs0.toList.drop (o + i.1 * sz)).take sz).toArray := fun i => by
    have hil : i.1 < l.length := by omega
    refine ⟨hokm _ (List.getElem_mem hil), rep_slot hR ?_ (hslot i.1 hil)⟩
    have : (i.1 + 1) * sz ≤ n * sz := Nat.mul_le_mul_right sz i.2
    rw [Nat.add_mul, Nat.one_mul] at this
    omega
  let mk : Fin n → El E ok enc := fun i => ⟨(l[i.1]'(by omega), (vs0.toList.drop (o + i.1 * sz)).take sz), hmk i⟩
  letI : Inhabited (El E ok enc) := ⟨mk ⟨0, by omega⟩⟩
  let d : Array (El E ok enc) := Array.ofFn mk
  have hdn : d.size = n := by simp [d]
  have hdl : d.toList.map (fun x => x.1.1) = l := by
    apply List.ext_getElem
    · simp [d, hlen]
    · intro i h1 h2
      have hin : i < n := by omega
      have e : d.toList[i]'(by simpa using h1) = mk ⟨i, hin⟩ := by rw [Array.getElem_toList]; exact Array.getElem_ofFn _
      rw [List.getElem_map, e]
  let enc' : El E ok enc → List Value := fun x => x.1.2
  have hk' : ∀ x, (enc' x).length = sz := fun x => by have := x.2.2.size; rw [S.len] at this; simpa [enc'] using this.symm
  have h1' : ∀ x, ∀ v ∈ enc' x, v.oneCell' = true := fun x => x.2.2.ones (S.ones _)
  have hlt := (hH.dom _ _ hf).2
  have hget : ∀ t, t < n * sz → (flatK enc' sz d)[t]! = vs0.getD (o + t) undef := fun t ht => by
    rw [get_flatK enc' sz d t (by rw [hdn]; exact ht)]
    have hsz : 0 < sz := by rcases Nat.eq_zero_or_pos sz with h | h
                            · subst h; simp at ht
                            · exact h
    have hti : t / sz < n := (Nat.div_lt_iff_lt_mul hsz).2 ht
    have htm : t % sz < sz := Nat.mod_lt _ hsz
    have ed : d[t / sz]! = mk ⟨t / sz, hti⟩ := by rw [getElem!_pos d _ (by rw [hdn]; exact hti)]; simp [d]
    rw [ed]
    have hdm := Nat.div_add_mod t sz
    rw [Nat.mul_comm] at hdm
    have hin : o + t < vs0.size := by omega
    show ((vs0.toList.drop (o + t / sz * sz)).take sz)[t % sz]! = _
    rw [getElem!_pos _ _ (by simp; omega)]
    simp only [List.getElem_take, List.getElem_drop]
    have e2 : o + t / sz * sz + t % sz = o + t := by omega
    simp only [e2]
    simp [Array.getD_eq_getD_getElem?, hin]
  have hHK : HoldsK enc' sz w b o d := by
    intro j hj
    rw [size_flatK, hdn] at hj
    have hin : o + j < vs0.size := by omega
    refine ⟨?_, ?_⟩
    · rw [cell_of hv, hget j hj]; simp [Array.getD_eq_getD_getElem?, hin]
    · simp [World.frozen?, hv]
  have hcmp : CmpLays P g' #[] enc' sz (fun x y => c x.1.1 y.1.1) b o d.size w := by
    intro m os dk hdk x y
    have hst : ∀ b' o' v, E.st b' o' = some v → (sortWorldK enc' sz w b o m dk os).cell? ⟨b', o', none⟩ = some v := by
      intro b' o' v hv'
      have hb' : b' ≠ b := fun e => by subst e; rw [hS] at hv'; cases hv'
      have hc := hH.st _ _ _ hv'
      have hlt := w.block_lt_of_cell? _ hc
      unfold sortWorldK
      rw [cell?_grow _ _ _ (by rw [size_putRowK]; exact hlt), cell?_putRowK_other _ _ _ _ _ _ _ hb']
      exact hc
    have hH0 : Holds (⟨E.st, fun _ => none, 0, True⟩ : Env) [] (sortWorldK enc' sz w b o m dk os) := ⟨hst, fun i p hp => (by cases hp), fun i o hi => (by simp at hi), fun i j p q hp => (by cases hp), rfl⟩
    have hc := S.cmp x.1.1 y.1.1 x.2.1 y.2.1 ⟨E.st, fun _ => none, 0, True⟩ _ _ _ trivial (fun _ => rfl) hH0 (x.2.2.treeAt _ _ (S.tree _)) (y.2.2.treeAt _ _ (S.tree _))
    rw [Array.append_empty]
    refine hc.mono ?_
    rintro e w' ⟨rfl, E', hE⟩
    exact ⟨rfl, world_grow hE.os hE.tape hE.output hE.size (fun b hb => hE.keep b hb fun i p hp => by cases hp) (hE.drawn trivial)⟩
  have key := AnyQ.slices_SortFunc L sz S.aE S.zE enc' hk' h1' (fun x y => c x.1.1 y.1.1) (swo_of S.ord fun x : El E ok enc => x.1.1) g' #[] b o cap d w S.eg hcmp hHK hlt (by rw [hdn]; exact hn62)
  rw [hdn] at key
  refine key.mono ?_
  rintro e w' ⟨rfl, d', n', os, hp, hss, rfl⟩
  obtain ⟨hp1, _, hp3⟩ := hp
  have hd'n : d'.size = n := by rw [hp1, hdn]
  have hex : ∀ a : Array (El E ok enc), a.size = n → a.extract 0 n = a := fun a ha => by rw [← ha]; simp
  rw [hex d' hd'n, hex d hdn] at hp3
  have hl' : d'.toList.map (fun x => x.1.1) = sortBy c l := by
    refine sortBy_uniq S.ord ?_ (by rw [← hdl]; exact hp3.map _)
    unfold Srtd
    rw [List.pairwise_iff_getElem]
    intro i j hi hj hij
    simp only [List.length_map, Array.length_toList] at hi hj
    have := hss i j (Nat.zero_le _) hij (by omega)
    rw [getElem!_pos d' j hj, getElem!_pos d' i hi] at this
    simp only [ltOf, decide_eq_false_iff_not, Int.not_lt] at this
    have hn := S.ord.neg d'[j].1.1 d'[i].1.1
    simp only [List.getElem_map, Array.getElem_toList]
    omega
  have hll : (sortBy c l).length = n := by rw [sortBy_len, hlen]
  have hfl : ((sortBy c l).flatMap enc).length = n * sz := by
    rw [← hll]
    generalize sortBy c l = m
    induction m with
    | nil => simp
    | cons a r ih => rw [List.flatMap_cons, List.length_append, ih, S.len, List.length_cons, Nat.succ_mul]; omega
  have hnv : RepL E ((sortBy c l).flatMap enc) (flatK enc' sz d') := by
    refine ⟨by rw [hfl, size_flatK, hd'n], fun t ht => ?_⟩
    rw [hfl] at ht
    have hsz : 0 < sz := by rcases Nat.eq_zero_or_pos sz with h | h
                            · subst h; simp at ht
                            · exact h
    have hti : t / sz < n := (Nat.div_lt_iff_lt_mul hsz).2 ht
    have htm : t % sz < sz := Nat.mod_lt _ hsz
    have hil : t / sz < (sortBy c l).length := by omega
    have hdm := Nat.div_add_mod t sz
    rw [Nat.mul_comm] at hdm
    have hlx : (sortBy c l)[t / sz] = (d'[t / sz]'(by omega)).1.1 := by
      have : (sortBy c l)[t / sz]? = (d'.toList.map (fun x => x.1.1))[t / sz]? := by rw [hl']
      rw [List.getElem?_eq_getElem hil] at this
      simp [hd'n, hti] at this
      exact this
    have hsl := flatMap_slot S.len hil
    have e1 : ((sortBy c l).flatMap enc).getD t .empty = (enc (sortBy c l)[t / sz]).getD (t % sz) .empty := by
      rw [← hsl]
      simp only [List.getD_eq_getElem?_getD]
      rw [List.getElem?_take, if_pos htm, List.getElem?_drop, hdm]
    have e2 : (flatK enc' sz d').getD t undef = ((d'[t / sz]'(by omega)).1.2).toArray.getD (t % sz) undef := by
      have hb : t < (flatK enc' sz d').size := by rw [size_flatK, hd'n]; exact ht
      have h3 := get_flatK enc' sz d' t (by rw [hd'n]; exact ht)
      rw [getElem!_pos (flatK enc' sz d') t hb, getElem!_pos d' (t / sz) (by omega)] at h3
      have hb2 : t % sz < (enc' (d'[t / sz]'(by omega))).length := by rw [hk']; exact htm
      rw [getElem!_pos (enc' (d'[t / sz]'(by omega))) (t % sz) hb2] at h3
      have hb3 : t % sz < ((d'[t / sz]'(by omega)).1.2).length := hb2
      simp only [Array.getD_eq_getD_getElem?, List.getElem?_toArray, Array.getElem?_eq_getElem hb, List.getElem?_eq_getElem hb3, Option.getD_some]
      exact h3
    rw [e1, e2, hlx]
    exact (d'[t / sz]'(by omega)).2.2.get _ (by rw [S.len]; exact htm)
  obtain ⟨vs1, hv1, _, g1, g2⟩ := hH.put hi hf hnv (off := o) (by rw [hfl]; exact hle)
  rw [hv] at hv1; injection hv1 with hv1; injection hv1 with hv1; subst hv1
  have hnvs : (flatK enc' sz d').size = n * sz := by rw [size_flatK, hd'n]
  have hbel : Below (w.setRow b (vs0.toList.take o ++ (flatK enc' sz d').toList ++ vs0.toList.drop (o + (flatK enc' sz d').toList.length)).toArray).heap.size
      (w.setRow b (vs0.toList.take o ++ (flatK enc' sz d').toList ++ vs0.toList.drop (o + (flatK enc' sz d').toList.length)).toArray) (sortWorldK enc' sz w b o n' d' os) := by
    refine ⟨rfl, rfl, rfl, by simp [sortWorldK, putRowK], fun k hk => ?_⟩
    have hk' : k < w.heap.size := by simpa using hk
    unfold sortWorldK
    rw [heap_grow_old _ _ (by rw [size_putRowK]; exact hk')]
    by_cases e : k = b
    · subst e
      rw [setRow_heap w k vs0 _ T0 (0, 0) hv, ← putCells_take o _ _ (by rw [hnvs]; omega)]
      simp [putRowK, putRow, mapBlock, Array.getElem?_modify, hv, onCells]
    · rw [setRow_other w b k _ e]
      simp [putRowK, putRow, mapBlock, Array.getElem?_modify, Ne.symm e]
  obtain ⟨k1, k2⟩ := g2.below hbel (fun _ => Nat.le_add_right _ _)
  exact ⟨E, g1.trans k1, k2, rep_undef⟩

end
end Go.Tv

/- The evaluator over seat ZD's program is sound. -/
namespace Go.Tv
open Go.Proofs
open Go.RowKit (Below)

theorem rep_str_inv {E : Env} {s : List UInt8} {c : Value} (h : Rep E (.str s) c) : c = .string ⟨s.toArray⟩ := by
  obtain ⟨b, rfl, rfl⟩ := h.inv_str
  congr 1

theorem repL_one {E : Env} {a : AV} {vs : Array Value} (h : RepL E [a] vs) : ∃ c, vs = #[c] ∧ Rep E a c := by
  have hs := h.size
  match vs, hs with
  | ⟨[c]⟩, _ => exact ⟨c, rfl, by simpa using h.get 0 (by simp)⟩

theorem repL_two {E : Env} {a b : AV} {vs : Array Value} (h : RepL E [a, b] vs) : ∃ c d, vs = #[c, d] ∧ Rep E a c ∧ Rep E b d := by
  have hs := h.size
  match vs, hs with
  | ⟨[c, d]⟩, _ => exact ⟨c, d, rfl, by simpa using h.get 0 (by simp), by simpa using h.get 1 (by simp)⟩

theorem strs_flat : ∀ {l : List AV} {x : List (List UInt8)}, strs l = some x → l = x.map .str ∧ flat l = l
  | [], x, h => by simp [strs] at h; subst h; exact ⟨rfl, rfl⟩
  | v :: r, x, h => by
    cases v <;> simp only [strs] at h <;> try (cases h; done)
    split at h <;> try (cases h; done)
    rename_i s y hy; injection h with h; subst h
    obtain ⟨h1, h2⟩ := strs_flat hy
    exact ⟨by simp [← h1], by rw [flat_cons, h2]; rfl⟩

theorem below_refl (w : World) : Below w.heap.size w w := Below.refl _ _

theorem cc_names : ∀ (f : FuncId) (fn : Func), Tryz.prog.funcs[f]? = some fn → (fn.name == "runtime.NumGoroutine") = false := by
  intro f fn h
  have hall : (Tryz.prog.funcs.toList.all fun fn => !(fn.name == "runtime.NumGoroutine")) = true := by kernel_rfl
  rw [List.all_eq_true] at hall
  have hm : fn ∈ Tryz.prog.funcs.toList := by
    have := (Array.getElem?_eq_some_iff.1 h)
    obtain ⟨hlt, he⟩ := this
    rw [← he]; exact Array.getElem_mem_toList hlt
  simpa using hall fn hm

theorem contains_ok {args : List AV} {v : AV} (h : containsF args = some v) {E : Env} {w : World} {vs : Array Value} (hr : RepL E args vs) (hg : GlobOk CC E) (hst : ∀ b o v, E.st b o = some v → w.cell? ⟨b, o, none⟩ = some v) :
    Calls CC.P 205 vs w fun e w' => ∃ c, e = .returned c ∧ Below w.heap.size w w' ∧ Rep E v c := by
  unfold containsF at h
  split at h <;> try (cases h; done)
  rename_i s t
  split at h <;> try (cases h; done)
  rename_i hs; injection h with h; subst h
  obtain ⟨c, d, rfl, h1, h2⟩ := repL_two hr
  have e1 := rep_str_inv h1; have e2 := rep_str_inv h2; subst e1 e2
  obtain ⟨n, hn⟩ := hg.ints 0 (by simp [CX])
  refine (Tryz.strings_Contains ⟨s.toArray⟩ ⟨t.toArray⟩ n w (by simpa [ByteArray.size] using hs) (hst _ _ _ hn)).mono ?_
  rintro e w' ⟨rfl, rfl⟩
  exact ⟨_, rfl, below_refl _, by simpa using Rep.bool (E := E) (Lib.contains s t)⟩

theorem itoa_ok {args : List AV} {v : AV} (h : itoaF args = some v) {E : Env} {w : World} {vs : Array Value} (hr : RepL E args vs) :
    Calls CC.P 143 vs w fun e w' => ∃ c, e = .returned c ∧ Below w.heap.size w w' ∧ Rep E v c := by
  unfold itoaF at h
  split at h <;> try (cases h; done)
  rename_i n
  split at h <;> try (cases h; done)
  rename_i hn; injection h with h; subst h
  obtain ⟨c, rfl, h1⟩ := repL_one hr
  have e1 := h1.inv_int; subst e1
  obtain ⟨m, rfl⟩ : ∃ m : Nat, n = m := ⟨n.toNat, (Int.toNat_of_nonneg hn.1).symm⟩
  refine (Tryz.strconv_Itoa_small m (by omega) w).mono ?_
  rintro e w' ⟨rfl, rfl⟩
  exact ⟨_, rfl, below_refl _, str_rep _⟩

theorem upper_ok {args : List AV} {v : AV} (h : upperF args = some v) {E : Env} {w : World} {vs : Array Value} (hr : RepL E args vs) :
    Calls CC.P 141 vs w fun e w' => ∃ c, e = .returned c ∧ Below w.heap.size w w' ∧ Rep E v c := by
  unfold upperF at h
  split at h <;> try (cases h; done)
  rename_i s
  split at h <;> try (cases h; done)
  rename_i hs; injection h with h; subst h
  simp only [Bool.and_eq_true, decide_eq_true_eq, List.all_eq_true] at hs
  obtain ⟨c, rfl, h1⟩ := repL_one hr
  have e1 := rep_str_inv h1; subst e1
  refine (Tryz.strings_ToUpper_ascii ⟨s.toArray⟩ w (by simpa [ByteArray.size] using hs.1) (fun j b hb => hs.2 b (List.mem_of_getElem? (by simpa using hb)))).mono ?_
  rintro e w' ⟨rfl, hb⟩
  exact ⟨_, rfl, hb, by simpa using str_rep (E := E) (Lib.toUpperA s)⟩

theorem join_ok {args : List AV} {v : AV} (h : joinF args = some v) {E : Env} {w : World} {vs : Array Value} (hr : RepL E args vs) (hst : ∀ b o v, E.st b o = some v → w.cell? ⟨b, o, none⟩ = some v) :
    Calls CC.P 195 vs w fun e w' => ∃ c, e = .returned c ∧ Below w.heap.size w w' ∧ Rep E v c := by
  unfold joinF at h
  split at h <;> try (cases h; done)
  rename_i l t
  split at h <;> try (cases h; done)
  rename_i x hx
  split at h <;> try (cases h; done)
  rename_i hs; injection h with h; subst h
  simp only [Bool.and_eq_true, decide_eq_true_eq] at hs
  obtain ⟨c, d, rfl, h1, h2⟩ := repL_two hr
  have e2 := rep_str_inv h2; subst e2
  obtain ⟨base, cap, rfl, hL⟩ := h1.inv_list
  obtain ⟨hl, hfl⟩ := strs_flat hx
  have hlen : l.length = x.length := by rw [hl]; simp
  cases hxs : x with
  | nil =>
    subst hxs
    rw [hlen]
    refine (Tryz.strings_Join_none base cap ⟨t.toArray⟩ w).mono ?_
    rintro e w' ⟨rfl, rfl⟩
    exact ⟨_, rfl, below_refl _, by have := str_rep (E := E) []; simpa [Lib.join] using this⟩
  | cons y ys =>
    have hpos : 0 < l.length := by rw [hlen, hxs]; simp
    obtain ⟨a, v0, ea, ha, hv0, _⟩ := hL.cells 0 (by rw [hfl]; exact hpos)
    subst ea
    obtain ⟨bk, o, sp⟩ := a
    simp only at ha; subst ha
    have hxl : (x.map fun s => (⟨s.toArray⟩ : ByteArray)).length = l.length := by simp [hlen]
    have hxm : (x.map fun s => (⟨s.toArray⟩ : ByteArray)).map (·.data.toList) = x := by
      rw [List.map_map]; exact (List.map_congr_left (fun a _ => rfl)).trans (List.map_id x)
    have := Tryz.strings_Join bk o cap (x.map fun s => ⟨s.toArray⟩) ⟨t.toArray⟩ w (fun j z hz => ?_) (by have := w.block_lt_of_cell? _ (hst _ _ _ hv0); exact this) (by rw [hxl]; exact hs.2) (by rw [hxl]; exact hL.capLe)
      (by rw [hxm]; simpa using hs.1)
    · rw [hxl] at this
      refine this.mono ?_
      rintro e w' ⟨rfl, hb⟩
      refine ⟨_, rfl, hb, ?_⟩
      rw [hxm, ← hxs]
      exact str_rep _
    · simp only [List.getElem?_map, Option.map_eq_some_iff] at hz
      obtain ⟨s, hs', rfl⟩ := hz
      have hj : j < x.length := (List.getElem?_eq_some_iff.1 hs').1
      obtain ⟨a, v, ea, ha, hv, hrv⟩ := hL.cells j (by rw [hfl, hlen]; exact hj)
      injection ea with ea; subst ea
      rw [hst _ _ _ hv]
      rw [hfl, hl] at hrv
      have : (x.map AV.str).getD j .empty = .str s := by simp [List.getD_eq_getElem?_getD, hs']
      rw [this] at hrv
      rw [rep_str_inv hrv]

theorem real_al0 (g : FuncId) : realF (al0 g) = g := by
  unfold al0 realF
  by_cases h : g < 10000
  · simp [h]
  · rw [if_neg h, if_neg (Nat.not_lt.2 (Nat.le_add_left 10000 g))]; exact Nat.add_sub_cancel g 10000
theorem cz_ok {z : Bool} (hs : ∀ f h, hprF z f = some h → (∃ (fn : Func) (c : Code), Tryz.prog.funcs[realF f]? = some fn ∧ fn.body = some c) ∧ ∀ args H H', h args H = some H' → (H.length ≤ H'.length ∧ ∀ id, id < H.length → (reachL H args).contains id = false → H'[id]? = H[id]?) ∧
    ∀ E w vs, RepL E args vs → GlobOk (CZ z) E → Holds E H w → Calls Tryz.prog (realF f) vs w (CallPost E w (.ok (.tup [])) H')) : CfgOk (CZ z) := by
  refine ⟨cc_names, by kernel_rfl, ?_, ?_, ?_, fun g => ?_, fun f g => ?_, fun f h hf => (hs f h hf).1, fun f h hf => (hs f h hf).2⟩
  · intro f h hf args v hv E w vs hr
    have hf' : extF f = some h := hf
    unfold extF at hf'
    split at hf' <;> try (cases hf'; done)
    rename_i e; subst e; injection hf' with hf'; subst hf'
    simp only at hv
    split at hv <;> try (cases hv; done)
    rename_i a b
    injection hv with hv; subst hv
    obtain ⟨c, d, rfl, h1, h2⟩ := repL_two hr
    have e1 := rep_str_inv h1; have e2 := rep_str_inv h2; subst e1 e2
    exact ⟨_, ext_run ⟨a.toArray⟩ ⟨b.toArray⟩ w, by simpa using Rep.int (E := E) .i64 (cmpB a b)⟩
  · intro f h hf
    have hf' : prF z f = some h := hf
    unfold prF at hf'
    split at hf' <;> try (cases hf'; done)
    unfold primF at hf'
    split at hf'
    · rename_i e; subst e; exact ⟨_, _, (by kernel_rfl : Tryz.prog.funcs[205]? = some Tryz.f205), rfl⟩
    split at hf'
    · rename_i e; subst e; exact ⟨_, _, (by kernel_rfl : Tryz.prog.funcs[195]? = some Tryz.f195), rfl⟩
    split at hf'
    · rename_i e; subst e; exact ⟨_, _, (by kernel_rfl : Tryz.prog.funcs[141]? = some Tryz.f141), rfl⟩
    split at hf'
    · rename_i e; subst e; exact ⟨_, _, (by kernel_rfl : Tryz.prog.funcs[143]? = some Tryz.f143), rfl⟩
    · cases hf'
  · intro f h hf args v hv E w vs hr hg hst
    have hf' : prF z f = some h := hf
    unfold prF at hf'
    split at hf' <;> try (cases hf'; done)
    rename_i hz
    obtain rfl : z = false := by simpa using hz
    have add : ∀ {f vs}, (Calls CC.P f vs w fun e w' => ∃ c, e = .returned c ∧ Below w.heap.size w w' ∧ Rep E v c) → Calls CC.P f vs w fun e w' => ∃ c, e = .returned c ∧ Below w.heap.size w w' ∧ (CC.dr = true → w.drawn ≤ w'.drawn) ∧ Rep E v c := fun hc =>
      hc.mono fun e w' ⟨c, h1, h2, h3⟩ => ⟨c, h1, h2, (fun hd => by cases hd), h3⟩
    unfold primF at hf'
    split at hf'
    · rename_i e; subst e; injection hf' with hf'; subst hf'; exact add (contains_ok hv hr hg hst)
    split at hf'
    · rename_i e; subst e; injection hf' with hf'; subst hf'; exact add (join_ok hv hr hst)
    split at hf'
    · rename_i e; subst e; injection hf' with hf'; subst hf'; exact add (upper_ok hv hr)
    split at hf'
    · rename_i e; subst e; injection hf' with hf'; subst hf'; exact add (itoa_ok hv hr)
    · cases hf'
  · exact real_al0 g
  · show realF (varyF f g) = g
    unfold varyF
    repeat' split
    all_goals first | exact real_al0 g | (subst_vars; rfl)

theorem zt_ok : CfgOk (CZ true) := cz_ok fun f h hf => by cases hf

/-- compare, by the evaluator, with its draws. -/
theorem cmp_calls {x y : V} (hx : x.cnt ≤ 1000000000) {E : Env} {w : World} {vx vy : List Value} (hH : Holds E [] w) (rx : RepL E x.av.cells vx.toArray) (ry : RepL E y.av.cells vy.toArray) :
    Calls Tryz.prog 83 #[.agg vx.toArray, .agg vy.toArray] w fun e w' => e = .returned (.int .i64 (cmpV x y)) ∧ ∃ E', Ext E w E' w' := by
  obtain ⟨n, hn⟩ := Call_ex (c83z (z := true) x y [] hx)
  have ra : ∀ {v : V} {l : List Value}, RepL E v.av.cells l.toArray → Rep E v.av (.agg l.toArray) := fun {v l} h => by
    cases v; exact .agg _ _ h.size h.get
  refine ((acall_ok zt_ok n).run 83 _ [] _ _ hn E w #[.agg vx.toArray, .agg vy.toArray] ⟨rfl, fun i hi => ?_⟩ ⟨fun g cs hc => (by cases hc), fun g hg => (by cases hg), fun _ => rfl⟩ hH).mono ?_
  · match i, hi with
    | 0, _ => exact ra rx
    | 1, _ => exact ra ry
  · rintro e w' ⟨E', h1, _, h3⟩
    cases e with
    | returned c => exact ⟨by rw [Rep.inv_int h3], E', h1⟩
    | _ => exact h3.elim

theorem ones_v (v : V) : v.av.cells.all AV.one = true := by rw [V.av_eq]; rfl
theorem cmpP_calls {x y : V × V} (hx : x.1.cnt ≤ 1000000000) (hx2 : x.2.cnt ≤ 1000000000) {E : Env} {w : World} {vx vy : List Value} (hH : Holds E [] w) (rx : RepL E (P2.cells x) vx.toArray) (ry : RepL E (P2.cells y) vy.toArray) :
    Calls Tryz.prog 177 #[.agg vx.toArray, .agg vy.toArray] w fun e w' => e = .returned (.int .i64 (cmpP x y)) ∧ ∃ E', Ext E w E' w' := by
  obtain ⟨n, hn⟩ := Call_ex (c177z (z := true) x y [] hx hx2)
  refine ((acall_ok zt_ok n).run 177 _ [] _ _ hn E w #[.agg vx.toArray, .agg vy.toArray] ⟨rfl, fun i hi => ?_⟩ ⟨fun g cs hc => (by cases hc), fun g hg => (by cases hg), fun _ => rfl⟩ hH).mono ?_
  · match i, hi with
    | 0, _ => exact .agg _ _ rx.size rx.get
    | 1, _ => exact .agg _ _ ry.size ry.get
  · rintro e w' ⟨E', h1, _, h3⟩
    cases e with
    | returned c => exact ⟨by rw [Rep.inv_int h3], E', h1⟩
    | _ => exact h3.elim
theorem unV_dec (a : AV) (x : V) (h : unV a = some x) : a = .agg x.av.cells := by rw [unV_inv a x h, V.av_eq]; rfl
theorem sortV_ok : SortOk Tryz.prog Tryz.sortV_ren 83 5 (fun v : V => v.av.cells) cmpV cntOk where
  aE := fun w => aggT_run (C := CC) (T := 24) ag24 w
  zE := fun w => szOf_run (C := CC) (T := 24) sz24 w
  eg := enters_of Tryz.func83 (by kernel_rfl) rfl
  ord := ord_V
  len := av_cells
  ones := ones_v
  tree v := treeL_cells (tree_av v)
  cmp x y hx _ E w vx vy _ _ hH rx ry := cmp_calls (by simpa [cntOk] using hx) hH rx ry
theorem sortP_ok : SortOk Tryz.prog Tryz.sortP_ren 177 10 P2.cells cmpP (fun p => cntOk p.1 && cntOk p.2) where
  aE := fun w => aggT_run (C := CC) (T := 175) ag175 w
  zE := fun w => szOf_run (C := CC) (T := 175) sz175 w
  eg := enters_of Tryz.func177 (by kernel_rfl) rfl
  ord := ord_P
  len p := by rw [p2_eq]; rfl
  ones p := by rw [p2_eq]; rfl
  tree p := by rw [p2_eq]; simp
  cmp x y hx _ E w vx vy _ _ hH rx ry := by
    simp only [cntOk, Bool.and_eq_true, decide_eq_true_eq] at hx
    exact cmpP_calls hx.1 hx.2 hH rx ry
theorem cc_ok : CfgOk CC := by
  refine cz_ok fun f h hf => ?_
  unfold hprF at hf
  split at hf
  · cases hf
  split at hf
  · rename_i e; subst e; injection hf with hf; subst hf
    refine ⟨⟨_, _, Tryz.func173, rfl⟩, fun args H H' hv => ?_⟩
    obtain ⟨q1, q2⟩ := sortG_ok Tryz.sortV sortV_ok unV_dec hv
    exact ⟨q1, fun E w vs hr _ hH => q2 E w vs hr hH⟩
  split at hf
  · rename_i e; subst e; injection hf with hf; subst hf
    refine ⟨⟨_, _, Tryz.func176, rfl⟩, fun args H H' hv => ?_⟩
    obtain ⟨q1, q2⟩ := sortG_ok Tryz.sortP sortP_ok unP_inv hv
    exact ⟨q1, fun E w vs hr _ hH => q2 E w vs hr hH⟩
  · cases hf
theorem cc_calls (n : Nat) : CallOk CC (acall CC n) := acall_ok cc_ok n
end Go.Tv

/- What comes in as a value of chapter 8 is a tree. -/
namespace Go.Tv
open Go.Proofs

noncomputable def fs24 : Array Field := match Tryz.prog.underlying 24 with | some (.struct fs) => fs | _ => #[]
theorem und24 : Tryz.prog.underlying 24 = some (.struct fs24) := by kernel_rfl
theorem fs24_map : fs24.toList.map (fun f => (f.type, f.offset)) = [(3, 0), (3, 1), (9, 2), (22, 3), (22, 4)] := by kernel_rfl
theorem und22p : Tryz.prog.underlying 22 = some (.slice 24) := by kernel_rfl
theorem und3p : Tryz.prog.underlying 3 = some (.int .i64) := by kernel_rfl
theorem und9p : Tryz.prog.underlying 9 = some .string := by kernel_rfl
theorem und4p : Tryz.prog.underlying 4 = some .bool := by kernel_rfl
theorem cells3 : Tryz.prog.cellsOf 3 = 1 := by kernel_rfl
theorem cells9 : Tryz.prog.cellsOf 9 = 1 := by kernel_rfl
theorem cells22 : Tryz.prog.cellsOf 22 = 1 := by kernel_rfl
theorem cells24 : Tryz.prog.cellsOf 24 = 5 := by kernel_rfl

theorem five_of : ∀ {cs : List AV}, cs.length = 5 → ∃ a b c d e, cs = [a, b, c, d, e]
  | [a, b, c, d, e], _ => ⟨a, b, c, d, e, rfl⟩
theorem maxLen_eq : maxLen = 9223372036854775807 := by unfold maxLen; omega
theorem avs_of : ∀ (els : List AV), (∀ x ∈ els, ∃ v : V, x = v.av ∧ v.str) → ∃ l : List V, els = avs l ∧ strs' l
  | [], _ => ⟨[], rfl, trivial⟩
  | a :: r, h => by
    obtain ⟨v, hv, hs⟩ := h a (by simp)
    obtain ⟨l, hl, hs2⟩ := avs_of r fun x hx => h x (by simp [hx])
    exact ⟨v :: l, by simp [avs, hv, hl], hs, hs2⟩

set_option maxRecDepth 100000 in
theorem conf_V : ∀ n, (∀ v, Conf Tryz.prog n 24 v → ∃ x : V, v = x.av ∧ x.str) ∧ (∀ v, Conf Tryz.prog n 22 v → ∃ l : List V, v = .list (avs l) none ∧ strs' l)
  | 0 => ⟨fun v h => h.elim, fun v h => h.elim⟩
  | n + 1 => by
    obtain ⟨ih1, ih2⟩ := conf_V n
    constructor
    · intro v h
      simp only [Conf, und24] at h
      obtain ⟨cs, rfl, hlen, hf⟩ := h
      rw [cells24] at hlen
      have hf' : ∀ p ∈ fs24.toList.map (fun f => (f.type, f.offset)), ∃ x, Conf Tryz.prog n p.1 x ∧ x.cells = (cs.drop p.2).take (Tryz.prog.cellsOf p.1) := by
        intro p hp
        obtain ⟨f, h1, rfl⟩ := List.mem_map.1 hp
        exact hf f h1
      rw [fs24_map] at hf'
      obtain ⟨c0, c1, c2, c3, c4, rfl⟩ := five_of hlen
      cases n with
      | zero => obtain ⟨x, hx, _⟩ := hf' (3, 0) (by simp); exact hx.elim
      | succ n =>
        obtain ⟨x0, h0, e0⟩ := hf' (3, 0) (by simp)
        obtain ⟨x1, h1, e1⟩ := hf' (3, 1) (by simp)
        obtain ⟨x2, h2, e2⟩ := hf' (9, 2) (by simp)
        obtain ⟨x3, h3, e3⟩ := hf' (22, 3) (by simp)
        obtain ⟨x4, h4, e4⟩ := hf' (22, 4) (by simp)
        dsimp only at h0 h1 h2 h3 h4 e0 e1 e2 e3 e4
        obtain ⟨l3, rfl, k3⟩ := ih2 _ h3
        obtain ⟨l4, rfl, k4⟩ := ih2 _ h4
        simp only [Conf, und3p, und9p] at h0 h1 h2
        obtain ⟨z0, rfl, _⟩ := h0
        obtain ⟨z1, rfl, _⟩ := h1
        obtain ⟨s, rfl, hs⟩ := h2
        simp [AV.cells, cells3, cells9, cells22] at e0 e1 e2 e3 e4
        exact ⟨.mk z0 z1 s l3 l4, by simp [V.av, e0, e1, e2, e3, e4], by rw [maxLen_eq] at hs; exact hs, k3, k4⟩
    · intro v h
      simp only [Conf, und22p] at h
      obtain ⟨els, rfl, _, hel⟩ := h
      obtain ⟨l, rfl, hl⟩ := avs_of els fun x hx => ih1 x (hel x hx).1
      exact ⟨l, rfl, hl⟩
end Go.Tv

/- From a row's world to the evaluator: values of chapter 8 that come in, and the call's end. -/
namespace Go.Tv
open Go.Proofs
open Go.ChangeShapes Go.WideShapes Go.ChangeAt Go.RowKit

set_option maxRecDepth 100000
theorem treeT_ok : ∀ t ∈ [24, 22, 9, 3], TreeT Tryz.prog [24, 22, 9, 3] t := by
  intro t ht
  simp only [List.mem_cons, List.mem_nil_iff, or_false] at ht
  rcases ht with rfl | rfl | rfl | rfl
  · unfold TreeT
    rw [und24]
    refine ⟨fun f hf => ?_, by kernel_rfl⟩
    have : (f.type, f.offset) ∈ fs24.toList.map (fun f => (f.type, f.offset)) := List.mem_map.2 ⟨f, hf, rfl⟩
    rw [fs24_map] at this
    simp only [List.mem_cons, Prod.mk.injEq, List.mem_nil_iff, or_false] at this
    rcases this with h | h | h | h | h <;> simp [h.1]
  · unfold TreeT
    rw [und22p]
    simp
  · unfold TreeT
    rw [und9p]
    trivial
  · unfold TreeT
    rw [und3p]
    trivial

theorem arg24 {H : Type} {enc : TypeId × Value → H} {W : World} {sp : Nat → Bool} {held : Bool} {r : Reach} {base b2 : Nat} {v : Value} {d : DataW H} {p : List MemPlace}
    (h : DataW.Trod enc Tryz.prog W base sp held 24 v d p) (hv : Value.okWide Tryz.prog W r b2 24 v) : ∃ x : V, Rep (Env.all W) x.av v ∧ x.str := by
  obtain ⟨n, hn⟩ := h
  obtain ⟨x, h1, h2, h3⟩ := trod_rep treeT_ok n 24 _ _ _ (by simp) hn
  obtain ⟨y, rfl, hs⟩ := (conf_V n).1 x h3
  obtain ⟨cs, rfl, _⟩ := okWide_struct und24 hv
  refine ⟨y, ?_, hs⟩
  have h2' : RepL (Env.all W) y.av.cells cs := by simpa [Value.cells] using h2
  cases y with
  | mk k n s ks is => exact .agg _ _ h2'.size h2'.get

theorem arg22 {H : Type} {enc : TypeId × Value → H} {W : World} {sp : Nat → Bool} {held : Bool} {r : Reach} {base b2 : Nat} {v : Value} {d : DataW H} {p : List MemPlace}
    (h : DataW.Trod enc Tryz.prog W base sp held 22 v d p) (hv : Value.okWide Tryz.prog W r b2 22 v) : ∃ l : List V, Rep (Env.all W) (.list (avs l) none) v ∧ strs' l := by
  obtain ⟨n, hn⟩ := h
  obtain ⟨x, h1, h2, h3⟩ := trod_rep treeT_ok n 22 _ _ _ (by simp) hn
  obtain ⟨l, rfl, hs⟩ := (conf_V n).2 x h3
  obtain ⟨a, b, c, rfl⟩ := okWide_slice und22p hv
  refine ⟨l, ?_, hs⟩
  have := h2.get 0 (by simp [AV.cells])
  simpa [Value.cells, AV.cells] using this
theorem int_cell {W : World} (h : W.ShapedOpen Tryz.prog) : ∃ n, W.cell? ⟨0, 0, none⟩ = some (.int .i64 n) :=
  cell_of_shapedOpen_int (t := 3) (zero := #[.int .i64 0]) h (by decide +kernel) (by kernel_rfl) rfl (by kernel_rfl) (by kernel_rfl) und3p

theorem globs {W : World} (h : W.ShapedOpen Tryz.prog) : GlobOk CC (Env.all W) :=
  ⟨fun g cs hc => (by cases hc), fun g hg => (by
    obtain rfl : g = 0 := by simpa [CX] using hg
    exact int_cell h), fun h => h.elim⟩

/-- A call of the seat that answers true answers true in every world. -/
theorem run_true {f : FuncId} {args : List AV} {W : World} {vs : Array Value} (hf : CC.real f = f) (hc : Call CC f args [] = some (.ok (.bool true), [])) (hS : W.ShapedOpen Tryz.prog) (hr : RepL (Env.all W) args vs) :
    Calls Tryz.prog f vs W fun e w' => e = .returned (.bool true) ∧ Below W.heap.size W w' := by
  obtain ⟨n, hn⟩ := Call_ex hc
  have h0 := (cc_calls n).run f args [] _ _ hn (Env.all W) W vs hr (globs hS) (Holds.all W)
  rw [hf] at h0
  refine h0.mono ?_
  rintro e w' ⟨E', hE, _, hret⟩
  cases e with
  | returned c =>
    refine ⟨by rw [Rep.inv_bool hret], hE.os, hE.tape, hE.output, hE.size, fun b hb => hE.keep b hb fun i p hp => ?_⟩
    cases hp
  | _ => exact hret.elim
end Go.Tv
