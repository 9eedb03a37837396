/-
  What the functions of chapter 8 compute: copies, results, shapes.
-/
import Derived.Test.YtbofonlhakedpaaGreatDoorExd
namespace Go.Tv
open Go.Proofs
def fstV (p : V -> Bool) : List V -> Int -> Int
  | [], _ => -1
  | v :: r, i => if p v then i else fstV p r (i + 1)
theorem fstV_drop (p : V -> Bool) (l : List V) (i : Nat) (h : i < l.length) (k : Int) : fstV p (l.drop i) k = if p l[i] then k else fstV p (l.drop (i + 1)) (k + 1) := by
  rw [List.drop_eq_getElem_cons h, fstV]
theorem fstV_any (p : V -> Bool) : ∀ (l : List V) (i : Int), 0 ≤ i -> decide (0 ≤ fstV p l i) = l.any p
  | [], i, h => by simp [fstV]
  | b :: r, i, h => by
    have := fstV_any p r (i + 1) (by omega)
    by_cases hp : p b = true
    . have e : fstV p (b :: r) i = i := by rw [fstV, if_pos hp]
      rw [e, List.any_cons, hp]; simpa using h
    . have e : fstV p (b :: r) i = fstV p r (i + 1) := by rw [fstV, if_neg hp]
      rw [e, List.any_cons, this]; simp [hp]
def IIdxV (l : List V) (g : Nat) (p : V -> Bool) (i : Nat) (t : List AV) (_H : Heap) : Prop := i ≤ l.length /\ fstV p l 0 = fstV p (l.drop i) i /\ Fit [some (.list (avs l) none), some (.fn (.func g) [] []), none, none, some (.int .i64 0), none, some (.list (avs l) none), some (.int .i64 l.length), some (.int .i64 i), none, none, none, none, none, none, none, none, none, none] t
theorem c182 (g : Nat) (hg : extF g = none /\ g < 10000) (p : V -> Bool) (l : List V) (hp : ∀ v ∈ l, ∀ H, Call CC g [v.av] H = some (.ok (.bool (p v)), H)) (H : Heap) (hc : cnts l ≤ 1000000000) :
    Call CC 182 [.list (avs l) none, .fn (.func g) [] []] H = some (.ok (.int .i64 (fstV p l 0)), H) := by
  have hx : CC.ext g = none := hg.1
  have hal : g < 10000 := hg.2
  have q6 := len_cnts l
  refine cwp (fn := Tryz.f182) rfl (by kernel_rfl) rfl rfl rfl rfl (by simp) rfl ?_ H
  simp [-cc_ext, -extF]
  refine st_iter (IIdxV l g p) l.length ?_ ?_
  . simp [IIdxV]
  . rintro i t H ⟨hi, hd, ht⟩
    obtain ⟨d, rfl⟩ := ht.elim
    clear ht
    refine ⟨hi, ?_⟩
    simp [-cc_ext, -extF]
    cases hb : decide (i < l.length)
    . have hb' : i = l.length := by simp at hb; omega
      simp [hd, hb', fstV]
    . have hb' : i < l.length := by simpa using hb
      have e1 := fstV_drop p l i hb' i
      have w1 := wrapI (i := i + 1) (by omega) (by omega)
      have g1 := hp l[i] (List.getElem_mem hb')
      rw [V.av_eq] at g1
      simp [-cc_ext, -extF, hb', V.av_eq, g1, hx, hal]
      cases he : p l[i]
      . rw [if_neg (by simp [he])] at e1
        simp [w1, IIdxV, hd, e1]
        omega
      . rw [if_pos he] at e1
        simp [hd, e1]
theorem c111 (g : Nat) (hg : extF g = none /\ g < 10000) (p : V -> Bool) (l : List V) (hp : ∀ v ∈ l, ∀ H, Call CC g [v.av] H = some (.ok (.bool (p v)), H)) (H : Heap) (hc : cnts l ≤ 1000000000) :
    Call CC 111 [.list (avs l) none, .fn (.func g) [] []] H = some (.ok (.bool (l.any p)), H) := by
  have g1 := fun H => c182 g hg p l hp H hc
  have e := fstV_any p l 0 (by omega)
  refine cwp (fn := Tryz.f111) rfl (by kernel_rfl) rfl rfl rfl rfl (by simp) rfl ?_ H
  rw [<- e]
  simp [g1]
structure KeepA (H H' : Heap) : Prop where
  len : H.length ≤ H'.length
  get : ∀ j, j < H.length -> H'[j]? = H[j]?
end Go.Tv
namespace Go.Tv
open Go.Proofs
def OwV (v : V) : Prop := ∀ (H : Heap), v.cnt ≤ 1000000000 -> Call CC 116 [v.av] H = some (.ok v.av, H)
def OwAt (l : List V) : Prop := ∀ (H : Heap), cnts l ≤ 1000000000 -> Call CC 97 [.list (avs l) none] H = some (.ok (.list (avs l) none), H)
def IOw (l : List V) (tok : Nat) (i : Nat) (t : List AV) (H : Heap) : Prop := i ≤ l.length /\ (i ≠ 0 -> H[tok]? = some (.tail i 5)) /\ Fit [some (.list (avs l) none), none, some (.empty), some (if i = 0 then .empty else .list (avs (l.take i)) (some tok)), none, none, some (.list (avs l) none), some (.int .i64 l.length), some (.int .i64 i), none, none, none, none, none, none, none, none, none, none] t
theorem ow_of (l : List V) (h : ∀ v ∈ l, OwV v) : OwAt l := by
  intro H hc
  have q6 := len_cnts l
  refine cwp (fn := Tryz.f97) rfl (by kernel_rfl) rfl rfl rfl rfl (by simp) (by simp) ?_ H
  simp
  refine st_iter (fun i t H => ∃ tok, IOw l tok i t H) l.length ?_ ?_
  . exact ⟨0, by simp [IOw]⟩
  . rintro i t H ⟨tok, hi, htok, ht⟩
    obtain ⟨d, rfl⟩ := ht.elim
    clear ht
    refine ⟨hi, ?_⟩
    simp
    cases hb : decide (i < l.length)
    . have hb' : i = l.length := by simp at hb; omega
      simp [hb']
      split <;> simp_all [avs]
    . have hb' : i < l.length := by simpa using hb
      have q1 := cnt_mem (List.getElem_mem hb')
      have g1 := fun H => h l[i] (List.getElem_mem hb') H (by omega)
      rw [V.av_eq] at g1
      have w1 := wrapI (i := i + 1) (by omega) (by omega)
      have r1 := room24 1 (by omega)
      have r2 := room24 (i + 1) (by omega)
      have ha := avs_take l i hb'
      rw [V.av_eq] at ha
      by_cases hz : i = 0
      . rw [if_pos hz]
        simp [hb', V.av_eq, g1, r1, w1]
        refine ⟨H.length + 1, ?_⟩
        simp [IOw, ha]
        simp [hz, avs]
        omega
      . have ht2 := htok hz
        have hm : min i l.length = i := Nat.min_eq_left hi
        have ht3 := app_get ht2
        rw [if_neg hz]
        simp [hb', V.av_eq, g1, r2, w1, ht3, hm]
        refine ⟨H.length + 1, ?_⟩
        simp [IOw, ha]
        omega
theorem owV_of (v : V) (hk : OwAt v.keys) (hi : OwAt v.items) : OwV v := by
  intro H hc
  have q1 := cnt_keys v
  have q2 := cnt_items v
  have g1 := fun H => hk H (by omega)
  have g2 := fun H => hi H (by omega)
  refine cwp (fn := Tryz.f116) rfl (by kernel_rfl) rfl rfl rfl rfl (by simp) (by simp) ?_ H
  simp [V.av_eq, g1, g2]
  refine (?_ : drawE _ _ _ = true)
  kernel_rfl
theorem ow_all (v : V) : OwV v := V.ind (P := OwV) (fun v h1 h2 => owV_of v (ow_of _ h1) (ow_of _ h2)) v
theorem c116 (v : V) (H : Heap) (h : v.cnt ≤ 1000000000) : Call CC 116 [v.av] H = some (.ok v.av, H) := ow_all v H h
noncomputable def fv24 : Array Field := match CC.P.underlying 24 with | some (.struct fs) => fs | _ => #[]
theorem undv24 : CC.P.underlying 24 = some (.struct fv24) := by kernel_rfl
theorem fv24_all0 : fv24.toList.all (fun f => (CC.P.info? f.type).isSome) = true := by kernel_rfl
theorem fv24_all : ∀ (i : Nat) (x : i < fv24.size), (CC.P.info? fv24[i].type).isSome = true := fun i x => List.all_eq_true.1 fv24_all0 _ (by simp)
theorem fv24_0 : fv24[0]? = some (fld 24 0) := by kernel_rfl
theorem fv24_1 : fv24[1]? = some (fld 24 1) := by kernel_rfl
theorem fv24_2 : fv24[2]? = some (fld 24 2) := by kernel_rfl
theorem fv24_3 : fv24[3]? = some (fld 24 3) := by kernel_rfl
theorem fv24_4 : fv24[4]? = some (fld 24 4) := by kernel_rfl
def zeroV : V := .mk 0 0 [] [] []
theorem zeroV_av : zeroV.av = .agg [.int .i64 0, .int .i64 0, .str [], .list [] none, .list [] none] := rfl
def resE (v : V) (e : Int) : Int := if e = 0 then (if v.small 300 8 then 0 else 2) else e
theorem c98 (v : V) (e : Int) (H : Heap) (h : v.cnt ≤ 1000000000) : Call CC 98 [v.av, .int .i64 e] H = some (.ok (.tup [(if resE v e = 0 then v.av else zeroV.av), .int .i64 (resE v e)]), H) := by
  have g1 := fun H => c72 v H h
  have g2 := fun H => c116 v H h
  rw [V.av_eq] at g1 g2
  rw [zeroV_av, V.av_eq]
  refine cwp (fn := Tryz.f98) rfl (by kernel_rfl) rfl rfl rfl rfl (by simp) (by simp; split <;> simp) ?_ H
  by_cases he : e = 0
  . cases hs : v.small 300 8
    . simp [resE, he, hs, g1, undv24, fv24_all]
    . simp [resE, he, hs, g1, g2]
  . simp [resE, he, undv24, fv24_all]
end Go.Tv
namespace Go.Tv
open Go.Proofs
def intV (n : Int) : V := .mk 1 n [] [] []
def setV (l : List V) : V := .mk 4 0 [] [] l
theorem intV_av (n : Int) : (intV n).av = .agg [.int .i64 1, .int .i64 n, .str [], .list [] none, .list [] none] := rfl
theorem setV_av (l : List V) : (setV l).av = .agg [.int .i64 4, .int .i64 0, .str [], .list [] none, .list (avs l) none] := rfl
theorem c69 (n : Int) (H : Heap) : Call CC 69 [.int .i64 n] H = some (.ok (intV n).av, H) := by
  refine cwp (fn := Tryz.f69) rfl (by kernel_rfl) rfl rfl rfl rfl (by simp) (by simp) ?_ H
  simp [undv24, fv24_all, fv24_0, fv24_1, intV_av]
theorem c38 (l : List V) (H : Heap) : Call CC 38 [.list (avs l) none] H = some (.ok (setV l).av, H) := by
  refine cwp (fn := Tryz.f38) rfl (by kernel_rfl) rfl rfl rfl rfl (by simp) (by simp) ?_ H
  simp [undv24, fv24_all, fv24_0, fv24_4, setV_av]
theorem c35 (v : V) (H : Heap) (h : v.cnt ≤ 1000000000) : Call CC 35 [v.av] H = some (.ok (.bool (decide (cmpV v zeroV = 0))), H) := by
  have g := fun H => c21 v zeroV H h
  rw [V.av_eq v, zeroV_av] at g
  refine cwp (fn := Tryz.f35) rfl (by kernel_rfl) rfl rfl rfl rfl (by simp) rfl ?_ H
  simp [V.av_eq, undv24, fv24_all, g]
def tupL : List V -> Int -> Bool
  | [], _ => true
  | k :: r, i => (decide (k.kind = 1) && decide (k.num = i + 1)) && tupL r (i + 1)
theorem tupL_drop (l : List V) (i : Nat) (h : i < l.length) (k : Int) : tupL (l.drop i) k = ((decide (l[i].kind = 1) && decide (l[i].num = k + 1)) && tupL (l.drop (i + 1)) (k + 1)) := by
  rw [List.drop_eq_getElem_cons h, tupL]
def ITup (v : V) (i : Nat) (t : List AV) (_H : Heap) : Prop := i ≤ v.keys.length /\ tupL v.keys 0 = tupL (v.keys.drop i) i /\ Fit [some (.agg [.int .i64 v.kind, .int .i64 v.num, .str v.s, .list (avs v.keys) none, .list (avs v.items) none]), some (.ptr 0 0), some (.bool false), none, none, none, none, none, none, some (.list (avs v.keys) none), some (.int .i64 v.keys.length), some (.int .i64 i), none, none, none, none, none, none, none, none, none, none, none, none, none, none, none] t
theorem c117 (v : V) (H : Heap) (hc : v.cnt ≤ 1000000000) : Call CC 117 [v.av] H = some (.ok (.bool (decide (v.kind = 5) && tupL v.keys 0)), H) := by
  have q1 := cnt_keys v
  have q6 := len_cnts v.keys
  refine cwp (fn := Tryz.f117) rfl (by kernel_rfl) rfl rfl rfl rfl (by simp) rfl ?_ H
  by_cases hk : v.kind = 5
  . have hk' : v.kind = 5 := hk
    simp [V.av_eq, hk]
    refine st_iter (ITup v) v.keys.length ?_ ?_
    . simp [ITup, hk]
    . rintro i t H ⟨hi, hd, ht⟩
      obtain ⟨d, rfl⟩ := ht.elim
      clear ht
      refine ⟨hi, ?_⟩
      simp
      cases hb : decide (i < v.keys.length)
      . have hb' : i = v.keys.length := by simp at hb; omega
        have hd' : tupL v.keys 0 = true := by rw [hd, hb', List.drop_length]; rfl
        simp [hd']
      . have hb' : i < v.keys.length := by simpa using hb
        have e1 := tupL_drop v.keys i hb' i
        have w1 := wrapI (i := i + 1) (by omega) (by omega)
        simp [hb', V.av_eq]
        by_cases h1 : v.keys[i].kind = 1
        . by_cases h2 : v.keys[i].num = i + 1
          . rw [decide_eq_true h1, decide_eq_true h2] at e1
            simp [h1, h2, w1, ITup, hd, e1]
            omega
          . rw [decide_eq_false h2] at e1
            simp [h1, h2, w1, hd, e1]
        . rw [decide_eq_false h1] at e1
          simp [h1, hd, e1]
  . simp [V.av_eq, hk]
def recK (k : V) : Bool := decide (k.kind = 2) && nameB k.s
theorem c167 (v : V) (H : Heap) (hs : v.s.length ≤ 9223372036854775807) : Call CC 167 [v.av] H = some (.ok (.bool (!recK v)), H) := by
  have g1 := fun H => c133 v.s H hs
  refine cwp (fn := Tryz.f167) rfl (by kernel_rfl) rfl rfl rfl rfl (by simp) rfl ?_ H
  unfold recK
  by_cases h : v.kind = 2
  . simp [V.av_eq, h, g1]
  . simp [V.av_eq, h]
def shapeF (v : V) : Int := if v.kind = 5 then (if tupL v.keys 0 then 1 else if v.keys.all recK then 2 else 3) else 0
theorem any_not_all (p : V -> Bool) (l : List V) : (l.any fun v => !p v) = !(l.all p) := by
  induction l with
  | nil => rfl
  | cons a r ih => simp only [List.any_cons, List.all_cons, ih, Bool.not_and]
theorem c95 (v : V) (H : Heap) (hs : v.str) (hc : v.cnt ≤ 1000000000) : Call CC 95 [v.av] H = some (.ok (.int .i64 (shapeF v)), H) := by
  have q1 := cnt_keys v
  rw [V.str_eq] at hs
  have g1 := fun H => c117 v H hc
  have g2 := fun H => c111 167 ⟨rfl, by decide⟩ (fun k => !recK k) v.keys (fun k hk H => c167 k H ((V.str_eq k).1 (str_mem hs.2.1 k hk)).1) H (by omega)
  rw [V.av_eq] at g1
  rw [any_not_all] at g2
  refine cwp (fn := Tryz.f95) rfl (by kernel_rfl) rfl rfl rfl rfl (by simp) rfl ?_ H
  unfold shapeF
  by_cases h : v.kind = 5
  . rw [decide_eq_true h, Bool.true_and, h] at g1
    simp [V.av_eq, h, g1, -List.all_eq_true]
    cases ht : tupL v.keys 0
    . simp [g2, -List.all_eq_true]
      cases ha : v.keys.all recK
      . simp
      . simp
    . simp
  . simp [V.av_eq, h]
def eqtP (l : List V) (i : Nat) : Bool := (List.range i).all fun j => decide (cmpV (l.getD j zeroV) (intV (j + 1)) = 0)
theorem eqtP_succ (l : List V) (i : Nat) (h : i < l.length) : eqtP l (i + 1) = (eqtP l i && decide (cmpV l[i] (intV (i + 1)) = 0)) := by
  unfold eqtP
  rw [List.range_succ, List.all_append]
  simp [h]
def recP (l : List V) (i : Nat) : Bool := decide (0 < l.length) && (l.take i).all recK
theorem recP_succ (l : List V) (i : Nat) (h : i < l.length) : recP l (i + 1) = (recP l i && recK l[i]) := by
  unfold recP
  rw [take_succ l i h, List.all_append]
  simp [Bool.and_assoc]
def shapeR (v : V) : Int := if v.kind = 5 then (if eqtP v.keys v.keys.length then 1 else if recP v.keys v.keys.length then 2 else 3) else 0
def IShp (v : V) (i : Nat) (t : List AV) (H : Heap) : Prop := i ≤ v.keys.length /\ H = [.cells [.int .i64 v.kind, .int .i64 v.num, .str v.s, .list (avs v.keys) none, .list (avs v.items) none] 24] /\ Fit [some (.agg [.int .i64 v.kind, .int .i64 v.num, .str v.s, .list (avs v.keys) none, .list (avs v.items) none]), some (.ptr 0 0), some (.int .i64 0), some (.bool (eqtP v.keys i)), some (.bool (recP v.keys i)), some (.int .i64 i), none, none, none, none, none, none, none, none, none, none, none, none, none, none, none, none, none, none, none, none, none, none, none, none, none, none, none, none, none, none, none, none, none, none, none, none, none, none, none, none, none, none, none, none, none, none, none] t
set_option maxRecDepth 100000 in
set_option maxHeartbeats 4000000 in
theorem c36 (v : V) (H : Heap) (hs : v.str) (hc : v.cnt ≤ 1000000000) : Call CC 36 [v.av] H = some (.ok (.int .i64 (shapeR v)), H) := by
  have q1 := cnt_keys v
  have q6 := len_cnts v.keys
  rw [V.str_eq] at hs
  refine cwp (fn := Tryz.f36) rfl (by kernel_rfl) rfl rfl rfl rfl (by simp) rfl ?_ H
  unfold shapeR
  by_cases hk : v.kind = 5
  . simp [V.av_eq, hk]
    refine ⟨by kernel_rfl, ?_⟩
    refine st_iter (IShp v) v.keys.length ?_ ?_
    . simp [IShp, hk, eqtP, recP]
    . rintro i t H ⟨hi, rfl, ht⟩
      obtain ⟨d, rfl⟩ := ht.elim
      clear ht
      refine ⟨hi, ?_⟩
      simp
      cases hb : decide (i < v.keys.length)
      . have hb' : i = v.keys.length := by simp at hb; omega
        simp
        cases h1 : eqtP v.keys i
        . simp
          cases h2 : recP v.keys i
          . simp [<- hb', h1, h2]
          . simp [<- hb', h1, h2]
        . simp [<- hb', h1]
      . have hb' : i < v.keys.length := by simpa using hb
        have e1 := eqtP_succ v.keys i hb'
        have e2 := recP_succ v.keys i hb'
        have q5 := cnt_mem (List.getElem_mem hb')
        have w1 := wrapI (i := i + 1) (by omega) (by omega)
        have g1 := fun H => c69 (i + 1) H
        have g2 := fun H => c21 v.keys[i] (intV (i + 1)) H (by omega)
        have g3 := fun H => c99 v.keys[i].s H ((V.str_eq _).1 (str_mem hs.2.1 _ (List.getElem_mem hb'))).1
        rw [intV_av] at g1
        rw [V.av_eq v.keys[i], intV_av] at g2
        simp
        cases h1 : eqtP v.keys i <;> cases h2 : recP v.keys i <;> rw [h1] at e1 <;> rw [h2] at e2
        . simp [w1, IShp, e1, e2]
          refine ⟨by kernel_rfl, by omega⟩
        . simp [hb', V.av_eq]
          refine ⟨by kernel_rfl, ?_⟩
          by_cases h3 : v.keys[i].kind = 2
          . have e3 : recK v.keys[i] = nameB v.keys[i].s := by unfold recK; rw [decide_eq_true h3]; rfl
            simp [hb', V.av_eq, w1, h3, g3, IShp, e1, e2, e3]
            omega
          . have e3 : recK v.keys[i] = false := by unfold recK; rw [decide_eq_false h3]; rfl
            simp [w1, h3, IShp, e1, e2, e3]
            omega
        . simp [hb', V.av_eq, w1, g1, g2, IShp, e1, e2]
          refine ⟨by kernel_rfl, by omega⟩
        . simp [hb', V.av_eq, w1, g1, g2]
          refine ⟨by kernel_rfl, ?_⟩
          by_cases h3 : v.keys[i].kind = 2
          . have e3 : recK v.keys[i] = nameB v.keys[i].s := by unfold recK; rw [decide_eq_true h3]; rfl
            simp [hb', V.av_eq, w1, h3, g3, IShp, e1, e2, e3]
            omega
          . have e3 : recK v.keys[i] = false := by unfold recK; rw [decide_eq_false h3]; rfl
            simp [w1, h3, IShp, e1, e2, e3]
            omega
  . simp [V.av_eq, hk]
end Go.Tv
