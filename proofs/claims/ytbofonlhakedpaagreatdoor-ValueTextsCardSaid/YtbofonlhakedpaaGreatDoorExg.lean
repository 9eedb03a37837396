/-
  What the functions of chapter 8 compute: members, sorted lists, subsets, joined lists.
-/
import Derived.Test.YtbofonlhakedpaaGreatDoorExa
import Derived.Test.YtbofonlhakedpaaGreatDoorPla
import Derived.Test.YtbofonlhakedpaaGreatDoorExe
import Derived.Test.YtbofonlhakedpaaGreatDoorExf
namespace Go.Tv
open Go.Proofs
set_option maxHeartbeats 4000000
def memB (l : List V) (v : V) : Bool := l.any fun x => decide (cmpV x v = 0)
theorem memB_drop (l : List V) (v : V) (i : Nat) (h : i < l.length) : memB (l.drop i) v = (decide (cmpV l[i] v = 0) || memB (l.drop (i + 1)) v) := by
  rw [List.drop_eq_getElem_cons h]; rfl
def IMem (l : List V) (v : V) (i : Nat) (t : List AV) (H : Heap) : Prop := i ≤ l.length /\ memB l v = memB (l.drop i) v /\ H = [.cells [.int .i64 v.kind, .int .i64 v.num, .str v.s, .list (avs v.keys) none, .list (avs v.items) none] 24] /\ Fit [some (.list (avs l) none), some (.agg [.int .i64 v.kind, .int .i64 v.num, .str v.s, .list (avs v.keys) none, .list (avs v.items) none]), none, some (.ptr 0 0), some (.bool false), some (.int .i64 i), none, none, none, none, none, none, none, none, none, none, none, none, none] t
theorem c114 (l : List V) (v : V) (H : Heap) (hc : cnts l ≤ 1000000000) : Call CC 114 [.list (avs l) none, v.av] H = some (.ok (.bool (memB l v)), H) := by
  have q6 := len_cnts l
  refine cwp (fn := Tryz.f114) rfl (by kernel_rfl) rfl rfl rfl rfl (by simp) rfl ?_ H
  simp [V.av_eq]
  refine st_iter (IMem l v) l.length ?_ ?_
  . simp [IMem]
  . rintro i t H ⟨hi, hd, rfl, ht⟩
    obtain ⟨d, rfl⟩ := ht.elim
    clear ht
    refine ⟨hi, ?_⟩
    simp
    cases hb : decide (i < l.length)
    . have hb' : i = l.length := by simp at hb; omega
      simp only [hd, hb', List.drop_length]; simp [memB]
    . have hb' : i < l.length := by simpa using hb
      have q5 := cnt_mem (List.getElem_mem hb')
      have g1 := fun H => c23 l[i] v H (by omega)
      rw [V.av_eq, V.av_eq] at g1
      have e1 := memB_drop l v i hb'
      have w1 := wrapI (i := i + 1) (by omega) (by omega)
      simp [hb', V.av_eq, g1]
      refine ⟨by kernel_rfl, ?_⟩
      cases he : decide (cmpV l[i] v = 0)
      . rw [he, Bool.false_or] at e1
        simp [w1, IMem, hd, e1]
        omega
      . rw [he, Bool.true_or] at e1
        simp [hd, e1]
def atU (v : V) : List V -> Nat
  | [] => 0
  | x :: r => if cmpV x v < 0 then atU v r + 1 else 0
theorem atU_le (v : V) : ∀ l, atU v l ≤ l.length
  | [] => Nat.le_refl _
  | x :: r => by
    have := atU_le v r
    simp only [atU]
    split <;> simp
    omega
theorem atU_lt (v : V) : ∀ (l : List V) (i : Nat) (h : i < l.length), i < atU v l -> cmpV l[i] v < 0
  | [], i, h, _ => by simp at h
  | x :: r, 0, _, h2 => by
    simp only [atU] at h2
    split at h2
    . assumption
    . omega
  | x :: r, i + 1, h, h2 => by
    simp only [atU] at h2
    split at h2
    . exact atU_lt v r i (by simpa using h) (by omega)
    . omega
theorem atU_ge (v : V) : ∀ (l : List V) (h : atU v l < l.length), ¬ cmpV l[atU v l] v < 0
  | [], h => by simp at h
  | x :: r, h => by
    by_cases hx : cmpV x v < 0
    . have e : atU v (x :: r) = atU v r + 1 := by simp only [atU, if_pos hx]
      have h' : atU v r < r.length := by rw [e] at h; simpa using h
      have := atU_ge v r h'
      simp only [e, List.getElem_cons_succ]; exact this
    . have e : atU v (x :: r) = 0 := by simp only [atU, if_neg hx]
      simp only [e, List.getElem_cons_zero]; exact hx
theorem insU_at (v : V) : ∀ l, insU v l = if h : atU v l < l.length then (if cmpV l[atU v l] v = 0 then l else l.take (atU v l) ++ [v] ++ l.drop (atU v l)) else l ++ [v]
  | [] => by simp [insU, atU]
  | x :: r => by
    have ih := insU_at v r
    by_cases hx : cmpV x v < 0
    . have e : atU v (x :: r) = atU v r + 1 := by simp only [atU, if_pos hx]
      rw [insU, if_pos hx, ih]
      by_cases h : atU v r < r.length
      . rw [dif_pos h, dif_pos (by rw [e]; simpa using h)]
        simp only [e, List.getElem_cons_succ, List.take_succ_cons, List.drop_succ_cons]
        split <;> rfl
      . rw [dif_neg h, dif_neg (by rw [e]; simpa using h)]; rfl
    . have e : atU v (x :: r) = 0 := by simp only [atU, if_neg hx]
      rw [insU, if_neg hx, dif_pos (by rw [e]; simp)]
      simp only [e, List.getElem_cons_zero, List.take_zero, List.drop_zero]
      rfl
def LV (l : List V) (tok : Nat) : AV := if l = [] then .empty else .list (avs l) (some tok)
def TokAt (H : Heap) (l : List V) (tok : Nat) : Prop := l ≠ [] -> H[tok]? = some (.tail l.length 5)
theorem lv_nil (tok : Nat) : LV [] tok = .empty := if_pos rfl
theorem lv_cons {l : List V} (h : l ≠ []) (tok : Nat) : LV l tok = .list (avs l) (some tok) := if_neg h
theorem avs_tk (l : List V) (k : Nat) : (avs l).take k = avs (l.take k) := by simp [avs_map]
theorem avs_dr (l : List V) (k : Nat) : (avs l).drop k = avs (l.drop k) := by simp [avs_map]
theorem avs_ones (l : List V) : (avs l).all (fun v => decide (v.cells.length = 5) && v.cells.all AV.one) = true := by
  rw [avs_map]; simp only [List.all_map, List.all_eq_true, Function.comp_apply, av_cells, decide_true, Bool.true_and]
  exact fun v _ => List.all_eq_true.1 (by rw [V.av_eq]; rfl)
def KC (H H' : Heap) : Prop := H.length ≤ H'.length /\ ∀ (j : Nat) (cs : List AV) (T : TypeId), H[j]? = some (AObj.cells cs T) -> H'[j]? = some (AObj.cells cs T)
theorem KC.refl (H : Heap) : KC H H := ⟨Nat.le_refl _, fun _ _ _ h => h⟩
theorem KC.app (H L : Heap) : KC H (H ++ L) := ⟨by simp, fun j cs T h => by rw [List.getElem?_append_left (List.getElem?_eq_some_iff.1 h).1]; exact h⟩
theorem TokAt.app {H : Heap} {l : List V} {tok : Nat} (h : TokAt H l tok) (L : Heap) : TokAt (H ++ L) l tok := fun hl => by rw [List.getElem?_append_left (List.getElem?_eq_some_iff.1 (h hl)).1]; exact h hl
theorem app_LVk (H : Heap) (a b : List V) (tok : Nat) (ht : TokAt H a tok) (hc : a.length + b.length ≤ 1000000000) :
    ∃ tok' H', aappB CC [22, 22] [LV a tok, .list (avs b) none] H = some (LV (a ++ b) tok', H') /\ TokAt H' (a ++ b) tok' /\ KC H H' := by
  have ob := avs_ones b
  have hlb := avs_len b
  by_cases hb : b = []
  . subst hb
    refine ⟨tok, H, ?_, by simpa using ht, KC.refl H⟩
    unfold LV
    by_cases ha : a = []
    . subst ha; simp [aappB, aappend, newsH, news, avs]
    . simp [ha, aappB, aappend, newsH, news, avs]
  obtain ⟨x, r, rfl⟩ : ∃ x r, b = x :: r := by cases b with | nil => exact absurd rfl hb | cons x r => exact ⟨x, r, rfl⟩
  have hne : a ++ x :: r ≠ [] := by simp
  by_cases ha : a = []
  . subst ha
    have r1 := room24 (x :: r).length (by simpa using hc)
    refine ⟨H.length, H ++ [.tail (x :: r).length 5], ?_, fun _ => by simp, KC.app _ _⟩
    rw [lv_nil, lv_cons hne]
    simp only [aappB, aappend, el22, int22, newsH, news, sz24, zero24]
    rw [if_pos ⟨rfl, by omega, rfl, ob⟩]
    simp only [avs, List.nil_append] at hlb ⊢
    simp only [hlb, r1, if_true, cc_arr, Bool.false_eq_true, if_false]
  . have r1 := room24 (a.length + (x :: r).length) hc
    have hta := ht ha
    have hal : a.length = (avs a).length := (avs_len a).symm
    have hkc : KC H (H.set tok .dead ++ [.tail (a.length + (x :: r).length) 5]) := ⟨by simp, fun j cs T h => by
      have hjt : tok ≠ j := fun e => by subst e; rw [hta] at h; cases h
      rw [List.getElem?_append_left (by simpa using (List.getElem?_eq_some_iff.1 h).1), List.getElem?_set_ne hjt]; exact h⟩
    refine ⟨H.length, H.set tok .dead ++ [.tail (a.length + (x :: r).length) 5], ?_, fun _ => by simp, hkc⟩
    rw [lv_cons ha, lv_cons hne, avs_append]
    simp only [aappB, aappend, el22, int22, newsH, news, sz24, zero24]
    rw [if_pos ⟨rfl, by omega, rfl, ob⟩]
    simp only [avs] at hlb ⊢
    simp only [hlb, hta]
    rw [if_pos ⟨hal, trivial, by rw [<- hal]; exact r1, avs_cells a⟩, <- hal]
theorem app_LV (H : Heap) (a b : List V) (tok : Nat) (ht : TokAt H a tok) (hc : a.length + b.length ≤ 1000000000) :
    ∃ tok' H', aappB CC [22, 22] [LV a tok, .list (avs b) none] H = some (LV (a ++ b) tok', H') /\ TokAt H' (a ++ b) tok' :=
  let ⟨t, H', h1, h2, _⟩ := app_LVk H a b tok ht hc; ⟨t, H', h1, h2⟩
def srtN (l : List V) (i : Nat) : List V := srtU (l.take i)
theorem srtN_succ (l : List V) (i : Nat) (h : i < l.length) : srtN l (i + 1) = insU l[i] (srtN l i) := by
  unfold srtN srtU; rw [take_succ l i h, List.foldl_append]; rfl
theorem srtN_cnt (l : List V) (i : Nat) : cnts (srtN l i) ≤ cnts l := Nat.le_trans (cnts_srtU _) (cnts_take_le l i)
def ISrt (l : List V) (i : Nat) (t : List AV) (_H : Heap) : Prop := ∃ tok, i ≤ l.length /\ Fit [some (.list (avs l) none), none, some (.empty), some (LV (srtN l i) tok), some (.int .i64 i), none, none, none, none, none, none, none, none, none, none, none, none, none, none, none, none, none, none, none, none, none, none, none, none, none, none, none, none, none, none, none, none, none, none, none, none, none, none, none, none, none, none, none, none, none, none, none, none, none, none, none, none, none, none, none, none, none, none, none, none] t
def IAt (l o : List V) (v : V) (tok i : Nat) (k : Nat) (t : List AV) (_H : Heap) : Prop := k ≤ atU v o /\ Fit [some (.list (avs l) none), none, some (.empty), some (.list (avs o) (some tok)), some (.int .i64 i), some (.int .i64 k), none, none, none, none, none, none, none, none, none, none, none, none, none, none, none, none, none, none, none, none, none, none, none, none, none, none, none, none, none, none, none, none, none, none, none, none, none, none, none, none, none, none, none, none, none, none, none, none, none, none, none, none, none, none, none, none, none, none, none] t
def IAt0 (l : List V) (i : Nat) (H0 : Heap) (k : Nat) (t : List AV) (H : Heap) : Prop := k = 0 /\ H = H0 /\ Fit [some (.list (avs l) none), none, some (.empty), some (.empty), some (.int .i64 i), some (.int .i64 0), none, none, none, none, none, none, none, none, none, none, none, none, none, none, none, none, none, none, none, none, none, none, none, none, none, none, none, none, none, none, none, none, none, none, none, none, none, none, none, none, none, none, none, none, none, none, none, none, none, none, none, none, none, none, none, none, none, none, none] t
set_option maxHeartbeats 2000000 in
theorem c103 (l : List V) (H : Heap) (hc : cnts l ≤ 100000000) : Call CC 103 [.list (avs l) none] H = some (.ok (.list (avs (srtU l)) none), H) := by
  have q6 := len_cnts l
  refine cwp (fn := Tryz.f103) rfl (by kernel_rfl) rfl rfl rfl rfl (by simp) (by simp) ?_ H
  simp
  refine st_iter (ISrt l) l.length ?_ ?_
  . exact ⟨0, by omega, by simp [srtN, srtU, lv_nil]⟩
  . rintro i t H ⟨tok, hi, ht⟩
    obtain ⟨d, rfl⟩ := ht.elim
    clear ht
    refine ⟨hi, ?_⟩
    simp
    cases hb : decide (i < l.length)
    . have hb' : i = l.length := by simp at hb; omega
      have hs : srtN l i = srtU l := by rw [hb', srtN, List.take_length]
      simp [hs]
      unfold LV
      split
      . rename_i h; rw [h]; simp [avs]
      . simp
    . have hb' : i < l.length := by simpa using hb
      have e1 := srtN_succ l i hb'
      have q7 := srtN_cnt l i
      have q8 := len_cnts (srtN l i)
      have w1 := wrapI (i := i + 1) (by omega) (by omega)
      generalize srtN l i = o at *
      generalize hv : l[i] = v at *
      simp
      have fin : ∀ (k : Nat) (H : Heap), k ≤ o.length -> insU v o = o.take k ++ [v] ++ o.drop k -> ∃ t1 H1 t2 H2 t3 H3, aappB CC [22, 22] [.empty, .list (avs (o.take k)) none] H = some (LV (o.take k) t1, H1) /\ aappB CC [22, 22] [LV (o.take k) t1, .list [v.av] none] H1 = some (LV (o.take k ++ [v]) t2, H2) /\
          aappB CC [22, 22] [LV (o.take k ++ [v]) t2, .list (avs (o.drop k)) none] H2 = some (LV (srtN l (i + 1)) t3, H3) := fun k H hk hins => by
        obtain ⟨t1, H1, a1, h1⟩ := app_LV H [] (o.take k) 0 (fun h => absurd rfl h) (by simp; omega)
        rw [List.nil_append, lv_nil] at a1
        rw [List.nil_append] at h1
        obtain ⟨t2, H2, a2, h2⟩ := app_LV H1 (o.take k) [v] t1 h1 (by simp; omega)
        obtain ⟨t3, H3, a3, h3⟩ := app_LV H2 (o.take k ++ [v]) (o.drop k) t2 h2 (by simp; omega)
        rw [<- hins, <- e1] at a3
        exact ⟨t1, H1, t2, H2, t3, H3, a1, a2, a3⟩
      by_cases ho : o = []
      . subst ho
        simp [lv_nil]
        refine st_iter (IAt0 l i H) 0 ?_ ?_
        . exact ⟨rfl, rfl, by simp⟩
        . rintro k t H2 ⟨rfl, rfl, ht⟩
          obtain ⟨d, rfl⟩ := ht.elim
          clear ht
          refine ⟨Nat.le_refl _, ?_⟩
          have r1 := room24 1 (by omega)
          simp [hb', hv, V.av_eq, bnd, r1, w1]
          refine ⟨by kernel_rfl, by kernel_rfl, ?_⟩
          refine ⟨H2.length, by omega, ?_⟩
          rw [e1]
          simp [insU, LV, avs, V.av_eq]
      . rw [lv_cons ho]
        have q9 := List.length_pos_iff.2 ho
        have hat := atU_le v o
        refine st_iter (IAt l o v tok i) (atU v o) ?_ ?_
        . exact ⟨Nat.zero_le _, by simp⟩
        . rintro k t H2 ⟨hk, ht⟩
          obtain ⟨d, rfl⟩ := ht.elim
          clear ht
          refine ⟨hk, ?_⟩
          simp
          cases hb2 : decide (k < o.length)
          . have hb2' : k = o.length := by simp at hb2; omega
            have hins : insU v o = o.take k ++ [v] ++ o.drop k := by rw [insU_at, dif_neg (by omega), hb2', List.take_length, List.drop_length, List.append_nil]
            obtain ⟨t1, H1, t2, H2, t3, H3, a1, a2, a3⟩ := fin k H2 (by omega) hins
            have hlt : ¬ k < o.length := by omega
            have hle : k ≤ o.length := by omega
            rw [V.av_eq] at a2
            simp [-aappB, hlt, hle, hb', hv, V.av_eq, bnd, avs_tk, avs_dr, a1, a2, a3, w1]
            refine ⟨by kernel_rfl, by kernel_rfl, ?_⟩
            exact ⟨t3, by omega, by simp⟩
          . have hb2' : k < o.length := by simpa using hb2
            have q5 := cnt_mem (List.getElem_mem hb2')
            have g1 := fun H => c23 o[k] v H (by omega)
            rw [V.av_eq, V.av_eq] at g1
            have w2 := wrapI (i := k + 1) (by omega) (by omega)
            simp [-aappB, hb2', hb', hv, V.av_eq, g1]
            refine ⟨by kernel_rfl, ?_⟩
            cases hlt : decide (cmpV o[k] v < 0)
            . have hlt' : ¬ cmpV o[k] v < 0 := by simpa using hlt
              have hka : k = atU v o := by
                rcases Nat.lt_or_ge k (atU v o) with h | h
                . exact absurd (atU_lt v o k hb2' h) hlt'
                . omega
              simp [-aappB, hb2', hb', hv, V.av_eq, g1]
              refine ⟨by kernel_rfl, ?_⟩
              cases heq : decide (cmpV o[k] v = 0)
              . have heq' : ¬ cmpV o[k] v = 0 := by simpa using heq
                have hins : insU v o = o.take k ++ [v] ++ o.drop k := by
                  have := insU_at v o
                  rw [dif_pos (by omega)] at this
                  simp only [<- hka] at this
                  rw [if_neg heq'] at this; exact this
                obtain ⟨t1, H1, t2, H2, t3, H3, a1, a2, a3⟩ := fin k H2 (by omega) hins
                rw [V.av_eq] at a2
                have hle : k ≤ o.length := by omega
                simp [-aappB, hle, hb', hv, V.av_eq, bnd, avs_tk, avs_dr, a1, a2, a3, w1]
                exact ⟨t3, by omega, by simp⟩
              . have heq' : cmpV o[k] v = 0 := by simpa using heq
                have hins : insU v o = o := by
                  have := insU_at v o
                  rw [dif_pos (by omega)] at this
                  simp only [<- hka] at this
                  rw [if_pos heq'] at this; exact this
                rw [hins] at e1
                simp [w1]
                refine ⟨tok, by omega, ?_⟩
                rw [e1, lv_cons ho]
                simp
            . have hlt' : cmpV o[k] v < 0 := by simpa using hlt
              have hka : k + 1 ≤ atU v o := by
                rcases Nat.lt_or_ge k (atU v o) with h | h
                . omega
                . have hka : k = atU v o := by omega
                  have := atU_ge v o (by omega)
                  simp only [<- hka] at this
                  exact absurd hlt' this
              simp [w2, IAt]
              exact hka
end Go.Tv
namespace Go.Tv
open Go.Proofs
set_option maxHeartbeats 4000000
end Go.Tv
namespace Go.Tv
open Go.Proofs
set_option maxHeartbeats 4000000
theorem reach1o {pb : Nat} {o : AObj} {H : Heap} (h : H[pb]? = some o) (hd : o ≠ .dead) (ho : o.ids = []) (args : List AV) (ha : idsL args = [pb]) :
    reachL H args = [pb] /\ (closed H [pb] && (idsL args).all [pb].contains) = true := by
  constructor
  . unfold reachL
    rw [ha]
    simp [reach, h, ho]
  . rw [ha]
    cases o with
    | dead => exact absurd rfl hd
    | _ => simp [closed, h, ho]
abbrev boxV (v : V) : AObj := .cells [.int .i64 v.kind, .int .i64 v.num, .str v.s, .list (avs v.keys) none, .list (avs v.items) none] 24
end Go.Tv
namespace Go.Tv
open Go.Proofs
set_option maxHeartbeats 4000000
end Go.Tv
namespace Go.Tv
open Go.Proofs
set_option maxHeartbeats 4000000
def rightB (v : V) (e : Int) (want : V) (c : Int) : Bool := if c ≠ 0 then decide (e = c) && decide (cmpV v zeroV = 0) else decide (e = 0) && v.small 300 8 && decide (cmpV v want = 0)
theorem c20 (v : V) (e : Int) (want : V) (c : Int) (H : Heap) (h : v.cnt ≤ 1000000000) : Call CC 20 [v.av, .int .i64 e, want.av, .int .i64 c] H = some (.ok (.bool (rightB v e want c)), H) := by
  have g1 := fun H => c35 v H h
  have g2 := fun H => c28 v H
  have g3 := fun H => c21 v want H h
  rw [V.av_eq] at g1 g2
  rw [V.av_eq, V.av_eq] at g3
  refine cwp (fn := Tryz.f20) rfl (by kernel_rfl) rfl rfl rfl rfl (by simp) rfl ?_ H
  unfold rightB
  by_cases hc : c = 0
  . subst hc
    by_cases he : e = 0
    . cases hs : v.small 300 8
      . simp [V.av_eq, g2, he, hs]
      . simp [V.av_eq, g2, g3, he, hs]
    . simp [V.av_eq, he]
  . by_cases he : e = c
    . simp [V.av_eq, g1, he, hc]
    . simp [V.av_eq, he, hc]
end Go.Tv
