/-
  What the functions of chapter 8 compute: members, sorted lists, subsets, joined lists.
-/
import Derived.Test.YtbofonlhakedpaaGreatDoorExa
import Derived.Test.YtbofonlhakedpaaGreatDoorPla
import Derived.Test.YtbofonlhakedpaaGreatDoorExe
import Derived.Test.YtbofonlhakedpaaGreatDoorExf
/- Member and Sorted of the reference. -/
namespace Go.Tv
open Go.Proofs
set_option maxHeartbeats 4000000
def memB (l : List V) (v : V) : Bool := l.any fun x => decide (cmpV x v = 0)
theorem memB_iff (l : List V) (v : V) : memB l v = true ↔ v ∈ l := by
  simp only [memB, List.any_eq_true, decide_eq_true_eq, cmpV_eq]
  constructor
  · rintro ⟨x, hx, rfl⟩; exact hx
  · intro h; exact ⟨v, h, rfl⟩
theorem memB_drop (l : List V) (v : V) (i : Nat) (h : i < l.length) : memB (l.drop i) v = (decide (cmpV l[i] v = 0) || memB (l.drop (i + 1)) v) := by
  rw [List.drop_eq_getElem_cons h]; rfl
def IMem (l : List V) (v : V) (i : Nat) (t : List AV) (H : Heap) : Prop := i ≤ l.length ∧ memB l v = memB (l.drop i) v ∧ H = [.cells [.int .i64 v.kind, .int .i64 v.num, .str v.s, .list (avs v.keys) none, .list (avs v.items) none] 24] ∧ Fit [some (.list (avs l) none), some (.agg [.int .i64 v.kind, .int .i64 v.num, .str v.s, .list (avs v.keys) none, .list (avs v.items) none]), none, some (.ptr 0 0), some (.bool false), some (.int .i64 i), none, none, none, none, none, none, none, none, none, none, none, none, none] t
theorem c114 (l : List V) (v : V) (H : Heap) (hc : cnts l ≤ 1000000000) : Call CC 114 [.list (avs l) none, v.av] H = some (.ok (.bool (memB l v)), H) := by
  have q6 := len_cnts l
  refine cwp (fn := Tryz.f114) rfl (by kernel_rfl) rfl rfl rfl rfl (by simp) rfl ?_ H
  simp [V.av_eq]
  refine st_iter (IMem l v) l.length ?_ ?_
  · simp [IMem]
  · rintro i t H ⟨hi, hd, rfl, ht⟩
    obtain ⟨d, rfl⟩ := ht.elim
    clear ht
    refine ⟨hi, ?_⟩
    simp
    cases hb : decide (i < l.length)
    · have hb' : i = l.length := by simp at hb; omega
      simp only [hd, hb', List.drop_length]; simp [memB]
    · have hb' : i < l.length := by simpa using hb
      have q5 := cnt_mem (List.getElem_mem hb')
      have g1 := fun H => c23 l[i] v H (by omega)
      rw [V.av_eq, V.av_eq] at g1
      have e1 := memB_drop l v i hb'
      have w1 := wrapI (i := i + 1) (by omega) (by omega)
      simp [hb', V.av_eq, g1]
      refine ⟨by kernel_rfl, ?_⟩
      cases he : decide (cmpV l[i] v = 0)
      · rw [he, Bool.false_or] at e1
        simp [w1, IMem, hd, e1]
        omega
      · rw [he, Bool.true_or] at e1
        simp [hd, e1]
/-! ### Sorted -/
/-- The first place where a value does not come behind. -/
def atU (v : V) : List V → Nat
  | [] => 0
  | x :: r => if cmpV x v < 0 then atU v r + 1 else 0
theorem atU_le (v : V) : ∀ l, atU v l ≤ l.length
  | [] => Nat.le_refl _
  | x :: r => by
    have := atU_le v r
    simp only [atU]
    split <;> simp
    omega
theorem atU_lt (v : V) : ∀ (l : List V) (i : Nat) (h : i < l.length), i < atU v l → cmpV l[i] v < 0
  | [], i, h, _ => by simp at h
  | x :: r, 0, _, h2 => by
    simp only [atU] at h2
    split at h2
    · assumption
    · omega
  | x :: r, i + 1, h, h2 => by
    simp only [atU] at h2
    split at h2
    · exact atU_lt v r i (by simpa using h) (by omega)
    · omega
theorem atU_ge (v : V) : ∀ (l : List V) (h : atU v l < l.length), ¬ cmpV l[atU v l] v < 0
  | [], h => by simp at h
  | x :: r, h => by
    by_cases hx : cmpV x v < 0
    · have e : atU v (x :: r) = atU v r + 1 := by simp only [atU, if_pos hx]
      have h' : atU v r < r.length := by rw [e] at h; simpa using h
      have := atU_ge v r h'
      simp only [e, List.getElem_cons_succ]; exact this
    · have e : atU v (x :: r) = 0 := by simp only [atU, if_neg hx]
      simp only [e, List.getElem_cons_zero]; exact hx
theorem insU_at (v : V) : ∀ l, insU v l = if h : atU v l < l.length then (if cmpV l[atU v l] v = 0 then l else l.take (atU v l) ++ [v] ++ l.drop (atU v l)) else l ++ [v]
  | [] => by simp [insU, atU]
  | x :: r => by
    have ih := insU_at v r
    by_cases hx : cmpV x v < 0
    · have e : atU v (x :: r) = atU v r + 1 := by simp only [atU, if_pos hx]
      rw [insU, if_pos hx, ih]
      by_cases h : atU v r < r.length
      · rw [dif_pos h, dif_pos (by rw [e]; simpa using h)]
        simp only [e, List.getElem_cons_succ, List.take_succ_cons, List.drop_succ_cons]
        split <;> rfl
      · rw [dif_neg h, dif_neg (by rw [e]; simpa using h)]; rfl
    · have e : atU v (x :: r) = 0 := by simp only [atU, if_neg hx]
      rw [insU, if_neg hx, dif_pos (by rw [e]; simp)]
      simp only [e, List.getElem_cons_zero, List.take_zero, List.drop_zero]
      rfl

/-- A row that grows. -/
def LV (l : List V) (tok : Nat) : AV := if l = [] then .empty else .list (avs l) (some tok)
def TokAt (H : Heap) (l : List V) (tok : Nat) : Prop := l ≠ [] → H[tok]? = some (.tail l.length 5)
theorem lv_nil (tok : Nat) : LV [] tok = .empty := if_pos rfl
theorem lv_cons {l : List V} (h : l ≠ []) (tok : Nat) : LV l tok = .list (avs l) (some tok) := if_neg h
theorem avs_tk (l : List V) (k : Nat) : (avs l).take k = avs (l.take k) := by simp [avs_map]
theorem avs_dr (l : List V) (k : Nat) : (avs l).drop k = avs (l.drop k) := by simp [avs_map]
theorem avs_ones (l : List V) : (avs l).all (fun v => decide (v.cells.length = 5) && v.cells.all AV.one) = true := by
  rw [avs_map]; simp only [List.all_map, List.all_eq_true, Function.comp_apply, av_cells, decide_true, Bool.true_and]
  exact fun v _ => List.all_eq_true.1 (by rw [V.av_eq]; rfl)
/-- Boxes and arrays stay. -/
def KC (H H' : Heap) : Prop := H.length ≤ H'.length ∧ ∀ (j : Nat) (cs : List AV) (T : TypeId), H[j]? = some (AObj.cells cs T) → H'[j]? = some (AObj.cells cs T)
theorem KC.refl (H : Heap) : KC H H := ⟨Nat.le_refl _, fun _ _ _ h => h⟩
theorem KC.trans {A B C : Heap} (h : KC A B) (k : KC B C) : KC A C := ⟨Nat.le_trans h.1 k.1, fun j cs T x => k.2 j cs T (h.2 j cs T x)⟩
theorem KC.app (H L : Heap) : KC H (H ++ L) := ⟨by simp, fun j cs T h => by rw [List.getElem?_append_left (List.getElem?_eq_some_iff.1 h).1]; exact h⟩
theorem TokAt.app {H : Heap} {l : List V} {tok : Nat} (h : TokAt H l tok) (L : Heap) : TokAt (H ++ L) l tok := fun hl => by rw [List.getElem?_append_left (List.getElem?_eq_some_iff.1 (h hl)).1]; exact h hl
theorem app_LVk (H : Heap) (a b : List V) (tok : Nat) (ht : TokAt H a tok) (hc : a.length + b.length ≤ 1000000000) :
    ∃ tok' H', aappB CC [22, 22] [LV a tok, .list (avs b) none] H = some (LV (a ++ b) tok', H') ∧ TokAt H' (a ++ b) tok' ∧ KC H H' := by
  have ob := avs_ones b
  have hlb := avs_len b
  by_cases hb : b = []
  · subst hb
    refine ⟨tok, H, ?_, by simpa using ht, KC.refl H⟩
    unfold LV
    by_cases ha : a = []
    · subst ha; simp [aappB, aappend, newsH, news, avs]
    · simp [ha, aappB, aappend, newsH, news, avs]
  obtain ⟨x, r, rfl⟩ : ∃ x r, b = x :: r := by cases b with | nil => exact absurd rfl hb | cons x r => exact ⟨x, r, rfl⟩
  have hne : a ++ x :: r ≠ [] := by simp
  by_cases ha : a = []
  · subst ha
    have r1 := room24 (x :: r).length (by simpa using hc)
    refine ⟨H.length, H ++ [.tail (x :: r).length 5], ?_, fun _ => by simp, KC.app _ _⟩
    rw [lv_nil, lv_cons hne]
    simp only [aappB, aappend, el22, int22, newsH, news, sz24, zero24]
    rw [if_pos ⟨rfl, by omega, rfl, ob⟩]
    simp only [avs, List.nil_append] at hlb ⊢
    simp only [hlb, r1, if_true, cc_arr, Bool.false_eq_true, if_false]
  · have r1 := room24 (a.length + (x :: r).length) hc
    have hta := ht ha
    have hal : a.length = (avs a).length := (avs_len a).symm
    have hkc : KC H (H.set tok .dead ++ [.tail (a.length + (x :: r).length) 5]) := ⟨by simp, fun j cs T h => by
      have hjt : tok ≠ j := fun e => by subst e; rw [hta] at h; cases h
      rw [List.getElem?_append_left (by simpa using (List.getElem?_eq_some_iff.1 h).1), List.getElem?_set_ne hjt]; exact h⟩
    refine ⟨H.length, H.set tok .dead ++ [.tail (a.length + (x :: r).length) 5], ?_, fun _ => by simp, hkc⟩
    rw [lv_cons ha, lv_cons hne, avs_append]
    simp only [aappB, aappend, el22, int22, newsH, news, sz24, zero24]
    rw [if_pos ⟨rfl, by omega, rfl, ob⟩]
    simp only [avs] at hlb ⊢
    simp only [hlb, hta]
    rw [if_pos ⟨hal, trivial, by rw [← hal]; exact r1, avs_cells a⟩, ← hal]
theorem app_LV (H : Heap) (a b : List V) (tok : Nat) (ht : TokAt H a tok) (hc : a.length + b.length ≤ 1000000000) :
    ∃ tok' H', aappB CC [22, 22] [LV a tok, .list (avs b) none] H = some (LV (a ++ b) tok', H') ∧ TokAt H' (a ++ b) tok' :=
  let ⟨t, H', h1, h2, _⟩ := app_LVk H a b tok ht hc; ⟨t, H', h1, h2⟩
/-- What Sorted has so far. -/
def srtN (l : List V) (i : Nat) : List V := srtU (l.take i)
theorem srtN_succ (l : List V) (i : Nat) (h : i < l.length) : srtN l (i + 1) = insU l[i] (srtN l i) := by
  unfold srtN srtU; rw [take_succ l i h, List.foldl_append]; rfl
theorem srtN_cnt (l : List V) (i : Nat) : cnts (srtN l i) ≤ cnts l := Nat.le_trans (cnts_srtU _) (cnts_take_le l i)
def ISrt (l : List V) (i : Nat) (t : List AV) (_H : Heap) : Prop := ∃ tok, i ≤ l.length ∧ Fit [some (.list (avs l) none), none, some (.empty), some (LV (srtN l i) tok), some (.int .i64 i), none, none, none, none, none, none, none, none, none, none, none, none, none, none, none, none, none, none, none, none, none, none, none, none, none, none, none, none, none, none, none, none, none, none, none, none, none, none, none, none, none, none, none, none, none, none, none, none, none, none, none, none, none, none, none, none, none, none, none, none] t
def IAt (l o : List V) (v : V) (tok i : Nat) (k : Nat) (t : List AV) (_H : Heap) : Prop := k ≤ atU v o ∧ Fit [some (.list (avs l) none), none, some (.empty), some (.list (avs o) (some tok)), some (.int .i64 i), some (.int .i64 k), none, none, none, none, none, none, none, none, none, none, none, none, none, none, none, none, none, none, none, none, none, none, none, none, none, none, none, none, none, none, none, none, none, none, none, none, none, none, none, none, none, none, none, none, none, none, none, none, none, none, none, none, none, none, none, none, none, none, none] t
def IAt0 (l : List V) (i : Nat) (H0 : Heap) (k : Nat) (t : List AV) (H : Heap) : Prop := k = 0 ∧ H = H0 ∧ Fit [some (.list (avs l) none), none, some (.empty), some (.empty), some (.int .i64 i), some (.int .i64 0), none, none, none, none, none, none, none, none, none, none, none, none, none, none, none, none, none, none, none, none, none, none, none, none, none, none, none, none, none, none, none, none, none, none, none, none, none, none, none, none, none, none, none, none, none, none, none, none, none, none, none, none, none, none, none, none, none, none, none] t
set_option maxHeartbeats 2000000 in
theorem c103 (l : List V) (H : Heap) (hc : cnts l ≤ 100000000) : Call CC 103 [.list (avs l) none] H = some (.ok (.list (avs (srtU l)) none), H) := by
  have q6 := len_cnts l
  refine cwp (fn := Tryz.f103) rfl (by kernel_rfl) rfl rfl rfl rfl (by simp) (by simp) ?_ H
  simp
  refine st_iter (ISrt l) l.length ?_ ?_
  · exact ⟨0, by omega, by simp [srtN, srtU, lv_nil]⟩
  · rintro i t H ⟨tok, hi, ht⟩
    obtain ⟨d, rfl⟩ := ht.elim
    clear ht
    refine ⟨hi, ?_⟩
    simp
    cases hb : decide (i < l.length)
    · have hb' : i = l.length := by simp at hb; omega
      have hs : srtN l i = srtU l := by rw [hb', srtN, List.take_length]
      simp [hs]
      unfold LV
      split
      · rename_i h; rw [h]; simp [avs]
      · simp
    · have hb' : i < l.length := by simpa using hb
      have e1 := srtN_succ l i hb'
      have q7 := srtN_cnt l i
      have q8 := len_cnts (srtN l i)
      have w1 := wrapI (i := i + 1) (by omega) (by omega)
      generalize srtN l i = o at *
      generalize hv : l[i] = v at *
      simp
      have fin : ∀ (k : Nat) (H : Heap), k ≤ o.length → insU v o = o.take k ++ [v] ++ o.drop k → ∃ t1 H1 t2 H2 t3 H3, aappB CC [22, 22] [.empty, .list (avs (o.take k)) none] H = some (LV (o.take k) t1, H1) ∧ aappB CC [22, 22] [LV (o.take k) t1, .list [v.av] none] H1 = some (LV (o.take k ++ [v]) t2, H2) ∧
          aappB CC [22, 22] [LV (o.take k ++ [v]) t2, .list (avs (o.drop k)) none] H2 = some (LV (srtN l (i + 1)) t3, H3) := fun k H hk hins => by
        obtain ⟨t1, H1, a1, h1⟩ := app_LV H [] (o.take k) 0 (fun h => absurd rfl h) (by simp; omega)
        rw [List.nil_append, lv_nil] at a1
        rw [List.nil_append] at h1
        obtain ⟨t2, H2, a2, h2⟩ := app_LV H1 (o.take k) [v] t1 h1 (by simp; omega)
        obtain ⟨t3, H3, a3, h3⟩ := app_LV H2 (o.take k ++ [v]) (o.drop k) t2 h2 (by simp; omega)
        rw [← hins, ← e1] at a3
        exact ⟨t1, H1, t2, H2, t3, H3, a1, a2, a3⟩
      by_cases ho : o = []
      · subst ho
        simp [lv_nil]
        refine st_iter (IAt0 l i H) 0 ?_ ?_
        · exact ⟨rfl, rfl, by simp⟩
        · rintro k t H2 ⟨rfl, rfl, ht⟩
          obtain ⟨d, rfl⟩ := ht.elim
          clear ht
          refine ⟨Nat.le_refl _, ?_⟩
          have r1 := room24 1 (by omega)
          simp [hb', hv, V.av_eq, bnd, r1, w1]
          refine ⟨by kernel_rfl, by kernel_rfl, ?_⟩
          refine ⟨H2.length, by omega, ?_⟩
          rw [e1]
          simp [insU, LV, avs, V.av_eq]
      · rw [lv_cons ho]
        have q9 := List.length_pos_iff.2 ho
        have hat := atU_le v o
        refine st_iter (IAt l o v tok i) (atU v o) ?_ ?_
        · exact ⟨Nat.zero_le _, by simp⟩
        · rintro k t H2 ⟨hk, ht⟩
          obtain ⟨d, rfl⟩ := ht.elim
          clear ht
          refine ⟨hk, ?_⟩
          simp
          cases hb2 : decide (k < o.length)
          · have hb2' : k = o.length := by simp at hb2; omega
            have hins : insU v o = o.take k ++ [v] ++ o.drop k := by rw [insU_at, dif_neg (by omega), hb2', List.take_length, List.drop_length, List.append_nil]
            obtain ⟨t1, H1, t2, H2, t3, H3, a1, a2, a3⟩ := fin k H2 (by omega) hins
            have hlt : ¬ k < o.length := by omega
            have hle : k ≤ o.length := by omega
            rw [V.av_eq] at a2
            simp [-aappB, hlt, hle, hb', hv, V.av_eq, bnd, avs_tk, avs_dr, a1, a2, a3, w1]
            refine ⟨by kernel_rfl, by kernel_rfl, ?_⟩
            exact ⟨t3, by omega, by simp⟩
          · have hb2' : k < o.length := by simpa using hb2
            have q5 := cnt_mem (List.getElem_mem hb2')
            have g1 := fun H => c23 o[k] v H (by omega)
            rw [V.av_eq, V.av_eq] at g1
            have w2 := wrapI (i := k + 1) (by omega) (by omega)
            simp [-aappB, hb2', hb', hv, V.av_eq, g1]
            refine ⟨by kernel_rfl, ?_⟩
            cases hlt : decide (cmpV o[k] v < 0)
            · have hlt' : ¬ cmpV o[k] v < 0 := by simpa using hlt
              have hka : k = atU v o := by
                rcases Nat.lt_or_ge k (atU v o) with h | h
                · exact absurd (atU_lt v o k hb2' h) hlt'
                · omega
              simp [-aappB, hb2', hb', hv, V.av_eq, g1]
              refine ⟨by kernel_rfl, ?_⟩
              cases heq : decide (cmpV o[k] v = 0)
              · have heq' : ¬ cmpV o[k] v = 0 := by simpa using heq
                have hins : insU v o = o.take k ++ [v] ++ o.drop k := by
                  have := insU_at v o
                  rw [dif_pos (by omega)] at this
                  simp only [← hka] at this
                  rw [if_neg heq'] at this; exact this
                obtain ⟨t1, H1, t2, H2, t3, H3, a1, a2, a3⟩ := fin k H2 (by omega) hins
                rw [V.av_eq] at a2
                have hle : k ≤ o.length := by omega
                simp [-aappB, hle, hb', hv, V.av_eq, bnd, avs_tk, avs_dr, a1, a2, a3, w1]
                exact ⟨t3, by omega, by simp⟩
              · have heq' : cmpV o[k] v = 0 := by simpa using heq
                have hins : insU v o = o := by
                  have := insU_at v o
                  rw [dif_pos (by omega)] at this
                  simp only [← hka] at this
                  rw [if_pos heq'] at this; exact this
                rw [hins] at e1
                simp [w1]
                refine ⟨tok, by omega, ?_⟩
                rw [e1, lv_cons ho]
                simp
            · have hlt' : cmpV o[k] v < 0 := by simpa using hlt
              have hka : k + 1 ≤ atU v o := by
                rcases Nat.lt_or_ge k (atU v o) with h | h
                · omega
                · have hka : k = atU v o := by omega
                  have := atU_ge v o (by omega)
                  simp only [← hka] at this
                  exact absurd hlt' this
              simp [w2, IAt]
              exact hka
end Go.Tv

/- slices.BinarySearchFunc on ascending values; isMember. -/
namespace Go.Tv
open Go.Proofs
set_option maxHeartbeats 4000000
theorem und3z {z a : Bool} {al : FuncId → FuncId} : (CX z a al).P.underlying 3 = some (.int .i64) := by kernel_rfl
theorem und182 {z a : Bool} {al : FuncId → FuncId} : (CX z a al).P.underlying 182 = some (.int .u64) := by kernel_rfl
theorem sasc_at {l : List V} (h : SAsc l) (i j : Nat) (hij : i ≤ j) (hj : j < l.length) : cmpV l[i] l[j] ≤ 0 := by
  rcases Nat.lt_or_eq_of_le hij with h1 | h1
  · exact Int.le_of_lt (List.pairwise_iff_getElem.1 h i j (by omega) hj h1)
  · subst h1; rw [cmpV_self]; exact Int.le_refl _
theorem atU_iff {l : List V} (h : SAsc l) (v : V) (k : Nat) (hk : k < l.length) : cmpV l[k] v < 0 ↔ k < atU v l := by
  constructor
  · intro h1
    rcases Nat.lt_or_ge k (atU v l) with h2 | h2
    · exact h2
    · have h3 := atU_ge v l (by omega)
      have h4 := sasc_at h (atU v l) k h2 hk
      have h5 := cmpV_trans _ _ _ h4 (Int.le_of_lt h1)
      have h6 : cmpV l[atU v l] v = 0 := by omega
      rw [cmpV_eq.1 h6, cmpV_neg] at h4
      omega
  · exact atU_lt v l k hk
theorem memB_at {l : List V} (h : SAsc l) (v : V) : memB l v = if h : atU v l < l.length then decide (cmpV l[atU v l] v = 0) else false := by
  rw [Bool.eq_iff_iff, memB_iff]
  constructor
  · intro hm
    obtain ⟨k, hk, rfl⟩ := List.getElem_of_mem hm
    have h1 : ¬ k < atU l[k] l := fun h1 => by
      have := atU_lt l[k] l k hk h1
      rw [cmpV_self] at this; omega
    rw [dif_pos (by omega), decide_eq_true_eq]
    have h2 := atU_ge l[k] l (by omega)
    have h3 := sasc_at h (atU l[k] l) k (by omega) hk
    omega
  · intro hm
    split at hm
    · rename_i hlt
      rw [decide_eq_true_eq, cmpV_eq] at hm
      rw [← hm]; exact List.getElem_mem hlt
    · cases hm
def IBin (l : List V) (v : V) (r : Nat) (t : List AV) (H : Heap) : Prop := ∃ i j : Nat, i ≤ atU v l ∧ atU v l ≤ j ∧ j ≤ l.length ∧ r + (j - i) ≤ l.length ∧ H = [.cells [.int .i64 v.kind, .int .i64 v.num, .str v.s, .list (avs v.keys) none, .list (avs v.items) none] 24] ∧ Fit [some (.list (avs l) none), none, some (.fn (.func 83) [] []), none, some (.ptr 0 0), none, some (.int .i64 0), some (.bool false), some (.int .i64 l.length), some (.int .i64 i), some (.int .i64 j), none, none, none, none, none, none, none, none, none, none, none, none, none, none, none, none, none, none, none, none, none, none, none, none, none, none, none, none, none, none, none, none, none, none, none, none, none, none] t
set_option maxHeartbeats 1000000 in
theorem c115 (l : List V) (v : V) (H : Heap) (hs : SAsc l) (hc : cnts l ≤ 100000000) : Call CC 115 [.list (avs l) none, v.av, .fn (.func 83) [] []] H = some (.ok (.tup [.int .i64 (atU v l), .bool (memB l v)]), H) := by
  have q6 := len_cnts l
  have hat := atU_le v l
  refine cwp (fn := Tryz.f115) rfl (by kernel_rfl) rfl rfl rfl rfl (by simp) rfl ?_ H
  simp [V.av_eq]
  refine st_iter (IBin l v) l.length ?_ ?_
  · exact ⟨0, l.length, by omega, hat, by omega, by omega, rfl, by simp⟩
  · rintro r t H ⟨i, j, hi, hj, hjl, hr, rfl, ht⟩
    obtain ⟨d, rfl⟩ := ht.elim
    clear ht
    refine ⟨by omega, ?_⟩
    simp
    cases hb : decide (i < j)
    · have hb' : i = atU v l := by simp at hb; omega
      have hm := memB_at hs v
      simp
      by_cases hlt : i < l.length
      · have q5 := cnt_mem (List.getElem_mem hlt)
        have g1 := fun H => c83 l[i] v H (by omega)
        rw [V.av_eq, V.av_eq] at g1
        rw [dif_pos (by omega)] at hm
        simp only [← hb'] at hm
        simp [hlt, V.av_eq, g1, hm]
        refine ⟨by kernel_rfl, hb'.symm ▸ rfl⟩
      · rw [dif_neg (by omega)] at hm
        simp [hlt, hm]
        refine ⟨by kernel_rfl, hb'.symm ▸ rfl⟩
    · have hb' : i < j := by simpa using hb
      obtain ⟨h, hh⟩ : ∃ h, h = (i + j) / 2 := ⟨_, rfl⟩
      have w1 : IntKind.i64.wrap ((i : Int) + (j : Int)) = (i : Int) + (j : Int) := wrapI (by omega) (by omega)
      have wm : IntKind.i64.wrap ((IntKind.u64.wrap ((i : Int) + (j : Int))).fdiv (2 ^ min 1 IntKind.u64.bits)) = (h : Int) := by
        have e1 : IntKind.u64.wrap ((i : Int) + (j : Int)) = (i : Int) + (j : Int) := by simp [IntKind.wrap, IntKind.bits, IntKind.signed]; omega
        have e2 : (2 : Int) ^ min 1 IntKind.u64.bits = 2 := by rfl
        rw [e1, e2, Int.fdiv_eq_ediv_of_nonneg _ (by omega), wrapI (by omega) (by omega)]
        omega
      have hlt : h < l.length := by omega
      have w6 : IntKind.i64.wrap ((h : Int) + 1) = ((h + 1 : Nat) : Int) := by rw [wrapI (by omega) (by omega)]; omega
      have q5 := cnt_mem (List.getElem_mem hlt)
      have g1 := fun H => c83 l[h] v H (by omega)
      rw [V.av_eq, V.av_eq] at g1
      have hiff := atU_iff hs v h hlt
      simp [aconv, und3z, und182, w1, wm, hlt, V.av_eq, g1]
      refine ⟨by kernel_rfl, ?_⟩
      cases hc : decide (cmpV l[h] v < 0)
      · have hc' : ¬ cmpV l[h] v < 0 := by simpa using hc
        rw [hiff] at hc'
        simp
        exact ⟨i, h, hi, by omega, by omega, by omega, rfl, by simp⟩
      · have hc' : cmpV l[h] v < 0 := by simpa using hc
        rw [hiff] at hc'
        simp [w6]
        exact ⟨h + 1, j, by omega, hj, hjl, by omega, rfl, by simp⟩
theorem c110 (s v : V) (H : Heap) (hs : SAsc s.items) (hc : s.cnt ≤ 100000000) : Call CC 110 [s.av, v.av] H = some (.ok (.bool (memB s.items v)), H) := by
  have q1 := cnt_items s
  have g1 := fun H => c115 s.items v H hs (by omega)
  rw [V.av_eq] at g1
  refine cwp (fn := Tryz.f110) rfl (by kernel_rfl) rfl rfl rfl rfl (by simp) rfl ?_ H
  simp [V.av_eq, g1]
end Go.Tv

/- ContainsFunc with a closure that holds a pointer; IsSubset. -/
namespace Go.Tv
open Go.Proofs
set_option maxHeartbeats 4000000
theorem reach1o {pb : Nat} {o : AObj} {H : Heap} (h : H[pb]? = some o) (hd : o ≠ .dead) (ho : o.ids = []) (args : List AV) (ha : idsL args = [pb]) :
    reachL H args = [pb] ∧ (closed H [pb] && (idsL args).all [pb].contains) = true := by
  constructor
  · unfold reachL
    rw [ha]
    simp [reach, h, ho]
  · rw [ha]
    cases o with
    | dead => exact absurd rfl hd
    | _ => simp [closed, h, ho]
def IIdxO (l : List V) (M : Heap) (pb g : Nat) (p : V → Bool) (i : Nat) (t : List AV) (H : Heap) : Prop := i ≤ l.length ∧ fstV p l 0 = fstV p (l.drop i) i ∧ KeepA M H ∧ Fit [some (.list (avs l) none), some (.fn (.func g) [] [.ptr pb 0]), none, none, some (.int .i64 0), none, some (.list (avs l) none), some (.int .i64 l.length), some (.int .i64 i), none, none, none, none, none, none, none, none, none, none] t
theorem c182o (g pb : Nat) (hg : extF g = none ∧ g < 10000 ∧ makesF g = false) (o : AObj) (hd : o ≠ .dead) (ho : o.ids = []) (p : V → Bool) (l : List V)
    (hp : ∀ v ∈ l, ∀ H : Heap, H[pb]? = some o → ∃ H', Call CC g [v.av, .ptr pb 0] H = some (.ok (.bool (p v)), H') ∧ KeepA H H') (H : Heap) (h : H[pb]? = some o) (hc : cnts l ≤ 1000000000) :
    ∃ H', Call CC 182 [.list (avs l) none, .fn (.func g) [] [.ptr pb 0]] H = some (.ok (.int .i64 (fstV p l 0)), H') ∧ KeepA H H' := by
  have q6 := len_cnts l
  have hx : CC.ext g = none := hg.1
  have hal : g < 10000 := hg.2.1
  obtain ⟨hR, hcl⟩ := reach1o h hd ho [.list (avs l) none, .fn (.func g) [] [.ptr pb 0]] (by simp [idsL, AV.ids, ids_avs])
  have key := cwpo (f := 182) (fn := Tryz.f182) (P := fun w H1 => w = .int .i64 (fstV p l 0) ∧ H1[pb]? = H[pb]?) (args := [.list (avs l) none, .fn (.func g) [] [.ptr pb 0]]) (H := H) rfl (by kernel_rfl) rfl rfl rfl rfl (by simp) hR hcl ?_
  · obtain ⟨w, H1, H', k1, ⟨k2, k3⟩, k6, k7, k8, k9⟩ := key
    subst k2
    refine ⟨H', k1, by omega, fun j hj => ?_⟩
    by_cases e : j = pb
    · subst e; rw [k8 _ (by simp), k3]
    · exact k9 j hj (by simp [e])
  · intro M hM hR
    have m1 : M[pb]? = some o := by rw [hR pb (by simp), h]
    simp [-cc_ext, -extF]
    refine st_iter (IIdxO l M pb g p) l.length ?_ ?_
    · simp [IIdxO, KeepA.refl]
    · rintro i t Hi ⟨hi, hd, hk, ht⟩
      obtain ⟨d, rfl⟩ := ht.elim
      clear ht
      refine ⟨hi, ?_⟩
      have hkl := hk.len
      have hpi := hk.at m1
      simp [-cc_ext, -extF]
      cases hb : decide (i < l.length)
      · have hb' : i = l.length := by simp at hb; omega
        simp [-cc_ext, -extF, hd, hb', fstV, hpi, h]
        try omega
      · have hb' : i < l.length := by simpa using hb
        obtain ⟨H2, s1, s2⟩ := hp l[i] (List.getElem_mem hb') Hi hpi
        have e1 := fstV_drop p l i hb' i
        have w1 := wrapI (i := i + 1) (by omega) (by omega)
        have hl2 := s2.len
        have hp2 := s2.at hpi
        rw [V.av_eq] at s1
        simp [-cc_ext, -extF, hb', V.av_eq, s1, hx, hal]
        cases he : p l[i]
        · rw [if_neg (by simp [he])] at e1
          simp [-cc_ext, -extF, w1, IIdxO, hd, e1]
          exact ⟨by omega, hk.trans s2⟩
        · rw [if_pos he] at e1
          simp [-cc_ext, -extF, hd, e1, hp2, h]
          try omega
theorem c111o (g pb : Nat) (hg : extF g = none ∧ g < 10000 ∧ makesF g = false) (o : AObj) (hd : o ≠ .dead) (ho : o.ids = []) (p : V → Bool) (l : List V)
    (hp : ∀ v ∈ l, ∀ H : Heap, H[pb]? = some o → ∃ H', Call CC g [v.av, .ptr pb 0] H = some (.ok (.bool (p v)), H') ∧ KeepA H H') (H : Heap) (h : H[pb]? = some o) (hc : cnts l ≤ 1000000000) :
    ∃ H', Call CC 111 [.list (avs l) none, .fn (.func g) [] [.ptr pb 0]] H = some (.ok (.bool (l.any p)), H') ∧ KeepA H H' := by
  obtain ⟨hR, hcl⟩ := reach1o h hd ho [.list (avs l) none, .fn (.func g) [] [.ptr pb 0]] (by simp [idsL, AV.ids, ids_avs])
  have e := fstV_any p l 0 (by omega)
  have key := cwpo (f := 111) (fn := Tryz.f111) (P := fun w H1 => w = .bool (l.any p) ∧ H1[pb]? = H[pb]?) (args := [.list (avs l) none, .fn (.func g) [] [.ptr pb 0]]) (H := H) rfl (by kernel_rfl) rfl rfl rfl rfl (by simp) hR hcl ?_
  · obtain ⟨w, H1, H', k1, ⟨k2, k3⟩, k6, k7, k8, k9⟩ := key
    subst k2
    refine ⟨H', k1, by omega, fun j hj => ?_⟩
    by_cases e : j = pb
    · subst e; rw [k8 _ (by simp), k3]
    · exact k9 j hj (by simp [e])
  · intro M hM hR
    have m1 : M[pb]? = some o := by rw [hR pb (by simp), h]
    obtain ⟨H2, s1, s2⟩ := c182o g pb hg o hd ho p l hp M m1 hc
    have hl2 := s2.len
    have hp2 := s2.at m1
    rw [← e]
    simp [s1, hp2, h]
    try omega
/-- A box with a value. -/
abbrev boxV (v : V) : AObj := .cells [.int .i64 v.kind, .int .i64 v.num, .str v.s, .list (avs v.keys) none, .list (avs v.items) none] 24
theorem boxV_ids (v : V) : (boxV v).ids = [] := by simp [AObj.ids, idsL, AV.ids, ids_avs]
theorem c112 (b x : V) (pb : Nat) (H : Heap) (hs : SAsc b.items) (hc : b.cnt ≤ 100000000) (h : H[pb]? = some (boxV b)) :
    ∃ H', Call CC 112 [x.av, .ptr pb 0] H = some (.ok (.bool (!memB b.items x)), H') ∧ KeepA H H' := by
  obtain ⟨hR, hcl⟩ := reach1o h (by simp) (boxV_ids b) [x.av, .ptr pb 0] (by simp [idsL, AV.ids, ids_av])
  have g1 := fun H => c110 b x H hs hc
  rw [V.av_eq, V.av_eq] at g1
  have key := cwpo (f := 112) (fn := Tryz.f112) (P := fun w H1 => w = .bool (!memB b.items x) ∧ H1[pb]? = H[pb]?) (args := [x.av, .ptr pb 0]) (H := H) rfl (by kernel_rfl) rfl rfl rfl rfl (by simp) hR hcl ?_
  · obtain ⟨w, H1, H', k1, ⟨k2, k3⟩, k6, k7, k8, k9⟩ := key
    subst k2
    refine ⟨H', k1, by omega, fun j hj => ?_⟩
    by_cases e : j = pb
    · subst e; rw [k8 _ (by simp), k3]
    · exact k9 j hj (by simp [e])
  · intro M hM hR
    have m1 : M[pb]? = some (boxV b) := by rw [hR pb (by simp), h]
    have n1 := app_get m1
    have b1 := lt_of_get m1
    simp [V.av_eq, n1, h, g1]
    try omega
/-- The error of an operation on two sets. -/
def tyAll (k : Int) (l : List V) : Int := if l.any (fun v => !decide (v.kind = k)) then 20 else 0
def setsE (a b : V) : Int := firstNZ [chkL [a, b], tyAll 4 [a, b]]
def subB (a b : List V) : Bool := a.all fun x => memB b x
theorem subB_any (a b : List V) : (!(a.any fun x => !memB b x)) = subB a b := by simp [subB, List.not_any_eq_all_not]
theorem setsE_zero {a b : V} (h : setsE a b = 0) : chkE a = 0 ∧ chkE b = 0 ∧ a.kind = 4 ∧ b.kind = 4 := by
  unfold setsE at h
  simp only [firstNZ, chkL] at h
  by_cases h1 : chkE a = 0 <;> by_cases h2 : chkE b = 0 <;> by_cases h3 : a.kind = 4 <;> by_cases h4 : b.kind = 4 <;> simp_all [tyAll]
theorem asc_of {v : V} (h : chkE v = 0) (hk : v.kind = 4) : SAsc v.items := by
  unfold chkE at h
  split at h
  · obtain ⟨_, h2, _, _⟩ := errV_zero h
    have := h2 rfl
    unfold ordE at this
    split at this
    · exact absurd this (by decide)
    · rename_i hn
      refine (ascL_iff _).1 ?_
      cases hx : ascL v.items with
      | true => rfl
      | false => exact absurd (.inl ⟨hk, hx⟩) hn
  · exact absurd h (by decide)
theorem c47 (a b : V) (H : Heap) (ha : a.str) (hb : b.str) (hc : a.cnt + b.cnt ≤ 1000000) :
    Call CC 47 [a.av, b.av] H = some (.ok (.tup [.bool (decide (setsE a b = 0) && subB a.items b.items), .int .i64 (setsE a b)]), H) := by
  have q1 := cnt_items a
  have g1 := fun H => c82 [a, b] H ⟨ha, hb, trivial⟩ (by simp [cnts]; omega)
  have g2 := fun H => c96 4 [a, b] H (by simp [cnts]; omega)
  have g3 := fun H => c75 [chkL [a, b], tyAll 4 [a, b]] H (by simp)
  simp only [il] at g3
  simp only [avs, V.av_eq] at g1 g2
  rw [← tyAll] at g2
  refine cwp (fn := Tryz.f47) rfl (by kernel_rfl) rfl rfl rfl rfl (by simp) rfl ?_ H
  rw [← setsE] at g3
  simp [V.av_eq, g1, g2, g3]
  refine ⟨by kernel_rfl, ?_⟩
  cases he : decide (setsE a b = 0)
  · have he' : ¬ setsE a b = 0 := by simpa using he
    simp
  · have he' : setsE a b = 0 := by simpa using he
    obtain ⟨h1, h2, h3, h4⟩ := setsE_zero he'
    obtain ⟨H2, s1, s2⟩ := c111o 112 1 ⟨rfl, by decide, rfl⟩ (boxV b) (by simp) (boxV_ids b) (fun x => !memB b.items x) a.items (fun x _ H h => c112 b x 1 H (asc_of h2 h4) (by omega) h) [boxV a, boxV b] rfl (by omega)
    simp [s1, he', -List.any_eq_true]
    rw [← subB_any]
    simp [-List.any_eq_true]
end Go.Tv

/- slices.Concat of two rows of values. -/
namespace Go.Tv
open Go.Proofs
set_option maxHeartbeats 4000000
theorem und22X {z a : Bool} {al : FuncId → FuncId} : (CX z a al).P.underlying 22 = some (.slice 24) := by kernel_rfl
theorem und147X {z a : Bool} {al : FuncId → FuncId} : (CX z a al).P.underlying 147 = some (.slice 22) := by kernel_rfl
theorem el147X {z a : Bool} {al : FuncId → FuncId} : elemT (CX z a al) 147 = some 22 := by kernel_rfl
theorem sz147X {z a : Bool} {al : FuncId → FuncId} : szOf (CX z a al) 147 = some 1 := by kernel_rfl
theorem app_arr2 {z a : Bool} {al : FuncId → FuncId} (id : Nat) (ms l : List V) (rest : List AV) (H : Heap) (hH : H[id]? = some (.cells (vcells ms ++ rest) 24)) (hl : l ≠ []) (hc : ms.length + l.length ≤ 1000000000) :
    aappB (CX z a al) [22, 22] [.slc id 0 ms.length 5 true, .list (avs l) none] H = some (.slc H.length 0 (ms.length + l.length) 5 true, H.set id .dead ++ [arrV (ms ++ l)]) := by
  have r1 := room24X (z := z) (a := a) (al := al) (ms.length + l.length) hc
  have ho := avs_ok l
  have hf := flat_avs l
  have hlen := avs_len l
  have hk : ms.length * 5 ≤ (vcells ms ++ rest).length := by rw [List.length_append, vcells_len]; omega
  have hv : (vcells ms ++ rest).take (ms.length * 5) = vcells ms := List.take_left' (vcells_len ms)
  have ha := vcells_append ms l
  obtain ⟨x, r, rfl⟩ : ∃ a r, l = a :: r := by cases l with | nil => exact absurd rfl hl | cons a r => exact ⟨a, r, rfl⟩
  simp only [aappB, aappend, el22, int22, newsH, news, sz24, zero24]
  rw [if_pos ⟨rfl, by omega, rfl, ho⟩]
  simp only [avs] at hlen hf ⊢
  simp only [hH, hlen]
  rw [if_pos ⟨trivial, trivial, trivial, hk, r1⟩, hv, hf, ← ha]
/-- A row that is put together. -/
def NS (l : List V) (v : AV) (H : Heap) : Prop := (v = .list [] none ∧ l = []) ∨ ∃ id rest, v = .slc id 0 l.length 5 true ∧ H[id]? = some (.cells (vcells l ++ rest) 24)
theorem app_NS {z a : Bool} {al : FuncId → FuncId} {l b : List V} {v : AV} {H : Heap} (h : NS l v H) (hb : v = .list [] none → b = []) (hc : l.length + b.length ≤ 1000000000) :
    ∃ v' H', aappB (CX z a al) [22, 22] [v, .list (avs b) none] H = some (v', H') ∧ NS (l ++ b) v' H' ∧ (v' = .list [] none → v = .list [] none) := by
  by_cases hbn : b = []
  · subst hbn
    refine ⟨v, H, ?_, by simpa using h, fun h => h⟩
    rcases h with ⟨rfl, rfl⟩ | ⟨id, rest, rfl, _⟩
    · simp [aappB, aappend, newsH, news, avs]
    · simp [aappB, aappend, newsH, news, avs]
  · rcases h with ⟨rfl, rfl⟩ | ⟨id, rest, rfl, h1⟩
    · exact absurd (hb rfl) hbn
    · refine ⟨_, _, app_arr2 id l b rest H h1 hbn hc, .inr ⟨H.length, [], by simp, by simp⟩, fun h => by cases h⟩
theorem frz_NS {l : List V} {v : AV} {H : Heap} (h : NS l v H) : ∃ H', frzL [v] H = some ([.list (avs l) none], H') := by
  rcases h with ⟨rfl, rfl⟩ | ⟨id, rest, rfl, h1⟩
  · exact ⟨H, by simp [frzL, frzC, avs]⟩
  · have g8 := group_pre rest l
    have g9 : l.length * 5 ≤ (vcells l).length + rest.length := by rw [vcells_len]; omega
    exact ⟨H.set id .dead, by simp [frzL, frzC, h1, g8, g9]⟩
theorem und3k {z a : Bool} {al : FuncId → FuncId} : (CX z a al).P.underlying 3 = some (.int .i64) := by kernel_rfl
/-- slices.Grow of nothing. -/
theorem c10181 (n : Nat) (H : Heap) (hn : n ≤ 1000000000) : ∃ v H', Call CC 10181 [.empty, .int .i64 n] H = some (.ok v, H') ∧ NS [] v H' ∧ (v = .list [] none → n = 0) := by
  have key := call_objsF (C := CC) (C' := CX false true al0) (f := 10181) (fn := Tryz.f181) (args := [.empty, .int .i64 n]) (H := H) (R := []) (fz := false)
    (P := fun v H1 => (n = 0 ∧ v = .list [] none) ∨ (v = .slc H.length 0 0 5 true ∧ ∃ cs, H1[H.length]? = some (.cells cs 24))) rfl rfl rfl (by kernel_rfl) rfl rfl rfl rfl
    (by simp [reachL, reach, idsL, AV.ids]) (by simp [closed, idsL, AV.ids]) rfl rfl rfl rfl ?_
  · obtain ⟨v, H1, H', k1, k2, k5, k6, k7, k8, k9⟩ := key
    rcases k2 with ⟨rfl, rfl⟩ | ⟨rfl, cs, k3⟩
    · exact ⟨_, H', k1, .inl ⟨rfl, rfl⟩, fun _ => rfl⟩
    · exact ⟨_, H', k1, .inr ⟨H.length, cs, rfl, by rw [k9 _ (Nat.le_refl _), k3]; rfl⟩, fun h => by cases h⟩
  · intro M hM _
    have w2 : IntKind.i64.wrap 0 = 0 := rfl
    by_cases h0 : n = 0
    · subst h0
      simp [acapB, w2, hM]
    · have w1 : IntKind.i64.wrap (n : Int) = n := wrapI (by omega) (by omega)
      have hnn : ¬ (n : Int) < 0 := by omega
      have r1 := room24X (z := false) (a := true) (al := al0) n hn
      have hz : aappB (CX false true al0) [22, 3] [.empty, .int .i64 n] M = some (.slc M.length 0 n 5 true, M ++ [.cells (List.replicate n [AV.int .i64 0, .int .i64 0, .str [], .empty, .empty]).flatten 24]) := by
        simp only [aappB, aappZ, el22, und3k, cc_arr, sz24, zero24, ag24]
        rw [if_pos ⟨by omega, rfl, by decide, by simpa using r1⟩]
        simp
      have hp : 0 < n := by omega
      simp [-aappB, acapB, w1, w2, hnn, hp, bnd, hz, hM]
def szC (a b : List V) (r : Nat) : Nat := if r = 0 then 0 else if r = 1 then a.length else a.length + b.length
def ICc1 (a b : List V) (r : Nat) (t : List AV) (H : Heap) : Prop := r ≤ 2 ∧ H = [] ∧ Fit [some (.list [.list (avs a) none, .list (avs b) none] none), none, some (.empty), some (.int .i64 (szC a b r)), none, none, none, none, none, some (.list [.list (avs a) none, .list (avs b) none] none), some (.int .i64 2), some (.int .i64 r), none, none, none, none, none, none, none, none, none, none, none, none, none, none, none, none, none, none, none, none, none, none, none, none] t
def ICc2 (a b : List V) (r : Nat) (t : List AV) (H : Heap) : Prop := ∃ v, r ≤ 2 ∧ NS ((a ++ b).take (szC a b r)) v H ∧ (v = .list [] none → a = [] ∧ b = []) ∧ Fit [some (.list [.list (avs a) none, .list (avs b) none] none), none, some (.empty), none, none, none, some (v), none, none, none, none, none, none, none, none, none, none, none, none, none, none, none, none, none, none, some (.list [.list (avs a) none, .list (avs b) none] none), some (.int .i64 2), some (.int .i64 r), none, none, none, none, none, none, none, none] t
set_option maxRecDepth 100000 in
set_option maxHeartbeats 1000000 in
theorem c109 (a b : List V) (H : Heap) (hc : a.length + b.length ≤ 100000000) : Call CC 109 [.list [.list (avs a) none, .list (avs b) none] none] H = some (.ok (.list (avs (a ++ b)) none), H) := by
  refine call_treeF (C' := CX false false (varyF 109)) (fn := Tryz.f109) (fz := true) rfl (by kernel_rfl) rfl rfl rfl rfl (by simp) rfl rfl rfl rfl (by simp) ?_
  simp [und147X]
  refine st_iter (ICc1 a b) 2 ?_ ?_
  · exact ⟨by omega, rfl, by simp [szC]⟩
  · rintro r t H ⟨hr, rfl, ht⟩
    obtain ⟨d, rfl⟩ := ht.elim
    clear ht
    refine ⟨hr, ?_⟩
    have hr' : r = 0 ∨ r = 1 ∨ r = 2 := by omega
    rcases hr' with rfl | rfl | rfl
    · have w1 : IntKind.i64.wrap (a.length : Int) = a.length := wrapI (by omega) (by omega)
      have w2 : IntKind.i64.wrap 1 = 1 := rfl
      have hn : ¬ (a.length : Int) < 0 := by omega
      simp [idx, szC, w1, w2, hn, el147X]
      exact ⟨by omega, rfl, by simp [szC]⟩
    · have w1 : IntKind.i64.wrap ((a.length : Int) + b.length) = (a.length : Int) + b.length := wrapI (by omega) (by omega)
      have w2 : IntKind.i64.wrap 2 = 2 := rfl
      have hn : ¬ (a.length : Int) + b.length < 0 := by omega
      simp [idx, szC, w1, w2, hn, el147X]
      exact ⟨by omega, rfl, by simp [szC]⟩
    · obtain ⟨v, H', g1, g2, g3⟩ := c10181 (a.length + b.length) [] (by omega)
      have hal : varyF 109 181 = 10181 := rfl
      rw [Int.natCast_add] at g1
      simp [szC, hal, g1, und147X]
      refine st_iter (ICc2 a b) 2 ?_ ?_
      · exact ⟨v, by omega, by simpa [szC] using g2, fun h => by
          have := g3 h
          exact ⟨List.length_eq_zero_iff.1 (by omega), List.length_eq_zero_iff.1 (by omega)⟩, by simp⟩
      · rintro r t H ⟨u, hr, hns, hu, ht⟩
        obtain ⟨d, rfl⟩ := ht.elim
        clear ht
        refine ⟨hr, ?_⟩
        have hr' : r = 0 ∨ r = 1 ∨ r = 2 := by omega
        rcases hr' with rfl | rfl | rfl
        · obtain ⟨v', H2, a1, a2, a3⟩ := app_NS (z := false) (a := false) (al := varyF 109) (b := a) hns (fun h => (hu h).1) (by simp [szC]; omega)
          have w2 : IntKind.i64.wrap 1 = 1 := rfl
          simp [-aappB, idx, el147X, a1, w2]
          exact ⟨v', by omega, by simpa [szC] using a2, fun h => hu (a3 h), by simp⟩
        · obtain ⟨v', H2, a1, a2, a3⟩ := app_NS (z := false) (a := false) (al := varyF 109) (b := b) hns (fun h => (hu h).2) (by simp [szC]; omega)
          have w2 : IntKind.i64.wrap 2 = 2 := rfl
          simp [-aappB, idx, el147X, a1, w2]
          refine ⟨v', by omega, ?_, fun h => hu (a3 h), by simp⟩
          have e1 : (a ++ b).take (szC a b 1) = a := by simp [szC]
          have e2 : (a ++ b).take (szC a b (1 + 1)) = a ++ b := List.take_of_length_le (by simp [szC])
          rw [e1] at a2; rw [e2]; exact a2
        · have e2 : (a ++ b).take (szC a b 2) = a ++ b := List.take_of_length_le (by simp [szC])
          rw [e2] at hns
          obtain ⟨H2, f1⟩ := frz_NS hns
          simp [f1]
end Go.Tv

/- Combined of the program; kindErr, SubsetErr, IsSubset, CombineErr, Combined, Fits of the reference; right. -/
namespace Go.Tv
open Go.Proofs
set_option maxHeartbeats 4000000
theorem c113 (a b : V) (k : Int) (H : Heap) (ha : a.str) (hb : b.str) (hc : a.cnt + b.cnt ≤ 1000000000) :
    Call CC 113 [a.av, b.av, .int .i64 k] H = some (.ok (.int .i64 (firstNZ [chkL [a, b], tyAll k [a, b]])), H) := by
  have g1 := fun H => c18 a H ha (by omega)
  have g2 := fun H => c18 b H hb (by omega)
  rw [V.av_eq] at g1 g2
  refine cwp (fn := Tryz.f113) rfl (by kernel_rfl) rfl rfl rfl rfl (by simp) rfl ?_ H
  have e : firstNZ [chkL [a, b], tyAll k [a, b]] = if chkE a ≠ 0 then chkE a else if chkE b ≠ 0 then chkE b else if (decide (a.kind = k) && decide (b.kind = k)) then 0 else 20 := by
    by_cases h1 : chkE a = 0 <;> by_cases h2 : chkE b = 0 <;> by_cases h3 : a.kind = k <;> by_cases h4 : b.kind = k <;> simp [firstNZ, chkL, tyAll, h1, h2, h3, h4]
  rw [e]
  by_cases h1 : chkE a = 0
  · by_cases h2 : chkE b = 0
    · cases h3 : decide (a.kind = k)
      · simp [V.av_eq, g1, g2, h1, h2, h3]
      · cases h4 : decide (b.kind = k)
        · simp [V.av_eq, g1, g2, h1, h2, h3, h4]
        · simp [V.av_eq, g1, g2, h1, h2, h3, h4]
    · simp [V.av_eq, g1, g2, h1, h2]
  · simp [V.av_eq, g1, h1]
theorem c48 (a b : V) (H : Heap) (ha : a.str) (hb : b.str) (hc : a.cnt + b.cnt ≤ 1000000000) : Call CC 48 [a.av, b.av] H = some (.ok (.int .i64 (setsE a b)), H) := by
  have g1 := fun H => c113 a b 4 H ha hb hc
  rw [V.av_eq, V.av_eq] at g1
  refine cwp (fn := Tryz.f48) rfl (by kernel_rfl) rfl rfl rfl rfl (by simp) rfl ?_ H
  simp [V.av_eq, g1, setsE]
def opB (op : Int) : Bool := decide (0 ≤ op) && decide (op ≤ 2)
def combE (op : Int) (a b : V) : Int := if opB op then setsE a b else 4
theorem c50 (op : Int) (a b : V) (H : Heap) (ha : a.str) (hb : b.str) (hc : a.cnt + b.cnt ≤ 1000000000) : Call CC 50 [.int .i64 op, a.av, b.av] H = some (.ok (.int .i64 (combE op a b)), H) := by
  have g1 := fun H => c113 a b 4 H ha hb hc
  have g2 := fun H => c29 op 0 2 H
  rw [V.av_eq, V.av_eq] at g1
  refine cwp (fn := Tryz.f50) rfl (by kernel_rfl) rfl rfl rfl rfl (by simp) rfl ?_ H
  rw [← opB] at g2
  cases h : opB op
  · simp [V.av_eq, g2, h, combE]
  · simp [V.av_eq, g1, g2, h, combE, setsE]
theorem subB_drop (a b : List V) (i : Nat) (h : i < a.length) : subB (a.drop i) b = (memB b a[i] && subB (a.drop (i + 1)) b) := by
  rw [List.drop_eq_getElem_cons h]; rfl
def ISub (a b : V) (i : Nat) (t : List AV) (H : Heap) : Prop := i ≤ a.items.length ∧ subB a.items b.items = subB (a.items.drop i) b.items ∧ H = [.cells [.int .i64 a.kind, .int .i64 a.num, .str a.s, .list (avs a.keys) none, .list (avs a.items) none] 24, .cells [.int .i64 b.kind, .int .i64 b.num, .str b.s, .list (avs b.keys) none, .list (avs b.items) none] 24] ∧ Fit [none, none, some (.ptr 0 0), some (.ptr 1 0), some (.bool false), some (.int .i64 i), none, none, none, none, none, none, none, none, none, none, none, none, none, none, none, none] t
theorem c49 (a b : V) (H : Heap) (hc : a.cnt + b.cnt ≤ 1000000000) : Call CC 49 [a.av, b.av] H = some (.ok (.bool (subB a.items b.items)), H) := by
  have q1 := cnt_items a
  have q2 := cnt_items b
  have q6 := len_cnts a.items
  refine cwp (fn := Tryz.f49) rfl (by kernel_rfl) rfl rfl rfl rfl (by simp) rfl ?_ H
  simp [V.av_eq]
  refine st_iter (ISub a b) a.items.length ?_ ?_
  · simp [ISub]
  · rintro i t H ⟨hi, hd, rfl, ht⟩
    obtain ⟨d, rfl⟩ := ht.elim
    clear ht
    refine ⟨hi, ?_⟩
    simp
    cases hb : decide (i < a.items.length)
    · have hb' : i = a.items.length := by simp at hb; omega
      simp only [hd, hb', List.drop_length]; simp [subB]
    · have hb' : i < a.items.length := by simpa using hb
      have g1 := fun H => c114 b.items a.items[i] H (by omega)
      rw [V.av_eq] at g1
      have e1 := subB_drop a.items b.items i hb'
      have w1 := wrapI (i := i + 1) (by omega) (by omega)
      simp [hb', V.av_eq, g1]
      refine ⟨by kernel_rfl, ?_⟩
      cases he : memB b.items a.items[i]
      · rw [he, Bool.false_and] at e1
        simp [hd, e1]
      · rw [he, Bool.true_and] at e1
        simp [w1, ISub, hd, e1]
        omega
/-- Fits of the reference: what is returned, and the error. -/
def fitE (v : V) : Int := if v.small 300 8 then 0 else 2
theorem c51 (v : V) (H : Heap) : Call CC 51 [v.av] H = some (.ok (.tup [(if fitE v = 0 then v.av else zeroV.av), .int .i64 (fitE v)]), H) := by
  have g1 := fun H => c28 v H
  rw [zeroV_av, V.av_eq]
  rw [V.av_eq] at g1
  refine cwp (fn := Tryz.f51) rfl (by kernel_rfl) rfl rfl rfl rfl (by simp) (by simp; split <;> simp) ?_ H
  cases h : v.small 300 8
  · simp [g1, h, fitE, undv24, fv24_all]
  · simp [g1, h, fitE]
/-- right of the law -/
def rightB (v : V) (e : Int) (want : V) (c : Int) : Bool := if c ≠ 0 then decide (e = c) && decide (cmpV v zeroV = 0) else decide (e = 0) && v.small 300 8 && decide (cmpV v want = 0)
theorem c20 (v : V) (e : Int) (want : V) (c : Int) (H : Heap) (h : v.cnt ≤ 1000000000) : Call CC 20 [v.av, .int .i64 e, want.av, .int .i64 c] H = some (.ok (.bool (rightB v e want c)), H) := by
  have g1 := fun H => c35 v H h
  have g2 := fun H => c28 v H
  have g3 := fun H => c21 v want H h
  rw [V.av_eq] at g1 g2
  rw [V.av_eq, V.av_eq] at g3
  refine cwp (fn := Tryz.f20) rfl (by kernel_rfl) rfl rfl rfl rfl (by simp) rfl ?_ H
  unfold rightB
  by_cases hc : c = 0
  · subst hc
    by_cases he : e = 0
    · cases hs : v.small 300 8
      · simp [V.av_eq, g2, he, hs]
      · simp [V.av_eq, g2, g3, he, hs]
    · simp [V.av_eq, he]
  · by_cases he : e = c
    · simp [V.av_eq, g1, he, hc]
    · simp [V.av_eq, he, hc]
end Go.Tv
