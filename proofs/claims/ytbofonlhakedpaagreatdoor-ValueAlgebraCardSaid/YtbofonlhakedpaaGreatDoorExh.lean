/-
  What the functions of chapter 8 compute: Combined.
-/
import Derived.Test.YtbofonlhakedpaaGreatDoorExg
/- Combined, of the program and of the reference. -/
namespace Go.Tv
open Go.Proofs
set_option maxHeartbeats 4000000
theorem set_of {H : Heap} {j : Nat} {o : AObj} (h : H[j]? = some o) (x : AObj) : (H.set j x)[j]? = some x := by
  obtain ⟨h1, h2⟩ := List.getElem?_eq_some_iff.1 h
  rw [List.getElem?_set_self h1]
theorem boolT4 (z a : Bool) (al : FuncId → FuncId) : isBoolT (CX z a al) 4 = true := by kernel_rfl
@[simp] theorem aeq4 (z a : Bool) (al : FuncId → FuncId) (x y c : Bool) : aeq (CX z a al) 4 (.bool x) (.bool y) c = some (x == y) := by rw [aeq, boolT4]; rfl
@[simp] theorem lv_erase (l : List V) (tok : Nat) : (LV l tok).erase = .list (avs l) none := by
  unfold LV; split
  · rename_i h; simp [h, avs]
  · simp
@[simp] theorem lv_one (l : List V) (tok : Nat) : (LV l tok).one = true := by unfold LV; split <;> rfl
@[simp] theorem lv_cells (l : List V) (tok : Nat) : (LV l tok).cells = [LV l tok] := by unfold LV; split <;> rfl
/-- Whether a member stays. -/
def keepB (op : Int) (b : List V) (x : V) : Bool := memB b x == decide (op = 1)
def fltV (op : Int) (a b : List V) : List V := a.filter (keepB op b)
def combV (op : Int) (a b : V) : V := if op = 0 then setN (a.items ++ b.items) else setV (fltV op a.items b.items)
def combR (op : Int) (a b : V) : Int := if combE op a b ≠ 0 then combE op a b else resE (combV op a b) 0
def combW (op : Int) (a b : V) : V := if combR op a b = 0 then combV op a b else zeroV
theorem flt_succ (op : Int) (a b : List V) (i : Nat) (h : i < a.length) : fltV op (a.take (i + 1)) b = if keepB op b a[i] then fltV op (a.take i) b ++ [a[i]] else fltV op (a.take i) b := by
  unfold fltV
  rw [take_succ a i h, List.filter_append]
  by_cases hk : keepB op b a[i] = true
  · simp [hk]
  · simp [hk]
theorem flt_len (op : Int) (a b : List V) : (fltV op a b).length ≤ a.length := List.length_filter_le _ _
theorem flt_cnts (op : Int) (a b : List V) : cnts (fltV op a b) ≤ cnts a := by
  induction a with
  | nil => simp [fltV]
  | cons x r ih =>
    unfold fltV at *
    rw [List.filter_cons]
    split <;> simp only [cnts] <;> omega
theorem comb_cnt (op : Int) (a b : V) : (combV op a b).cnt ≤ 1 + a.cnt + b.cnt := by
  unfold combV
  have q1 := cnt_items a; have q2 := cnt_items b
  split
  · have := cnts_srtU (a.items ++ b.items)
    rw [cnts_append] at this
    simp only [setN, V.cnt, cnts]; omega
  · have := flt_cnts op a.items b.items
    simp only [setV, V.cnt, cnts]; omega
def ICmb (op : Int) (a b : V) (i : Nat) (t : List AV) (H : Heap) : Prop := ∃ tok, i ≤ a.items.length ∧ TokAt H (fltV op (a.items.take i) b.items) tok ∧ H[0]? = some (.cells [.int .i64 a.kind, .int .i64 a.num, .str a.s, .list (avs a.keys) none, .list (avs a.items) none] 24) ∧ H[1]? = some (.cells [.int .i64 b.kind, .int .i64 b.num, .str b.s, .list (avs b.keys) none, .list (avs b.items) none] 24) ∧ H[2]? = some (.cells [.int .i64 0, .int .i64 0, .str [], .empty, .empty] 24) ∧ H[3]? = some (.cells [.int .i64 4, .int .i64 0, .str [], .empty, LV (fltV op (a.items.take i) b.items) tok] 24) ∧ Fit [some (.int .i64 op), none, none, none, some (.ptr 0 0), some (.ptr 1 0), some (.ptr 2 0), some (.int .i64 0), none, some (.ptr 3 0), none, none, none, none, none, none, none, none, none, none, none, none, none, none, none, none, none, none, none, none, none, none, none, none, none, none, none, none, none, none, none, none, none, none, some (.list (avs a.items) none), some (.int .i64 a.items.length), some (.int .i64 i), none, none, none, none, none, none, none, none, none, none, none, none, none, none, none, none, none, none, none, none] t
set_option maxHeartbeats 4000000 in
set_option maxRecDepth 100000 in
theorem c46 (op : Int) (a b : V) (H : Heap) (ha : a.str) (hb : b.str) (hc : a.cnt + b.cnt ≤ 1000000) :
    Call CC 46 [.int .i64 op, a.av, b.av] H = some (.ok (.tup [(combW op a b).av, .int .i64 (combR op a b)]), H) := by
  have q1 := cnt_items a
  have q2 := cnt_items b
  have q6 := len_cnts a.items
  have q7 := len_cnts b.items
  have g0 := fun H => c87 op 0 2 H
  have g1 := fun H => c82 [a, b] H ⟨ha, hb, trivial⟩ (by simp [cnts]; omega)
  have g2 := fun H => c96 4 [a, b] H (by simp [cnts]; omega)
  have g3 := fun H => c75 [chkL [a, b], tyAll 4 [a, b]] H (by simp)
  simp only [il] at g3
  simp only [avs, V.av_eq] at g1 g2
  rw [← tyAll] at g2
  rw [← setsE] at g3
  rw [← opB] at g0
  have hcc := comb_cnt op a b
  have hres : ∀ H, combE op a b = 0 → Call CC 98 [(combV op a b).av, .int .i64 0] H = some (.ok (.tup [(combW op a b).av, .int .i64 (combR op a b)]), H) := fun H h => by
    have := c98 (combV op a b) 0 H (by omega)
    have hr : combR op a b = resE (combV op a b) 0 := by rw [combR, if_neg (by simp [h])]
    rw [this, combW, hr]
    split <;> rfl
  refine cwp (fn := Tryz.f46) rfl (by kernel_rfl) rfl rfl rfl rfl (by simp) (by simp) ?_ H
  generalize hW : combW op a b = W at *
  cases h0 : opB op
  · have he : combR op a b = 4 := by simp [combR, combE, h0]
    rw [combW, he, if_neg (by decide)] at hW
    subst hW
    rw [he, zeroV_av]
    simp [V.av_eq, g0, h0, undv24, fv24_all]
  · simp [V.av_eq, g0, h0, g1, g2, g3]
    refine ⟨by kernel_rfl, ?_⟩
    have hce : combE op a b = setsE a b := by simp [combE, h0]
    cases he : decide (setsE a b = 0)
    · have he' : ¬ setsE a b = 0 := by simpa using he
      have hr : combR op a b = setsE a b := by rw [combR, hce, if_pos he']
      rw [combW, hr, if_neg he'] at hW
      subst hW
      rw [hr]
      simp [undv24, fv24_all, zeroV, V.kind, V.num, V.s, V.keys, V.items, avs]
    · have he' : setsE a b = 0 := by simpa using he
      obtain ⟨e1, e2, e3, e4⟩ := setsE_zero he'
      have hres := fun H => hres H (by rw [hce, he'])
      rw [V.av_eq W] at hres
      generalize combR op a b = R at *
      have hops : op = 0 ∨ op = 1 ∨ op = 2 := by unfold opB at h0; simp at h0; omega
      by_cases h3 : op = 0
      · subst h3
        have hv : combV 0 a b = setN (a.items ++ b.items) := rfl
        have g4 := fun H => c109 a.items b.items H (by omega)
        have g5 := fun H => c100 (a.items ++ b.items) (by rw [cnts_append]; omega) H
        rw [← hv] at g5
        simp [g4, g5, hres]
      · have hv : combV op a b = setV (fltV op a.items b.items) := by rw [combV, if_neg h3]
        simp [h3, undv24, fv24_all, fv24_0]
        have hops' : op = 1 ∨ op = 2 := by omega
        refine st_iter (ICmb op a b) a.items.length ?_ ?_
        · exact ⟨0, by omega, fun h => absurd rfl h, rfl, rfl, rfl, rfl, by simp⟩
        · rintro i t H ⟨tok, hi, hk, m0, m1, m2, m3, ht⟩
          obtain ⟨d, rfl⟩ := ht.elim
          clear ht
          refine ⟨hi, ?_⟩
          simp
          cases hb : decide (i < a.items.length)
          · have hb' : i = a.items.length := by simp at hb; omega
            subst hb'
            rw [List.take_length] at m3
            rw [hv, setV_av] at hres
            have b2 := set_of m2
            simp [m2, m3, hres, b2]
          · have hb' : i < a.items.length := by simpa using hb
            have g6 := fun H => c110 b a.items[i] H (asc_of e2 e4) (by omega)
            rw [V.av_eq, V.av_eq] at g6
            have n0 := app_get m0
            have n1 := app_get m1
            have n2 := app_get m2
            have n3 := app_get m3
            have w1 := wrapI (i := i + 1) (by omega) (by omega)
            have e5 := flt_succ op a.items b.items i hb'
            have hkp : keepB op b.items a.items[i] = (memB b.items a.items[i] == decide (op = 1)) := rfl
            have q8 := flt_len op (a.items.take i) b.items
            rw [List.length_take] at q8
            generalize fltV op (a.items.take i) b.items = o at *
            simp [-aappB, hb', V.av_eq, n1, g6]
            rw [← hkp]
            cases hkv : keepB op b.items a.items[i]
            · rw [hkv, if_neg (by decide)] at e5
              simp [w1]
              exact ⟨tok, by omega, by rw [e5]; exact TokAt.app hk _, n0 _, n1 _, n2 _, by rw [e5]; exact n3 _, by simp⟩
            · rw [hkv, if_pos rfl] at e5
              obtain ⟨t1, H1, a1, h1, k1⟩ := app_LVk (H ++ [boxV a.items[i]]) o [a.items[i]] tok (TokAt.app hk _) (by simp; omega)
              have hne : o ++ [a.items[i]] ≠ [] := by simp
              rw [avs, avs, V.av_eq, lv_cons hne] at a1
              have p0 := k1.2 _ _ _ (n0 _)
              have p1 := k1.2 _ _ _ (n1 _)
              have p2 := k1.2 _ _ _ (n2 _)
              have p3 := k1.2 _ _ _ (n3 _)
              have b3 := lt_of_get p3
              simp [-aappB, n3, a1, p3, w1]
              refine ⟨t1, by omega, ?_, ?_, ?_, ?_, ?_, by simp⟩
              · rw [e5]; intro hh
                rw [List.getElem?_set_ne]
                · exact h1 hh
                · intro e; subst e
                  have := h1 hh; rw [p3] at this; cases this
              · rw [List.getElem?_set_ne (by decide)]; exact p0
              · rw [List.getElem?_set_ne (by decide)]; exact p1
              · rw [List.getElem?_set_ne (by decide)]; exact p2
              · rw [e5, lv_cons hne]; exact set_of p3 _
end Go.Tv

/- Combined of the reference. -/
namespace Go.Tv
open Go.Proofs
set_option maxHeartbeats 4000000
def keepR (op : Int) (b : List V) (x : V) : Bool := decide (op = 0) || (decide (op = 1) && memB b x) || (decide (op = 2) && !memB b x)
def fltR (op : Int) (a b : List V) : List V := a.filter (keepR op b)
theorem fltR_succ (op : Int) (a b : List V) (i : Nat) (h : i < a.length) : fltR op (a.take (i + 1)) b = if keepR op b a[i] then fltR op (a.take i) b ++ [a[i]] else fltR op (a.take i) b := by
  unfold fltR
  rw [take_succ a i h, List.filter_append]
  by_cases hk : keepR op b a[i] = true
  · simp [hk]
  · simp [hk]
theorem fltR_len (op : Int) (a b : List V) : (fltR op a b).length ≤ a.length := List.length_filter_le _ _
theorem fltR_0 (a b : List V) : fltR 0 a b = a := by simp [fltR, keepR]
theorem fltR_1 (a b : List V) : fltR 1 a b = fltV 1 a b := by simp [fltR, fltV]; apply List.filter_congr; intro x _; simp [keepR, keepB]
theorem fltR_2 (a b : List V) : fltR 2 a b = fltV 2 a b := by simp [fltR, fltV]; apply List.filter_congr; intro x _; simp [keepR, keepB]
def ICr (op : Int) (a b : V) (i : Nat) (t : List AV) (H : Heap) : Prop := ∃ tok, i ≤ a.items.length ∧ TokAt H (fltR op (a.items.take i) b.items) tok ∧ H[0]? = some (.cells [.int .i64 a.kind, .int .i64 a.num, .str a.s, .list (avs a.keys) none, .list (avs a.items) none] 24) ∧ H[1]? = some (.cells [.int .i64 b.kind, .int .i64 b.num, .str b.s, .list (avs b.keys) none, .list (avs b.items) none] 24) ∧ H[2]? = some (.cells [.int .i64 0, .int .i64 0, .str [], .empty, .empty] 24) ∧ Fit [some (.int .i64 op), none, none, none, some (.ptr 0 0), some (.ptr 1 0), some (.ptr 2 0), some (LV (fltR op (a.items.take i) b.items) tok), some (.int .i64 i), none, none, none, none, none, none, none, none, none, none, none, none, none, none, none, none, none, none, none, none, none, none, none, none, none, none, none, none, none, none, none, none, none, none, none, none, none, none, none, none, none, none, none, none, none, none, none, none, none, none] t
theorem c52_0 (a b : V) (H : Heap) (hc : a.cnt + b.cnt ≤ 1000000) :
    Call CC 52 [.int .i64 0, a.av, b.av] H = some (.ok ((combV 0 a b).av), H) := by
  have q1 := cnt_items a
  have q2 := cnt_items b
  have q6 := len_cnts a.items
  have q7 := len_cnts b.items
  have q9 := cnts_append a.items b.items
  have hb38 := fun l H => c38 l H
  have h103 := fun H => c103 (a.items ++ b.items) H (by omega)
  simp only [setV_av] at hb38
  refine cwp (fn := Tryz.f52) rfl (by kernel_rfl) rfl rfl rfl rfl (by simp) (by simp) ?_ H
  simp [V.av_eq]
  refine st_iter (ICr 0 a b) a.items.length ?_ ?_
  · exact ⟨0, by omega, fun h => absurd (by simp [fltR]) h, rfl, rfl, rfl, by simp [fltR, lv_nil]⟩
  · rintro i t H ⟨tok, hi, hk, m0, m1, m2, ht⟩
    obtain ⟨d, rfl⟩ := ht.elim
    clear ht
    refine ⟨hi, ?_⟩
    simp
    cases hb : decide (i < a.items.length)
    · have hb' : i = a.items.length := by simp at hb; omega
      subst hb'
      rw [List.take_length] at hk ⊢
      rw [fltR_0] at hk ⊢
      obtain ⟨t1, H1, a1, h1, k1⟩ := app_LVk H a.items b.items tok hk (by omega)
      have p0 := k1.2 _ _ _ m0
      have p1 := k1.2 _ _ _ m1
      have p2 := k1.2 _ _ _ m2
      have b2 := set_of p2
      have hv : combV 0 a b = setN (a.items ++ b.items) := rfl
      rw [hv, setN]
      simp [-aappB, m0, m1, a1, p2, h103, hb38, b2]
      exact ⟨rfl, rfl, rfl, rfl, rfl⟩
    · have hb' : i < a.items.length := by simpa using hb
      have g6 := fun H => c114 b.items a.items[i] H (by omega)
      rw [V.av_eq] at g6
      have w1 := wrapI (i := i + 1) (by omega) (by omega)
      have e5 := fltR_succ 0 a.items b.items i hb'
      have q8 := fltR_len 0 (a.items.take i) b.items
      rw [List.length_take] at q8
      generalize fltR 0 (a.items.take i) b.items = o at *
      simp [-aappB, hb', V.av_eq, m0, m1, g6]
      refine ⟨by kernel_rfl, ?_⟩
      obtain ⟨t1, H1, a1, h1, k1⟩ := app_LVk H o [a.items[i]] tok hk (by simp; omega)
      have hne : o ++ [a.items[i]] ≠ [] := by simp
      rw [avs, avs, V.av_eq, lv_cons hne] at a1
      have p0 := k1.2 _ _ _ m0
      have p1 := k1.2 _ _ _ m1
      have p2 := k1.2 _ _ _ m2
      have hkv := True.intro
      rw [if_pos (by simp [keepR])] at e5
      simp [-aappB, a1, w1]
      exact ⟨t1, by omega, by rw [e5]; exact h1, p0, p1, p2, by rw [e5, lv_cons hne]; simp⟩
theorem c52_1 (a b : V) (H : Heap) (hc : a.cnt + b.cnt ≤ 1000000) :
    Call CC 52 [.int .i64 1, a.av, b.av] H = some (.ok ((combV 1 a b).av), H) := by
  have q1 := cnt_items a
  have q2 := cnt_items b
  have q6 := len_cnts a.items
  have q7 := len_cnts b.items
  have q9 := cnts_append a.items b.items
  have hb38 := fun l H => c38 l H
  have h103 := fun H => c103 (a.items ++ b.items) H (by omega)
  simp only [setV_av] at hb38
  refine cwp (fn := Tryz.f52) rfl (by kernel_rfl) rfl rfl rfl rfl (by simp) (by simp) ?_ H
  simp [V.av_eq]
  refine st_iter (ICr 1 a b) a.items.length ?_ ?_
  · exact ⟨0, by omega, fun h => absurd (by simp [fltR]) h, rfl, rfl, rfl, by simp [fltR, lv_nil]⟩
  · rintro i t H ⟨tok, hi, hk, m0, m1, m2, ht⟩
    obtain ⟨d, rfl⟩ := ht.elim
    clear ht
    refine ⟨hi, ?_⟩
    simp
    cases hb : decide (i < a.items.length)
    · have hb' : i = a.items.length := by simp at hb; omega
      subst hb'
      rw [List.take_length] at hk ⊢
      rw [fltR_1] at hk ⊢
      rw [combV, if_neg (by decide)]
      have b2 := set_of m2
      simp [m0, m2, hb38, b2]
      exact ⟨rfl, rfl, rfl, rfl, rfl⟩
    · have hb' : i < a.items.length := by simpa using hb
      have g6 := fun H => c114 b.items a.items[i] H (by omega)
      rw [V.av_eq] at g6
      have w1 := wrapI (i := i + 1) (by omega) (by omega)
      have e5 := fltR_succ 1 a.items b.items i hb'
      have q8 := fltR_len 1 (a.items.take i) b.items
      rw [List.length_take] at q8
      generalize fltR 1 (a.items.take i) b.items = o at *
      simp [-aappB, hb', V.av_eq, m0, m1, g6]
      refine ⟨by kernel_rfl, ?_⟩
      obtain ⟨t1, H1, a1, h1, k1⟩ := app_LVk H o [a.items[i]] tok hk (by simp; omega)
      have hne : o ++ [a.items[i]] ≠ [] := by simp
      rw [avs, avs, V.av_eq, lv_cons hne] at a1
      have p0 := k1.2 _ _ _ m0
      have p1 := k1.2 _ _ _ m1
      have p2 := k1.2 _ _ _ m2
      cases hkv : memB b.items a.items[i]
      · have hh := hkv
        rw [if_neg (by simp [keepR, hkv])] at e5
        simp [-aappB, w1]
        exact ⟨tok, by omega, by rw [e5]; exact hk, m0, m1, m2, by rw [e5]; simp⟩
      · have hh := hkv
        rw [if_pos (by simp [keepR, hkv])] at e5
        simp [-aappB, hb', V.av_eq, m0, a1, w1]
        exact ⟨t1, by omega, by rw [e5]; exact h1, p0, p1, p2, by rw [e5, lv_cons hne]; simp⟩
theorem c52_2 (a b : V) (H : Heap) (hc : a.cnt + b.cnt ≤ 1000000) :
    Call CC 52 [.int .i64 2, a.av, b.av] H = some (.ok ((combV 2 a b).av), H) := by
  have q1 := cnt_items a
  have q2 := cnt_items b
  have q6 := len_cnts a.items
  have q7 := len_cnts b.items
  have q9 := cnts_append a.items b.items
  have hb38 := fun l H => c38 l H
  have h103 := fun H => c103 (a.items ++ b.items) H (by omega)
  simp only [setV_av] at hb38
  refine cwp (fn := Tryz.f52) rfl (by kernel_rfl) rfl rfl rfl rfl (by simp) (by simp) ?_ H
  simp [V.av_eq]
  refine st_iter (ICr 2 a b) a.items.length ?_ ?_
  · exact ⟨0, by omega, fun h => absurd (by simp [fltR]) h, rfl, rfl, rfl, by simp [fltR, lv_nil]⟩
  · rintro i t H ⟨tok, hi, hk, m0, m1, m2, ht⟩
    obtain ⟨d, rfl⟩ := ht.elim
    clear ht
    refine ⟨hi, ?_⟩
    simp
    cases hb : decide (i < a.items.length)
    · have hb' : i = a.items.length := by simp at hb; omega
      subst hb'
      rw [List.take_length] at hk ⊢
      rw [fltR_2] at hk ⊢
      rw [combV, if_neg (by decide)]
      have b2 := set_of m2
      simp [m0, m2, hb38, b2]
      exact ⟨rfl, rfl, rfl, rfl, rfl⟩
    · have hb' : i < a.items.length := by simpa using hb
      have g6 := fun H => c114 b.items a.items[i] H (by omega)
      rw [V.av_eq] at g6
      have w1 := wrapI (i := i + 1) (by omega) (by omega)
      have e5 := fltR_succ 2 a.items b.items i hb'
      have q8 := fltR_len 2 (a.items.take i) b.items
      rw [List.length_take] at q8
      generalize fltR 2 (a.items.take i) b.items = o at *
      simp [-aappB, hb', V.av_eq, m0, m1, g6]
      refine ⟨by kernel_rfl, ?_⟩
      obtain ⟨t1, H1, a1, h1, k1⟩ := app_LVk H o [a.items[i]] tok hk (by simp; omega)
      have hne : o ++ [a.items[i]] ≠ [] := by simp
      rw [avs, avs, V.av_eq, lv_cons hne] at a1
      have p0 := k1.2 _ _ _ m0
      have p1 := k1.2 _ _ _ m1
      have p2 := k1.2 _ _ _ m2
      cases hkv : memB b.items a.items[i]
      · have hh := hkv
        rw [if_pos (by simp [keepR, hkv])] at e5
        simp [-aappB, hb', V.av_eq, m0, a1, w1]
        exact ⟨t1, by omega, by rw [e5]; exact h1, p0, p1, p2, by rw [e5, lv_cons hne]; simp⟩
      · have hh := hkv
        rw [if_neg (by simp [keepR, hkv])] at e5
        simp [-aappB, w1]
        exact ⟨tok, by omega, by rw [e5]; exact hk, m0, m1, m2, by rw [e5]; simp⟩
theorem c52 (op : Int) (a b : V) (H : Heap) (ho : opB op = true) (hc : a.cnt + b.cnt ≤ 1000000) : Call CC 52 [.int .i64 op, a.av, b.av] H = some (.ok ((combV op a b).av), H) := by
  have hops : op = 0 ∨ op = 1 ∨ op = 2 := by unfold opB at ho; simp at ho; omega
  rcases hops with rfl | rfl | rfl
  · exact c52_0 a b H hc
  · exact c52_1 a b H hc
  · exact c52_2 a b H hc
end Go.Tv
