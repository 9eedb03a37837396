/-
  What the functions of chapter 8 compute: Applied, Joined.
-/
import Derived.Test.YtbofonlhakedpaaGreatDoorExi
import Derived.Test.YtbofonlhakedpaaGreatDoorShapesA
/- Applied of the program and of the reference. -/
namespace Go.Tv
open Go.Proofs
set_option maxHeartbeats 4000000
theorem asc_keys {v : V} (h : chkE v = 0) (hk : v.kind = 5) : SAsc v.keys := by
  unfold chkE at h
  split at h
  · obtain ⟨_, h2, _, _⟩ := errV_zero h
    have := h2 rfl
    unfold ordE at this
    split at this
    · exact absurd this (by decide)
    · rename_i hn
      refine (ascL_iff _).1 ?_
      cases hx : ascL v.keys with
      | true => rfl
      | false => exact absurd (.inr ⟨hk, hx⟩) hn
  · exact absurd h (by decide)
theorem chk_own {v : V} (h : chkE v = 0) : Own0 v := by
  unfold chkE at h
  split at h
  · exact own0_of (errV_zero h).1
  · exact absurd h (by decide)
def errF (l : List V) (f : V) : Int := firstNZ [chkL l, tyAll 5 [f]]
theorem errF_zero {l : List V} {f : V} (h : errF l f = 0) (hm : f ∈ l) : chkE f = 0 ∧ f.kind = 5 := by
  unfold errF at h
  have h1 : chkL l = 0 := Classical.byContradiction fun h1 => by simp [firstNZ, h1] at h
  have hc : ∀ (l : List V), chkL l = 0 → ∀ v ∈ l, chkE v = 0 := fun l => by
    induction l with
    | nil => intro _ v hv; simp at hv
    | cons a r ih =>
      intro h v hv
      rw [chkL] at h
      by_cases ha : chkE a = 0
      · rw [if_neg (by simp [ha])] at h
        rcases List.mem_cons.1 hv with rfl | hv
        · exact ha
        · exact ih h v hv
      · rw [if_pos ha] at h; exact absurd h ha
  refine ⟨hc l h1 f hm, ?_⟩
  by_cases hk : f.kind = 5
  · exact hk
  · simp [firstNZ, h1, tyAll, hk] at h
theorem mem_at {f : V} {x : V} (hs : SAsc f.keys) (hm : memB f.keys x = true) : ∃ h : atU x f.keys < f.keys.length, f.keys[atU x f.keys] = x := by
  rw [memB_at hs] at hm
  split at hm
  · rename_i h
    exact ⟨h, cmpV_eq.1 (by simpa using hm)⟩
  · cases hm
def apE (f x : V) : Int := if errF [f, x] f ≠ 0 then errF [f, x] f else if memB f.keys x then 0 else 21
def apW (f x : V) : V := if apE f x = 0 then f.items.getD (atU x f.keys) zeroV else zeroV
theorem c53 (f x : V) (H : Heap) (hf : f.str) (hx : x.str) (hc : f.cnt + x.cnt ≤ 1000000) : Call CC 53 [f.av, x.av] H = some (.ok (.tup [(apW f x).av, .int .i64 (apE f x)]), H) := by
  have q0 := f.cnt_eq
  have q6 := len_cnts f.items
  have g1 := fun H => c82 [f, x] H ⟨hf, hx, trivial⟩ (by simp [cnts]; omega)
  have g2 := fun H => c96 5 [f] H (by simp [cnts]; omega)
  have g3 := fun H => c75 [chkL [f, x], tyAll 5 [f]] H (by simp)
  simp only [il] at g3
  simp only [avs, V.av_eq] at g1 g2
  rw [← tyAll] at g2
  rw [← errF] at g3
  generalize hW : apW f x = W at *
  refine cwp (fn := Tryz.f53) rfl (by kernel_rfl) rfl rfl rfl rfl (by simp) (by simp) ?_ H
  by_cases he : errF [f, x] f = 0
  · obtain ⟨h1, h2⟩ := errF_zero he (by simp)
    have hs := asc_keys h1 h2
    have hl := (chk_own h1).len h2
    have g4 := fun H => c115 f.keys x H hs (by omega)
    rw [V.av_eq] at g4
    cases hm : memB f.keys x
    · have e1 : apE f x = 21 := by rw [apE, if_neg (by simp [he]), hm]; rfl
      rw [apW, e1, if_neg (by decide)] at hW
      subst hW
      rw [hm] at g4
      rw [e1, zeroV_av]
      simp [V.av_eq, g1, g2, g3, he, g4, undv24, fv24_all]
      refine (?_ : drawE _ _ _ = true)
      kernel_rfl
    · have e1 : apE f x = 0 := by rw [apE, if_neg (by simp [he]), hm]; rfl
      obtain ⟨hlt, _⟩ := mem_at hs hm
      have hi : atU x f.keys < f.items.length := by omega
      have e2 : W = f.items[atU x f.keys] := by rw [← hW, apW, e1, if_pos rfl, List.getD_eq_getElem?_getD, List.getElem?_eq_getElem hi]; rfl
      have q5 := cnt_mem (List.getElem_mem hi)
      have g5 := fun H => c116 f.items[atU x f.keys] H (by omega)
      rw [hm] at g4
      rw [V.av_eq] at g5
      rw [e1, e2]
      simp [V.av_eq, g1, g2, g3, he, g4, hi, g5]
      refine (?_ : drawE _ _ _ = true)
      kernel_rfl
  · have e1 : apE f x = errF [f, x] f := by rw [apE, if_pos he]
    rw [apW, e1, if_neg he] at hW
    subst hW
    rw [e1, zeroV_av]
    simp [V.av_eq, g1, g2, g3, he, undv24, fv24_all]
    refine (?_ : drawE _ _ _ = true)
    kernel_rfl
def IAp (f x : V) (i : Nat) (t : List AV) (H : Heap) : Prop := i ≤ f.keys.length ∧ memB f.keys x = memB (f.keys.drop i) x ∧ H = [.cells [.int .i64 f.kind, .int .i64 f.num, .str f.s, .list (avs f.keys) none, .list (avs f.items) none] 24, .cells [.int .i64 x.kind, .int .i64 x.num, .str x.s, .list (avs x.keys) none, .list (avs x.items) none] 24, .cells [.int .i64 0, .int .i64 0, .str [], .empty, .empty] 24, .cells [.int .i64 0, .int .i64 0, .str [], .empty, .empty] 24] ∧ Fit [none, none, some (.ptr 0 0), some (.ptr 1 0), some (.ptr 2 0), some (.int .i64 0), some (.ptr 3 0), none, none, some (.int .i64 i), none, none, none, none, none, none, none, none, none, none, none, none, none, none, none, none, none, none, none, none, none, none, none, none, none, none, none, none, none, none, none, none, none, none, none, none, none] t
theorem c56 (f x : V) (H : Heap) (hf : f.str) (hx : x.str) (hc : f.cnt + x.cnt ≤ 1000000) : Call CC 56 [f.av, x.av] H = some (.ok (.tup [(apW f x).av, .int .i64 (apE f x)]), H) := by
  have q0 := f.cnt_eq
  have q6 := len_cnts f.keys
  have g1 := fun H => c18 f H hf (by omega)
  have g2 := fun H => c18 x H hx (by omega)
  rw [V.av_eq] at g1 g2
  generalize hW : apW f x = W at *
  refine cwp (fn := Tryz.f56) rfl (by kernel_rfl) rfl rfl rfl rfl (by simp) (by simp) ?_ H
  by_cases h1 : chkE f = 0
  · by_cases h2 : chkE x = 0
    · by_cases h3 : f.kind = 5
      · have he : errF [f, x] f = 0 := by simp [errF, firstNZ, chkL, h1, h2, tyAll, h3]
        have hs := asc_keys h1 h3
        have hl := (chk_own h1).len h3
        have k3 : (f.kind = 5) = True := eq_true h3
        simp [V.av_eq, g1, g2, h1, h2, k3, undv24, fv24_all]
        refine st_iter (IAp f x) f.keys.length ?_ ?_
        · exact ⟨by omega, rfl, rfl, by simp⟩
        · rintro i t H ⟨hi, hd, rfl, ht⟩
          obtain ⟨d, rfl⟩ := ht.elim
          clear ht
          refine ⟨hi, ?_⟩
          simp
          cases hb : decide (i < f.keys.length)
          · have hb' : i = f.keys.length := by simp at hb; omega
            have hm : memB f.keys x = false := by rw [hd, hb', List.drop_length]; rfl
            have e1 : apE f x = 21 := by rw [apE, if_neg (by simp [he]), hm]; rfl
            rw [apW, e1, if_neg (by decide)] at hW
            subst hW
            rw [e1]
            simp
            exact ⟨rfl, rfl, rfl, rfl, rfl⟩
          · have hb' : i < f.keys.length := by simpa using hb
            have hb2 : i < f.items.length := by omega
            have q5 := cnt_mem (List.getElem_mem hb')
            have g3 := fun H => c21 f.keys[i] x H (by omega)
            rw [V.av_eq, V.av_eq] at g3
            have e1 := memB_drop f.keys x i hb'
            have w1 := wrapI (i := i + 1) (by omega) (by omega)
            simp [hb', V.av_eq, g3]
            refine ⟨by kernel_rfl, ?_⟩
            cases hcm : decide (cmpV f.keys[i] x = 0)
            · rw [hcm, Bool.false_or] at e1
              simp [w1]
              exact ⟨by omega, by rw [hd, e1], rfl, by simp⟩
            · have hcm' : f.keys[i] = x := cmpV_eq.1 (by simpa using hcm)
              rw [hcm, Bool.true_or] at e1
              have hm : memB f.keys x = true := by rw [hd, e1]
              have e2 : apE f x = 0 := by rw [apE, if_neg (by simp [he]), hm]; rfl
              obtain ⟨hlt, hat⟩ := mem_at hs hm
              have hia : atU x f.keys = i := by
                have h5 := List.pairwise_iff_getElem.1 hs
                rcases Nat.lt_trichotomy (atU x f.keys) i with h | h | h
                · have := h5 _ _ hlt hb' h; rw [hat, hcm', cmpV_self] at this; omega
                · exact h
                · have := h5 _ _ hb' hlt h; rw [hat, hcm', cmpV_self] at this; omega
              have e3 : W = f.items[i] := by rw [← hW, apW, e2, if_pos rfl, hia, List.getD_eq_getElem?_getD, List.getElem?_eq_getElem hb2]; rfl
              rw [e2, e3]
              simp [hb2, V.av_eq]
              done
      · have he : errF [f, x] f = 20 := by simp [errF, firstNZ, chkL, h1, h2, tyAll, h3]
        have e1 : apE f x = 20 := by rw [apE, if_pos (by rw [he]; decide), he]
        rw [apW, e1, if_neg (by decide)] at hW
        subst hW
        rw [e1, zeroV_av]
        simp [V.av_eq, g1, g2, h1, h2, h3, undv24, fv24_all]
    · have he : errF [f, x] f = chkE x := by simp [errF, firstNZ, chkL, h1, h2]
      have e1 : apE f x = chkE x := by rw [apE, if_pos (by rw [he]; exact h2), he]
      rw [apW, e1, if_neg h2] at hW
      subst hW
      rw [e1, zeroV_av]
      simp [V.av_eq, g1, g2, h1, h2, undv24, fv24_all]
  · have he : errF [f, x] f = chkE f := by simp [errF, firstNZ, chkL, h1]
    have e1 : apE f x = chkE f := by rw [apE, if_pos (by rw [he]; exact h1), he]
    rw [apW, e1, if_neg h1] at hW
    subst hW
    rw [e1, zeroV_av]
    simp [V.av_eq, g1, h1, undv24, fv24_all]
end Go.Tv

/- Joined of the program and of the reference. -/
namespace Go.Tv
open Go.Proofs
set_option maxHeartbeats 4000000
/-! ### rows whose elements are not yet what they are -/
def LX (els : List AV) (tok : Nat) : AV := if els = [] then .empty else .list els (some tok)
def TokX (H : Heap) (els : List AV) (tok : Nat) : Prop := els ≠ [] → H[tok]? = some (.tail els.length 5)
theorem lx_nil (tok : Nat) : LX [] tok = .empty := if_pos rfl
theorem lx_cons {l : List AV} (h : l ≠ []) (tok : Nat) : LX l tok = .list l (some tok) := if_neg h
theorem TokX.app {H : Heap} {l : List AV} {tok : Nat} (h : TokX H l tok) (L : Heap) : TokX (H ++ L) l tok := fun hl => by rw [List.getElem?_append_left (List.getElem?_eq_some_iff.1 (h hl)).1]; exact h hl
@[simp] theorem lx_erase (l : List AV) (tok : Nat) : (LX l tok).erase = .list (eraseL l) none := by
  unfold LX; split
  · rename_i h; simp [h]
  · simp
def FiveL (els : List AV) : Prop := ∀ x ∈ els, x.cells.length = 5
theorem app_LXk (H : Heap) (a : List AV) (e : AV) (tok : Nat) (ht : TokX H a tok) (h5 : FiveL a) (he : e.cells.length = 5) (ho : e.cells.all AV.one = true) (hc : a.length + 1 ≤ 1000000000) :
    ∃ tok' H', aappB CC [22, 22] [LX a tok, .list [e] none] H = some (.list (a ++ [e]) (some tok'), H') ∧ TokX H' (a ++ [e]) tok' ∧ KC H H' := by
  have ob : [e].all (fun v => decide (v.cells.length = 5) && v.cells.all AV.one) = true := by simp [he]; simpa using ho
  by_cases ha : a = []
  · subst ha
    have r1 := room24 1 (by omega)
    refine ⟨H.length, H ++ [.tail 1 5], ?_, fun _ => by simp, KC.app _ _⟩
    rw [lx_nil]
    simp only [aappB, aappend, el22, int22, newsH, news, sz24, zero24]
    rw [if_pos ⟨rfl, by omega, rfl, ob⟩]
    simp only [List.nil_append, List.length_cons, List.length_nil, Nat.zero_add, r1, if_true, cc_arr, Bool.false_eq_true, if_false]
  · have r1 := room24 (a.length + 1) hc
    have hta := ht ha
    have hkc : KC H (H.set tok .dead ++ [.tail (a.length + 1) 5]) := ⟨by simp, fun j cs T h => by
      have hjt : tok ≠ j := fun e => by subst e; rw [hta] at h; cases h
      rw [List.getElem?_append_left (by simpa using (List.getElem?_eq_some_iff.1 h).1), List.getElem?_set_ne hjt]; exact h⟩
    refine ⟨H.length, H.set tok .dead ++ [.tail (a.length + 1) 5], ?_, fun _ => by simp, hkc⟩
    rw [lx_cons ha]
    simp only [aappB, aappend, el22, int22, newsH, news, sz24, zero24]
    rw [if_pos ⟨rfl, by omega, rfl, ob⟩]
    simp only [List.length_cons, List.length_nil, Nat.zero_add, hta]
    rw [if_pos ⟨trivial, trivial, r1, by simpa [FiveL] using h5⟩]
theorem lv_cases (o : List V) (tok : Nat) : LV o tok = .empty ∨ LV o tok = .list (avs o) (some tok) := by
  unfold LV; split
  · exact .inl rfl
  · exact .inr rfl
def keyX (i : Nat) : AV := .agg [.int .i64 1, .int .i64 ((i + 1 : Nat) : Int), .str [], .empty, .empty]
def keysX (n : Nat) : List AV := (List.range n).map keyX
def tupK (n : Nat) : List V := (List.range n).map fun i => intV ((i + 1 : Nat) : Int)
theorem keysX_succ (n : Nat) : keysX (n + 1) = keysX n ++ [keyX n] := by simp [keysX, List.range_succ]
theorem tupK_succ (n : Nat) : tupK (n + 1) = tupK n ++ [intV ((n + 1 : Nat) : Int)] := by simp [tupK, List.range_succ]
theorem keysX_len (n : Nat) : (keysX n).length = n := by simp [keysX]
theorem tupK_len (n : Nat) : (tupK n).length = n := by simp [tupK]
theorem keysX_five (n : Nat) : FiveL (keysX n) := by
  intro x hx
  obtain ⟨i, _, rfl⟩ := List.mem_map.1 hx
  rfl
theorem eraseL_app (a b : List AV) : eraseL (a ++ b) = eraseL a ++ eraseL b := by
  induction a with
  | nil => rfl
  | cons x r ih => simp only [List.cons_append, eraseL, ih]
theorem keysX_erase : ∀ n, eraseL (keysX n) = avs (tupK n)
  | 0 => rfl
  | n + 1 => by
    rw [keysX_succ, tupK_succ, eraseL_app, keysX_erase n, avs_append]
    rfl
theorem tupK_cnts : ∀ n, cnts (tupK n) = n
  | 0 => rfl
  | n + 1 => by rw [tupK_succ, cnts_append, tupK_cnts n]; rfl
def tupV (l : List V) : V := .mk 5 0 [] (tupK l.length) l
theorem tupV_cnt (l : List V) : (tupV l).cnt = 1 + l.length + cnts l := by simp only [tupV, V.cnt, tupK_cnts]
def ITu (l : List V) (i : Nat) (t : List AV) (H : Heap) : Prop := ∃ tok, i ≤ l.length ∧ H[0]? = some (.cells [.int .i64 0, .int .i64 0, .str [], .empty, .empty] 24) ∧ H[1]? = some (.cells [.int .i64 5, .int .i64 0, .str [], LV (tupK i) tok, .list (avs l) none] 24) ∧ TokAt H (tupK i) tok ∧ Fit [some (.list (avs l) none), none, some (.ptr 0 0), some (.ptr 1 0), some (.int .i64 i), none, none, none, none, none, none, none, none, none, none, none, none, none, none, none, none, none] t
theorem c118 (l : List V) (H : Heap) (hc : l.length ≤ 100000000) : Call CC 118 [.list (avs l) none] H = some (.ok (tupV l).av, H) := by
  have hav : (tupV l).av = .agg [.int .i64 5, .int .i64 0, .str [], .list (avs (tupK l.length)) none, .list (avs l) none] := rfl
  rw [hav]
  refine cwp (fn := Tryz.f118) rfl (by kernel_rfl) rfl rfl rfl rfl (by simp) (by simp) ?_ H
  simp [undv24, fv24_all, fv24_0, fv24_4]
  refine st_iter (ITu l) l.length ?_ ?_
  · exact ⟨0, by omega, rfl, rfl, fun h => absurd rfl h, by simp⟩
  · rintro i t H ⟨tok, hi, m0, m1, hk, ht⟩
    obtain ⟨d, rfl⟩ := ht.elim
    clear ht
    refine ⟨hi, ?_⟩
    simp
    have u0 := set_of m0
    cases hb : decide (i < l.length)
    · have hb' : i = l.length := by simp at hb; omega
      subst hb'
      rcases lv_cases (tupK l.length) tok with hA | hA
      · have hAe := lv_erase (tupK l.length) tok
        rw [hA] at m1 hAe
        have hav : avs (tupK l.length) = [] := by
          simp at hAe
          first | exact hAe | exact hAe.symm
        rw [hav]
        simp [m0, m1, u0]
      · rw [hA] at m1
        simp [m0, m1, u0]
    · have hb' : i < l.length := by simpa using hb
      have w1 : IntKind.i64.wrap ((i : Int) + 1) = ((i + 1 : Nat) : Int) := by rw [wrapI (by omega) (by omega)]; omega
      have g1 := fun H => c69 ((i + 1 : Nat) : Int) H
      have e2 := tupK_succ i
      have q8 := tupK_len i
      generalize hy : intV ((i + 1 : Nat) : Int) = y at *
      obtain ⟨t1, H3, a1, b1, k1⟩ := app_LVk H (tupK i) [y] tok hk (by simp; omega)
      have hne : tupK i ++ [y] ≠ [] := by simp
      rw [avs, avs, V.av_eq, lv_cons hne] at a1
      rw [V.av_eq] at g1
      have p0 := k1.2 _ _ _ m0
      have p1 := k1.2 _ _ _ m1
      have s1 := set_of p1
      simp only [Int.natCast_add, Int.natCast_one] at w1 g1
      simp [-aappB, m1, g1, a1, w1, p1]
      refine ⟨?_, ?_⟩
      · refine (?_ : drawE _ _ _ = true)
        kernel_rfl
      · refine ⟨t1, by omega, ?_, by rw [e2, lv_cons hne]; exact s1 _, ?_, by simp⟩
        · rw [List.getElem?_set_ne (by decide)]; exact p0
        · rw [e2]
          intro hh
          rw [List.getElem?_set_ne]
          · exact b1 hh
          · intro e; subst e
            have := b1 hh; rw [p1] at this; cases this
/-! ### Joined -/
def jnE (a b : V) : Int := if chkL [a, b] ≠ 0 then chkL [a, b] else if (decide (a.kind = 5) && tupL a.keys 0) && (decide (b.kind = 5) && tupL b.keys 0) then resE (tupV (a.items ++ b.items)) 0 else 20
def jnW (a b : V) : V := if jnE a b = 0 then tupV (a.items ++ b.items) else zeroV
def jnOk (a b : V) : Bool := (decide (a.kind = 5) && tupL a.keys 0) && (decide (b.kind = 5) && tupL b.keys 0)
def IJn (a b : V) (l : List V) (i : Nat) (t : List AV) (H : Heap) : Prop := ∃ tok, i ≤ l.length ∧ H[0]? = some (boxV a) ∧ H[1]? = some (boxV b) ∧ H[2]? = some (.cells [.int .i64 0, .int .i64 0, .str [], .empty, .empty] 24) ∧ H[3]? = some (.cells [.int .i64 5, .int .i64 0, .str [], LX (keysX i) tok, .list (avs l) none] 24) ∧ TokX H (keysX i) tok ∧ Fit [none, none, some (.ptr 0 0), some (.ptr 1 0), some (.ptr 2 0), some (.int .i64 0), none, some (.ptr 3 0), none, none, none, none, none, none, none, none, none, none, none, none, none, none, none, none, none, none, none, none, none, none, none, none, none, none, some (.list (avs l) none), some (.int .i64 l.length), some (.int .i64 i), none, none, none, none, none, none, none, none, none, none, none, none, none, none, none] t
theorem c55 (a b : V) (H : Heap) (ha : a.str) (hb : b.str) (hc : a.cnt + b.cnt ≤ 1000000) : Call CC 55 [a.av, b.av] H = some (.ok (.tup [(jnW a b).av, .int .i64 (jnE a b)]), H) := by
  have q1 := cnt_items a
  have q2 := cnt_items b
  have q6 := len_cnts a.items
  have q7 := len_cnts b.items
  have q8 := cnts_append a.items b.items
  have g1 := fun H => c82 [a, b] H ⟨ha, hb, trivial⟩ (by simp [cnts]; omega)
  simp only [avs, V.av_eq] at g1
  have g2 := fun H => c117 a H (by omega)
  have g3 := fun H => c117 b H (by omega)
  rw [V.av_eq] at g2 g3
  have g4 := fun H => c109 a.items b.items H (by omega)
  have hl : (a.items ++ b.items).length = a.items.length + b.items.length := List.length_append
  generalize hL : a.items ++ b.items = l at *
  have htc := tupV_cnt l
  have htv : (tupV l).av = .agg [.int .i64 5, .int .i64 0, .str [], .list (avs (tupK l.length)) none, .list (avs l) none] := rfl
  have g5 : ∀ H, chkL [a, b] = 0 → jnOk a b = true → Call CC 98 [(tupV l).av, .int .i64 0] H = some (.ok (.tup [(jnW a b).av, .int .i64 (jnE a b)]), H) := fun H h1 h2 => by
    have hr : jnE a b = resE (tupV l) 0 := by rw [jnE, if_neg (by simp [h1]), ← jnOk, h2, if_pos rfl, hL]
    rw [c98 (tupV l) 0 H (by omega), jnW, hr, hL]
    split <;> rfl
  generalize hW : jnW a b = W at *
  refine cwp (fn := Tryz.f55) rfl (by kernel_rfl) rfl rfl rfl rfl (by simp) (by simp) ?_ H
  by_cases h1 : chkL [a, b] = 0
  · cases hta : (decide (a.kind = 5) && tupL a.keys 0)
    · have e1 : jnE a b = 20 := by rw [jnE, if_neg (by simp [h1]), hta]; rfl
      rw [jnW, e1, if_neg (by decide)] at hW
      subst hW
      rw [hta] at g2
      rw [e1, zeroV_av]
      simp [V.av_eq, g1, g2, h1, undv24, fv24_all]
    · cases htb : (decide (b.kind = 5) && tupL b.keys 0)
      · have e1 : jnE a b = 20 := by rw [jnE, if_neg (by simp [h1]), htb, Bool.and_false]; rfl
        rw [jnW, e1, if_neg (by decide)] at hW
        subst hW
        rw [hta] at g2
        rw [htb] at g3
        rw [e1, zeroV_av]
        simp [V.av_eq, g1, g2, g3, h1, undv24, fv24_all]
      · have g5 := fun H => g5 H h1 (by rw [jnOk, hta, htb]; rfl)
        rw [hta] at g2
        rw [htb] at g3
        generalize jnE a b = R at *
        rw [htv, V.av_eq W] at g5
        simp [V.av_eq a, V.av_eq b, V.av_eq W, g1, g2, g3, g4, h1, undv24, fv24_all, fv24_0, fv24_4]
        refine st_iter (IJn a b l) l.length ?_ ?_
        · exact ⟨0, by omega, rfl, rfl, rfl, rfl, fun h => absurd rfl h, by simp⟩
        · rintro i t H ⟨tok, hi, m0, m1, m2, m3, hk, ht⟩
          obtain ⟨d, rfl⟩ := ht.elim
          clear ht
          refine ⟨hi, ?_⟩
          simp
          have u2 := set_of m2
          cases hb : decide (i < l.length)
          · have hb' : i = l.length := by simp at hb; omega
            subst hb'
            have hke := keysX_erase l.length
            simp [m3, m2, u2, hke, g5]
            done
          · have hb' : i < l.length := by simpa using hb
            have w1 : IntKind.i64.wrap ((i : Int) + 1) = ((i + 1 : Nat) : Int) := by rw [wrapI (by omega) (by omega)]; omega
            have e2 := keysX_succ i
            have q8 := keysX_len i
            obtain ⟨t1, H3, a1, b1, k1⟩ := app_LXk H (keysX i) (keyX i) tok hk (keysX_five i) rfl rfl (by omega)
            have hne : keysX i ++ [keyX i] ≠ [] := by simp
            have p0 := k1.2 _ _ _ m0
            have p1 := k1.2 _ _ _ m1
            have p2 := k1.2 _ _ _ m2
            have p3 := k1.2 _ _ _ m3
            have s1 := set_of p3
            rw [keyX] at a1
            simp only [Int.natCast_add, Int.natCast_one] at w1 a1
            simp [-aappB, m3, undv24, fv24_all, fv24_0, fv24_1, a1, w1, p3]
            refine ⟨t1, by omega, ?_, ?_, ?_, by rw [e2, lx_cons hne]; exact s1 _, ?_, by simp⟩
            · rw [List.getElem?_set_ne (by decide)]; exact p0
            · rw [List.getElem?_set_ne (by decide)]; exact p1
            · rw [List.getElem?_set_ne (by decide)]; exact p2
            · rw [e2]
              intro hh
              rw [List.getElem?_set_ne]
              · exact b1 hh
              · intro e; subst e
                have := b1 hh; rw [p3] at this; cases this
  · have e1 : jnE a b = chkL [a, b] := by rw [jnE, if_pos h1]
    rw [jnW, e1, if_neg h1] at hW
    subst hW
    rw [e1, zeroV_av]
    simp [V.av_eq, g1, h1, undv24, fv24_all]
end Go.Tv

/- Joined of the reference. -/
namespace Go.Tv
open Go.Proofs
set_option maxHeartbeats 4000000
theorem chkL_two {a b : V} (h : chkL [a, b] = 0) : chkE a = 0 ∧ chkE b = 0 := by
  simp only [chkL] at h
  by_cases h1 : chkE a = 0 <;> by_cases h2 : chkE b = 0 <;> simp_all
theorem shape_one {v : V} (h : chkE v = 0) (h5 : v.kind = 5) : (shapeR v = 1) = (tupL v.keys 0 = true) := by
  rw [← shape_same h, shapeF, if_pos h5]
  cases tupL v.keys 0
  · simp only [Bool.false_eq_true, if_false]
    split <;> simp
  · simp
theorem c58 (a b : V) (H : Heap) (ha : a.str) (hb : b.str) (hc : a.cnt + b.cnt ≤ 1000000) : Call CC 58 [a.av, b.av] H = some (.ok (.tup [(jnW a b).av, .int .i64 (jnE a b)]), H) := by
  have q1 := cnt_items a
  have q2 := cnt_items b
  have q6 := len_cnts a.items
  have q7 := len_cnts b.items
  have g1 := fun H => c113 a b 5 H ha hb (by omega)
  have g2 := fun H => c36 a H ha (by omega)
  have g3 := fun H => c36 b H hb (by omega)
  rw [V.av_eq] at g2 g3
  rw [V.av_eq, V.av_eq] at g1
  have hl : (a.items ++ b.items).length = a.items.length + b.items.length := List.length_append
  have g4 := fun H => c118 (a.items ++ b.items) H (by omega)
  have g5 : ∀ H, chkL [a, b] = 0 → jnOk a b = true → Call CC 51 [(tupV (a.items ++ b.items)).av] H = some (.ok (.tup [(jnW a b).av, .int .i64 (jnE a b)]), H) := fun H h1 h2 => by
    have hr : jnE a b = fitE (tupV (a.items ++ b.items)) := by rw [jnE, if_neg (by simp [h1]), ← jnOk, h2, if_pos rfl]; rfl
    rw [c51 _ H, jnW, hr]
    split <;> rfl
  have h20 : chkL [a, b] = 0 → jnOk a b = false → jnE a b = 20 := fun h1 h2 => by rw [jnE, if_neg (by simp [h1]), ← jnOk, h2]; rfl
  generalize hW : jnW a b = W at *
  refine cwp (fn := Tryz.f58) rfl (by kernel_rfl) rfl rfl rfl rfl (by simp) (by simp) ?_ H
  by_cases h1 : chkL [a, b] = 0
  · obtain ⟨ca, cb⟩ := chkL_two h1
    by_cases h5a : a.kind = 5
    · by_cases h5b : b.kind = 5
      · have hz : firstNZ [chkL [a, b], tyAll 5 [a, b]] = 0 := by simp [firstNZ, h1, tyAll, h5a, h5b]
        have sa := shape_one ca h5a
        have sb := shape_one cb h5b
        rw [hz] at g1
        cases hta : tupL a.keys 0
        · have e1 := h20 h1 (by simp [jnOk, hta])
          rw [hta] at sa
          rw [jnW, e1, if_neg (by decide)] at hW
          subst hW
          rw [e1, zeroV_av]
          simp [V.av_eq, g1, g2, sa, undv24, fv24_all]
        · rw [hta] at sa
          cases htb : tupL b.keys 0
          · have e1 := h20 h1 (by simp [jnOk, htb])
            rw [htb] at sb
            rw [jnW, e1, if_neg (by decide)] at hW
            subst hW
            rw [e1, zeroV_av]
            simp [V.av_eq, g1, g2, g3, sa, sb, undv24, fv24_all]
          · rw [htb] at sb
            have g5 := fun H => g5 H h1 (by simp [jnOk, hta, htb, h5a, h5b])
            generalize jnE a b = R at *
            rw [V.av_eq W] at g5
            obtain ⟨t1, H1, a1, b1, k1⟩ := app_LVk [boxV a, boxV b, .cells [.int .i64 0, .int .i64 0, .str [], .empty, .empty] 24] [] a.items 0 (fun h => absurd rfl h) (by simp; omega)
            obtain ⟨t2, H2, a2, b2, k2⟩ := app_LVk H1 ([] ++ a.items) b.items t1 b1 (by simp; omega)
            rw [lv_nil] at a1
            simp only [List.nil_append] at a1 a2
            have m1 := k1.2 1 _ _ rfl
            have m2 := k2.2 _ _ _ (k1.2 2 _ _ rfl)
            have u2 := set_of m2
            simp [-aappB, V.av_eq a, V.av_eq b, V.av_eq W, g1, g2, g3, sa, sb, a1, a2, m1, m2, u2, g4, g5]
            refine (?_ : drawE _ _ _ = true)
            kernel_rfl
      · have hz : firstNZ [chkL [a, b], tyAll 5 [a, b]] = 20 := by simp [firstNZ, h1, tyAll, h5a, h5b]
        have e1 := h20 h1 (by simp [jnOk, h5b])
        rw [hz] at g1
        rw [jnW, e1, if_neg (by decide)] at hW
        subst hW
        rw [e1, zeroV_av]
        simp [V.av_eq, g1, undv24, fv24_all]
    · have hz : firstNZ [chkL [a, b], tyAll 5 [a, b]] = 20 := by simp [firstNZ, h1, tyAll, h5a]
      have e1 := h20 h1 (by simp [jnOk, h5a])
      rw [hz] at g1
      rw [jnW, e1, if_neg (by decide)] at hW
      subst hW
      rw [e1, zeroV_av]
      simp [V.av_eq, g1, undv24, fv24_all]
  · have e1 : jnE a b = chkL [a, b] := by rw [jnE, if_pos h1]
    have hz : firstNZ [chkL [a, b], tyAll 5 [a, b]] = chkL [a, b] := by simp [firstNZ, h1]
    rw [hz] at g1
    rw [jnW, e1, if_neg h1] at hW
    subst hW
    rw [e1, zeroV_av]
    simp [V.av_eq, g1, h1, undv24, fv24_all]
end Go.Tv
