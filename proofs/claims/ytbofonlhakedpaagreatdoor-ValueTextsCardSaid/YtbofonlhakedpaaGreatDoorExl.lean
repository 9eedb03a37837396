/-
  What the functions of chapter 8 compute: Applied, Joined.
-/
import Derived.Test.YtbofonlhakedpaaGreatDoorExi
import Derived.Test.YtbofonlhakedpaaGreatDoorShapesA
namespace Go.Tv
open Go.Proofs
set_option maxHeartbeats 4000000
end Go.Tv
namespace Go.Tv
open Go.Proofs
set_option maxHeartbeats 4000000
def LX (els : List AV) (tok : Nat) : AV := if els = [] then .empty else .list els (some tok)
theorem lx_nil (tok : Nat) : LX [] tok = .empty := if_pos rfl
theorem lx_cons {l : List AV} (h : l ≠ []) (tok : Nat) : LX l tok = .list l (some tok) := if_neg h
@[simp] theorem lx_erase (l : List AV) (tok : Nat) : (LX l tok).erase = .list (eraseL l) none := by
  unfold LX; split
  . rename_i h; simp [h]
  . simp
theorem lv_cases (o : List V) (tok : Nat) : LV o tok = .empty \/ LV o tok = .list (avs o) (some tok) := by
  unfold LV; split
  . exact .inl rfl
  . exact .inr rfl
def tupK (n : Nat) : List V := (List.range n).map fun i => intV ((i + 1 : Nat) : Int)
theorem tupK_succ (n : Nat) : tupK (n + 1) = tupK n ++ [intV ((n + 1 : Nat) : Int)] := by simp [tupK, List.range_succ]
theorem tupK_len (n : Nat) : (tupK n).length = n := by simp [tupK]
def tupV (l : List V) : V := .mk 5 0 [] (tupK l.length) l
def ITu (l : List V) (i : Nat) (t : List AV) (H : Heap) : Prop := ∃ tok, i ≤ l.length /\ H[0]? = some (.cells [.int .i64 0, .int .i64 0, .str [], .empty, .empty] 24) /\ H[1]? = some (.cells [.int .i64 5, .int .i64 0, .str [], LV (tupK i) tok, .list (avs l) none] 24) /\ TokAt H (tupK i) tok /\ Fit [some (.list (avs l) none), none, some (.ptr 0 0), some (.ptr 1 0), some (.int .i64 i), none, none, none, none, none, none, none, none, none, none, none, none, none, none, none, none, none] t
theorem c118 (l : List V) (H : Heap) (hc : l.length ≤ 100000000) : Call CC 118 [.list (avs l) none] H = some (.ok (tupV l).av, H) := by
  have hav : (tupV l).av = .agg [.int .i64 5, .int .i64 0, .str [], .list (avs (tupK l.length)) none, .list (avs l) none] := rfl
  rw [hav]
  refine cwp (fn := Tryz.f118) rfl (by kernel_rfl) rfl rfl rfl rfl (by simp) (by simp) ?_ H
  simp [undv24, fv24_all, fv24_0, fv24_4]
  refine st_iter (ITu l) l.length ?_ ?_
  . exact ⟨0, by omega, rfl, rfl, fun h => absurd rfl h, by simp⟩
  . rintro i t H ⟨tok, hi, m0, m1, hk, ht⟩
    obtain ⟨d, rfl⟩ := ht.elim
    clear ht
    refine ⟨hi, ?_⟩
    simp
    have u0 := set_of m0
    cases hb : decide (i < l.length)
    . have hb' : i = l.length := by simp at hb; omega
      subst hb'
      rcases lv_cases (tupK l.length) tok with hA | hA
      . have hAe := lv_erase (tupK l.length) tok
        rw [hA] at m1 hAe
        have hav : avs (tupK l.length) = [] := by
          simp at hAe
          first | exact hAe | exact hAe.symm
        rw [hav]
        simp [m0, m1, u0]
      . rw [hA] at m1
        simp [m0, m1, u0]
    . have hb' : i < l.length := by simpa using hb
      have w1 : IntKind.i64.wrap ((i : Int) + 1) = ((i + 1 : Nat) : Int) := by rw [wrapI (by omega) (by omega)]; omega
      have g1 := fun H => c69 ((i + 1 : Nat) : Int) H
      have e2 := tupK_succ i
      have q8 := tupK_len i
      generalize hy : intV ((i + 1 : Nat) : Int) = y at *
      obtain ⟨t1, H3, a1, b1, k1⟩ := app_LVk H (tupK i) [y] tok hk (by simp; omega)
      have hne : tupK i ++ [y] ≠ [] := by simp
      rw [avs, avs, V.av_eq, lv_cons hne] at a1
      rw [V.av_eq] at g1
      have p0 := k1.2 _ _ _ m0
      have p1 := k1.2 _ _ _ m1
      have s1 := set_of p1
      simp only [Int.natCast_add, Int.natCast_one] at w1 g1
      simp [-aappB, m1, g1, a1, w1, p1]
      refine ⟨?_, ?_⟩
      . refine (?_ : drawE _ _ _ = true)
        kernel_rfl
      . refine ⟨t1, by omega, ?_, by rw [e2, lv_cons hne]; exact s1 _, ?_, by simp⟩
        . rw [List.getElem?_set_ne (by decide)]; exact p0
        . rw [e2]
          intro hh
          rw [List.getElem?_set_ne]
          . exact b1 hh
          . intro e; subst e
            have := b1 hh; rw [p1] at this; cases this
end Go.Tv
