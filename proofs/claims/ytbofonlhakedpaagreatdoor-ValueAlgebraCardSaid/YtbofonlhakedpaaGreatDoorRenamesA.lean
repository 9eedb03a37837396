/-
  ValueRenames answers true.
-/
import Derived.Test.YtbofonlhakedpaaGreatDoorExo
import Derived.Test.YtbofonlhakedpaaGreatDoorExn
/- ValueRenames answers true. -/
namespace Go.Tv
open Go.Proofs
set_option maxHeartbeats 4000000
theorem room65 (n : Nat) (h : n ≤ 1000000000) : roomOk CC 65 n = true := by
  have hb : (Tryz.prog.info? 65).map (fun i => (i.bytes, i.zero.isSome)) = some (32, true) := by kernel_rfl
  unfold roomOk
  rw [cc_P]
  cases hi : Tryz.prog.info? 65 with
  | none => rw [hi] at hb; cases hb
  | some i =>
    rw [hi] at hb
    simp only [Option.map_some, Option.some.injEq, Prod.mk.injEq] at hb
    simp only [hb.1, hb.2, Bool.and_true, decide_eq_true_eq]
    refine ⟨?_, ?_, by omega⟩ <;> omega
theorem ravs_ones (l : List Ren) : (ravs l).all (fun v => decide (v.cells.length = 2) && v.cells.all AV.one) = true := by
  simp [ravs, rav, AV.cells, AV.one]
/-- Names are copied. -/
theorem app_names (H : Heap) (l : List Ren) (hc : l.length ≤ 1000000) : ∃ tok H', aappB CC [63, 63] [.empty, .list (ravs l) none] H = some (LX (ravs l) tok, H') ∧ KC H H' := by
  obtain ⟨t, H', h1, _, h3⟩ := app_LY (T := 63) (e := 65) (sz := 2) (z := .agg [.str [], .str []]) el63 int63 sz65 zero65 rfl rfl (by decide) room65 H [] (ravs l) 0 (fun h => absurd rfl h) rfl (ravs_ones l) (by simp; omega)
  rw [lx_nil, List.nil_append] at h1
  exact ⟨t, H', h1, h3⟩
def I8 (l : List Ren) (v : V) (i : Nat) (t : List AV) (H : Heap) : Prop := i ≤ l.length ∧ H = [boxV v] ∧ Fit [some (.agg [.int .i64 v.kind, .int .i64 v.num, .str v.s, .list (avs v.keys) none, .list (avs v.items) none]), some (.list (ravs l) none), some (.ptr 0 0), none, some (.bool false), some (.int .i64 i), none, none, none, none, none, none, none, none, none, none, none, none, none, none, none, none, none, none, none, none, none, none, none, none, none, none, none, none, none, none, none, none, none, none, none, none, none, none, none, none, none, none, none, none, none, none, none, none, none, none, none, none, none, none, none, none, none] t
set_option maxRecDepth 100000 in
theorem c8 (h13 : ∀ H, Call CC 13 [] H = some (.ok (.bool true), H)) (v : V) (l : List Ren) (H : Heap) (hs : v.str) (hl : rstr l) : Call CC 8 [v.av, .list (ravs l) none] H = some (.ok (.bool true), H) := by
  have g14 := fun H => c14 [v] H
  simp only [avs, V.av_eq v] at g14
  refine cwp (fn := Tryz.f8) rfl (by kernel_rfl) rfl rfl rfl rfl (by simp) rfl ?_ H
  cases hf : fewB [v]
  · simp [V.av_eq v, h13, g14, hf]
  · have hc0 : cnts [v] ≤ 700 := by unfold fewB at hf; simp only [Bool.and_eq_true, decide_eq_true_eq] at hf; exact hf.1.2
    have hc : v.cnt ≤ 700 := by simp only [cnts] at hc0; omega
    simp [V.av_eq v, h13, g14, hf]
    cases hn : decide ((62 : Int) < (l.length : Int))
    · have hn0 : ¬ (62 : Int) < (l.length : Int) := of_decide_eq_false hn
      have hn1 : l.length ≤ 62 := by omega
      simp
      refine st_iter (I8 l v) l.length ?_ ?_
      · exact ⟨by omega, rfl, by simp⟩
      · rintro i t H ⟨hi, rfl, ht⟩
        obtain ⟨d, rfl⟩ := ht.elim
        clear ht
        refine ⟨hi, ?_⟩
        simp
        cases hb : decide (i < l.length)
        · have hb' : i = l.length := by simp at hb; omega
          have g1 := fun H => c16 v H (by omega)
          have g2 := fun H => c44 v l H hs hl (by omega) (by omega)
          have g3 := fun H => c45 v l H hs hl (by omega) (by omega)
          have hw : (rnW v l).cnt ≤ 1000000000 := by
            unfold rnW
            split
            · rename_i h
              have hv : chkE v = 0 := by
                unfold rnE at h
                split at h
                · rename_i h1; exact absurd h h1
                · rename_i h1; exact Classical.not_not.1 h1
              have hl0 : renE l = 0 := by
                unfold rnE at h
                rw [if_neg (by simp [hv])] at h
                split at h
                · rename_i h1; exact absurd h h1
                · rename_i h1; exact Classical.not_not.1 h1
              have := nrmD_cnt (ren_err hv hl0)
              rw [cnt_ren] at this; omega
            · decide
          have g4 := fun H => c20 (rnW v l) (rnE v l) (rnW v l) (rnE v l) H hw
          rw [rn_right] at g4
          obtain ⟨tok, H2, a1, k1⟩ := app_names [boxV v] l (by omega)
          have m0 := k1.2 0 _ _ rfl
          generalize rnW v l = W at *
          generalize rnE v l = e at *
          rw [V.av_eq v] at g1 g2 g3
          rw [V.av_eq W] at g2 g3 g4
          obtain ⟨_, x0⟩ := List.getElem?_eq_some_iff.1 (app_get m0 [boxV W])
          simp [-aappB, g1, a1, g2, g3, g4, x0]
        · have hb' : i < l.length := by simpa using hb
          have w1 := wrapI (i := i + 1) (by omega) (by omega)
          simp [hb']
          cases h1 : decide ((30 : Int) < (l[i].1.length : Int))
          · simp [hb']
            cases h2 : decide ((30 : Int) < (l[i].2.length : Int))
            · simp [w1]
              exact ⟨by omega, rfl, by simp⟩
            · simp
          · simp
    · simp
end Go.Tv
