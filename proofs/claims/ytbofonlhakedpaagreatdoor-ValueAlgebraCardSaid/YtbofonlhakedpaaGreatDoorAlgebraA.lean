/-
  ValueAlgebra answers true.
-/
import Derived.Test.YtbofonlhakedpaaGreatDoorExq
/- A function with another item: changes of the law. -/
namespace Go.Tv
open Go.Proofs
set_option maxHeartbeats 4000000
def I60 (f x : V) (i : Nat) (t : List AV) (H : Heap) : Prop := i ≤ f.keys.length ∧ H[0]? = some (boxV f) ∧ H[1]? = some (boxV x) ∧ Fit [some (.agg [.int .i64 f.kind, .int .i64 f.num, .str f.s, .list (avs f.keys) none, .list (avs f.items) none]), some (.agg [.int .i64 x.kind, .int .i64 x.num, .str x.s, .list (avs x.keys) none, .list (avs x.items) none]), some (.ptr 0 0), some (.ptr 1 0), some (.bool false), some (.int .i64 i), none, none, none, none, none, none, none, none, none, none, none, none, none, none, none, none, none, none, none, none, none, none, none, none, none, none, none, none, none, none, none, none, none, none, none, none, none, none, none, none, none, none, none, none, none, none, none, none, none, none, none, none, none, none, none, none, none, none, none, none, none, none, none, none, none, none, none, none, none, none, none, none, none, none, none, none, none, none, none, none, none, none, none, none, none, none, none, none, none] t
def J60 (f x g : V) (i b6 : Nat) (k : Nat) (t : List AV) (H : Heap) : Prop := k ≤ f.keys.length ∧ H[0]? = some (boxV f) ∧ H[1]? = some (boxV x) ∧ H[b6]? = some (boxV g) ∧ Fit [some (.agg [.int .i64 f.kind, .int .i64 f.num, .str f.s, .list (avs f.keys) none, .list (avs f.items) none]), some (.agg [.int .i64 x.kind, .int .i64 x.num, .str x.s, .list (avs x.keys) none, .list (avs x.items) none]), some (.ptr 0 0), some (.ptr 1 0), some (.bool false), some (.int .i64 i), some (.ptr b6 0), some (.int .i64 0), some (.int .i64 k), none, none, none, none, none, none, none, none, none, none, none, none, none, none, none, none, none, none, none, none, none, none, none, none, none, none, none, none, none, none, none, none, none, none, none, none, none, none, none, none, none, none, none, none, none, none, none, none, none, none, none, none, none, none, none, none, none, none, none, none, none, none, none, none, none, none, none, none, none, none, none, none, none, none, none, none, none, none, none, none, none, none, none, none, none, none] t
set_option maxRecDepth 100000 in
theorem c60 (f x : V) (H : Heap) (hf : chkE f = 0) (hx : chkE x = 0) (hk : f.kind = 5) (hc : f.cnt + x.cnt ≤ 700) : Call CC 60 [f.av, x.av] H = some (.ok (.bool true), H) := by
  have q0 := f.cnt_eq
  have q1 := len_cnts f.keys
  have hlen := (chk_own hf).len hk
  have gf := fun H => c16 f H (by omega)
  have gx := fun H => c16 x H (by omega)
  rw [V.av_eq] at gf gx
  refine cwp (fn := Tryz.f60) rfl (by kernel_rfl) rfl rfl rfl rfl (by simp) rfl ?_ H
  simp [V.av_eq f, V.av_eq x]
  refine st_iter (I60 f x) f.keys.length ?_ ?_
  · exact ⟨by omega, rfl, rfl, by simp⟩
  · rintro i t H ⟨hi, m0, m1, ht⟩
    obtain ⟨d, rfl⟩ := ht.elim
    clear ht
    refine ⟨hi, ?_⟩
    simp [m0]
    cases hb : (decide (i < f.keys.length) && decide ((i : Int) < 20))
    · cases hb1 : decide (i < f.keys.length)
      · simp
      · rw [hb1, Bool.true_and] at hb
        have hb2 : ¬ (i : Int) < 20 := of_decide_eq_false hb
        simp [hb2]
    · have hb2 : i < f.keys.length ∧ (i : Int) < 20 := by simpa using hb
      obtain ⟨hb', hb20⟩ := hb2
      have hlt := lt_of_get m1
      have hkc := key_chk hf (List.getElem_mem hb')
      have hkn := cnt_mem (List.getElem_mem hb')
      have gk := fun H => c16 f.keys[i] H (by omega)
      have g54 := fun H => c54 f f.keys[i] x H (chk_str hf) (chk_str hkc) (chk_str hx) (by omega)
      have w1 := wrapI (i := i + 1) (by omega) (by omega)
      have n0 := app_get m0
      have n1 := app_get m1
      rcases ex_two hf hx hk i hb' with h0 | h2
      · obtain ⟨e1, e2⟩ := ex_chk hf hx hk i hb' h0
        rw [h0] at g54
        have hgk : (exW f f.keys[i] x).keys = f.keys := by rw [e1]; rfl
        have hgc : (exW f f.keys[i] x).cnt ≤ 700 := by
          have := exV_cnt f f.keys[i] x
          rw [exW, if_pos h0]; omega
        have hap := fun k hki => ap_of hf hx hk i hb' h0 k hki
        generalize hG : exW f f.keys[i] x = G at *
        have g18 := fun H => c18 G H (chk_str e2) (by omega)
        have g37 := fun H => c37 G.keys f.keys H (by have := cnt_keys G; omega)
        have g16 := fun H => c16 G H (by omega)
        rw [hgk] at g37
        have hcs : cmpVs f.keys f.keys = 0 := cmpVs_eq.2 rfl
        generalize hK : f.keys[i] = K at *
        rw [V.av_eq K] at gk g54
        rw [V.av_eq f, V.av_eq x, V.av_eq G] at g54
        rw [V.av_eq G] at g18 g16
        rw [hgk] at g54 g18 g16
        obtain ⟨_, x0⟩ := List.getElem?_eq_some_iff.1 (n0 [.cells [.int .i64 G.kind, .int .i64 G.num, .str G.s, .list (avs f.keys) none, .list (avs G.items) none] 24])
        simp [hb', hb20, m0, m1, hK, V.av_eq K, gf, gk, gx, g54, g18, e2, g37, hcs, x0]
        refine ⟨?_, ?_⟩
        · refine (?_ : drawE _ _ _ = true)
          obtain ⟨q, f1, f2, f3⟩ : ∃ q : Nat → Nat, q 0 = 0 ∧ q 1 = 0 ∧ q H.length = 1 := ⟨fun x => if x = H.length then 1 else 0, if_neg (by omega), if_neg (by omega), if_pos rfl⟩
          refine drawE_map q ?_
          simp only [List.map_cons, List.map_nil, mapE, Option.map_some, Option.map_none, f1, f2, f3]
          kernel_rfl
        · refine st_iter (J60 f x G i H.length) f.keys.length ?_ ?_
          · exact ⟨by omega, n0 _, n1 _, by simp [hgk], by simp⟩
          · rintro k t H' ⟨hk', m0', m1', m6, ht⟩
            obtain ⟨d, rfl⟩ := ht.elim
            clear ht
            refine ⟨hk', ?_⟩
            simp [m0']
            cases hb : decide (k < f.keys.length)
            · have hb2 : k = f.keys.length := by simp at hb; omega
              simp [w1]
              exact ⟨by omega, m0', m1', by simp⟩
            · have hkl : k < f.keys.length := by simpa using hb
              have hil : k < f.items.length := by omega
              obtain ⟨p1, p2⟩ := hap k hkl
              have hkc2 := key_chk hf (List.getElem_mem hkl)
              have hkn2 := cnt_mem (List.getElem_mem hkl)
              have gk2 := fun H => c16 f.keys[k] H (by omega)
              have g53 := fun H => c53 G f.keys[k] H (chk_str e2) (chk_str hkc2) (by omega)
              have w2 := wrapI (i := k + 1) (by omega) (by omega)
              have hgd : f.items.getD k zeroV = f.items[k] := by simp [List.getD_eq_getElem?_getD, hil]
              rw [hgd] at p2
              have hsx := (chk_small hx).1
              have hsi := item_small (chk_small hf).1 (List.getElem_mem hil)
              have hin := cnt_mem (List.getElem_mem hil)
              have hlt' := lt_of_get m1'
              have hl6 := lt_of_get m6
              have n0' := app_get m0'
              have n1' := app_get m1'
              have n6' := app_get m6
              by_cases hki : k = i
              · have kie : ((k : Int) = (i : Int)) = True := eq_true (by omega)
                rw [if_pos hki] at p2
                rw [p1, p2] at g53
                have g28 := fun H => c28 x H
                have g21 := fun H => c21 x x H (by omega)
                generalize hK2 : f.keys[k] = K2 at *
                generalize hI2 : f.items[k] = I2 at *
                rw [V.av_eq K2] at gk2 g53
                rw [V.av_eq G, V.av_eq x] at g53
                rw [hgk] at g53
                rw [V.av_eq x] at g28 g21
                have hcv := cmpV_self x
                have hie : i < f.keys.length := hb'
                subst hki
                have hKK : K = K2 := hK.symm.trans hK2
                subst hKK
                obtain ⟨_, x0'⟩ := List.getElem?_eq_some_iff.1 (n0' [boxV x])
                obtain ⟨_, y0⟩ := List.getElem?_eq_some_iff.1 (n0' [boxV x, boxV I2])
                obtain ⟨_, y1⟩ := List.getElem?_eq_some_iff.1 (n1' [boxV x, boxV I2])
                obtain ⟨_, z1⟩ := List.getElem?_eq_some_iff.1 (n1' [boxV x, boxV x])
                simp [hkl, hil, hK2, hI2, V.av_eq K, V.av_eq I2, m0', m6, hgk, g16, gk2, g53, g28, g21, hsx, hcv, w2, x0', y1]
                refine ⟨?_, ?_⟩
                · refine (?_ : drawE _ _ _ = true)
                  obtain ⟨q, f1, f2, f3⟩ : ∃ q : Nat → Nat, q 0 = 0 ∧ q H.length = 0 ∧ q H'.length = 1 := ⟨fun x => if x = H'.length then 1 else 0, if_neg (by omega), if_neg (by omega), if_pos rfl⟩
                  refine drawE_map q ?_
                  simp only [List.map_cons, List.map_nil, mapE, Option.map_some, Option.map_none, f1, f2, f3]
                  kernel_rfl
                · exact ⟨by omega, n0' _, n1' _, n6' _, by simp⟩
              · have kie : ((k : Int) = (i : Int)) = False := eq_false (by omega)
                rw [if_neg hki] at p2
                rw [p1, p2] at g53
                generalize hK2 : f.keys[k] = K2 at *
                generalize hI2 : f.items[k] = I2 at *
                have g28 := fun H => c28 I2 H
                have g21 := fun H => c21 I2 I2 H (by omega)
                rw [V.av_eq K2] at gk2 g53
                rw [V.av_eq G, V.av_eq I2] at g53
                rw [hgk] at g53
                rw [V.av_eq I2] at g28 g21
                have hcv := cmpV_self I2
                obtain ⟨_, x0'⟩ := List.getElem?_eq_some_iff.1 (n0' [boxV I2])
                obtain ⟨_, y0⟩ := List.getElem?_eq_some_iff.1 (n0' [boxV I2, boxV I2])
                simp [hkl, hil, hK2, hI2, V.av_eq K2, V.av_eq I2, m0', m6, hgk, g16, gk2, g53, g28, g21, hsi, hcv, kie, w2, x0']
                refine ⟨?_, ?_⟩
                · refine (?_ : drawE _ _ _ = true)
                  obtain ⟨q, f1, f2, f3⟩ : ∃ q : Nat → Nat, q 0 = 0 ∧ q H.length = 0 ∧ q H'.length = 1 := ⟨fun x => if x = H'.length then 1 else 0, if_neg (by omega), if_neg (by omega), if_pos rfl⟩
                  refine drawE_map q ?_
                  simp only [List.map_cons, List.map_nil, mapE, Option.map_some, Option.map_none, f1, f2, f3]
                  kernel_rfl
                · exact ⟨by omega, n0' _, n1' _, n6' _, by simp⟩
      · rw [h2] at g54
        have hz : exW f f.keys[i] x = zeroV := by rw [exW, if_neg (by simp [h2])]
        rw [hz] at g54
        generalize hK : f.keys[i] = K at *
        rw [V.av_eq K] at gk g54
        rw [V.av_eq f, V.av_eq x, zeroV_av] at g54
        simp [hb', hb20, m0, m1, hK, V.av_eq K, gf, gk, gx, g54, w1]
        refine ⟨?_, ?_⟩
        · refine (?_ : drawE _ _ _ = true)
          obtain ⟨q, f1, f2, f3⟩ : ∃ q : Nat → Nat, q 0 = 0 ∧ q 1 = 0 ∧ q H.length = 1 := ⟨fun x => if x = H.length then 1 else 0, if_neg (by omega), if_neg (by omega), if_pos rfl⟩
          refine drawE_map q ?_
          simp only [List.map_cons, List.map_nil, mapE, Option.map_some, Option.map_none, f1, f2, f3]
          kernel_rfl
        · exact ⟨by omega, n0 _, n1 _, by simp⟩
end Go.Tv

/- ValueAlgebra answers true. -/
namespace Go.Tv
open Go.Proofs
set_option maxHeartbeats 4000000
set_option maxRecDepth 100000 in
theorem c11 (h13 : ∀ H, Call CC 13 [] H = some (.ok (.bool true), H)) (a b : V) (l : List Ren) (H : Heap) (ha : a.str) (hb : b.str) (hl : rstr l) : Call CC 11 [a.av, b.av, .list (ravs l) none] H = some (.ok (.bool true), H) := by
  have g14 := fun H => c14 [a, b] H
  simp only [avs, V.av_eq a, V.av_eq b] at g14
  refine cwp (fn := Tryz.f11) rfl (by kernel_rfl) rfl rfl rfl rfl (by simp) rfl ?_ H
  cases hf : fewB [a, b]
  · simp [V.av_eq a, V.av_eq b, h13, g14, hf]
  · have hc0 : cnts [a, b] ≤ 700 := by unfold fewB at hf; simp only [Bool.and_eq_true, decide_eq_true_eq] at hf; exact hf.1.2
    have hc : a.cnt + b.cnt ≤ 700 := by simp only [cnts] at hc0; omega
    have ca := cnt_pos a
    have cb := cnt_pos b
    have ga := fun H => c18 a H ha (by omega)
    have gb := fun H => c18 b H hb (by omega)
    rw [V.av_eq] at ga gb
    by_cases h1 : chkE a = 0
    · by_cases h2 : chkE b = 0
      · have g59 := fun H => c59 a l H h1 hl (by omega)
        rw [V.av_eq] at g59
        by_cases k5 : a.kind = 5
        · have e5 : (a.kind = 5) = True := eq_true k5
          have n4 : ¬ a.kind = 4 := by omega
          have g60 := fun H => c60 a b H h1 h2 k5 (by omega)
          rw [V.av_eq, V.av_eq] at g60
          simp [V.av_eq a, V.av_eq b, h13, g14, hf, ga, gb, h1, h2, g59, e5]
          cases hk : decide (0 < a.keys.length)
          · simp [n4]
          · simp [g60]
        · by_cases a4 : a.kind = 4
          · have e4 : (a.kind = 4) = True := eq_true a4
            by_cases b4 : b.kind = 4
            · have e4b : (b.kind = 4) = True := eq_true b4
              have T : Two a b := ⟨h1, h2, a4, b4⟩
              have P := T.parts
              obtain ⟨x1, _⟩ := T.both
              obtain ⟨y1, _⟩ := T.swap.both
              obtain ⟨w1, _⟩ := T.wo
              have xy := T.same
              obtain ⟨z1, z2⟩ := T.whole
              have u1 := T.unionR
              have u2 := T.unionW
              have cx := comb_cnt 1 a b
              have cw := comb_cnt 2 a b
              have cu := comb_cnt 0 a b
              have ex : combW 1 a b = combV 1 a b := by rw [combW, if_pos x1]
              have ew : combW 2 a b = combV 2 a b := by rw [combW, if_pos w1]
              rw [← ex] at cx
              rw [← ew] at cw
              have c1 := fun H => c46 0 a b H ha hb (by omega)
              have c2 := fun H => c46 0 b a H hb ha (by omega)
              have c3 := fun H => c46 1 a b H ha hb (by omega)
              have c4 := fun H => c46 1 b a H hb ha (by omega)
              have c5 := fun H => c46 2 a b H ha hb (by omega)
              have c6 := fun H => c46 0 (combW 1 a b) (combW 2 a b) H (chk_str P.a0) (chk_str P.b0) (by omega)
              have d1 := fun H => c16 a H (by omega)
              have d2 := fun H => c16 b H (by omega)
              have d3 := fun H => c16 (combW 1 a b) H (by omega)
              have d4 := fun H => c16 (combW 2 a b) H (by omega)
              have f3 := fun H => c18 (combW 1 a b) H (chk_str P.a0) (by omega)
              have f4 := fun H => c18 (combW 2 a b) H (chk_str P.b0) (by omega)
              have s3 := fun H => c21 (combW 1 a b) (combW 1 a b) H (by omega)
              have s1 := fun H => c21 a a H (by omega)
              have t1 := fun H => c28 a H
              have sm := (chk_small h1).1
              have v1 := cmpV_self a
              have v3 := cmpV_self (combW 1 a b)
              rw [P.a0] at f3
              rw [P.b0] at f4
              rw [← u1, ← u2] at c2
              rw [x1] at c3
              rw [← xy, y1] at c4
              rw [w1] at c5
              rw [z1, z2] at c6
              rcases T.union2 with hr | hr
              · obtain ⟨S, _⟩ := T.sum hr
                obtain ⟨q1, q2⟩ := T.again hr
                have eu : combW 0 a b = combV 0 a b := by rw [combW, if_pos hr]
                rw [← eu] at cu
                have c7 := fun H => c46 1 (combW 0 a b) a H (chk_str S.a0) ha (by omega)
                have d5 := fun H => c16 (combW 0 a b) H (by omega)
                have f5 := fun H => c18 (combW 0 a b) H (chk_str S.a0) (by omega)
                have s5 := fun H => c21 (combW 0 a b) (combW 0 a b) H (by omega)
                have v5 := cmpV_self (combW 0 a b)
                rw [S.a0] at f5
                rw [q1, q2] at c7
                rw [hr] at c1 c2
                generalize combW 0 a b = U at *
                generalize combW 1 a b = X at *
                generalize combW 2 a b = W at *
                simp only [V.av_eq] at c1 c2 c3 c4 c5 c6 c7 d1 d2 d3 d4 d5 f3 f4 f5 s1 s3 s5 t1
                simp (maxSteps := 4000000) [V.av_eq a, V.av_eq b, h13, g14, hf, ga, gb, h1, h2, g59, k5, e4, e4b, c1, c2, c3, c4, c5, c6, c7, d1, d2, d3, d4, d5, f3, f4, f5, s1, s3, s5, t1, sm, v1, v3, v5]
                exact ⟨by kernel_rfl, by kernel_rfl, by kernel_rfl, by kernel_rfl, by kernel_rfl, by kernel_rfl, by kernel_rfl⟩
              · have eu : combW 0 a b = zeroV := by rw [combW, if_neg (by simp [hr])]
                rw [hr] at c1 c2
                rw [eu] at c1 c2
                generalize combW 1 a b = X at *
                generalize combW 2 a b = W at *
                rw [zeroV_av] at c1 c2
                simp only [V.av_eq] at c1 c2 c3 c4 c5 c6 d1 d2 d3 d4 f3 f4 s1 s3 t1
                simp (maxSteps := 4000000) [V.av_eq a, V.av_eq b, h13, g14, hf, ga, gb, h1, h2, g59, k5, e4, e4b, c1, c2, c3, c4, c5, c6, d1, d2, d3, d4, f3, f4, s1, s3, v1, v3]
                exact ⟨by kernel_rfl, by kernel_rfl, by kernel_rfl, by kernel_rfl, by kernel_rfl, by kernel_rfl⟩
            · simp [V.av_eq a, V.av_eq b, h13, g14, hf, ga, gb, h1, h2, g59, k5, e4, b4]
          · simp [V.av_eq a, V.av_eq b, h13, g14, hf, ga, gb, h1, h2, g59, k5, a4]
      · simp [V.av_eq a, V.av_eq b, h13, g14, hf, ga, gb, h1, h2]
    · simp [V.av_eq a, V.av_eq b, h13, g14, hf, ga, h1]
end Go.Tv
