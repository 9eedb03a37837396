/-
  Names there and back, by the law.
-/
import Derived.Test.YtbofonlhakedpaaGreatDoorRenamesA
import Derived.Test.YtbofonlhakedpaaGreatDoorExp
/- Renamed, and back: renamesBack of the law. -/
namespace Go.Tv
open Go.Proofs
set_option maxHeartbeats 4000000
/-- What has no error has short strings. -/
theorem err_str {o : Bool} (v : V) : errV o v = 0 → v.str := by
  refine V.ind (P := fun v => errV o v = 0 → v.str) (fun v hk hi he => ?_) v
  obtain ⟨h0, _, hek, hei⟩ := errV_zero he
  have O := own0_of h0
  have hL : ∀ l : List V, (∀ x ∈ l, x.str) → strs' l := by
    intro l
    induction l with
    | nil => intro _; trivial
    | cons a r ih => intro h; exact ⟨h a (by simp), ih fun x hx => h x (by simp [hx])⟩
  rw [V.str_eq]
  refine ⟨?_, hL _ fun x hx => hk x hx (errL_mem hek x hx), hL _ fun x hx => hi x hx (errL_mem hei x hx)⟩
  obtain ⟨_, _, h3, h4, _⟩ := (own_iff v).1 h0
  by_cases k2 : v.kind = 2
  · have : ¬ 40 < v.s.length := fun h => h3 (.inr ⟨k2, h⟩)
    omega
  · by_cases k3 : v.kind = 3
    · have hn : nameB v.s = true := by
        cases hb : nameB v.s with
        | true => rfl
        | false => exact absurd (.inr ⟨k3, hb⟩) h4
      unfold nameB at hn
      simp only [Bool.and_eq_true, decide_eq_true_eq] at hn
      have := hn.1.1.1.2
      omega
    · rw [O.s k2 k3]; simp
theorem chk_str {v : V} (h : chkE v = 0) : v.str := err_str v (chk_small h).2
/-- One element more: what stands behind. -/
theorem app_LY1 {T e : TypeId} {sz : Nat} {z : AV} (hel : elemT CC T = some e) (hint : isIntT CC T = false) (hsz : szOf CC e = some sz) (hz : zeroOf CC e = some z) (hzl : z.cells.length = sz) (hzo : z.cells.all AV.one = true) (hpos : 0 < sz) (hroom : ∀ n, n ≤ 1000000000 → roomOk CC e n = true)
    (H : Heap) (a : List AV) (x : AV) (tok : Nat) (ht : TokY sz H a tok) (ha5 : a.all (fun v => decide (v.cells.length = sz)) = true) (hb5 : [x].all (fun v => decide (v.cells.length = sz) && v.cells.all AV.one) = true) (hc : a.length + 1 ≤ 1000000000) :
    ∃ H', aappB CC [T, T] [LX a tok, .list [x] none] H = some (.list (a ++ [x]) (some H.length), H') ∧ H'.length = H.length + 1 ∧ TokY sz H' (a ++ [x]) H.length ∧ ∀ j, j < H.length → (a ≠ [] → j ≠ tok) → H'[j]? = H[j]? := by
  by_cases ha : a = []
  · subst ha
    have r1 := hroom 1 (by omega)
    refine ⟨H ++ [.tail 1 sz], ?_, by simp, fun _ => by simp, fun j hj _ => List.getElem?_append_left hj⟩
    rw [lx_nil]
    simp only [aappB, aappend, hel, hint, newsH, news, hsz, hz]
    rw [if_pos ⟨hzl, hpos, hzo, hb5⟩]
    simp only [List.nil_append, List.length_cons, List.length_nil, Nat.zero_add, r1, if_true, cc_arr, Bool.false_eq_true, if_false]
  · have r1 := hroom (a.length + 1) hc
    have hta := ht ha
    refine ⟨H.set tok .dead ++ [.tail (a.length + 1) sz], ?_, by simp, fun _ => by simp, fun j hj hne => ?_⟩
    · rw [lx_cons ha]
      simp only [aappB, aappend, hel, hint, newsH, news, hsz, hz]
      rw [if_pos ⟨hzl, hpos, hzo, hb5⟩]
      simp only [List.length_cons, List.length_nil, Nat.zero_add, hta]
      rw [if_pos ⟨trivial, trivial, r1, ha5⟩]
    · rw [List.getElem?_append_left (by simpa using hj), List.getElem?_set_ne (fun e => hne ha e.symm)]
theorem zero9 {z a : Bool} {al : FuncId → FuncId} : zeroOf (CX z a al) 9 = some (.str []) := by kernel_rfl
attribute [simp] zero9
theorem int105 : isIntT CC 105 = false := by kernel_rfl
theorem room9 (n : Nat) (h : n ≤ 1000000000) : roomOk CC 9 n = true := by
  have hb : (Tryz.prog.info? 9).map (fun i => (i.bytes, i.zero.isSome)) = some (16, true) := by kernel_rfl
  unfold roomOk
  rw [cc_P]
  cases hi : Tryz.prog.info? 9 with
  | none => rw [hi] at hb; cases hb
  | some i =>
    rw [hi] at hb
    simp only [Option.map_some, Option.some.injEq, Prod.mk.injEq] at hb
    simp only [hb.1, hb.2, Bool.and_true, decide_eq_true_eq]
    refine ⟨?_, ?_, by omega⟩ <;> omega
noncomputable def fv65 : Array Field := match CC.P.underlying 65 with | some (.struct fs) => fs | _ => #[]
theorem undv65 : CC.P.underlying 65 = some (.struct fv65) := by kernel_rfl
theorem fv65_all0 : fv65.toList.all (fun f => (CC.P.info? f.type).isSome) = true := by kernel_rfl
theorem fv65_all : ∀ (i : Nat) (x : i < fv65.size), (CC.P.info? fv65[i].type).isSome = true := fun i x => List.all_eq_true.1 fv65_all0 _ (by simp)
theorem fv65_0 : fv65[0]? = some (fld 65 0) := by kernel_rfl
theorem fv65_1 : fv65[1]? = some (fld 65 1) := by kernel_rfl
theorem lx_two (l : List AV) (tok : Nat) : LX l tok = .empty ∨ LX l tok = .list l (some tok) := by
  unfold LX; split
  · exact .inl rfl
  · exact .inr rfl
def frs (l : List Ren) : List (List UInt8) := l.map Prod.fst
def tos (l : List Ren) : List (List UInt8) := l.map Prod.snd
theorem frs_len (l : List Ren) : (frs l).length = l.length := List.length_map _
theorem tos_len (l : List Ren) : (tos l).length = l.length := List.length_map _
theorem swap_len (l : List Ren) : (swapR l).length = l.length := List.length_map _
theorem frs_take (l : List Ren) (i : Nat) (h : i < l.length) : frs (l.take (i + 1)) = frs (l.take i) ++ [l[i].1] := by rw [take_succ l i h, frs, List.map_append]; rfl
theorem tos_take (l : List Ren) (i : Nat) (h : i < l.length) : tos (l.take (i + 1)) = tos (l.take i) ++ [l[i].2] := by rw [take_succ l i h, tos, List.map_append]; rfl
theorem swap_take (l : List Ren) (i : Nat) (h : i < l.length) : swapR (l.take (i + 1)) = swapR (l.take i) ++ [(l[i].2, l[i].1)] := by rw [take_succ l i h, swapR, List.map_append]; rfl
theorem sl_app (a : List (List UInt8)) (x : List UInt8) : sl (a ++ [x]) = sl a ++ [.str x] := by simp [sl_map]
theorem ravs_app (a : List Ren) (x : Ren) : ravs (a ++ [x]) = ravs a ++ [rav x] := by simp [ravs]
theorem swap_str {l : List Ren} (h : rstr l) : rstr (swapR l) := by
  rintro ⟨a, b⟩ hp
  have := h _ (swap_mem.1 hp)
  exact ⟨this.2, this.1⟩
theorem sl_nil {l : List (List UInt8)} : sl l = [] ↔ l = [] := by rw [sl_map, List.map_eq_nil_iff]
theorem ravs_nil {l : List Ren} : ravs l = [] ↔ l = [] := by rw [ravs, List.map_eq_nil_iff]
def I59 (l : List Ren) (v : V) (i : Nat) (t : List AV) (H : Heap) : Prop := ∃ t5 t6 t7, i ≤ l.length ∧ i ≤ 61 ∧ H[0]? = some (boxV v) ∧ TokY 1 H (sl (frs (l.take i))) t5 ∧ TokY 1 H (sl (tos (l.take i))) t6 ∧ TokY 2 H (ravs (swapR (l.take i))) t7 ∧ (i ≠ 0 → t5 < t6 ∧ t6 < t7 ∧ 0 < t5 ∧ t7 < H.length) ∧ Fit [some (.agg [.int .i64 v.kind, .int .i64 v.num, .str v.s, .list (avs v.keys) none, .list (avs v.items) none]), some (.list (ravs l) none), some (.ptr 0 0), none, some (.bool false), some (LX (sl (frs (l.take i))) t5), some (LX (sl (tos (l.take i))) t6), some (LX (ravs (swapR (l.take i))) t7), some (.int .i64 i), none, none, none, none, none, none, none, none, none, none, none, none, none, none, none, none, none, none, none, none, none, none, none, none, none, none, none, none, none, none, none, none, none, none, none, none, none, none, none, none, none, none, none, none, none, none, none, none, none, none, none, none, none, none, none, none, none, none, none, none, none, none, none, none, none, none, none, none, none, none, none, none, none, none, none, none, none, none, none, none, none, none, none, none, none, none, none, none, none, none, none, none, none, none, none, none, none, none, none, none] t
def J59 (l : List Ren) (v : V) (t5 t6 t7 : Nat) (i : Nat) (t : List AV) (H : Heap) : Prop := i ≤ l.length ∧ (∀ p ∈ l.take i, (frs l).contains p.2 = true) ∧ H[0]? = some (boxV v) ∧ Fit [some (.agg [.int .i64 v.kind, .int .i64 v.num, .str v.s, .list (avs v.keys) none, .list (avs v.items) none]), some (.list (ravs l) none), some (.ptr 0 0), none, some (.bool false), some (LX (sl (frs (l))) t5), some (LX (sl (tos (l))) t6), some (LX (ravs (swapR (l))) t7), none, some (.int .i64 i), none, none, none, none, none, none, none, none, none, none, none, none, none, none, none, none, none, none, none, none, none, none, none, none, none, none, none, none, none, none, none, none, none, none, none, none, none, none, none, none, none, none, none, none, none, none, none, none, none, none, none, none, none, none, none, none, none, none, none, none, none, none, none, none, none, none, none, none, none, none, none, none, none, none, none, none, none, none, none, none, none, none, none, none, none, none, none, none, none, none, none, none, none, none, none, none, none, none, none] t
set_option maxRecDepth 100000 in
theorem c59 (v : V) (l : List Ren) (H : Heap) (hv : chkE v = 0) (hl : rstr l) (hc : v.cnt ≤ 700) : Call CC 59 [v.av, .list (ravs l) none] H = some (.ok (.bool true), H) := by
  have hs := chk_str hv
  refine cwp (fn := Tryz.f59) rfl (by kernel_rfl) rfl rfl rfl rfl (by simp) rfl ?_ H
  simp [V.av_eq v]
  refine st_iter (I59 l v) 61 ?_ ?_
  · exact ⟨0, 0, 0, by omega, by omega, rfl, fun h => absurd rfl h, fun h => absurd rfl h, fun h => absurd rfl h, fun h => absurd rfl h, by simp [frs, tos, swapR, sl, ravs, lx_nil]⟩
  · rintro i t H ⟨t5, t6, t7, hil, hi, m0, k5, k6, k7, hne, ht⟩
    obtain ⟨d, rfl⟩ := ht.elim
    clear ht
    refine ⟨hi, ?_⟩
    simp
    have fin : (i < l.length → 60 < i) → ∀ (dd : Nat → AV), True := fun _ _ => trivial
    clear fin
    have g107 := fun H => c107 l H hl
    have g107b := fun H => c107 (swapR l) H (swap_str hl)
    cases hb : (decide (i < l.length) && decide ((i : Int) ≤ 60))
    · have hx : renE l = 0 → i = l.length := fun h => by
        have h60 : l.length ≤ 60 := by
          unfold renE at h
          by_cases h6 : 60 < l.length
          · rw [if_pos h6] at h; exact absurd h (by decide)
          · omega
        simp at hb
        by_cases hlt : i < l.length
        · have := hb hlt; omega
        · omega
      by_cases hr : renE l = 0
      · have hi' := hx hr
        subst hi'
        rw [List.take_length] at k5 k6 k7 ⊢
        by_cases hr2 : renE (swapR l) = 0
        · have h60 : l.length ≤ 60 := by
            unfold renE at hr
            by_cases h6 : 60 < l.length
            · rw [if_pos h6] at hr; exact absurd hr (by decide)
            · omega
          simp [g107, hr, g107b, hr2]
          refine st_iter (J59 l v t5 t6 t7) l.length ?_ ?_
          · exact ⟨by omega, fun p hp => by simp at hp, m0, by simp⟩
          · rintro i t H ⟨hi, hin, m0, ht⟩
            obtain ⟨d, rfl⟩ := ht.elim
            clear ht
            refine ⟨hi, ?_⟩
            have h6 : (LX (sl (tos l)) t6 = .empty ∧ l = []) ∨ (LX (sl (tos l)) t6 = .list (sl (tos l)) (some t6) ∧ l ≠ []) := by
              by_cases hl0 : l = []
              · exact .inl ⟨by rw [hl0]; exact lx_nil _, hl0⟩
              · exact .inr ⟨lx_cons (fun e => hl0 (List.map_eq_nil_iff.1 (sl_nil.1 e))) _, hl0⟩
            rcases h6 with ⟨h6, hl0⟩ | ⟨h6, hl0⟩
            · have hi0 : i = 0 := by rw [hl0] at hi; simpa using hi
              have hin : ∀ p ∈ l, (frs l).contains p.2 = true := fun p hp => by rw [hl0] at hp; simp at hp
              have hsub : ∀ p ∈ l, ∃ q ∈ l, q.1 = p.2 := fun p hp => by
                have := hin p hp
                rw [List.contains_iff_mem, frs, List.mem_map] at this
                exact this
              obtain ⟨b1, b2, b3, b4⟩ := back_all hv hr hr2 hsub
              have hw := (small_iff _ _ _).1 (chk_small b2).1
              have g1 := fun H => c16 v H (by omega)
              have g2 := fun H => c44 v l H hs hl (by omega) (by omega)
              have g3 := fun H => c18 (rnW v l) H (chk_str b2) (by omega)
              have g4 := fun H => c16 (rnW v l) H (by omega)
              have g5 := fun H => c44 (rnW v l) (swapR l) H (chk_str b2) (swap_str hl) (by omega) (by rw [swap_len]; omega)
              have g6 := fun H => c28 v H
              have g7 := fun H => c21 v v H (by omega)
              have hsm := (chk_small hv).1
              obtain ⟨tok, H2, a1, k1⟩ := app_names H l (by omega)
              have p0 := k1.2 0 _ _ m0
              have hcv := cmpV_self v
              rw [b1] at g2
              rw [b3, b4] at g5
              rw [b2] at g3
              generalize rnW v l = W at *
              rw [V.av_eq v] at g1 g2 g5 g6 g7
              rw [V.av_eq W] at g2 g3 g4 g5
              obtain ⟨_, x0⟩ := List.getElem?_eq_some_iff.1 (app_get p0 [boxV W, boxV v])
              simp [-aappB, h6, m0, g1, a1, g2, g3, g4, g5, g6, g7, x0, hsm, hcv]
            · cases hb : decide (i < l.length)
              · have hb' : ¬ i < l.length := of_decide_eq_false hb
                rw [List.take_of_length_le (by omega)] at hin
                have htl : (tos l).length = l.length := tos_len l
                have hsub : ∀ p ∈ l, ∃ q ∈ l, q.1 = p.2 := fun p hp => by
                  have := hin p hp
                  rw [List.contains_iff_mem, frs, List.mem_map] at this
                  exact this
                obtain ⟨b1, b2, b3, b4⟩ := back_all hv hr hr2 hsub
                have hw := (small_iff _ _ _).1 (chk_small b2).1
                have g1 := fun H => c16 v H (by omega)
                have g2 := fun H => c44 v l H hs hl (by omega) (by omega)
                have g3 := fun H => c18 (rnW v l) H (chk_str b2) (by omega)
                have g4 := fun H => c16 (rnW v l) H (by omega)
                have g5 := fun H => c44 (rnW v l) (swapR l) H (chk_str b2) (swap_str hl) (by omega) (by rw [swap_len]; omega)
                have g6 := fun H => c28 v H
                have g7 := fun H => c21 v v H (by omega)
                have hsm := (chk_small hv).1
                obtain ⟨tok, H2, a1, k1⟩ := app_names H l (by omega)
                have p0 := k1.2 0 _ _ m0
                have hcv := cmpV_self v
                rw [b1] at g2
                rw [b3, b4] at g5
                rw [b2] at g3
                generalize rnW v l = W at *
                rw [V.av_eq v] at g1 g2 g5 g6 g7
                rw [V.av_eq W] at g2 g3 g4 g5
                obtain ⟨_, x0⟩ := List.getElem?_eq_some_iff.1 (app_get p0 [boxV W, boxV v])
                simp [-aappB, h6, hb', htl, m0, g1, a1, g2, g3, g4, g5, g6, g7, x0, hsm, hcv]
              · have hb' : i < l.length := of_decide_eq_true hb
                have w1 := wrapI (i := i + 1) (by omega) (by omega)
                have g1 := fun s H => c119 (frs l) s H (by rw [frs_len]; omega)
                have htl : i < (tos l).length := by rw [tos_len]; exact hb'
                have e6 : (tos l)[i] = l[i].2 := by simp [tos]
                have hto : (tos l).length = l.length := tos_len l
                simp [-List.contains_eq_mem, h6, hb', hto, g1, e6]
                cases hcn : (frs l).contains l[i].2
                · simp [-List.contains_eq_mem]
                · simp [-List.contains_eq_mem, w1]
                  refine ⟨by omega, fun p hp => ?_, m0, by rw [← h6]; simp⟩
                  rw [take_succ l i hb'] at hp
                  rcases List.mem_append.1 hp with hp | hp
                  · exact hin p hp
                  · rw [List.mem_singleton.1 hp]; exact hcn
        · simp [g107, hr, g107b, hr2]
      · cases hb1 : decide (i < l.length)
        · simp [g107, hr]
        · have hb2 : ¬ (i : Int) ≤ 60 := by rw [hb1, Bool.true_and] at hb; exact of_decide_eq_false hb
          simp [hb2, g107, hr]
    · have hb2 : i < l.length ∧ (i : Int) ≤ 60 := by simpa using hb
      obtain ⟨hb', hb60⟩ := hb2
      have w1 := wrapI (i := i + 1) (by omega) (by omega)
      have hlen : (l.take i).length = i := by rw [List.length_take]; omega
      obtain ⟨H1, a1, n1, q1, p1⟩ := app_LY1 (T := 105) (e := 9) (sz := 1) el105 int105 sz9 zero9 rfl rfl (by decide) room9 H (sl (frs (l.take i))) (.str l[i].1) t5 k5 (sl_cells _) rfl (by rw [sl_len, frs_len, hlen]; omega)
      have k6' : TokY 1 H1 (sl (tos (l.take i))) t6 := fun hn => by
        have hi0 : i ≠ 0 := fun e => by subst e; exact hn rfl
        have := hne hi0
        rw [p1 t6 (by omega) (fun _ => by omega)]; exact k6 hn
      obtain ⟨H2, a2, n2, q2, p2⟩ := app_LY1 (T := 105) (e := 9) (sz := 1) el105 int105 sz9 zero9 rfl rfl (by decide) room9 H1 (sl (tos (l.take i))) (.str l[i].2) t6 k6' (sl_cells _) rfl (by rw [sl_len, tos_len, hlen]; omega)
      have k7' : TokY 2 H2 (ravs (swapR (l.take i))) t7 := fun hn => by
        have hi0 : i ≠ 0 := fun e => by subst e; exact hn rfl
        have := hne hi0
        rw [p2 t7 (by omega) (fun _ => by omega), p1 t7 (by omega) (fun _ => by omega)]; exact k7 hn
      obtain ⟨H3, a3, n3, q3, p3⟩ := app_LY1 (T := 63) (e := 65) (sz := 2) el63 int63 sz65 zero65 rfl rfl (by decide) room65 H2 (ravs (swapR (l.take i))) (rav (l[i].2, l[i].1)) t7 k7' (ravs_cells _) rfl (by rw [ravs_len, swap_len, hlen]; omega)
      have hlt0 := lt_of_get m0
      have c5 : sl (frs (l.take i)) ≠ [] → 0 < t5 := fun hn => by
        have hi0 : i ≠ 0 := fun e => by subst e; exact hn rfl
        exact (hne hi0).2.2.1
      have c6 : sl (tos (l.take i)) ≠ [] → 0 < t6 := fun hn => by
        have hi0 : i ≠ 0 := fun e => by subst e; exact hn rfl
        have := hne hi0; omega
      have c7 : ravs (swapR (l.take i)) ≠ [] → 0 < t7 := fun hn => by
        have hi0 : i ≠ 0 := fun e => by subst e; exact hn rfl
        have := hne hi0; omega
      have x6 : sl (tos (l.take i)) ≠ [] → H.length ≠ t6 := fun hn => by
        have hi0 : i ≠ 0 := fun e => by subst e; exact hn rfl
        have := hne hi0; omega
      have x7 : ravs (swapR (l.take i)) ≠ [] → t7 < H.length := fun hn => by
        have hi0 : i ≠ 0 := fun e => by subst e; exact hn rfl
        exact (hne hi0).2.2.2
      have m3 : H3[0]? = some (boxV v) := by
        rw [p3 0 (by omega) (fun hn => by have := c7 hn; omega), p2 0 (by omega) (fun hn => by have := c6 hn; omega), p1 0 (by omega) (fun hn => by have := c5 hn; omega)]; exact m0
      have e5 := frs_take l i hb'
      have e6 := tos_take l i hb'
      have e7 := swap_take l i hb'
      rw [rav_id] at a3
      simp [-aappB, hb', hb60, a1, a2, a3, w1, undv65, fv65_all, fv65_0, fv65_1]
      refine ⟨?_, ?_, ?_⟩
      · refine (?_ : drawE _ _ _ = true)
        rcases lx_two (sl (frs (l.take i))) t5 with h | h <;> rcases lx_two (sl (tos (l.take i))) t6 with h' | h' <;> (rw [h, h']; kernel_rfl)
      · refine (?_ : drawE _ _ _ = true)
        rcases lx_two (ravs (swapR (l.take i))) t7 with h | h <;> (rw [h]; kernel_rfl)
      · refine ⟨H.length, H1.length, H2.length, by omega, by omega, m3, ?_, ?_, ?_, fun _ => by omega, ?_⟩
        · intro _
          rw [p3 H.length (by omega) (fun hn => by have := x7 hn; omega), p2 H.length (by omega) (fun hn => x6 hn), e5, sl_app]
          exact q1 (by simp)
        · intro _
          rw [p3 H1.length (by omega) (fun hn => by have := x7 hn; omega), e6, sl_app]
          exact q2 (by simp)
        · rw [e7, ravs_app]; exact q3
        · rw [e5, e6, e7, sl_app, sl_app, ravs_app, lx_cons (by simp), lx_cons (by simp), lx_cons (by simp)]
          simp
end Go.Tv
