/-
  What the functions of chapter 8 compute: Renamed.
-/
import Derived.Test.YtbofonlhakedpaaGreatDoorExn
/- Renamed of the program. -/
namespace Go.Tv
open Go.Proofs
set_option maxHeartbeats 4000000
/-! ### draws, the places under other names -/
def mapE (f : Nat → Nat) : Eff → Eff
  | .put j => .put (f j)
  | .upto R => .upto (R.map f)
  | e => e
theorem commutes_map (f : Nat → Nat) (r : Option Nat) (e : Eff) (h : commutes (r.map f) (mapE f e) = true) : commutes r e = true := by
  cases e with
  | quiet => rfl
  | new => rfl
  | all => cases r with
    | none => rfl
    | some i => simp [commutes, mapE] at h
  | put j => cases r with
    | none => rfl
    | some i =>
      simp only [mapE, commutes, Option.map_some, bne_iff_ne, ne_eq] at h ⊢
      intro e; exact h (by rw [e])
  | upto R => cases r with
    | none => rfl
    | some i =>
      simp only [mapE, commutes, Option.map_some, Bool.not_eq_true'] at h ⊢
      cases hc : R.contains i with
      | false => rfl
      | true =>
        have : (R.map f).contains (f i) = true := by
          simp only [List.contains_iff_mem, List.mem_map] at hc ⊢
          exact ⟨i, hc, rfl⟩
        rw [this] at h; cases h
theorem effR_map (f : Nat → Nat) (a b : Eff) (r q : Option Nat) (h : effR (mapE f a) (r.map f) (mapE f b) (q.map f) = true) : effR a r b q = true := by
  have e1 : ∀ (e : Eff) (r q : Option Nat), effR .quiet r e q = commutes r e := fun e r q => by cases e <;> rfl
  have e2 : ∀ (e : Eff) (r q : Option Nat), e ≠ .quiet → effR e r .quiet q = commutes q e := fun e r q he => by
    cases e <;> first | rfl | exact absurd rfl he
  have ef : ∀ (a b : Eff) (r q : Option Nat), a ≠ .quiet → b ≠ .quiet → effR a r b q = false := fun a b r q ha hb => by
    cases a <;> cases b <;> first | rfl | exact absurd rfl ha | exact absurd rfl hb
  have hn : ∀ e, e ≠ .quiet → mapE f e ≠ .quiet := fun e he => by cases e <;> first | (exact absurd rfl he) | (simp [mapE])
  by_cases ha : a = .quiet
  · subst ha
    rw [e1]
    exact commutes_map f r b (by rw [← e1 _ _ (q.map f)]; exact h)
  · by_cases hb : b = .quiet
    · subst hb
      rw [e2 _ _ _ ha]
      exact commutes_map f q a (by rw [← e2 _ (r.map f) _ (hn a ha)]; exact h)
    · rw [ef _ _ _ _ (hn a ha) (hn b hb)] at h; cases h
theorem drawE_map {ops : Array Oper} {es : List Eff} {rs : List (Option Nat)} (f : Nat → Nat) (h : drawE ops (es.map (mapE f)) (rs.map (Option.map f)) = true) : drawE ops es rs = true := by
  have ge : ∀ i, (es.map (mapE f)).getD i .all = mapE f (es.getD i .all) := fun i => by
    rw [List.getD_eq_getElem?_getD, List.getD_eq_getElem?_getD, List.getElem?_map]
    cases es[i]? <;> rfl
  have gr : ∀ i, (rs.map (Option.map f)).getD i none = (rs.getD i none).map f := fun i => by
    rw [List.getD_eq_getElem?_getD, List.getD_eq_getElem?_getD, List.getElem?_map]
    cases rs[i]? <;> rfl
  have hp : ∀ i j, pairE ops (es.map (mapE f)) (rs.map (Option.map f)) i j = true → pairE ops es rs i j = true := fun i j hp => by
    simp only [pairE, Bool.and_eq_true, ge, gr] at hp ⊢
    exact ⟨hp.1, effR_map f _ _ _ _ hp.2⟩
  simp only [drawE, Bool.and_eq_true, List.all_eq_true (l := List.range _), Bool.or_eq_true] at h ⊢
  exact ⟨h.1, fun j hj i hi => (h.2 j hj i hi).imp id (hp i j)⟩

/-! ### the closure that renames -/
section
variable {z a : Bool} {al : FuncId → FuncId}
theorem sz118 : szOf (CX z a al) 118 = some 1 := by kernel_rfl
theorem ag118 : aggT (CX z a al) 118 = some false := by kernel_rfl
theorem zero118 : zeroOf (CX z a al) 118 = some .nilMap := by kernel_rfl
theorem map118 : strMapT (CX z a al) 118 = true := by kernel_rfl
theorem mz118 : mapZero (CX z a al) 118 = some (.str []) := by kernel_rfl
theorem sz29 : szOf (CX z a al) 29 = some 1 := by kernel_rfl
theorem ag29 : aggT (CX z a al) 29 = some false := by kernel_rfl
theorem zero29 : zeroOf (CX z a al) 29 = some .nilFn := by kernel_rfl
end
attribute [simp] sz118 ag118 zero118 map118 mz118 sz29 ag29 zero29
theorem mapSet_ids : ∀ (es : List (List UInt8 × AV)) (k : List UInt8) (v : AV), idsL (es.map Prod.snd) = [] → v.ids = [] → idsL ((mapSet es k v).map Prod.snd) = []
  | [], k, v, _, hv => by simp [mapSet, idsL, hv]
  | e :: r, k, v, h, hv => by
    simp only [List.map_cons, idsL, List.append_eq_nil_iff] at h
    rw [mapSet]
    split
    · simp [idsL, hv, h.2]
    · simp only [List.map_cons, idsL, h.1, mapSet_ids r k v h.2 hv, List.append_nil]
theorem mapFold_ids : ∀ (l : List Ren) (m : List (List UInt8 × AV)), idsL (m.map Prod.snd) = [] → idsL ((l.foldl (fun m p => mapSet m p.1 (.str p.2)) m).map Prod.snd) = []
  | [], _, h => h
  | p :: r, m, h => mapFold_ids r _ (mapSet_ids m p.1 (.str p.2) h rfl)
theorem mapOf_ids (l : List Ren) : idsL ((mapOf l).map Prod.snd) = [] := mapFold_ids l [] rfl
/-- The names' map, its box, and the closure's box. -/
structure Obj106 (l : List Ren) (tb mb rb : Nat) (H : Heap) : Prop where
  t : H[tb]? = some (.cells [.mapr mb] 118)
  m : H[mb]? = some (.amap (mapOf l))
  r : H[rb]? = some (.cells [.fn (.func 106) [] [.ptr tb 0, .ptr rb 0]] 29)
theorem Obj106.keep {l : List Ren} {tb mb rb : Nat} {H H' : Heap} (h : Obj106 l tb mb rb H) (k : KeepA H H') : Obj106 l tb mb rb H' := ⟨k.at h.t, k.at h.m, k.at h.r⟩
theorem Obj106.ne {l : List Ren} {tb mb rb : Nat} {H : Heap} (h : Obj106 l tb mb rb H) : tb ≠ mb ∧ tb ≠ rb ∧ mb ≠ rb := by
  refine ⟨fun e => ?_, fun e => ?_, fun e => ?_⟩
  · have := h.t; rw [e, h.m] at this; simp at this
  · have := h.t; rw [e, h.r] at this; simp at this
  · have := h.m; rw [e, h.r] at this; simp at this
theorem reach106 {l : List Ren} {tb mb rb : Nat} {H : Heap} (h : Obj106 l tb mb rb H) (args : List AV) (ha : idsL args = [tb, rb]) :
    reachL H args = [rb, mb, tb] ∧ (closed H [rb, mb, tb] && (idsL args).all [rb, mb, tb].contains) = true := by
  obtain ⟨h1, h2, h3⟩ := h.ne
  have h1' : ¬ mb = tb := fun e => h1 e.symm
  have h2' : ¬ rb = tb := fun e => h2 e.symm
  have h3' : ¬ rb = mb := fun e => h3 e.symm
  have hi := mapOf_ids l
  constructor
  · unfold reachL
    rw [ha]
    simp [reach, h.t, h.m, h.r, AObj.ids, idsL, AV.ids, h1', h2', h3', hi]
  · rw [ha]
    simp [closed, h.t, h.m, h.r, AObj.ids, idsL, AV.ids, hi]
/-- One value more: what stands behind. -/
theorem app_LV1 (H : Heap) (a : List V) (y : V) (tok : Nat) (ht : TokAt H a tok) (hc : a.length + 1 ≤ 1000000000) :
    ∃ H', aappB CC [22, 22] [LV a tok, .list [y.av] none] H = some (.list (avs (a ++ [y])) (some H.length), H') ∧ TokAt H' (a ++ [y]) H.length ∧ KC H H' ∧ H.length ≤ H'.length ∧ ∀ j, j < H.length → j ≠ tok → H'[j]? = H[j]? := by
  have ob : [y.av].all (fun v => decide (v.cells.length = 5) && v.cells.all AV.one) = true := avs_ones [y]
  by_cases ha : a = []
  · subst ha
    have r1 := room24 1 (by omega)
    refine ⟨H ++ [.tail 1 5], ?_, fun _ => by simp, KC.app _ _, by simp, fun j hj _ => List.getElem?_append_left hj⟩
    rw [lv_nil]
    simp only [aappB, aappend, el22, int22, newsH, news, sz24, zero24]
    rw [if_pos ⟨rfl, by omega, rfl, ob⟩]
    simp only [avs, List.nil_append, List.length_cons, List.length_nil, Nat.zero_add, r1, if_true, cc_arr, Bool.false_eq_true, if_false]
  · have r1 := room24 (a.length + 1) hc
    have hta := ht ha
    have hal : a.length = (avs a).length := (avs_len a).symm
    have hkc : KC H (H.set tok .dead ++ [.tail (a.length + 1) 5]) := ⟨by simp, fun j cs T h => by
      have hjt : tok ≠ j := fun e => by subst e; rw [hta] at h; cases h
      rw [List.getElem?_append_left (by simpa using (List.getElem?_eq_some_iff.1 h).1), List.getElem?_set_ne hjt]; exact h⟩
    refine ⟨H.set tok .dead ++ [.tail (a.length + 1) 5], ?_, fun _ => by simp, hkc, by simp, fun j hj hne => ?_⟩
    · rw [lv_cons ha, avs_append]
      simp only [aappB, aappend, el22, int22, newsH, news, sz24, zero24]
      rw [if_pos ⟨rfl, by omega, rfl, ob⟩]
      simp only [avs, List.length_cons, List.length_nil, Nat.zero_add, hta]
      rw [if_pos ⟨hal, trivial, by rw [← hal]; exact r1, avs_cells a⟩, ← hal]
    · rw [List.getElem?_append_left (by simpa using hj), List.getElem?_set_ne (fun e => hne e.symm)]
def At106 (l : List Ren) (v : V) : Prop := ∀ (H : Heap) (tb mb rb : Nat), Obj106 l tb mb rb H → ∃ H', Call CC 106 [v.av, .ptr tb 0, .ptr rb 0] H = some (.ok (renV l v).av, H') ∧ KeepA H H'
def K1 (l : List Ren) (v : V) (M : Heap) (tb rb b3 : Nat) (i : Nat) (t : List AV) (H : Heap) : Prop := ∃ tok, M.length ≤ tok ∧ i ≤ v.keys.length ∧ KeepA M H ∧ TokAt H (renVs l (v.keys.take i)) tok ∧ H[b3]? = some (.cells [.int .i64 v.kind, .int .i64 v.num, .str (renN l v), LV (renVs l (v.keys.take i)) tok, .empty] 24) ∧ H[b3 + 1]? = some (.cells [.int .i64 0, .int .i64 0, .str [], .empty, .empty] 24) ∧ Fit [some (.agg [.int .i64 v.kind, .int .i64 v.num, .str v.s, .list (avs v.keys) none, .list (avs v.items) none]), some (.ptr tb 0), some (.ptr rb 0), some (.ptr b3 0), some (.ptr (b3 + 1) 0), none, none, some (.list (avs v.keys) none), some (.list (avs v.items) none), none, none, none, none, none, none, none, none, none, none, none, none, none, none, none, none, none, none, none, none, none, none, none, none, none, some (.list (avs v.keys) none), some (.int .i64 v.keys.length), some (.int .i64 i), none, none, none, none, none, none, none, none, none, none, none, none, none, none, none, none, none, none, none, none, none, none, none, none, none, none, none, none] t
def K2 (l : List Ren) (v : V) (M : Heap) (tb rb b3 : Nat) (K : AV) (i : Nat) (t : List AV) (H : Heap) : Prop := ∃ tok, M.length ≤ tok ∧ i ≤ v.items.length ∧ KeepA M H ∧ TokAt H (renVs l (v.items.take i)) tok ∧ H[b3]? = some (.cells [.int .i64 v.kind, .int .i64 v.num, .str (renN l v), K, LV (renVs l (v.items.take i)) tok] 24) ∧ H[b3 + 1]? = some (.cells [.int .i64 0, .int .i64 0, .str [], .empty, .empty] 24) ∧ Fit [some (.agg [.int .i64 v.kind, .int .i64 v.num, .str v.s, .list (avs v.keys) none, .list (avs v.items) none]), some (.ptr tb 0), some (.ptr rb 0), some (.ptr b3 0), some (.ptr (b3 + 1) 0), none, none, some (.list (avs v.keys) none), some (.list (avs v.items) none), none, none, none, none, none, none, none, none, none, none, none, none, none, none, none, none, none, none, none, none, none, none, none, none, none, none, none, none, none, none, none, none, none, none, none, none, none, none, none, none, some (.list (avs v.items) none), some (.int .i64 v.items.length), some (.int .i64 i), none, none, none, none, none, none, none, none, none, none, none, none, none] t
set_option maxRecDepth 100000 in
theorem ren106_of (l : List Ren) (v : V) (hk : ∀ x ∈ v.keys, At106 l x) (hi : ∀ x ∈ v.items, At106 l x) (hc : v.cnt ≤ 100000000) : At106 l v := by
  intro H tb mb rb ho
  have q0 := v.cnt_eq
  have q3 := len_cnts v.keys
  have q4 := len_cnts v.items
  obtain ⟨hR, hcl⟩ := reach106 ho [v.av, .ptr tb 0, .ptr rb 0] (by simp [idsL, AV.ids, ids_av])
  have key := cwpo (f := 106) (fn := Tryz.f106) (P := fun w H1 => w = (renV l v).av ∧ H1[tb]? = H[tb]? ∧ H1[mb]? = H[mb]? ∧ H1[rb]? = H[rb]?) (args := [v.av, .ptr tb 0, .ptr rb 0]) (H := H) rfl (by kernel_rfl) rfl rfl rfl rfl (by simp) hR hcl ?_
  · obtain ⟨w, H1, H', k1, ⟨k2, k3, k4, k5⟩, k6, k7, k8, k9⟩ := key
    subst k2
    refine ⟨H', k1, by omega, fun j hj => ?_⟩
    by_cases e : j = tb
    · subst e; rw [k8 _ (by simp), k3]
    · by_cases e2 : j = mb
      · subst e2; rw [k8 _ (by simp), k4]
      · by_cases e3 : j = rb
        · subst e3; rw [k8 _ (by simp), k5]
        · exact k9 j hj (by simp [e, e2, e3])
  · intro M hM hR
    have mo : Obj106 l tb mb rb M := ⟨by rw [hR tb (by simp), ho.t], by rw [hR mb (by simp), ho.m], by rw [hR rb (by simp), ho.r]⟩
    have n1 := app_get mo.t
    have n2 := app_get mo.m
    have n3 := app_get mo.r
    have b1 := lt_of_get mo.t
    have b2 := lt_of_get mo.m
    have b3 := lt_of_get mo.r
    have gm := mapGet_of l v.s
    have er : (renV l v).av = .agg [.int .i64 v.kind, .int .i64 v.num, .str (renN l v), .list (avs (renVs l v.keys)) none, .list (avs (renVs l v.items)) none] := by rw [renV_eq]; rfl
    rw [er]
    cases hm : lastM v.s l none with
    | none =>
      have hN : renN l v = v.s := by unfold renN; split <;> simp [hm]
      simp [V.av_eq, n1, n2, gm, hm]
      refine ⟨?_, ?_⟩
      · refine (?_ : drawE _ _ _ = true)
        kernel_rfl
      · refine st_iter (K1 l v M tb rb M.length) v.keys.length ?_ ?_
        · exact ⟨M.length, Nat.le_refl _, by omega, ⟨by simp, fun j hj => List.getElem?_append_left hj⟩, fun h => absurd rfl h, by rw [hN]; simp [renVs, lv_nil], by simp, by simp⟩
        · rintro i t Hi ⟨tok, htk, hi2, hkp, hk2, m2, m1, ht⟩
          obtain ⟨d, rfl⟩ := ht.elim
          clear ht
          refine ⟨hi2, ?_⟩
          simp
          cases hb : decide (i < v.keys.length)
          · have hb' : i = v.keys.length := by simp at hb; omega
            subst hb'
            rw [List.take_length] at m2 hk2
            simp
            generalize hK : LV (renVs l v.keys) tok = K at m2
            have hKe : K.erase = .list (avs (renVs l v.keys)) none := by rw [← hK]; simp
            have hK1 : K.one = true := by rw [← hK]; exact lv_one _ _
            simp only [AV.one] at hK1
            have hKc : K.cells = [K] := by rw [← hK]; simp
            refine st_iter (K2 l v M tb rb M.length K) v.items.length ?_ ?_
            · exact ⟨M.length, Nat.le_refl _, by omega, hkp, fun h => absurd rfl h, by simpa [renVs, lv_nil] using m2, m1, by simp⟩
            · rintro i t Hi ⟨tok, htk, hi3, hkp, hk2, m2, m1, ht⟩
              obtain ⟨d, rfl⟩ := ht.elim
              clear ht
              refine ⟨hi3, ?_⟩
              simp
              cases hb : decide (i < v.items.length)
              · have hb' : i = v.items.length := by simp at hb; omega
                subst hb'
                rw [List.take_length] at m2 hk2
                have s1 := set_of m1
                have lk := hkp.len
                have u1 : ∀ X, (Hi.set (M.length + 1) X)[tb]? = H[tb]? := fun X => by rw [List.getElem?_set_ne (by omega), hkp.get tb b1, hR tb (by simp)]
                have u2 : ∀ X, (Hi.set (M.length + 1) X)[mb]? = H[mb]? := fun X => by rw [List.getElem?_set_ne (by omega), hkp.get mb b2, hR mb (by simp)]
                have u3 : ∀ X, (Hi.set (M.length + 1) X)[rb]? = H[rb]? := fun X => by rw [List.getElem?_set_ne (by omega), hkp.get rb b3, hR rb (by simp)]
                have hI1 := lv_one (renVs l v.items) tok
                simp only [AV.one] at hI1
                simp [m1, m2, s1, hKe, hK1, hI1, u1, u2, u3]
                omega
              · have hb' : i < v.items.length := by simpa using hb
                have ox := (mo.keep hkp).keep (H' := Hi ++ [boxV v.items[i]]) ⟨by simp, fun j hj => List.getElem?_append_left hj⟩
                obtain ⟨H2, s1, s2⟩ := hi v.items[i] (List.getElem_mem hb') (Hi ++ [boxV v.items[i]]) tb mb rb ox
                have hRx := (reach106 ox [v.items[i].av, .ptr tb 0, .ptr rb 0] (by simp [idsL, AV.ids, ids_av])).1
                have e2 := renVs_take l v.items i hb'
                have q8 : (renVs l (v.items.take i)).length ≤ i := by rw [renVs_len, List.length_take]; omega
                have w1 := wrapI (i := i + 1) (by omega) (by omega)
                have o3 := app_get (mo.keep hkp).r
                generalize hno : renVs l (v.items.take i) = o at *
                generalize hy : renV l v.items[i] = y at *
                generalize hx : v.items[i] = x0 at *
                have hk3' : TokAt H2 o tok := fun h => s2.at (app_get (hk2 h) _)
                obtain ⟨H3, a1, t3, k1, l3, g3⟩ := app_LV1 H2 o y tok hk3' (by omega)
                rw [V.av_eq, V.av_eq] at s1
                rw [V.av_eq] at a1 hRx
                have m2x := s2.at (app_get m2 [boxV x0])
                have m1x := s2.at (app_get m1 [boxV x0])
                have p2 := k1.2 _ _ _ m2x
                have p1 := k1.2 _ _ _ m1x
                have m2y := app_get m2
                have z1 := set_of p2
                have l2 := s2.len
                have lk := hkp.len
                simp [-aappB, hb', hx, V.av_eq, m2y, o3, s1, a1, p2, w1]
                simp at l2
                have hne : o ++ [y] ≠ [] := by simp
                have kq : ∀ X, KeepA M (H3.set M.length X) := fun X => ⟨by simp; omega, fun j hj => by rw [List.getElem?_set_ne (by omega), g3 j (by omega) (by omega), s2.get j (by simp; omega), List.getElem?_append_left (by omega), hkp.get j hj]⟩
                refine ⟨?_, ?_⟩
                · refine (?_ : drawE _ _ _ = true)
                  rw [hRx]
                  obtain ⟨q, f1, f2, f3, f4, f5⟩ : ∃ q : Nat → Nat, q rb = 0 ∧ q mb = 0 ∧ q tb = 0 ∧ q M.length = 1 ∧ q Hi.length = 1 :=
                    ⟨fun x => if x = rb ∨ x = mb ∨ x = tb then 0 else 1, by simp, by simp, by simp, if_neg (by omega), if_neg (by omega)⟩
                  refine drawE_map q ?_
                  rcases lv_twoR o tok with h | h
                  · rw [h]
                    simp only [List.map_cons, List.map_nil, mapE, Option.map_some, Option.map_none, f1, f2, f3, f4, f5]
                    kernel_rfl
                  · rw [h]
                    simp only [List.map_cons, List.map_nil, mapE, Option.map_some, Option.map_none, f1, f2, f3, f4, f5]
                    kernel_rfl
                · exact ⟨H2.length, by omega, by omega, kq _, fun hh => by rw [List.getElem?_set_ne (by omega), e2]; exact t3 hne, by rw [e2, lv_cons hne]; exact z1 _, by rw [List.getElem?_set_ne (by omega)]; exact p1, by simp⟩
          · have hb' : i < v.keys.length := by simpa using hb
            have ox := (mo.keep hkp).keep (H' := Hi ++ [boxV v.keys[i]]) ⟨by simp, fun j hj => List.getElem?_append_left hj⟩
            obtain ⟨H2, s1, s2⟩ := hk v.keys[i] (List.getElem_mem hb') (Hi ++ [boxV v.keys[i]]) tb mb rb ox
            have hRx := (reach106 ox [v.keys[i].av, .ptr tb 0, .ptr rb 0] (by simp [idsL, AV.ids, ids_av])).1
            have e2 := renVs_take l v.keys i hb'
            have q8 : (renVs l (v.keys.take i)).length ≤ i := by rw [renVs_len, List.length_take]; omega
            have w1 := wrapI (i := i + 1) (by omega) (by omega)
            have o3 := app_get (mo.keep hkp).r
            generalize hno : renVs l (v.keys.take i) = o at *
            generalize hy : renV l v.keys[i] = y at *
            generalize hx : v.keys[i] = x0 at *
            have hk3' : TokAt H2 o tok := fun h => s2.at (app_get (hk2 h) _)
            obtain ⟨H3, a1, t3, k1, l3, g3⟩ := app_LV1 H2 o y tok hk3' (by omega)
            rw [V.av_eq, V.av_eq] at s1
            rw [V.av_eq] at a1 hRx
            have m2x := s2.at (app_get m2 [boxV x0])
            have m1x := s2.at (app_get m1 [boxV x0])
            have p2 := k1.2 _ _ _ m2x
            have p1 := k1.2 _ _ _ m1x
            have m2y := app_get m2
            have z1 := set_of p2
            have l2 := s2.len
            have lk := hkp.len
            simp [-aappB, hb', hx, V.av_eq, m2y, o3, s1, a1, p2, w1]
            simp at l2
            have hne : o ++ [y] ≠ [] := by simp
            have kq : ∀ X, KeepA M (H3.set M.length X) := fun X => ⟨by simp; omega, fun j hj => by rw [List.getElem?_set_ne (by omega), g3 j (by omega) (by omega), s2.get j (by simp; omega), List.getElem?_append_left (by omega), hkp.get j hj]⟩
            refine ⟨?_, ?_⟩
            · refine (?_ : drawE _ _ _ = true)
              rw [hRx]
              obtain ⟨q, f1, f2, f3, f4, f5⟩ : ∃ q : Nat → Nat, q rb = 0 ∧ q mb = 0 ∧ q tb = 0 ∧ q M.length = 1 ∧ q Hi.length = 1 :=
                ⟨fun x => if x = rb ∨ x = mb ∨ x = tb then 0 else 1, by simp, by simp, by simp, if_neg (by omega), if_neg (by omega)⟩
              refine drawE_map q ?_
              rcases lv_twoR o tok with h | h
              · rw [h]
                simp only [List.map_cons, List.map_nil, mapE, Option.map_some, Option.map_none, f1, f2, f3, f4, f5]
                kernel_rfl
              · rw [h]
                simp only [List.map_cons, List.map_nil, mapE, Option.map_some, Option.map_none, f1, f2, f3, f4, f5]
                kernel_rfl
            · exact ⟨H2.length, by omega, by omega, kq _, fun hh => by rw [List.getElem?_set_ne (by omega), e2]; exact t3 hne, by rw [e2, lv_cons hne]; exact z1 _, by rw [List.getElem?_set_ne (by omega)]; exact p1, by simp⟩

    | some x =>
      by_cases hk3 : v.kind = 3
      · have hN : renN l v = x := by unfold renN; rw [if_pos hk3, hm]; rfl
        have k3 : (v.kind = 3) = True := eq_true hk3
        simp [V.av_eq, n1, n2, gm, hm, k3]
        refine ⟨?_, ?_⟩
        · refine (?_ : drawE _ _ _ = true)
          kernel_rfl
        · refine st_iter (K1 l v M tb rb M.length) v.keys.length ?_ ?_
          · exact ⟨M.length, Nat.le_refl _, by omega, ⟨by simp, fun j hj => List.getElem?_append_left hj⟩, fun h => absurd rfl h, by rw [hN]; simp [renVs, lv_nil], by simp, by simp⟩
          · rintro i t Hi ⟨tok, htk, hi2, hkp, hk2, m2, m1, ht⟩
            obtain ⟨d, rfl⟩ := ht.elim
            clear ht
            refine ⟨hi2, ?_⟩
            simp
            cases hb : decide (i < v.keys.length)
            · have hb' : i = v.keys.length := by simp at hb; omega
              subst hb'
              rw [List.take_length] at m2 hk2
              simp
              generalize hK : LV (renVs l v.keys) tok = K at m2
              have hKe : K.erase = .list (avs (renVs l v.keys)) none := by rw [← hK]; simp
              have hK1 : K.one = true := by rw [← hK]; exact lv_one _ _
              simp only [AV.one] at hK1
              have hKc : K.cells = [K] := by rw [← hK]; simp
              refine st_iter (K2 l v M tb rb M.length K) v.items.length ?_ ?_
              · exact ⟨M.length, Nat.le_refl _, by omega, hkp, fun h => absurd rfl h, by simpa [renVs, lv_nil] using m2, m1, by simp⟩
              · rintro i t Hi ⟨tok, htk, hi3, hkp, hk2, m2, m1, ht⟩
                obtain ⟨d, rfl⟩ := ht.elim
                clear ht
                refine ⟨hi3, ?_⟩
                simp
                cases hb : decide (i < v.items.length)
                · have hb' : i = v.items.length := by simp at hb; omega
                  subst hb'
                  rw [List.take_length] at m2 hk2
                  have s1 := set_of m1
                  have lk := hkp.len
                  have u1 : ∀ X, (Hi.set (M.length + 1) X)[tb]? = H[tb]? := fun X => by rw [List.getElem?_set_ne (by omega), hkp.get tb b1, hR tb (by simp)]
                  have u2 : ∀ X, (Hi.set (M.length + 1) X)[mb]? = H[mb]? := fun X => by rw [List.getElem?_set_ne (by omega), hkp.get mb b2, hR mb (by simp)]
                  have u3 : ∀ X, (Hi.set (M.length + 1) X)[rb]? = H[rb]? := fun X => by rw [List.getElem?_set_ne (by omega), hkp.get rb b3, hR rb (by simp)]
                  have hI1 := lv_one (renVs l v.items) tok
                  simp only [AV.one] at hI1
                  simp [m1, m2, s1, hKe, hK1, hI1, u1, u2, u3]
                  omega
                · have hb' : i < v.items.length := by simpa using hb
                  have ox := (mo.keep hkp).keep (H' := Hi ++ [boxV v.items[i]]) ⟨by simp, fun j hj => List.getElem?_append_left hj⟩
                  obtain ⟨H2, s1, s2⟩ := hi v.items[i] (List.getElem_mem hb') (Hi ++ [boxV v.items[i]]) tb mb rb ox
                  have hRx := (reach106 ox [v.items[i].av, .ptr tb 0, .ptr rb 0] (by simp [idsL, AV.ids, ids_av])).1
                  have e2 := renVs_take l v.items i hb'
                  have q8 : (renVs l (v.items.take i)).length ≤ i := by rw [renVs_len, List.length_take]; omega
                  have w1 := wrapI (i := i + 1) (by omega) (by omega)
                  have o3 := app_get (mo.keep hkp).r
                  generalize hno : renVs l (v.items.take i) = o at *
                  generalize hy : renV l v.items[i] = y at *
                  generalize hx : v.items[i] = x0 at *
                  have hk3' : TokAt H2 o tok := fun h => s2.at (app_get (hk2 h) _)
                  obtain ⟨H3, a1, t3, k1, l3, g3⟩ := app_LV1 H2 o y tok hk3' (by omega)
                  rw [V.av_eq, V.av_eq] at s1
                  rw [V.av_eq] at a1 hRx
                  have m2x := s2.at (app_get m2 [boxV x0])
                  have m1x := s2.at (app_get m1 [boxV x0])
                  have p2 := k1.2 _ _ _ m2x
                  have p1 := k1.2 _ _ _ m1x
                  have m2y := app_get m2
                  have z1 := set_of p2
                  have l2 := s2.len
                  have lk := hkp.len
                  simp [-aappB, hb', hx, V.av_eq, m2y, o3, s1, a1, p2, w1]
                  simp at l2
                  have hne : o ++ [y] ≠ [] := by simp
                  have kq : ∀ X, KeepA M (H3.set M.length X) := fun X => ⟨by simp; omega, fun j hj => by rw [List.getElem?_set_ne (by omega), g3 j (by omega) (by omega), s2.get j (by simp; omega), List.getElem?_append_left (by omega), hkp.get j hj]⟩
                  refine ⟨?_, ?_⟩
                  · refine (?_ : drawE _ _ _ = true)
                    rw [hRx]
                    obtain ⟨q, f1, f2, f3, f4, f5⟩ : ∃ q : Nat → Nat, q rb = 0 ∧ q mb = 0 ∧ q tb = 0 ∧ q M.length = 1 ∧ q Hi.length = 1 :=
                      ⟨fun x => if x = rb ∨ x = mb ∨ x = tb then 0 else 1, by simp, by simp, by simp, if_neg (by omega), if_neg (by omega)⟩
                    refine drawE_map q ?_
                    rcases lv_twoR o tok with h | h
                    · rw [h]
                      simp only [List.map_cons, List.map_nil, mapE, Option.map_some, Option.map_none, f1, f2, f3, f4, f5]
                      kernel_rfl
                    · rw [h]
                      simp only [List.map_cons, List.map_nil, mapE, Option.map_some, Option.map_none, f1, f2, f3, f4, f5]
                      kernel_rfl
                  · exact ⟨H2.length, by omega, by omega, kq _, fun hh => by rw [List.getElem?_set_ne (by omega), e2]; exact t3 hne, by rw [e2, lv_cons hne]; exact z1 _, by rw [List.getElem?_set_ne (by omega)]; exact p1, by simp⟩
            · have hb' : i < v.keys.length := by simpa using hb
              have ox := (mo.keep hkp).keep (H' := Hi ++ [boxV v.keys[i]]) ⟨by simp, fun j hj => List.getElem?_append_left hj⟩
              obtain ⟨H2, s1, s2⟩ := hk v.keys[i] (List.getElem_mem hb') (Hi ++ [boxV v.keys[i]]) tb mb rb ox
              have hRx := (reach106 ox [v.keys[i].av, .ptr tb 0, .ptr rb 0] (by simp [idsL, AV.ids, ids_av])).1
              have e2 := renVs_take l v.keys i hb'
              have q8 : (renVs l (v.keys.take i)).length ≤ i := by rw [renVs_len, List.length_take]; omega
              have w1 := wrapI (i := i + 1) (by omega) (by omega)
              have o3 := app_get (mo.keep hkp).r
              generalize hno : renVs l (v.keys.take i) = o at *
              generalize hy : renV l v.keys[i] = y at *
              generalize hx : v.keys[i] = x0 at *
              have hk3' : TokAt H2 o tok := fun h => s2.at (app_get (hk2 h) _)
              obtain ⟨H3, a1, t3, k1, l3, g3⟩ := app_LV1 H2 o y tok hk3' (by omega)
              rw [V.av_eq, V.av_eq] at s1
              rw [V.av_eq] at a1 hRx
              have m2x := s2.at (app_get m2 [boxV x0])
              have m1x := s2.at (app_get m1 [boxV x0])
              have p2 := k1.2 _ _ _ m2x
              have p1 := k1.2 _ _ _ m1x
              have m2y := app_get m2
              have z1 := set_of p2
              have l2 := s2.len
              have lk := hkp.len
              simp [-aappB, hb', hx, V.av_eq, m2y, o3, s1, a1, p2, w1]
              simp at l2
              have hne : o ++ [y] ≠ [] := by simp
              have kq : ∀ X, KeepA M (H3.set M.length X) := fun X => ⟨by simp; omega, fun j hj => by rw [List.getElem?_set_ne (by omega), g3 j (by omega) (by omega), s2.get j (by simp; omega), List.getElem?_append_left (by omega), hkp.get j hj]⟩
              refine ⟨?_, ?_⟩
              · refine (?_ : drawE _ _ _ = true)
                rw [hRx]
                obtain ⟨q, f1, f2, f3, f4, f5⟩ : ∃ q : Nat → Nat, q rb = 0 ∧ q mb = 0 ∧ q tb = 0 ∧ q M.length = 1 ∧ q Hi.length = 1 :=
                  ⟨fun x => if x = rb ∨ x = mb ∨ x = tb then 0 else 1, by simp, by simp, by simp, if_neg (by omega), if_neg (by omega)⟩
                refine drawE_map q ?_
                rcases lv_twoR o tok with h | h
                · rw [h]
                  simp only [List.map_cons, List.map_nil, mapE, Option.map_some, Option.map_none, f1, f2, f3, f4, f5]
                  kernel_rfl
                · rw [h]
                  simp only [List.map_cons, List.map_nil, mapE, Option.map_some, Option.map_none, f1, f2, f3, f4, f5]
                  kernel_rfl
              · exact ⟨H2.length, by omega, by omega, kq _, fun hh => by rw [List.getElem?_set_ne (by omega), e2]; exact t3 hne, by rw [e2, lv_cons hne]; exact z1 _, by rw [List.getElem?_set_ne (by omega)]; exact p1, by simp⟩

      · have hN : renN l v = v.s := by unfold renN; rw [if_neg hk3]
        simp [V.av_eq, n1, n2, gm, hm, hk3]
        refine ⟨?_, ?_⟩
        · refine (?_ : drawE _ _ _ = true)
          kernel_rfl
        · refine st_iter (K1 l v M tb rb M.length) v.keys.length ?_ ?_
          · exact ⟨M.length, Nat.le_refl _, by omega, ⟨by simp, fun j hj => List.getElem?_append_left hj⟩, fun h => absurd rfl h, by rw [hN]; simp [renVs, lv_nil], by simp, by simp⟩
          · rintro i t Hi ⟨tok, htk, hi2, hkp, hk2, m2, m1, ht⟩
            obtain ⟨d, rfl⟩ := ht.elim
            clear ht
            refine ⟨hi2, ?_⟩
            simp
            cases hb : decide (i < v.keys.length)
            · have hb' : i = v.keys.length := by simp at hb; omega
              subst hb'
              rw [List.take_length] at m2 hk2
              simp
              generalize hK : LV (renVs l v.keys) tok = K at m2
              have hKe : K.erase = .list (avs (renVs l v.keys)) none := by rw [← hK]; simp
              have hK1 : K.one = true := by rw [← hK]; exact lv_one _ _
              simp only [AV.one] at hK1
              have hKc : K.cells = [K] := by rw [← hK]; simp
              refine st_iter (K2 l v M tb rb M.length K) v.items.length ?_ ?_
              · exact ⟨M.length, Nat.le_refl _, by omega, hkp, fun h => absurd rfl h, by simpa [renVs, lv_nil] using m2, m1, by simp⟩
              · rintro i t Hi ⟨tok, htk, hi3, hkp, hk2, m2, m1, ht⟩
                obtain ⟨d, rfl⟩ := ht.elim
                clear ht
                refine ⟨hi3, ?_⟩
                simp
                cases hb : decide (i < v.items.length)
                · have hb' : i = v.items.length := by simp at hb; omega
                  subst hb'
                  rw [List.take_length] at m2 hk2
                  have s1 := set_of m1
                  have lk := hkp.len
                  have u1 : ∀ X, (Hi.set (M.length + 1) X)[tb]? = H[tb]? := fun X => by rw [List.getElem?_set_ne (by omega), hkp.get tb b1, hR tb (by simp)]
                  have u2 : ∀ X, (Hi.set (M.length + 1) X)[mb]? = H[mb]? := fun X => by rw [List.getElem?_set_ne (by omega), hkp.get mb b2, hR mb (by simp)]
                  have u3 : ∀ X, (Hi.set (M.length + 1) X)[rb]? = H[rb]? := fun X => by rw [List.getElem?_set_ne (by omega), hkp.get rb b3, hR rb (by simp)]
                  have hI1 := lv_one (renVs l v.items) tok
                  simp only [AV.one] at hI1
                  simp [m1, m2, s1, hKe, hK1, hI1, u1, u2, u3]
                  omega
                · have hb' : i < v.items.length := by simpa using hb
                  have ox := (mo.keep hkp).keep (H' := Hi ++ [boxV v.items[i]]) ⟨by simp, fun j hj => List.getElem?_append_left hj⟩
                  obtain ⟨H2, s1, s2⟩ := hi v.items[i] (List.getElem_mem hb') (Hi ++ [boxV v.items[i]]) tb mb rb ox
                  have hRx := (reach106 ox [v.items[i].av, .ptr tb 0, .ptr rb 0] (by simp [idsL, AV.ids, ids_av])).1
                  have e2 := renVs_take l v.items i hb'
                  have q8 : (renVs l (v.items.take i)).length ≤ i := by rw [renVs_len, List.length_take]; omega
                  have w1 := wrapI (i := i + 1) (by omega) (by omega)
                  have o3 := app_get (mo.keep hkp).r
                  generalize hno : renVs l (v.items.take i) = o at *
                  generalize hy : renV l v.items[i] = y at *
                  generalize hx : v.items[i] = x0 at *
                  have hk3' : TokAt H2 o tok := fun h => s2.at (app_get (hk2 h) _)
                  obtain ⟨H3, a1, t3, k1, l3, g3⟩ := app_LV1 H2 o y tok hk3' (by omega)
                  rw [V.av_eq, V.av_eq] at s1
                  rw [V.av_eq] at a1 hRx
                  have m2x := s2.at (app_get m2 [boxV x0])
                  have m1x := s2.at (app_get m1 [boxV x0])
                  have p2 := k1.2 _ _ _ m2x
                  have p1 := k1.2 _ _ _ m1x
                  have m2y := app_get m2
                  have z1 := set_of p2
                  have l2 := s2.len
                  have lk := hkp.len
                  simp [-aappB, hb', hx, V.av_eq, m2y, o3, s1, a1, p2, w1]
                  simp at l2
                  have hne : o ++ [y] ≠ [] := by simp
                  have kq : ∀ X, KeepA M (H3.set M.length X) := fun X => ⟨by simp; omega, fun j hj => by rw [List.getElem?_set_ne (by omega), g3 j (by omega) (by omega), s2.get j (by simp; omega), List.getElem?_append_left (by omega), hkp.get j hj]⟩
                  refine ⟨?_, ?_⟩
                  · refine (?_ : drawE _ _ _ = true)
                    rw [hRx]
                    obtain ⟨q, f1, f2, f3, f4, f5⟩ : ∃ q : Nat → Nat, q rb = 0 ∧ q mb = 0 ∧ q tb = 0 ∧ q M.length = 1 ∧ q Hi.length = 1 :=
                      ⟨fun x => if x = rb ∨ x = mb ∨ x = tb then 0 else 1, by simp, by simp, by simp, if_neg (by omega), if_neg (by omega)⟩
                    refine drawE_map q ?_
                    rcases lv_twoR o tok with h | h
                    · rw [h]
                      simp only [List.map_cons, List.map_nil, mapE, Option.map_some, Option.map_none, f1, f2, f3, f4, f5]
                      kernel_rfl
                    · rw [h]
                      simp only [List.map_cons, List.map_nil, mapE, Option.map_some, Option.map_none, f1, f2, f3, f4, f5]
                      kernel_rfl
                  · exact ⟨H2.length, by omega, by omega, kq _, fun hh => by rw [List.getElem?_set_ne (by omega), e2]; exact t3 hne, by rw [e2, lv_cons hne]; exact z1 _, by rw [List.getElem?_set_ne (by omega)]; exact p1, by simp⟩
            · have hb' : i < v.keys.length := by simpa using hb
              have ox := (mo.keep hkp).keep (H' := Hi ++ [boxV v.keys[i]]) ⟨by simp, fun j hj => List.getElem?_append_left hj⟩
              obtain ⟨H2, s1, s2⟩ := hk v.keys[i] (List.getElem_mem hb') (Hi ++ [boxV v.keys[i]]) tb mb rb ox
              have hRx := (reach106 ox [v.keys[i].av, .ptr tb 0, .ptr rb 0] (by simp [idsL, AV.ids, ids_av])).1
              have e2 := renVs_take l v.keys i hb'
              have q8 : (renVs l (v.keys.take i)).length ≤ i := by rw [renVs_len, List.length_take]; omega
              have w1 := wrapI (i := i + 1) (by omega) (by omega)
              have o3 := app_get (mo.keep hkp).r
              generalize hno : renVs l (v.keys.take i) = o at *
              generalize hy : renV l v.keys[i] = y at *
              generalize hx : v.keys[i] = x0 at *
              have hk3' : TokAt H2 o tok := fun h => s2.at (app_get (hk2 h) _)
              obtain ⟨H3, a1, t3, k1, l3, g3⟩ := app_LV1 H2 o y tok hk3' (by omega)
              rw [V.av_eq, V.av_eq] at s1
              rw [V.av_eq] at a1 hRx
              have m2x := s2.at (app_get m2 [boxV x0])
              have m1x := s2.at (app_get m1 [boxV x0])
              have p2 := k1.2 _ _ _ m2x
              have p1 := k1.2 _ _ _ m1x
              have m2y := app_get m2
              have z1 := set_of p2
              have l2 := s2.len
              have lk := hkp.len
              simp [-aappB, hb', hx, V.av_eq, m2y, o3, s1, a1, p2, w1]
              simp at l2
              have hne : o ++ [y] ≠ [] := by simp
              have kq : ∀ X, KeepA M (H3.set M.length X) := fun X => ⟨by simp; omega, fun j hj => by rw [List.getElem?_set_ne (by omega), g3 j (by omega) (by omega), s2.get j (by simp; omega), List.getElem?_append_left (by omega), hkp.get j hj]⟩
              refine ⟨?_, ?_⟩
              · refine (?_ : drawE _ _ _ = true)
                rw [hRx]
                obtain ⟨q, f1, f2, f3, f4, f5⟩ : ∃ q : Nat → Nat, q rb = 0 ∧ q mb = 0 ∧ q tb = 0 ∧ q M.length = 1 ∧ q Hi.length = 1 :=
                  ⟨fun x => if x = rb ∨ x = mb ∨ x = tb then 0 else 1, by simp, by simp, by simp, if_neg (by omega), if_neg (by omega)⟩
                refine drawE_map q ?_
                rcases lv_twoR o tok with h | h
                · rw [h]
                  simp only [List.map_cons, List.map_nil, mapE, Option.map_some, Option.map_none, f1, f2, f3, f4, f5]
                  kernel_rfl
                · rw [h]
                  simp only [List.map_cons, List.map_nil, mapE, Option.map_some, Option.map_none, f1, f2, f3, f4, f5]
                  kernel_rfl
              · exact ⟨H2.length, by omega, by omega, kq _, fun hh => by rw [List.getElem?_set_ne (by omega), e2]; exact t3 hne, by rw [e2, lv_cons hne]; exact z1 _, by rw [List.getElem?_set_ne (by omega)]; exact p1, by simp⟩

end Go.Tv

/- Renamed of the program, Renamed of the reference. -/
namespace Go.Tv
open Go.Proofs
set_option maxHeartbeats 4000000
theorem cells_mapr (i : Nat) : AV.cells (.mapr i) = [.mapr i] := rfl
theorem cells_nilMap : AV.cells .nilMap = [.nilMap] := rfl
theorem cells_nilFn : AV.cells .nilFn = [.nilFn] := rfl
theorem cells_fn (f : Fn) (a b : List AV) : AV.cells (.fn f a b) = [.fn f a b] := rfl
attribute [simp] cells_mapr cells_nilMap cells_nilFn cells_fn
theorem c106 (l : List Ren) (v : V) (hc : v.cnt ≤ 100000000) : At106 l v := by
  have key := V.ind (P := fun v => v.cnt ≤ 100000000 → At106 l v) (fun v hk hi hc => ren106_of l v (fun x hx => hk x hx (by have := cnt_mem hx; have := cnt_keys v; omega)) (fun x hx => hi x hx (by have := cnt_mem hx; have := cnt_items v; omega)) hc) v
  exact key hc
def L44 (l : List Ren) (v : V) (i : Nat) (t : List AV) (H : Heap) : Prop := i ≤ l.length ∧ 4 ≤ H.length ∧ H[0]? = some (boxV v) ∧ H[1]? = some (.cells [.int .i64 0, .int .i64 0, .str [], .empty, .empty] 24) ∧ H[2]? = some (.amap (mapOf (l.take i))) ∧ H[3]? = some (.cells [.mapr 2] 118) ∧ Fit [some (.agg [.int .i64 v.kind, .int .i64 v.num, .str v.s, .list (avs v.keys) none, .list (avs v.items) none]), some (.list (ravs l) none), some (.ptr 0 0), none, some (.ptr 1 0), some (.int .i64 0), none, some (.ptr 3 0), none, none, none, none, none, none, none, none, none, none, none, none, none, none, some (.list (ravs l) none), some (.int .i64 l.length), some (.int .i64 i), none, none, none, none, none, none, none, none, none, none, none, none, none, none, none, none] t
set_option maxRecDepth 100000 in
theorem c44 (v : V) (l : List Ren) (H : Heap) (hs : v.str) (hl : rstr l) (hc : v.cnt ≤ 1000000) (hn : l.length ≤ 1000000) : Call CC 44 [v.av, .list (ravs l) none] H = some (.ok (.tup [(rnW v l).av, .int .i64 (rnE v l)]), H) := by
  have g1 := fun H => c15 v H hs (by omega)
  have g2 := fun H => c105 l H hl
  have g3 := fun H => c75 [chkE v, renE l] H (by simp)
  simp only [il] at g3
  rw [V.av_eq v] at g1
  refine cwp (fn := Tryz.f44) rfl (by kernel_rfl) rfl rfl rfl rfl (by simp) (by simp) ?_ H
  by_cases h1 : chkE v = 0
  · by_cases h2 : renE l = 0
    · have e0 : firstNZ [chkE v, renE l] = 0 := by simp [firstNZ, h1, h2]
      have he := ren_err h1 h2
      have e1 : rnE v l = nlE (renV l v) := by rw [rnE, if_neg (by simp [h1]), if_neg (by simp [h2])]
      have e2 : rnW v l = nlW (renV l v) := by rw [rnW, nlW, e1]
      have g4 := fun H => c79 (renV l v) he (by rw [cnt_ren]; omega) H
      rw [e1, e2]
      rw [e0] at g3
      rw [V.av_eq (renV l v), V.av_eq (nlW (renV l v))] at g4
      rw [V.av_eq (nlW (renV l v))]
      simp [V.av_eq v, g1, g2, g3]
      refine st_iter (L44 l v) l.length ?_ ?_
      · exact ⟨by omega, by simp, rfl, rfl, rfl, rfl, by simp⟩
      · rintro i t H ⟨hi, hlen, m0, m1, m2, m3, ht⟩
        obtain ⟨d, rfl⟩ := ht.elim
        clear ht
        refine ⟨hi, ?_⟩
        simp
        cases hb : decide (i < l.length)
        · have hb' : i = l.length := by simp at hb; omega
          subst hb'
          rw [List.take_length] at m2
          have n0 := app_get m0
          have n1 := app_get m1
          have n2 := app_get m2
          have n3 := app_get m3
          have hob : Obj106 l 3 2 H.length (H ++ [.cells [.fn (.func 106) [] [.ptr 3 0, .ptr H.length 0]] 29]) := ⟨n3 _, n2 _, by simp⟩
          obtain ⟨H2, s1, s2⟩ := c106 l v (by omega) _ _ _ _ hob
          rw [V.av_eq, V.av_eq] at s1
          have p1 := s2.at (n1 [.cells [.fn (.func 106) [] [.ptr 3 0, .ptr H.length 0]] 29])
          have z1 := set_of p1
          obtain ⟨_, x0⟩ := List.getElem?_eq_some_iff.1 (n0 [.cells [.fn (.func 106) [] [.ptr 3 0, .ptr H.length 0]] 29])
          obtain ⟨_, x1⟩ := List.getElem?_eq_some_iff.1 p1
          simp [s1, g4, p1, z1, x0]
        · have hb' : i < l.length := by simpa using hb
          have e9 := mapOf_take l i hb'
          have w1 := wrapI (i := i + 1) (by omega) (by omega)
          have n0 := app_get m0
          have n1 := app_get m1
          have n2 := app_get m2
          have n3 := app_get m3
          simp [hb', n2, n3, w1]
          refine ⟨by omega, by simp; omega, ?_, ?_, ?_, ?_, by simp⟩
          · rw [List.getElem?_set_ne (by decide)]; exact n0 _
          · rw [List.getElem?_set_ne (by decide)]; exact n1 _
          · rw [e9]; exact set_of (n2 _) _
          · rw [List.getElem?_set_ne (by decide)]; exact n3 _
    · have e0 : firstNZ [chkE v, renE l] = renE l := by simp [firstNZ, h1, h2]
      have e1 : rnE v l = renE l := by rw [rnE, if_neg (by simp [h1]), if_pos h2]
      have e2 : rnW v l = zeroV := by rw [rnW, e1, if_neg h2]
      rw [e1, e2, zeroV_av]
      rw [e0] at g3
      simp [V.av_eq v, g1, g2, g3, h2, undv24, fv24_all]
  · have e0 : firstNZ [chkE v, renE l] = chkE v := by simp [firstNZ, h1]
    have e1 : rnE v l = chkE v := by rw [rnE, if_pos h1]
    have e2 : rnW v l = zeroV := by rw [rnW, e1, if_neg h1]
    rw [e1, e2, zeroV_av]
    rw [e0] at g3
    simp [V.av_eq v, g1, g2, g3, h1, undv24, fv24_all]
theorem c45 (v : V) (l : List Ren) (H : Heap) (hs : v.str) (hl : rstr l) (hc : v.cnt ≤ 1000000) (hn : l.length ≤ 1000000) : Call CC 45 [v.av, .list (ravs l) none] H = some (.ok (.tup [(rnW v l).av, .int .i64 (rnE v l)]), H) := by
  have g1 := fun H => c18 v H hs (by omega)
  have g2 := fun H => c107 l H hl
  have g3 := fun H => c108 l hn v (by omega) H
  have g4 := fun H => c19 (renV l v) H (str_ren hl v hs) (by rw [cnt_ren]; omega)
  rw [V.av_eq v] at g1 g3
  rw [V.av_eq (renV l v)] at g3 g4
  refine cwp (fn := Tryz.f45) rfl (by kernel_rfl) rfl rfl rfl rfl (by simp) (by simp) ?_ H
  by_cases h1 : chkE v = 0
  · by_cases h2 : renE l = 0
    · have e1 : rnE v l = normE (renV l v) := by rw [rnE, if_neg (by simp [h1]), if_neg (by simp [h2]), ren_normE h1 h2]
      have e2 : rnW v l = normW (renV l v) := by rw [rnW, normW, e1]
      rw [e1, e2]
      rw [V.av_eq (normW (renV l v))] at g4 ⊢
      simp [V.av_eq v, g1, g2, h1, h2, g3, g4]
    · have e1 : rnE v l = renE l := by rw [rnE, if_neg (by simp [h1]), if_pos h2]
      have e2 : rnW v l = zeroV := by rw [rnW, e1, if_neg h2]
      rw [e1, e2, zeroV_av]
      simp [V.av_eq v, g1, g2, h1, h2, undv24, fv24_all]
  · have e1 : rnE v l = chkE v := by rw [rnE, if_pos h1]
    have e2 : rnW v l = zeroV := by rw [rnW, e1, if_neg h1]
    rw [e1, e2, zeroV_av]
    simp [V.av_eq v, g1, h1, undv24, fv24_all]
end Go.Tv
