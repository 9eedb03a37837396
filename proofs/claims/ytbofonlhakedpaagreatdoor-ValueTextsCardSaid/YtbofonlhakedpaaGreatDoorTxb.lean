/-
  What the functions of chapter 8 compute: the text of a value, its digest.
-/
import Derived.Test.YtbofonlhakedpaaGreatDoorTxa
import Derived.Test.YtbofonlhakedpaaGreatDoorExr
namespace Go.Tv
open Go.Proofs
set_option maxHeartbeats 4000000
theorem strs_sl : ∀ l : List (List UInt8), strs (sl l) = some l
  | [] => rfl
  | s :: r => by rw [sl, strs, strs_sl r]
theorem c195 (l : List (List UInt8)) (t : List UInt8) (H : Heap) (h : (sepB t l).length ≤ 140737488355328) (h2 : l.length ≤ 140737488355328) : Call CC 195 [.list (sl l) none, .str t] H = some (.ok (.str (sepB t l)), H) :=
  call_prim (g := joinF) rfl (by simp [joinF, strs_sl, join_sep, h, h2]) rfl
theorem c143 (n : Int) (H : Heap) (h : -10000 ≤ n /\ n ≤ 10000) : Call CC 143 [.int .i64 n] H = some (.ok (.str (Lib.itoa n)), H) :=
  call_prim (g := itoaF) rfl (by simp only [itoaF]; rw [if_pos ⟨by omega, by omega⟩]) rfl
theorem c142 (b : Bool) (H : Heap) : Call CC 142 [.bool b] H = some (.ok (.str (if b then [116, 114, 117, 101] else [102, 97, 108, 115, 101])), H) := by
  cases b
  . exact acall_tree (n := 6) (H0 := []) rfl rfl (by kernel_rfl) H
  . exact acall_tree (n := 6) (H0 := []) rfl rfl (by kernel_rfl) H
theorem c141t (H : Heap) : Call CC 141 [.str [116, 114, 117, 101]] H = some (.ok (.str [84, 82, 85, 69]), H) := call_prim (g := upperF) rfl (by kernel_rfl) rfl
theorem c141f (H : Heap) : Call CC 141 [.str [102, 97, 108, 115, 101]] H = some (.ok (.str [70, 65, 76, 83, 69]), H) := call_prim (g := upperF) rfl (by kernel_rfl) rfl
theorem c148 (v : V) (H : Heap) : Call CC 148 [v.av] H = some (.ok (.str v.s), H) := by
  refine cwp (fn := Tryz.f148) rfl (by kernel_rfl) rfl rfl rfl rfl (by simp) rfl ?_ H
  simp [V.av_eq]
theorem sl_take (l : List (List UInt8)) (i : Nat) (h : i < l.length) : sl (l.take (i + 1)) = sl (l.take i) ++ [.str l[i]] := by
  rw [show l.take (i + 1) = l.take i ++ [l[i]] from by rw [List.take_succ_eq_append_getElem h], sl_app]
theorem pairB_len (sign : List UInt8) : ∀ ks xs : List (List UInt8), (pairB sign ks xs).length = min ks.length xs.length
  | [], xs => by simp [pairB]
  | k :: ks, [] => by simp [pairB]
  | k :: ks, x :: xs => by simp [pairB, pairB_len sign ks xs]
theorem pairB_at (sign : List UInt8) : ∀ (ks xs : List (List UInt8)) (i : Nat) (h : i < (pairB sign ks xs).length) , (pairB sign ks xs)[i] = ks[i]'(by rw [pairB_len] at h; omega) ++ sign ++ xs[i]'(by rw [pairB_len] at h; omega)
  | [], xs, i, h => by simp [pairB] at h
  | k :: ks, [], i, h => by simp [pairB] at h
  | k :: ks, x :: xs, 0, h => by simp [pairB]
  | k :: ks, x :: xs, i + 1, h => by
    have := pairB_at sign ks xs i (by simpa [pairB] using h)
    simpa [pairB] using this
def I146 (l : List V) (sep : List UInt8) (tok : Nat) (i : Nat) (t : List AV) (H : Heap) : Prop := i ≤ l.length /\ TokY 1 H (sl ((txtL l).take i)) tok /\ Fit [some (.list (avs l) none), some (.str sep), none, none, some (.str []), some (LX (sl ((txtL l).take i)) tok), none, none, some (.list (avs l) none), some (.int .i64 l.length), some (.int .i64 i), none, none, none, none, none, none, none, none, none, none, none, none] t
theorem c146 (l : List V) (sep : List UInt8) (hx : ∀ x ∈ l, ∀ H, Call CC 86 [x.av] H = some (.ok (.str (txtV x)), H)) (H : Heap) (hl : l.length ≤ 1000000) (ht : (sepB sep (txtL l)).length ≤ 1000000000) :
    Call CC 146 [.list (avs l) none, .str sep] H = some (.ok (.str (sepB sep (txtL l))), H) := by
  have g1 := fun H => c195 (txtL l) sep H (by omega) (by rw [txtL_len]; omega)
  have hlen := txtL_len l
  refine cwp (fn := Tryz.f146) rfl (by kernel_rfl) rfl rfl rfl rfl (by simp) rfl ?_ H
  simp
  refine st_iter (fun i t H => ∃ tok, I146 l sep tok i t H) l.length ?_ ?_
  . exact ⟨0, by simp [I146, sl, lx_nil, TokY]⟩
  . rintro i t H ⟨tok, hi, hk, ht⟩
    obtain ⟨d, rfl⟩ := ht.elim
    clear ht
    refine ⟨hi, ?_⟩
    simp
    cases hb : decide (i < l.length)
    . have hb' : i = l.length := by simp at hb; omega
      have e1 : (txtL l).take l.length = txtL l := by rw [<- hlen]; exact List.take_length
      simp [hb', e1, g1]
    . have hb' : i < l.length := by simpa using hb
      have hb2 : i < (txtL l).length := by rw [hlen]; exact hb'
      have e1 := sl_take (txtL l) i hb2
      have e2 : (txtL l)[i] = txtV l[i] := by simp [txtL_map]
      rw [e2] at e1
      have w1 := wrapI (i := i + 1) (by omega) (by omega)
      have g2 := hx l[i] (List.getElem_mem hb')
      rw [V.av_eq] at g2
      obtain ⟨H1, a1, n1, q1, _⟩ := app_LY1 (T := 105) (e := 9) (sz := 1) el105 int105 sz9 zero9 rfl rfl (by decide) room9 (H ++ [boxV l[i]]) (sl ((txtL l).take i)) (.str (txtV l[i])) tok (hk.app _) (sl_cells _) rfl (by rw [sl_len, List.length_take]; omega)
      simp [-aappB, hb', V.av_eq, g2, a1, w1]
      refine ⟨_, by omega, by rw [e1]; exact q1, ?_⟩
      rw [e1, lx_cons (by simp)]
      simp
def Ic147r (v : V) (sign sep : List UInt8) (tok : Nat) (i : Nat) (t : List AV) (H : Heap) : Prop := i ≤ v.keys.length /\ H[0]? = some (boxV v) /\ (i ≠ 0 -> 0 < tok) /\ TokY 1 H (sl ((pairB sign (v.keys.map V.s) (txtL v.items)).take i)) tok /\ Fit [some (.agg [.int .i64 v.kind, .int .i64 v.num, .str v.s, .list (avs v.keys) none, .list (avs v.items) none]), some (.fn (.func 148) [] []), some (.str sign), some (.str sep), some (.ptr 0 0), none, none, none, some (.str []), some (LX (sl ((pairB sign (v.keys.map V.s) (txtL v.items)).take i)) tok), none, none, none, some (.list (avs v.keys) none), some (.int .i64 v.keys.length), some (.int .i64 i), none, none, none, none, none, none, none, none, none, none, none, none, none, none, none, none, none, none, none, none, none, none, none] t
theorem c147r (v : V) (sign sep : List UInt8) (hk : ∀ x ∈ v.keys, ∀ H, Call CC 148 [x.av] H = some (.ok (.str (V.s x)), H)) (hx : ∀ x ∈ v.items, ∀ H, Call CC 86 [x.av] H = some (.ok (.str (txtV x)), H)) (H : Heap) (hn : v.keys.length = v.items.length) (hl : v.keys.length ≤ 1000000)
    (hb : ∀ x ∈ pairB sign (v.keys.map V.s) (txtL v.items), x.length ≤ 1000000000) (ht : (sepB sep (pairB sign (v.keys.map V.s) (txtL v.items))).length ≤ 1000000000) :
    Call CC 147 [v.av, .fn (.func 148) [] [], .str sign, .str sep] H = some (.ok (.str (sepB sep (pairB sign (v.keys.map V.s) (txtL v.items)))), H) := by
  obtain ⟨P, hP⟩ : ∃ P, P = pairB sign (v.keys.map V.s) (txtL v.items) := ⟨_, rfl⟩
  have hlen : P.length = v.keys.length := by rw [hP, pairB_len]; simp [txtL_len, hn]
  have hPi : ∀ i (h : i < v.keys.length) (h2 : i < v.items.length) (h3 : i < P.length), P[i] = V.s v.keys[i] ++ (sign ++ txtV v.items[i]) := by
    intro i h h2 h3
    subst hP
    rw [pairB_at]
    simp [txtL_map]
  have g1 := fun H => c195 P sep H (by rw [hP]; omega) (by rw [hlen]; omega)
  rw [<- hP] at hb ht ⊢
  refine cwp (fn := Tryz.f147) rfl (by kernel_rfl) rfl rfl rfl rfl (by simp) rfl ?_ H
  simp [V.av_eq v]
  refine st_iter (fun i t H => ∃ tok, Ic147r v sign sep tok i t H) v.keys.length ?_ ?_
  . exact ⟨0, by simp [Ic147r, sl, lx_nil, TokY]⟩
  . rintro i t H ⟨tok, hi, h0, hne, hk0, ht⟩
    obtain ⟨d, rfl⟩ := ht.elim
    clear ht
    refine ⟨hi, ?_⟩
    rw [<- hP] at hk0 ⊢
    have hH := lt_of_get h0
    simp
    cases hbb : decide (i < v.keys.length)
    . have hb' : i = v.keys.length := by simp at hbb; omega
      have e1 : P.take v.keys.length = P := by rw [<- hlen]; exact List.take_length
      simp [hb', e1, g1]
    . have hb' : i < v.keys.length := by simpa using hbb
      have hb3 : i < v.items.length := by omega
      have hb2 : i < P.length := by rw [hlen]; exact hb'
      have e1 := sl_take P i hb2
      have e2 := hPi i hb' hb3 hb2
      have e3 := hb _ (List.getElem_mem hb2)
      rw [e2] at e1 e3
      simp only [List.length_append] at e3
      have w1 := wrapI (i := i + 1) (by omega) (by omega)
      have g2 := hk v.keys[i] (List.getElem_mem hb')
      have g3 := hx v.items[i] (List.getElem_mem hb3)
      rw [V.av_eq] at g2 g3
      have z0 := app_get h0 [boxV v.keys[i]]
      have y1 : (V.s v.keys[i]).length + sign.length ≤ 4611686018427387904 := by omega
      have y2 : (V.s v.keys[i]).length + sign.length + (txtV v.items[i]).length ≤ 4611686018427387904 := by omega
      have y3 : (V.s v.keys[i]).length + (sign.length + (txtV v.items[i]).length) ≤ 4611686018427387904 := by omega
      obtain ⟨H1, a1, n1, q1, p1⟩ := app_LY1 (T := 105) (e := 9) (sz := 1) el105 int105 sz9 zero9 rfl rfl (by decide) room9 (H ++ [boxV v.keys[i]]) (sl (P.take i)) (.str (V.s v.keys[i] ++ (sign ++ txtV v.items[i]))) tok (hk0.app _) (sl_cells _) rfl (by rw [sl_len, List.length_take]; omega)
      have z1 : H1[0]? = some (boxV v) := by
        rw [p1 0 (by simp) (fun hh e => by have : i ≠ 0 := fun e0 => hh (by rw [e0]; rfl); have := hne this; omega)]; exact z0
      have z2 : (H ++ [boxV v.keys[i]])[0]'(by simp) = boxV v := by rw [List.getElem?_eq_getElem (by simp)] at z0; injection z0
      unfold boxV at z2 a1
      have c5 : ∀ x ∈ avs v.items, x.cells.length = 5 := fun x hx => of_decide_eq_true (List.all_eq_true.1 (avs_cells v.items) x hx)
      have e8 : List.length (H ++ [boxV v.keys[i]]) = H.length + 1 := by simp
      unfold boxV at e8
      simp [-aappB, hb', hb3, V.av_eq, z2, g2, g3, y1, y2, a1, w1]
      refine ⟨by kernel_rfl, H.length + 1, by omega, z1, fun _ => by omega, ?_, ?_⟩
      . rw [<- hP, e1, <- e8]; exact q1
      . rw [<- hP, e1, lx_cons (by simp)]
        simp
def Ic147m (v : V) (sign sep : List UInt8) (tok : Nat) (i : Nat) (t : List AV) (H : Heap) : Prop := i ≤ v.keys.length /\ H[0]? = some (boxV v) /\ (i ≠ 0 -> 0 < tok) /\ TokY 1 H (sl ((pairB sign (txtL v.keys) (txtL v.items)).take i)) tok /\ Fit [some (.agg [.int .i64 v.kind, .int .i64 v.num, .str v.s, .list (avs v.keys) none, .list (avs v.items) none]), some (.fn (.func 86) [] []), some (.str sign), some (.str sep), some (.ptr 0 0), none, none, none, some (.str []), some (LX (sl ((pairB sign (txtL v.keys) (txtL v.items)).take i)) tok), none, none, none, some (.list (avs v.keys) none), some (.int .i64 v.keys.length), some (.int .i64 i), none, none, none, none, none, none, none, none, none, none, none, none, none, none, none, none, none, none, none, none, none, none, none] t
theorem c147m (v : V) (sign sep : List UInt8) (hk : ∀ x ∈ v.keys, ∀ H, Call CC 86 [x.av] H = some (.ok (.str (txtV x)), H)) (hx : ∀ x ∈ v.items, ∀ H, Call CC 86 [x.av] H = some (.ok (.str (txtV x)), H)) (H : Heap) (hn : v.keys.length = v.items.length) (hl : v.keys.length ≤ 1000000)
    (hb : ∀ x ∈ pairB sign (txtL v.keys) (txtL v.items), x.length ≤ 1000000000) (ht : (sepB sep (pairB sign (txtL v.keys) (txtL v.items))).length ≤ 1000000000) :
    Call CC 147 [v.av, .fn (.func 86) [] [], .str sign, .str sep] H = some (.ok (.str (sepB sep (pairB sign (txtL v.keys) (txtL v.items)))), H) := by
  obtain ⟨P, hP⟩ : ∃ P, P = pairB sign (txtL v.keys) (txtL v.items) := ⟨_, rfl⟩
  have hlen : P.length = v.keys.length := by rw [hP, pairB_len]; simp [txtL_len, hn]
  have hPi : ∀ i (h : i < v.keys.length) (h2 : i < v.items.length) (h3 : i < P.length), P[i] = txtV v.keys[i] ++ (sign ++ txtV v.items[i]) := by
    intro i h h2 h3
    subst hP
    rw [pairB_at]
    simp [txtL_map]
  have g1 := fun H => c195 P sep H (by rw [hP]; omega) (by rw [hlen]; omega)
  rw [<- hP] at hb ht ⊢
  refine cwp (fn := Tryz.f147) rfl (by kernel_rfl) rfl rfl rfl rfl (by simp) rfl ?_ H
  simp [V.av_eq v]
  refine st_iter (fun i t H => ∃ tok, Ic147m v sign sep tok i t H) v.keys.length ?_ ?_
  . exact ⟨0, by simp [Ic147m, sl, lx_nil, TokY]⟩
  . rintro i t H ⟨tok, hi, h0, hne, hk0, ht⟩
    obtain ⟨d, rfl⟩ := ht.elim
    clear ht
    refine ⟨hi, ?_⟩
    rw [<- hP] at hk0 ⊢
    have hH := lt_of_get h0
    simp
    cases hbb : decide (i < v.keys.length)
    . have hb' : i = v.keys.length := by simp at hbb; omega
      have e1 : P.take v.keys.length = P := by rw [<- hlen]; exact List.take_length
      simp [hb', e1, g1]
    . have hb' : i < v.keys.length := by simpa using hbb
      have hb3 : i < v.items.length := by omega
      have hb2 : i < P.length := by rw [hlen]; exact hb'
      have e1 := sl_take P i hb2
      have e2 := hPi i hb' hb3 hb2
      have e3 := hb _ (List.getElem_mem hb2)
      rw [e2] at e1 e3
      simp only [List.length_append] at e3
      have w1 := wrapI (i := i + 1) (by omega) (by omega)
      have g2 := hk v.keys[i] (List.getElem_mem hb')
      have g3 := hx v.items[i] (List.getElem_mem hb3)
      rw [V.av_eq] at g2 g3
      have z0 := app_get h0 [boxV v.keys[i]]
      have y1 : (txtV v.keys[i]).length + sign.length ≤ 4611686018427387904 := by omega
      have y2 : (txtV v.keys[i]).length + sign.length + (txtV v.items[i]).length ≤ 4611686018427387904 := by omega
      have y3 : (txtV v.keys[i]).length + (sign.length + (txtV v.items[i]).length) ≤ 4611686018427387904 := by omega
      obtain ⟨H1, a1, n1, q1, p1⟩ := app_LY1 (T := 105) (e := 9) (sz := 1) el105 int105 sz9 zero9 rfl rfl (by decide) room9 (H ++ [boxV v.keys[i]]) (sl (P.take i)) (.str (txtV v.keys[i] ++ (sign ++ txtV v.items[i]))) tok (hk0.app _) (sl_cells _) rfl (by rw [sl_len, List.length_take]; omega)
      have z1 : H1[0]? = some (boxV v) := by
        rw [p1 0 (by simp) (fun hh e => by have : i ≠ 0 := fun e0 => hh (by rw [e0]; rfl); have := hne this; omega)]; exact z0
      have z2 : (H ++ [boxV v.keys[i]])[0]'(by simp) = boxV v := by rw [List.getElem?_eq_getElem (by simp)] at z0; injection z0
      unfold boxV at z2 a1
      have c5 : ∀ x ∈ avs v.items, x.cells.length = 5 := fun x hx => of_decide_eq_true (List.all_eq_true.1 (avs_cells v.items) x hx)
      have e8 : List.length (H ++ [boxV v.keys[i]]) = H.length + 1 := by simp
      unfold boxV at e8
      simp [-aappB, hb', hb3, V.av_eq, z2, g2, g3, y1, y2, a1, w1]
      refine ⟨by kernel_rfl, H.length + 1, by omega, z1, fun _ => by omega, ?_, ?_⟩
      . rw [<- hP, e1, <- e8]; exact q1
      . rw [<- hP, e1, lx_cons (by simp)]
        simp
theorem c144 (o : AObj) : Call CC 144 [.list [.str [34], .str [92, 34], .str [92], .str [92, 92]] none] [o] = some (.ok (.ptr 2 0), [o, .tail 4 1, .cells [.int .u32 0, .int .i32 0, .int .u32 0, .nilIface, .list [.str [34], .str [92, 34], .str [92], .str [92, 92]] (some 1)] 222]) :=
  Call_of (n := 4) (by kernel_rfl)
theorem c145 (o o1 : AObj) (s : List UInt8) (h : s.length ≤ 1000000000) : Call CC 145 [.ptr 2 0, .str s] [o, o1, .cells [.int .u32 0, .int .i32 0, .int .u32 0, .nilIface, .list [.str [34], .str [92, 34], .str [92], .str [92, 92]] (some 1)] 222] = some (.ok (.str (quoS s)), [o, o1, .dead]) := by
  refine call_hprim (g := replF) rfl rfl rfl ?_
  simp [replF, strs, h]
set_option maxRecDepth 100000 in
theorem c86 (v : V) : errV false v = 0 -> v.cnt ≤ 1000000 -> ∀ H, Call CC 86 [v.av] H = some (.ok (.str (txtV v)), H) := by
  refine V.ind (P := fun v => errV false v = 0 -> v.cnt ≤ 1000000 -> ∀ H, Call CC 86 [v.av] H = some (.ok (.str (txtV v)), H)) (fun v ik ii he hc H => ?_) v
  obtain ⟨h0, _, hek, hei⟩ := errV_zero he
  have O := own0_of h0
  have hlen := tlen v he
  have hcq := V.cnt_eq v
  have hck : ∀ x ∈ v.keys, x.cnt ≤ 1000000 := fun x hx => by have := cnt_mem hx; omega
  have hci : ∀ x ∈ v.items, x.cnt ≤ 1000000 := fun x hx => by have := cnt_mem hx; omega
  have g1 : ∀ x ∈ v.keys, ∀ H, Call CC 86 [x.av] H = some (.ok (.str (txtV x)), H) := fun x hx => ik x hx (errL_mem hek x hx) (hck x hx)
  have g2 : ∀ x ∈ v.items, ∀ H, Call CC 86 [x.av] H = some (.ok (.str (txtV x)), H) := fun x hx => ii x hx (errL_mem hei x hx) (hci x hx)
  have hli := len_cnts v.items
  have hlk := len_cnts v.keys
  have hs := own_s h0
  have hq := quoS_len v.s
  have q0 := O.kind
  have c0 := fun H => c142 (decide (v.num = 1)) H
  have hsh := fun H => c95 v H (err_strW v he) (by omega)
  rw [V.av_eq] at hsh
  rw [txt_eq] at hlen ⊢
  refine cwp (fn := Tryz.f86) rfl (by kernel_rfl) rfl rfl rfl rfl (by simp) rfl ?_ H
  by_cases k0 : v.kind = 0
  . by_cases n1 : v.num = 1
    . have c0 := fun H => c142 true H
      simp at c0
      simp [V.av_eq, k0, n1, c0, c141t]
    . have c0 := fun H => c142 false H
      simp at c0
      simp [V.av_eq, k0, n1, c0, c141f]
  by_cases k1 : v.kind = 1
  . have c1 := fun H => c143 v.num H (own_num h0 k1)
    simp [V.av_eq, k1, c1]
  by_cases k2 : v.kind = 2
  . have c2 := fun o o1 => c145 o o1 v.s (by omega)
    have w1 : 1 + (quoS v.s).length ≤ 4611686018427387904 := by omega
    have w2 : 1 + (quoS v.s).length + 1 ≤ 4611686018427387904 := by omega
    have w3 : (quoS v.s).length + 1 ≤ 4611686018427387904 := by omega
    have w4 : (quoS v.s).length + 1 + 1 ≤ 4611686018427387904 := by omega
    simp [V.av_eq, k2, c144, c2, w1, w4]
    show _ = true
    kernel_rfl
  by_cases k3 : v.kind = 3
  . simp [V.av_eq, k3]
  have e1 : 1 + (sepB [44, 32] (txtL v.items)).length ≤ 4611686018427387904 /\ (sepB [44, 32] (txtL v.items)).length ≤ 4611686018427387902 /\ 2 + (sepB [44, 32] (txtL v.items)).length ≤ 4611686018427387904 /\ (sepB [44, 32] (txtL v.items)).length ≤ 4611686018427387900 /\ (sepB [44, 32] (txtL v.items)).length ≤ 1000000000 := by
    have hl1 := sep_len [44, 32] (txtL v.items)
    have hi := tots_txt fun x hx => tlen x (errL_mem hei x hx)
    rw [txtL_len] at hl1
    simp only [List.length_cons, List.length_nil] at hl1
    omega
  obtain ⟨f1, f2, f3, f4, f5⟩ := e1
  have c4 := fun H => c146 v.items [44, 32] g2 H (by omega) f5
  by_cases k4 : v.kind = 4
  . simp [V.av_eq, k4, c4, f1, f2]
  have k5 : v.kind = 5 := by omega
  have hlen5 := O.len k5
  by_cases s1 : shapeF v = 1
  . rw [s1] at hsh
    rw [k5] at hsh
    simp [V.av_eq, k5, hsh, c4, f3, f4, s1]
  by_cases s2 : shapeF v = 2
  . have hp := pair_len [32, 124, 45, 62, 32] (v.keys.map V.s) (txtL v.items)
    have hl2 := sep_len [44, 32] (pairB [32, 124, 45, 62, 32] (v.keys.map V.s) (txtL v.items))
    have hk := tots_s fun x hx => own_s (errV_zero (errL_mem hek x hx)).1
    have hi := tots_txt fun x hx => tlen x (errL_mem hei x hx)
    rw [txtL_len] at hp
    simp only [List.length_cons, List.length_nil] at hl2 hp
    have c5 := fun H => c147r v [32, 124, 45, 62, 32] [44, 32] (fun x _ H => c148 x H) g2 H hlen5 (by omega) (fun x hx => by have := tot_mem hx; omega) (by omega)
    have f6 : 1 + (sepB [44, 32] (pairB [32, 124, 45, 62, 32] (v.keys.map V.s) (txtL v.items))).length ≤ 4611686018427387904 /\ (sepB [44, 32] (pairB [32, 124, 45, 62, 32] (v.keys.map V.s) (txtL v.items))).length ≤ 4611686018427387902 := by omega
    rw [s2, k5] at hsh
    rw [V.av_eq, k5] at c5
    simp [V.av_eq, k5, hsh, c5, f6.1, f6.2, s2]
  have hp := pair_len [32, 58, 62, 32] (txtL v.keys) (txtL v.items)
  have hl2 := sep_len [32, 64, 64, 32] (pairB [32, 58, 62, 32] (txtL v.keys) (txtL v.items))
  have hk := tots_txt fun x hx => tlen x (errL_mem hek x hx)
  have hi := tots_txt fun x hx => tlen x (errL_mem hei x hx)
  rw [txtL_len] at hp
  simp only [List.length_cons, List.length_nil] at hl2 hp
  have c5 := fun H => c147m v [32, 58, 62, 32] [32, 64, 64, 32] g1 g2 H hlen5 (by omega) (fun x hx => by have := tot_mem hx; omega) (by omega)
  have f6 : 1 + (sepB [32, 64, 64, 32] (pairB [32, 58, 62, 32] (txtL v.keys) (txtL v.items))).length ≤ 4611686018427387904 /\ (sepB [32, 64, 64, 32] (pairB [32, 58, 62, 32] (txtL v.keys) (txtL v.items))).length ≤ 4611686018427387902 := by omega
  have s3 : shapeF v = 3 := by
    unfold shapeF at s1 s2 ⊢
    rw [if_pos k5] at s1 s2 ⊢
    split at s1
    . exact absurd rfl s1
    . rename_i ht
      rw [if_neg ht] at s2 ⊢
      split at s2
      . exact absurd rfl s2
      . rename_i ha; rw [if_neg ha]
  rw [s3, k5] at hsh
  rw [V.av_eq, k5] at c5
  simp [V.av_eq, k5, hsh, c5, f6.1, f6.2, s3]
end Go.Tv
namespace Go.Tv
open Go.Proofs
set_option maxHeartbeats 4000000
theorem c149 (n : Int) (H : Heap) (h : -9223372036854775807 ≤ n /\ n ≤ 9223372036854775807) : Call CC 149 [.int .i64 n] H = some (.ok (.int .i64 n.natAbs), H) := by
  refine cwp (fn := Tryz.f149) rfl (by kernel_rfl) rfl rfl rfl rfl (by simp) rfl ?_ H
  by_cases hn : n < 0
  . have w := wrapI (i := -n) (by omega) (by omega)
    have e : (n.natAbs : Int) = -n := by omega
    simp [hn, w, e]
  . have e : (n.natAbs : Int) = n := by omega
    simp [hn, e]
def sgn (b : Bool) (m : Nat) : Int := if b then -(m : Int) else m
theorem sgn_rem (b : Bool) (m : Nat) : (Int.tmod (sgn b m) 10).natAbs = m % 10 /\ -9 ≤ Int.tmod (sgn b m) 10 /\ Int.tmod (sgn b m) 10 ≤ 9 := by
  have h : Int.tmod (m : Int) 10 = ((m % 10 : Nat) : Int) := by rw [Int.tmod_eq_emod_of_nonneg (by omega)]; omega
  cases b
  . simp only [sgn, Bool.false_eq_true, if_false, h]; omega
  . simp only [sgn, if_true, Int.neg_tmod, h]; omega
theorem sgn_quo (b : Bool) (m : Nat) : Int.tdiv (sgn b m) 10 = sgn b (m / 10) := by
  have h : Int.tdiv (m : Int) 10 = ((m / 10 : Nat) : Int) := by rw [Int.tdiv_eq_ediv_of_nonneg (by omega)]; omega
  cases b
  . simp only [sgn, Bool.false_eq_true, if_false, h]
  . simp only [sgn, if_true, Int.neg_tdiv, h]
theorem digs_at (d : Nat) (h : d < 10) : List.drop d (48 :: List.take d ([49, 50, 51, 52, 53, 54, 55, 56, 57] : List UInt8)) = [UInt8.ofNat (48 + d)] := by
  match d, h with
  | 0, _ => rfl
  | 1, _ => rfl
  | 2, _ => rfl
  | 3, _ => rfl
  | 4, _ => rfl
  | 5, _ => rfl
  | 6, _ => rfl
  | 7, _ => rfl
  | 8, _ => rfl
  | 9, _ => rfl
theorem sgn_zero (b : Bool) (m : Nat) : (sgn b m = 0) = (m = 0) := by
  unfold sgn; split <;> simp
theorem itoa_sgn (b : Bool) (m : Nat) (h : b = true -> 0 < m) : Lib.itoa (sgn b m) = if b then 45 :: Lib.decDigits m else Lib.decDigits m := by
  cases b
  . simp [Lib.itoa, sgn]
  . have := h rfl
    have e : (-(m : Int)).natAbs = m := by omega
    simp [Lib.itoa, sgn, this, e]
def I88 (b : Bool) (m0 m : Nat) (s : List UInt8) (i : Nat) (t : List AV) (_H : Heap) : Prop := m + i ≤ m0 /\ s.length ≤ i /\ Lib.decDigits m0 = Lib.decDigits m ++ s /\ Fit [some (.int .i64 (sgn b m)), none, some (.str []), some (.str s), some (.bool b), none, none, none, none, none, none, none, none, none, none, none, none, none, none, none, none, none, none, none, none] t
theorem c88 (n : Int) (H : Heap) (h : -10000 ≤ n /\ n ≤ 10000) : Call CC 88 [.int .i64 n] H = some (.ok (.str (Lib.itoa n)), H) := by
  obtain ⟨b, m0, hb, hm, rfl⟩ : ∃ b m, (b = true -> 0 < m) /\ m ≤ 10000 /\ n = sgn b m := by
    by_cases hn : n < 0
    . exact ⟨true, n.natAbs, fun _ => by omega, by omega, by simp only [sgn, if_true]; omega⟩
    . exact ⟨false, n.natAbs, fun hb => by simp at hb, by omega, by simp only [sgn, Bool.false_eq_true, if_false]; omega⟩
  refine cwp (fn := Tryz.f88) rfl (by kernel_rfl) rfl rfl rfl rfl (by simp) rfl ?_ H
  have hlt : decide (sgn b m0 < 0) = b := by
    cases b
    . simp only [sgn, Bool.false_eq_true, if_false, decide_eq_false_iff_not]; omega
    . have := hb rfl; simp only [sgn, if_true, decide_eq_true_eq]; omega
  simp [hlt]
  refine st_iter (fun i t H => ∃ m s, I88 b m0 m s i t H) m0 ?_ ?_
  . exact ⟨m0, [], by simp [I88]⟩
  . rintro i t H ⟨m, s, hi, hs, hd, ht⟩
    obtain ⟨d, rfl⟩ := ht.elim
    clear ht
    refine ⟨by omega, ?_⟩
    obtain ⟨r1, r2, r3⟩ := sgn_rem b m
    have g1 := fun H => c149 (Int.tmod (sgn b m) 10) H (by omega)
    have hd10 : m % 10 < 10 := Nat.mod_lt _ (by omega)
    obtain ⟨dg, hdg⟩ : ∃ dg, dg = m % 10 := ⟨_, rfl⟩
    rw [<- hdg] at r1 hd10
    have w1 := wrapI (i := (dg : Int) + 1) (by omega) (by omega)
    have e1 := digs_at dg hd10
    have b0 : (0 : Int) ≤ (dg : Int) + 1 := by omega
    have b1 : (dg : Int) + 1 ≤ 10 := by omega
    have b2 : ((dg : Int) + 1).toNat = dg + 1 := by omega
    have b3 : (dg : Int) ≤ (dg : Int) + 1 := by omega
    have b4 : 1 + s.length ≤ 4611686018427387904 := by omega
    have b5 : s.length + 1 ≤ 4611686018427387904 := by omega
    have hq := sgn_quo b m
    have hs2 : sgn b (m / 10) = 0 ↔ m / 10 = 0 := by rw [sgn_zero]
    have hb2 : -10000 ≤ sgn b (m / 10) /\ sgn b (m / 10) ≤ 10000 := by unfold sgn; split <;> omega
    have w2 := wrapI (i := sgn b (m / 10)) (by omega) (by omega)
    rw [r1] at g1
    by_cases hz : m / 10 = 0
    . have hz2 : sgn b (m / 10) = 0 := hs2.2 hz
      rw [hz2] at hq w2
      have e5 : Lib.decDigits m = [UInt8.ofNat (48 + dg)] := by rw [Lib.decDigits, dif_pos (by omega)]; congr 2; omega
      have e6 := itoa_sgn b m0 hb
      rw [e5] at hd
      rw [e6, hd]
      have b6 : 1 + (s.length + 1) ≤ 4611686018427387904 := by omega
      simp [g1, w1, bnd, b0, b1, b2, b3, e1, b4, hq, w2]
      cases b
      . simp
      . simp [b6]
    . have hz2 : ¬ sgn b (m / 10) = 0 := fun e => hz (hs2.1 e)
      have e5 : Lib.decDigits m = Lib.decDigits (m / 10) ++ [UInt8.ofNat (48 + dg)] := by rw [Lib.decDigits, dif_neg (by omega), hdg]
      simp [g1, w1, bnd, b0, b1, b2, b3, e1, b4, hq, w2, hz2]
      refine ⟨m / 10, UInt8.ofNat (48 + dg) :: s, by omega, by simp; omega, by rw [hd, e5]; simp, ?_⟩
      simp
def I89 (s : List UInt8) (i : Nat) (t : List AV) (_H : Heap) : Prop := i ≤ s.length /\ Fit [some (.str s), none, some (.str []), some (.str (34 :: quoS (s.take i))), some (.int .i64 i), none, none, none, none, none, none, none, none, none, none, none, none, none, none, none, none, none, none, none, none, none, none, none, none, none, none, none] t
theorem quoS_c (s : List UInt8) (i : Nat) (h : i < s.length) : quoS (s.take (i + 1)) = quoS (s.take i) ++ if s[i] = 34 \/ s[i] = 92 then [92, s[i]] else [s[i]] := by
  rw [List.take_succ_eq_append_getElem h]
  unfold quoS
  rw [List.flatMap_append]
  simp
theorem byte_eq (c d : UInt8) : ((c.toNat : Int) = (d.toNat : Int)) = (c = d) := by
  apply propext
  constructor
  . intro h; exact UInt8.toNat_inj.1 (by omega)
  . intro h; rw [h]
theorem c89 (s : List UInt8) (H : Heap) (h : s.length ≤ 1000000000) : Call CC 89 [.str s] H = some (.ok (.str ([34] ++ quoS s ++ [34])), H) := by
  refine cwp (fn := Tryz.f89) rfl (by kernel_rfl) rfl rfl rfl rfl (by simp) rfl ?_ H
  simp
  refine st_iter (I89 s) s.length ?_ ?_
  . simp [I89, quoS]
  . rintro i t H ⟨hi, ht⟩
    obtain ⟨d, rfl⟩ := ht.elim
    clear ht
    refine ⟨hi, ?_⟩
    have hql := quoS_len (s.take i)
    rw [List.length_take] at hql
    simp
    cases hb : decide (i < s.length)
    . have hb' : i = s.length := by simp at hb; omega
      have b1 : (quoS s).length + 1 + 1 ≤ 4611686018427387904 := by have := quoS_len s; omega
      have b2 : (quoS s).length + 1 ≤ 4611686018427387903 := by have := quoS_len s; omega
      have b3 : (quoS s).length ≤ 4611686018427387902 := by have := quoS_len s; omega
      simp [hb', b1]
    . have hb' : i < s.length := by simpa using hb
      have e1 := quoS_c s i hb'
      have w1 := wrapI (i := i + 1) (by omega) (by omega)
      have k1 : ((s[i].toNat : Int) = 34) = (s[i] = 34) := byte_eq s[i] 34
      have k2 : ((s[i].toNat : Int) = 92) = (s[i] = 92) := byte_eq s[i] 92
      have b0 : (0 : Int) ≤ (i : Int) + 1 := by omega
      have b1 : (i : Int) + 1 ≤ (s.length : Int) := by omega
      have b2 : ((i : Int) + 1).toNat = i + 1 := by omega
      have b3 : (i : Int) ≤ (i : Int) + 1 := by omega
      have b4 : List.drop i (List.take (i + 1) s) = [s[i]] := by rw [List.take_succ_eq_append_getElem hb', List.drop_append, List.length_take, List.drop_of_length_le (by simp; omega)]; simp [Nat.min_eq_left (Nat.le_of_lt hb')]
      have z1 : (quoS (s.take i)).length + 1 + 1 ≤ 4611686018427387904 := by omega
      have z2 : (quoS (s.take i)).length + 1 ≤ 4611686018427387903 := by omega
      have z3 : (quoS (s.take i)).length ≤ 4611686018427387902 := by omega
      have z4 : (quoS (s.take i)).length + 1 + 1 + 1 ≤ 4611686018427387904 := by omega
      have z5 : (quoS (s.take i)).length ≤ 4611686018427387901 := by omega
      by_cases h34 : s[i] = 34
      . rw [if_pos (.inl h34)] at e1
        simp [hb', h34, w1, bnd, b0, b1, b2, b3, b4, z1, z4, I89, e1]
        try omega
      . by_cases h92 : s[i] = 92
        . rw [if_pos (.inr h92)] at e1
          simp [hb', h92, w1, bnd, b0, b1, b2, b3, b4, z1, z4, I89, e1]
          try omega
        . rw [if_neg (by simp [h34, h92])] at e1
          simp [hb', k1, k2, h34, h92, w1, bnd, b0, b1, b2, b3, b4, z1, I89, e1]
          try omega
theorem sep_take (b : List UInt8) (X : List (List UInt8)) (i : Nat) (h : i < X.length) : sepB b (X.take (i + 1)) = (if i = 0 then [] else sepB b (X.take i) ++ b) ++ X[i] := by
  cases X with
  | nil => simp at h
  | cons x r =>
    cases i with
    | zero => simp [sepB]
    | succ i =>
      rw [if_neg (by omega), List.take_succ_cons, List.take_succ_cons, sepB, sepB, List.take_succ_eq_append_getElem (by simpa using h), List.flatMap_append]
      simp
theorem sep_le (b : List UInt8) (X : List (List UInt8)) (i : Nat) : (sepB b (X.take i)).length ≤ (sepB b X).length := by
  cases X with
  | nil => simp
  | cons x r =>
    cases i with
    | zero => simp [sepB]
    | succ i =>
      rw [List.take_succ_cons, sepB, sepB]
      have : (r.flatMap fun y => b ++ y) = ((r.take i).flatMap fun y => b ++ y) ++ ((r.drop i).flatMap fun y => b ++ y) := by rw [<- List.flatMap_append, List.take_append_drop]
      rw [this]; simp only [List.length_append]; omega
def I90 (K : List (List UInt8)) (sign : List UInt8) (l : List V) (bet : List UInt8) (X : List (List UInt8)) (i : Nat) (t : List AV) (_H : Heap) : Prop := i ≤ l.length /\ Fit [some (.list (sl K) none), some (.str sign), some (.list (avs l) none), some (.str bet), none, none, none, none, some (.str []), some (.str (sepB bet (X.take i))), some (.int .i64 i), none, none, none, none, none, none, none, none, none, none, none, none, none, none, none, none, none, none, none, none, none, none, none, none, none, none, none, none, none, none] t
theorem c90 (K : List (List UInt8)) (sign : List UInt8) (l : List V) (bet : List UInt8) (X : List (List UInt8)) (hXl : X.length = l.length) (hK : K ≠ [] -> K.length = l.length)
    (hX : ∀ i (h : i < l.length) (h2 : i < X.length), X[i] = (if h3 : i < K.length then K[i] ++ sign else []) ++ txtV l[i])
    (hx : ∀ x ∈ l, ∀ H, Call CC 26 [x.av] H = some (.ok (.str (txtV x)), H)) (H : Heap) (hl : l.length ≤ 1000000) (ht : (sepB bet X).length ≤ 1000000000) :
    Call CC 90 [.list (sl K) none, .str sign, .list (avs l) none, .str bet] H = some (.ok (.str (sepB bet X)), H) := by
  refine cwp (fn := Tryz.f90) rfl (by kernel_rfl) rfl rfl rfl rfl (by simp) rfl ?_ H
  simp
  refine st_iter (I90 K sign l bet X) l.length ?_ ?_
  . simp [I90, sepB]
  . rintro i t H ⟨hi, ht0⟩
    obtain ⟨d, rfl⟩ := ht0.elim
    clear ht0
    refine ⟨hi, ?_⟩
    simp
    cases hb : decide (i < l.length)
    . have hb' : i = l.length := by simp at hb; omega
      have e1 : X.take l.length = X := by rw [<- hXl]; exact List.take_length
      simp [hb', e1]
    . have hb' : i < l.length := by simpa using hb
      have hb2 : i < X.length := by omega
      have e1 := sep_take bet X i hb2
      have e2 := hX i hb' hb2
      have e3 := sep_le bet X (i + 1)
      have w1 := wrapI (i := i + 1) (by omega) (by omega)
      have g2 := hx l[i] (List.getElem_mem hb')
      rw [V.av_eq] at g2
      have c5 : ∀ x ∈ avs l, x.cells.length = 5 := fun x hx => of_decide_eq_true (List.all_eq_true.1 (avs_cells l) x hx)
      have c1 : ∀ x ∈ sl K, x.cells.length = 1 := fun x hx => of_decide_eq_true (List.all_eq_true.1 (sl_cells K) x hx)
      rw [e1] at e3
      by_cases hk : K = []
      . subst hk
        rw [dif_neg (by simp)] at e2
        rw [e2] at e1 e3
        by_cases h0 : i = 0
        . rw [if_pos h0] at e1 e3
          have h0' : (0 < i) = False := by simp [h0]
          have z0 : sepB bet (X.take i) = [] := by rw [h0]; rfl
          simp at e1 e3
          have z2 : (txtV l[i]).length ≤ 4611686018427387904 := by omega
          simp [hb', V.av_eq, g2, z0, h0', z2, w1, sl, I90, e1]
          try omega
        . have h0' : 0 < i := by omega
          rw [if_neg h0] at e1 e3
          simp only [List.length_append] at e3
          have z1 : (sepB bet (X.take i)).length + bet.length ≤ 4611686018427387904 := by simp at e3; omega
          have z2 : (sepB bet (X.take i)).length + bet.length + (txtV l[i]).length ≤ 4611686018427387904 := by simp at e3; omega
          have z3 : (sepB bet (X.take i)).length + (bet.length + (txtV l[i]).length) ≤ 4611686018427387904 := by omega
          simp [hb', h0', V.av_eq, g2, z1, z2, w1, sl, I90, e1]
          try omega
      . have hkl := hK hk
        have hkp : 0 < K.length := by omega
        have hik : i < K.length := by omega
        rw [dif_pos hik] at e2
        rw [e2] at e1 e3
        by_cases h0 : i = 0
        . rw [if_pos h0] at e1 e3
          have h0' : (0 < i) = False := by simp [h0]
          have z0 : sepB bet (X.take i) = [] := by rw [h0]; rfl
          simp only [List.nil_append, List.length_append] at e1 e3
          have y1 : K[i].length ≤ 4611686018427387904 := by omega
          have y2 : K[i].length + sign.length ≤ 4611686018427387904 := by omega
          have y3 : K[i].length + sign.length + (txtV l[i]).length ≤ 4611686018427387904 := by omega
          have y4 : K[i].length + (sign.length + (txtV l[i]).length) ≤ 4611686018427387904 := by omega
          simp [hb', hik, hkp, V.av_eq, g2, z0, h0', y1, y2, y3, w1, I90, e1]
          try omega
        . have h0' : 0 < i := by omega
          rw [if_neg h0] at e1 e3
          simp only [List.length_append] at e3
          obtain ⟨Q, hQ⟩ : ∃ Q, Q = sepB bet (X.take i) := ⟨_, rfl⟩
          rw [<- hQ] at e1 e3 ⊢
          have z1 : Q.length + bet.length ≤ 4611686018427387904 := by omega
          have z2 : Q.length + bet.length + K[i].length ≤ 4611686018427387904 := by omega
          have z3 : Q.length + (bet.length + K[i].length) ≤ 4611686018427387904 := by omega
          have z4 : Q.length + bet.length + K[i].length + sign.length ≤ 4611686018427387904 := by omega
          have z5 : Q.length + (bet.length + K[i].length) + sign.length ≤ 4611686018427387904 := by omega
          have z6 : Q.length + (bet.length + (K[i].length + sign.length)) ≤ 4611686018427387904 := by omega
          have z7 : Q.length + (bet.length + (K[i].length + sign.length)) + (txtV l[i]).length ≤ 4611686018427387904 := by omega
          have z8 : Q.length + (bet.length + (K[i].length + (sign.length + (txtV l[i]).length))) ≤ 4611686018427387904 := by omega
          simp [hb', hik, hkp, h0', V.av_eq, g2, z1, z2, z5, z7, w1, I90, e1]
          try omega
def I26r (v : V) (K : List (List UInt8)) (tok : Nat) (i : Nat) (t : List AV) (H : Heap) : Prop := i ≤ v.keys.length /\ H[0]? = some (boxV v) /\ (i ≠ 0 -> 0 < tok) /\ TokY 1 H (sl (K.take i)) tok /\ Fit [some (.agg [.int .i64 v.kind, .int .i64 v.num, .str v.s, .list (avs v.keys) none, .list (avs v.items) none]), some (.ptr 0 0), some (.str []), some (LX (sl (K.take i)) tok), some (.int .i64 i), none, none, none, none, none, none, none, none, none, none, none, none, none, none, none, none, none, none, none, none, none, none, none, none, none, none, none, none, none, none, none, none, none, none, none, none, none, none, none, none, none, none, none, none, none, none, none, none, none, none, none, none, none, none, none, none, none, none, none, none, none, none, none, none, none, none, none, none, none, none, none, none, none, none, none, none, none, none, none, none, none, none, none, none, none] t
def I26m (v : V) (K : List (List UInt8)) (tok : Nat) (i : Nat) (t : List AV) (H : Heap) : Prop := i ≤ v.keys.length /\ H[0]? = some (boxV v) /\ (i ≠ 0 -> 0 < tok) /\ TokY 1 H (sl (K.take i)) tok /\ Fit [some (.agg [.int .i64 v.kind, .int .i64 v.num, .str v.s, .list (avs v.keys) none, .list (avs v.items) none]), some (.ptr 0 0), some (.str []), none, none, some (LX (sl (K.take i)) tok), some (.int .i64 i), none, none, none, none, none, none, none, none, none, none, none, none, none, none, none, none, none, none, none, none, none, none, none, none, none, none, none, none, none, none, none, none, none, none, none, none, none, none, none, none, none, none, none, none, none, none, none, none, none, none, none, none, none, none, none, none, none, none, none, none, none, none, none, none, none, none, none, none, none, none, none, none, none, none, none, none, none, none, none, none, none, none, none] t
theorem shape_sameW {v : V} (h : errV false v = 0) : shapeF v = shapeR v := by
  have he := (err_top h).2.1
  have hk : ∀ k ∈ v.keys, ownE k = 0 := fun k hk => top_own (err_top (errL_mem he k hk)).1
  have e := eqt_tup v.keys hk v.keys.length (Nat.le_refl _)
  rw [List.drop_length, tupL, Bool.and_true] at e
  unfold shapeF shapeR
  rw [e]
  by_cases h5 : v.kind = 5
  . rw [if_pos h5, if_pos h5]
    cases ht : tupL v.keys 0
    . have hl : 0 < v.keys.length := by
        cases hkk : v.keys with
        | nil => rw [hkk] at ht; simp [tupL] at ht
        | cons a r => simp
      have er : recP v.keys v.keys.length = v.keys.all recK := by unfold recP; rw [List.take_length, decide_eq_true hl, Bool.true_and]
      rw [er]
    . simp
  . rw [if_neg h5, if_neg h5]
set_option maxRecDepth 100000 in
theorem c26 (v : V) : errV false v = 0 -> v.cnt ≤ 1000000 -> ∀ H, Call CC 26 [v.av] H = some (.ok (.str (txtV v)), H) := by
  refine V.ind (P := fun v => errV false v = 0 -> v.cnt ≤ 1000000 -> ∀ H, Call CC 26 [v.av] H = some (.ok (.str (txtV v)), H)) (fun v ik ii he hc H => ?_) v
  obtain ⟨h0, _, hek, hei⟩ := errV_zero he
  have O := own0_of h0
  have hcq := V.cnt_eq v
  have hck : ∀ x ∈ v.keys, x.cnt ≤ 1000000 := fun x hx => by have := cnt_mem hx; omega
  have hci : ∀ x ∈ v.items, x.cnt ≤ 1000000 := fun x hx => by have := cnt_mem hx; omega
  have g1 : ∀ x ∈ v.keys, ∀ H, Call CC 26 [x.av] H = some (.ok (.str (txtV x)), H) := fun x hx => ik x hx (errL_mem hek x hx) (hck x hx)
  have g2 : ∀ x ∈ v.items, ∀ H, Call CC 26 [x.av] H = some (.ok (.str (txtV x)), H) := fun x hx => ii x hx (errL_mem hei x hx) (hci x hx)
  have hli := len_cnts v.items
  have hlk := len_cnts v.keys
  have hs := own_s h0
  have q0 := O.kind
  have hsh := fun H => c36 v H (err_strW v he) (by omega)
  rw [V.av_eq, <- shape_sameW he] at hsh
  rw [txt_eq]
  refine cwp (fn := Tryz.f26) rfl (by kernel_rfl) rfl rfl rfl rfl (by simp) rfl ?_ H
  by_cases k0 : v.kind = 0
  . by_cases n1 : v.num = 1
    . simp [V.av_eq, k0, n1]
    . simp [V.av_eq, k0, n1]
  by_cases k1 : v.kind = 1
  . have c1 := fun H => c88 v.num H (own_num h0 k1)
    simp [V.av_eq, k1, c1]
  by_cases k2 : v.kind = 2
  . have c2 := fun H => c89 v.s H (by omega)
    simp [V.av_eq, k2] at c2 ⊢
    simp [c2]
  by_cases k3 : v.kind = 3
  . simp [V.av_eq, k3]
  have e1 : 1 + (sepB [44, 32] (txtL v.items)).length ≤ 4611686018427387904 /\ (sepB [44, 32] (txtL v.items)).length ≤ 4611686018427387902 /\ 2 + (sepB [44, 32] (txtL v.items)).length ≤ 4611686018427387904 /\ (sepB [44, 32] (txtL v.items)).length ≤ 4611686018427387900 /\ (sepB [44, 32] (txtL v.items)).length ≤ 1000000000 := by
    have hl1 := sep_len [44, 32] (txtL v.items)
    have hi := tots_txt fun x hx => tlen x (errL_mem hei x hx)
    rw [txtL_len] at hl1
    simp only [List.length_cons, List.length_nil] at hl1
    omega
  obtain ⟨f1, f2, f3, f4, f5⟩ := e1
  have c4 := fun H => c90 [] [] v.items [44, 32] (txtL v.items) (txtL_len _) (fun h => absurd rfl h) (fun i h h2 => by rw [dif_neg (by simp)]; simp [txtL_map]) g2 H (by omega) f5
  simp only [sl] at c4
  by_cases k4 : v.kind = 4
  . simp [V.av_eq, k4, c4, f1, f2]
  have k5 : v.kind = 5 := by omega
  have hlen5 := O.len k5
  by_cases s1 : shapeF v = 1
  . rw [s1, k5] at hsh
    simp [V.av_eq, k5, hsh, c4, f3, f4, s1]
    try kernel_rfl
  by_cases s2 : shapeF v = 2
  . have hp := pair_len [32, 124, 45, 62, 32] (v.keys.map V.s) (txtL v.items)
    have hl2 := sep_len [44, 32] (pairB [32, 124, 45, 62, 32] (v.keys.map V.s) (txtL v.items))
    have hk := tots_s fun x hx => own_s (errV_zero (errL_mem hek x hx)).1
    have hi := tots_txt fun x hx => tlen x (errL_mem hei x hx)
    rw [txtL_len] at hp
    simp only [List.length_cons, List.length_nil] at hl2 hp
    obtain ⟨K, hKd⟩ : ∃ K, K = v.keys.map V.s := ⟨_, rfl⟩
    have hKl : K.length = v.keys.length := by rw [hKd]; simp
    have c5 := fun H => c90 K [32, 124, 45, 62, 32] v.items [44, 32] (pairB [32, 124, 45, 62, 32] K (txtL v.items)) (by rw [pairB_len, txtL_len, hKl]; omega) (fun _ => by rw [hKl]; exact hlen5)
      (fun i h h2 => by rw [dif_pos (by rw [hKl]; omega), pairB_at]; simp [txtL_map]) g2 H (by omega) (by rw [hKd]; omega)
    have f6 : 1 + (sepB [44, 32] (pairB [32, 124, 45, 62, 32] K (txtL v.items))).length ≤ 4611686018427387904 /\ (sepB [44, 32] (pairB [32, 124, 45, 62, 32] K (txtL v.items))).length ≤ 4611686018427387902 := by rw [hKd]; omega
    rw [s2, k5] at hsh
    rw [<- hKd]
    have s12 := s2
    simp [V.av_eq, k5, hsh, s2]
    refine st_iter (fun i t H => ∃ tok, I26r v K tok i t H) v.keys.length ?_ ?_
    . exact ⟨0, by simp [I26r, sl, lx_nil, TokY, k5, boxV]⟩
    . rintro i t H ⟨tok, hi, hH0, hne, hk0, ht⟩
      obtain ⟨d, rfl⟩ := ht.elim
      clear ht
      refine ⟨hi, ?_⟩
      have hH := lt_of_get hH0
      have z2 : H[0]'hH = boxV v := by rw [List.getElem?_eq_getElem hH] at hH0; injection hH0
      simp [hH0]
      cases hbb : decide (i < v.keys.length)
      . have hb' : i = v.keys.length := by simp at hbb; omega
        have e1 : K.take v.keys.length = K := by rw [<- hKl]; exact List.take_length
        simp [hb', e1, hH0, c5, f6.1, f6.2, k5]
      . have hb' : i < v.keys.length := by simpa using hbb
        have hb2 : i < K.length := by rw [hKl]; exact hb'
        have e1 := sl_take K i hb2
        have e2 : K[i] = V.s v.keys[i] := by simp [hKd]
        rw [e2] at e1
        have w1 := wrapI (i := i + 1) (by omega) (by omega)
        have g3 := g1 v.keys[i] (List.getElem_mem hb')
        rw [V.av_eq] at g3
        have c5' : ∀ x ∈ avs v.keys, x.cells.length = 5 := fun x hx => of_decide_eq_true (List.all_eq_true.1 (avs_cells v.keys) x hx)
        obtain ⟨H1, a1, n1, q1, p1⟩ := app_LY1 (T := 105) (e := 9) (sz := 1) el105 int105 sz9 zero9 rfl rfl (by decide) room9 H (sl (K.take i)) (.str (V.s v.keys[i])) tok hk0 (sl_cells _) rfl (by rw [sl_len, List.length_take]; omega)
        have z1 : H1[0]? = some (boxV v) := by
          rw [p1 0 hH (fun hh e => by have : i ≠ 0 := fun e0 => hh (by rw [e0]; rfl); have := hne this; omega)]; exact hH0
        simp [-aappB, hb', V.av_eq, hH0, a1, w1]
        refine ⟨H.length, by omega, z1, fun _ => hH, by rw [e1]; exact q1, ?_⟩
        rw [e1, lx_cons (by simp)]
        simp
  have hp := pair_len [32, 58, 62, 32] (txtL v.keys) (txtL v.items)
  have hl2 := sep_len [32, 64, 64, 32] (pairB [32, 58, 62, 32] (txtL v.keys) (txtL v.items))
  have hk := tots_txt fun x hx => tlen x (errL_mem hek x hx)
  have hi := tots_txt fun x hx => tlen x (errL_mem hei x hx)
  rw [txtL_len] at hp
  simp only [List.length_cons, List.length_nil] at hl2 hp
  obtain ⟨K, hKd⟩ : ∃ K, K = txtL v.keys := ⟨_, rfl⟩
  have hKl : K.length = v.keys.length := by rw [hKd, txtL_len]
  have c5 := fun H => c90 K [32, 58, 62, 32] v.items [32, 64, 64, 32] (pairB [32, 58, 62, 32] K (txtL v.items)) (by rw [pairB_len, txtL_len, hKl]; omega) (fun _ => by rw [hKl]; exact hlen5)
    (fun i h h2 => by rw [dif_pos (by rw [hKl]; omega), pairB_at]; simp [txtL_map]) g2 H (by omega) (by rw [hKd]; omega)
  have f6 : 1 + (sepB [32, 64, 64, 32] (pairB [32, 58, 62, 32] K (txtL v.items))).length ≤ 4611686018427387904 /\ (sepB [32, 64, 64, 32] (pairB [32, 58, 62, 32] K (txtL v.items))).length ≤ 4611686018427387902 := by rw [hKd]; omega
  have s3 : shapeF v = 3 := by
    unfold shapeF at s1 s2 ⊢
    rw [if_pos k5] at s1 s2 ⊢
    split at s1
    . exact absurd rfl s1
    . rename_i ht
      rw [if_neg ht] at s2 ⊢
      split at s2
      . exact absurd rfl s2
      . rename_i ha; rw [if_neg ha]
  rw [s3, k5] at hsh
  rw [<- hKd]
  have s12 := s3
  simp [V.av_eq, k5, hsh, s3]
  refine st_iter (fun i t H => ∃ tok, I26m v K tok i t H) v.keys.length ?_ ?_
  . exact ⟨0, by simp [I26m, sl, lx_nil, TokY, k5, boxV]⟩
  . rintro i t H ⟨tok, hi, hH0, hne, hk0, ht⟩
    obtain ⟨d, rfl⟩ := ht.elim
    clear ht
    refine ⟨hi, ?_⟩
    have hH := lt_of_get hH0
    have z2 : H[0]'hH = boxV v := by rw [List.getElem?_eq_getElem hH] at hH0; injection hH0
    simp [hH0]
    cases hbb : decide (i < v.keys.length)
    . have hb' : i = v.keys.length := by simp at hbb; omega
      have e1 : K.take v.keys.length = K := by rw [<- hKl]; exact List.take_length
      simp [hb', e1, hH0, c5, f6.1, f6.2, k5]
    . have hb' : i < v.keys.length := by simpa using hbb
      have hb2 : i < K.length := by rw [hKl]; exact hb'
      have e1 := sl_take K i hb2
      have e2 : K[i] = txtV v.keys[i] := by simp [hKd, txtL_map]
      rw [e2] at e1
      have w1 := wrapI (i := i + 1) (by omega) (by omega)
      have g3 := g1 v.keys[i] (List.getElem_mem hb')
      rw [V.av_eq] at g3
      have c5' : ∀ x ∈ avs v.keys, x.cells.length = 5 := fun x hx => of_decide_eq_true (List.all_eq_true.1 (avs_cells v.keys) x hx)
      obtain ⟨H1, a1, n1, q1, p1⟩ := app_LY1 (T := 105) (e := 9) (sz := 1) el105 int105 sz9 zero9 rfl rfl (by decide) room9 H (sl (K.take i)) (.str (txtV v.keys[i])) tok hk0 (sl_cells _) rfl (by rw [sl_len, List.length_take]; omega)
      have z1 : H1[0]? = some (boxV v) := by
        rw [p1 0 hH (fun hh e => by have : i ≠ 0 := fun e0 => hh (by rw [e0]; rfl); have := hne this; omega)]; exact hH0
      simp [-aappB, hb', V.av_eq, hH0, g3, a1, w1]
      refine ⟨H.length, by omega, z1, fun _ => hH, by rw [e1]; exact q1, ?_⟩
      rw [e1, lx_cons (by simp)]
      simp
end Go.Tv
namespace Go.Tv
open Go.Proofs
set_option maxHeartbeats 4000000
theorem chk_err {v : V} (h : chkE v = 0) : errV false v = 0 /\ v.cnt ≤ 300 := by
  have := chk_small h
  have h1 := this.1
  simp only [V.small, Bool.and_eq_true, decide_eq_true_eq] at h1
  exact ⟨err_imp this.2, h1.1⟩
theorem c24 (v : V) (H : Heap) (hs : v.str) (hc : v.cnt ≤ 1000000) : Call CC 24 [v.av] H = some (.ok (.tup [.str (if chkE v = 0 then txtV v else []), .int .i64 (chkE v)]), H) := by
  have g1 := fun H => c15 v H hs (by omega)
  have g2 := fun (h : chkE v = 0) H => c86 v (chk_err h).1 (by omega) H
  rw [V.av_eq] at g1 g2
  refine cwp (fn := Tryz.f24) rfl (by kernel_rfl) rfl rfl rfl rfl (by simp) rfl ?_ H
  by_cases h : chkE v = 0
  . have g2 := g2 h
    rw [h] at g1
    simp [V.av_eq, g1, g2, h]
  . simp [V.av_eq, g1, h]
def digN (s : List UInt8) : Nat := s.foldl (fun d c => (d * 257 + c.toNat + 1) % 2147483629) 0
theorem digN_succ (s : List UInt8) (i : Nat) (h : i < s.length) : digN (s.take (i + 1)) = (digN (s.take i) * 257 + s[i].toNat + 1) % 2147483629 := by
  rw [List.take_succ_eq_append_getElem h]
  unfold digN
  rw [List.foldl_append]; rfl
theorem digN_lt (s : List UInt8) : digN s < 2147483629 := by
  unfold digN
  rcases List.eq_nil_or_concat s with rfl | ⟨l, c, rfl⟩
  . simp
  . rw [List.concat_eq_append, List.foldl_append]
    exact Nat.mod_lt _ (by omega)
theorem und3 : CC.P.underlying 3 = some (.int .i64) := by kernel_rfl
attribute [local simp] und3
theorem and_mask (x b : Nat) (hx : x < 2147483629) (hb : 1 ≤ b /\ b ≤ 30) : IntKind.i64.wrap ((BitVec.ofInt IntKind.i64.bits (x : Int) &&& BitVec.ofInt IntKind.i64.bits ((2 ^ b : Nat) - 1 : Int)).toNat : Int) = ((x % 2 ^ b : Nat) : Int) := by
  have h1 : (2 ^ b : Nat) ≤ 2 ^ 30 := Nat.pow_le_pow_right (by omega) hb.2
  have h0 : 0 < (2 ^ b : Nat) := Nat.pow_pos (by omega)
  have e1 : (BitVec.ofInt 64 (x : Int)) = BitVec.ofNat 64 x := by simp
  have e2 : (BitVec.ofInt 64 ((2 ^ b : Nat) - 1 : Int)) = BitVec.ofNat 64 (2 ^ b - 1) := by
    rw [show ((2 ^ b : Nat) - 1 : Int) = ((2 ^ b - 1 : Nat) : Int) from by omega]; simp
  have e3 : (BitVec.ofNat 64 x &&& BitVec.ofNat 64 (2 ^ b - 1)).toNat = x % 2 ^ b := by
    rw [BitVec.toNat_and, BitVec.toNat_ofNat, BitVec.toNat_ofNat, Nat.mod_eq_of_lt (by omega), Nat.mod_eq_of_lt (by omega), Nat.and_two_pow_sub_one_eq_mod]
  show IntKind.i64.wrap ((BitVec.ofInt 64 (x : Int) &&& BitVec.ofInt 64 ((2 ^ b : Nat) - 1 : Int)).toNat : Int) = _
  rw [e1, e2, e3]
  have := Nat.mod_lt x h0
  exact wrapI (by omega) (by omega)
def digE (v : V) (b : Int) : Int := if chkE v ≠ 0 then chkE v else if 1 ≤ b /\ b ≤ 30 then 0 else 3
def I25 (_v : V) (bits : Int) (s : List UInt8) (i : Nat) (t : List AV) (_H : Heap) : Prop := i ≤ s.length /\ Fit [none, some (.int .i64 bits), none, none, none, none, none, some (.int .i64 (digN (s.take i) : Nat)), none, none, none, none, none, none, none, none, none, none, none, none, some (.list (ofBytes s) none), some (.int .i64 s.length), some (.int .i64 i), none, none, none, none, none, none, none, none, none, none, none, none, none, none, none, none] t
def I30 (_v : V) (bits : Int) (s : List UInt8) (i : Nat) (t : List AV) (_H : Heap) : Prop := i ≤ s.length /\ Fit [none, some (.int .i64 bits), none, none, some (.int .i64 0), some (.int .i64 (digN (s.take i) : Nat)), some (.str s), some (.int .i64 i), none, none, none, none, none, none, none, none, none, none, none, none, none, none, none, none, none, none, none, none, none] t
theorem c25 (v : V) (bits : Int) (H : Heap) (hs : v.str) (hc : v.cnt ≤ 1000000) : Call CC 25 [v.av, .int .i64 bits] H = some (.ok (.tup [.int .i64 (if digE v bits = 0 then (digN (txtV v) % 2 ^ bits.toNat : Nat) else 0), .int .i64 (digE v bits)]), H) := by
  have g1 := fun H => c15 v H hs (by omega)
  have g2 := fun (h : chkE v = 0) H => c86 v (chk_err h).1 (by omega) H
  rw [V.av_eq] at g1 g2
  refine cwp (fn := Tryz.f25) rfl (by kernel_rfl) rfl rfl rfl rfl (by simp) rfl ?_ H
  unfold digE
  by_cases h : chkE v = 0
  . have g2 := g2 h
    rw [h] at g1
    have g3 := fun H => c87 bits 1 30 H
    by_cases hb : 1 ≤ bits /\ bits ≤ 30
    . rw [decide_eq_true hb.1, decide_eq_true hb.2] at g3
      obtain ⟨s, hsv⟩ : ∃ s, s = txtV v := ⟨_, rfl⟩
      have hsl := tlen v (chk_err h).1
      have hcl := (chk_err h).2
      rw [<- hsv] at g2 hsl ⊢
      simp [V.av_eq, g1, g2, g3, h, hb]
      refine st_iter (I25 v bits s) s.length ?_ ?_
      . simp [I25, digN]
      . rintro i t H ⟨hi, ht⟩
        obtain ⟨d, rfl⟩ := ht.elim
        clear ht
        refine ⟨hi, ?_⟩
        have hl := digN_lt (s.take i)
        simp
        cases hbb : decide (i < s.length)
        . have hb' : i = s.length := by simp at hbb; omega
          obtain ⟨b, rfl⟩ : ∃ b : Nat, bits = (b : Int) := ⟨bits.toNat, by omega⟩
          have hb1 : 1 ≤ b /\ b ≤ 30 := by omega
          have hp := Nat.pow_le_pow_right (show 0 < 2 by omega) hb1.2
          have hp0 : 0 < 2 ^ b := Nat.pow_pos (by omega)
          have hls := digN_lt s
          have m1 := and_mask (digN s) b hls hb1
          have w1 := wrapI (i := ((2 ^ b : Nat) : Int)) (by omega) (by omega)
          have w2 := wrapI (i := ((2 ^ b : Nat) : Int) - 1) (by omega) (by omega)
          have mb : min b IntKind.i64.bits = b := by show min b 64 = b; omega
          have n0 : ¬ (b : Int) < 0 := by omega
          have ep : ((2 ^ b : Nat) : Int) = (2 : Int) ^ b := by simp
          have em : ((digN s % 2 ^ b : Nat) : Int) = (digN s : Int) % (2 : Int) ^ b := by simp
          rw [ep] at w1 w2 m1
          rw [em] at m1
          simp [hb', mb, n0, w1, w2]
          simpa using m1
        . have hb' : i < s.length := by simpa using hbb
          have e1 := digN_succ s i hb'
          have w1 := wrapI (i := (i : Int) + 1) (by omega) (by omega)
          have hc8 := s[i].toNat_lt
          obtain ⟨D, hD⟩ : ∃ D, D = digN (s.take i) := ⟨_, rfl⟩
          obtain ⟨c, hcc⟩ : ∃ c, c = s[i].toNat := ⟨_, rfl⟩
          rw [<- hD] at hl e1 ⊢
          rw [<- hcc] at hc8 e1
          have w2 := wrapI (i := (D : Int) * 257) (by omega) (by omega)
          have w3 := wrapI (i := (D : Int) * 257 + c) (by omega) (by omega)
          have w4 := wrapI (i := (D : Int) * 257 + c + 1) (by omega) (by omega)
          have w5 := wrapI (i := (c : Int)) (by omega) (by omega)
          have e5 : Int.tmod ((D : Int) * 257 + c + 1) 2147483629 = (((D * 257 + c + 1) % 2147483629 : Nat) : Int) := by rw [Int.tmod_eq_emod_of_nonneg (by omega)]; omega
          simp [hb', <- hcc, w1, w2, w3, w4, w5, e5, I25, e1]
          try omega
    . have g4 : (decide (1 ≤ bits) && decide (bits ≤ 30)) = false := by
        rw [<- Bool.decide_and]; exact decide_eq_false hb
      rw [g4] at g3
      simp [V.av_eq, g1, g3, h, hb]
  . simp [V.av_eq, g1, h]
theorem c30 (v : V) (bits : Int) (H : Heap) (he : chkE v = 0) (hb : 1 ≤ bits /\ bits ≤ 30) : Call CC 30 [v.av, .int .i64 bits] H = some (.ok (.int .i64 (digN (txtV v) % 2 ^ bits.toNat : Nat)), H) := by
  have hcl := (chk_err he).2
  have g2 := fun H => c26 v (chk_err he).1 (by omega) H
  rw [V.av_eq] at g2
  refine cwp (fn := Tryz.f30) rfl (by kernel_rfl) rfl rfl rfl rfl (by simp) rfl ?_ H
  obtain ⟨s, hsv⟩ : ∃ s, s = txtV v := ⟨_, rfl⟩
  have hsl := tlen v (chk_err he).1
  rw [<- hsv] at g2 hsl ⊢
  simp [V.av_eq, g2]
  refine st_iter (I30 v bits s) s.length ?_ ?_
  . simp [I30, digN]
  . rintro i t H ⟨hi, ht⟩
    obtain ⟨d, rfl⟩ := ht.elim
    clear ht
    refine ⟨hi, ?_⟩
    have hl := digN_lt (s.take i)
    simp
    cases hbb : decide (i < s.length)
    . have hb' : i = s.length := by simp at hbb; omega
      obtain ⟨b, rfl⟩ : ∃ b : Nat, bits = (b : Int) := ⟨bits.toNat, by omega⟩
      have hb1 : 1 ≤ b /\ b ≤ 30 := by omega
      have hp := Nat.pow_le_pow_right (show 0 < 2 by omega) hb1.2
      have hp0 : 0 < 2 ^ b := Nat.pow_pos (by omega)
      have hls := digN_lt s
      have w1 := wrapI (i := ((2 ^ b : Nat) : Int)) (by omega) (by omega)
      have mb : min b IntKind.i64.bits = b := by show min b 64 = b; omega
      have n0 : ¬ (b : Int) < 0 := by omega
      have ep : ((2 ^ b : Nat) : Int) = (2 : Int) ^ b := by simp
      have em : Int.tmod (digN s : Int) ((2 : Int) ^ b) = (digN s : Int) % (2 : Int) ^ b := Int.tmod_eq_emod_of_nonneg (by omega)
      have ez : ¬ ((2 : Int) ^ b = 0) := by rw [<- ep]; omega
      rw [ep] at w1
      simp [hb', mb, n0, w1, em, ez]
    . have hb' : i < s.length := by simpa using hbb
      have e1 := digN_succ s i hb'
      have w1 := wrapI (i := (i : Int) + 1) (by omega) (by omega)
      have hc8 := s[i].toNat_lt
      obtain ⟨D, hD⟩ : ∃ D, D = digN (s.take i) := ⟨_, rfl⟩
      obtain ⟨c, hcc⟩ : ∃ c, c = s[i].toNat := ⟨_, rfl⟩
      rw [<- hD] at hl e1 ⊢
      rw [<- hcc] at hc8 e1
      have w2 := wrapI (i := (D : Int) * 257) (by omega) (by omega)
      have w3 := wrapI (i := (D : Int) * 257 + c) (by omega) (by omega)
      have w4 := wrapI (i := (D : Int) * 257 + c + 1) (by omega) (by omega)
      have w5 := wrapI (i := (c : Int)) (by omega) (by omega)
      have e5 : Int.tmod ((D : Int) * 257 + c + 1) 2147483629 = (((D * 257 + c + 1) % 2147483629 : Nat) : Int) := by rw [Int.tmod_eq_emod_of_nonneg (by omega)]; omega
      simp [hb', <- hcc, w1, w2, w3, w4, w5, e5, I30, e1]
      try omega
end Go.Tv
