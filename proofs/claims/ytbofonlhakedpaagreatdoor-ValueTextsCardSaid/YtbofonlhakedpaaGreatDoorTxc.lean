/-
  The reader of package value: blanks, signs, words, numbers, strings.
-/
import Derived.Test.YtbofonlhakedpaaGreatDoorTvd
import Derived.Test.YtbofonlhakedpaaGreatDoorExe
import Derived.Test.YtbofonlhakedpaaGreatDoorDra
import Derived.Test.YtbofonlhakedpaaGreatDoorTxa
import Derived.Test.YtbofonlhakedpaaGreatDoorExr
namespace Go.Tv
open Go.Proofs
set_option maxHeartbeats 4000000
attribute [simp] ex_seq_panic ex_seq_pan ex_blk_panic ex_blk_pan lq_panic lq_pan respa_normal respa_ret respa_panic respa_pan resd_plain resd_later respd_normal respd_ret respd_panic respd_pan sq_normal sq_ret sq_panic sq_pan dfin_panic
def RD (s : List UInt8) (a d : Int) : AObj := .cells [.str s, .int .i64 a, .int .i64 d] 108
noncomputable def fldR (j : Nat) : Field := (fieldOf CC 108 j).getD default
theorem fr0 : fieldOf CC 108 0 = some (fldR 0) := by kernel_rfl
theorem fr1 : fieldOf CC 108 1 = some (fldR 1) := by kernel_rfl
theorem fr2 : fieldOf CC 108 2 = some (fldR 2) := by kernel_rfl
theorem frt0 : (fldR 0).type = 9 := by kernel_rfl
theorem frt1 : (fldR 1).type = 3 := by kernel_rfl
theorem frt2 : (fldR 2).type = 3 := by kernel_rfl
theorem fro0 : (fldR 0).offset = 0 := by kernel_rfl
theorem fro1 : (fldR 1).offset = 1 := by kernel_rfl
theorem fro2 : (fldR 2).offset = 2 := by kernel_rfl
theorem sz106 : szOf CC 106 = some 1 := by kernel_rfl
theorem sz108 : szOf CC 108 = some 3 := by kernel_rfl
theorem ag108 : aggT CC 108 = some true := by kernel_rfl
theorem ag106 : aggT CC 106 = some false := by kernel_rfl
theorem ag160 : aggT CC 160 = some true := by kernel_rfl
theorem sz160 : szOf CC 160 = some 1 := by kernel_rfl
attribute [simp] fr0 fr1 fr2 frt0 frt1 frt2 fro0 fro1 fro2 sz106 sz108 ag108 ag106 ag160 sz160
theorem set_sameA {α : Type} {H : List α} {i : Nat} {x : α} (h : H[i]? = some x) : H.set i x = H := by
  refine List.ext_getElem? fun j => ?_
  by_cases e : i = j
  . subst e
    rw [List.getElem?_set_self (List.getElem?_eq_some_iff.1 h).1, h]
  . rw [List.getElem?_set_ne e]
theorem hgetS {α : Type} (M L : List α) (i k : Nat) (x : α) : (M.set i x ++ L)[M.length + k]? = L[k]? := by
  rw [List.getElem?_append_right (by simp), List.length_set]; congr 1; omega
theorem hgetS0 {α : Type} (M L : List α) (i : Nat) (x : α) : (M.set i x ++ L)[M.length]? = L[0]? := hgetS M L i 0 x
theorem hsetS {α : Type} (M L : List α) (i k : Nat) (x y : α) : (M.set i x ++ L).set (M.length + k) y = M.set i x ++ L.set k y := by
  rw [List.set_append_right _ _ (by simp)]; congr 2; simp
theorem hsetS0 {α : Type} (M L : List α) (i : Nat) (x y : α) : (M.set i x ++ L).set M.length y = M.set i x ++ L.set 0 y := hsetS M L i 0 x y
theorem rget {α : Type} {M : List α} {i : Nat} (h : i < M.length) (L : List α) (x : α) : (M.set i x ++ L)[i]? = some x := by
  rw [List.getElem?_append_left (by simpa using h), List.getElem?_set_self h]
theorem rset {α : Type} {M : List α} {i : Nat} (h : i < M.length) (L : List α) (x y : α) : (M.set i x ++ L).set i y = M.set i y ++ L := by
  rw [List.set_append_left _ _ (by simpa using h), List.set_set]
attribute [simp] hgetS hgetS0 hsetS hsetS0 rget rset
theorem rdcall {f : FuncId} {fn : Func} {c : Code} {rs : List ResultVar} {n : Nat} {s : List UInt8} {a d : Int} {H : Heap} {id : Nat} {rest : List AV} {P : ARet -> Int -> Int -> Heap -> Prop} (hk : okF f = true) (hf : Tryz.prog.funcs[f]? = some fn) (hb : fn.body = some c) (hs : fn.results.toList = rs) (hm : fn.ntmps = n)
    (hr : treeL rest = true) (hH : H[id]? = some (RD s a d))
    (h : ∀ M : Heap, id < M.length -> SD CC (Call CC) c (.ptr id 0 :: (rest ++ List.replicate (n - (rest.length + 1)) .undef)) (M.set id (RD s a d)) (RESD CC (Call CC) rs fun r H1 => ∃ a' d' J, H1 = M.set id (RD s a' d') ++ J /\ P r a' d' J)) :
    ∃ r a' d' J, Call CC f (.ptr id 0 :: rest) H = some (r, H.set id (RD s a' d') ++ J) /\ P r a' d' J := by
  have hid : id < H.length := (List.getElem?_eq_some_iff.1 hH).1
  obtain ⟨h1, h2, h3, h4, h5, h6, h7, h8⟩ := okF_facts (z := false) hk
  have hi : idsL rest = [] := treeL_ids _ hr
  obtain ⟨r, H1, H', k1, ⟨a', d', J, k2, k3⟩, k4, k5, k6, k7, k8⟩ := call_objsA (P := fun r H1 => ∃ a' d' J, (H1[id]? = some (RD s a' d') /\ H1.drop H.length = J) /\ P r a' d' J) (H := H) (args := .ptr id 0 :: rest) (R := [id]) h1 h2 h7 (by rw [h3]; exact hf) h4 h5 h6
    (by simp [treeL, AV.tree]) (by unfold reachL; simp [idsL, AV.ids, hi, reach, hH, RD, AObj.ids]) (by simp [closed, idsL, AV.ids, hi, hH, RD, AObj.ids]) hb hs hm fun M hM hj => by
      have hM' : M[id]? = some (RD s a d) := by rw [hj id (by simp)]; exact hH
      have hl : id < M.length := by rw [hM]; exact hid
      have := h M hl
      rw [set_sameA hM'] at this
      obtain ⟨k, hk⟩ := this
      refine ⟨k, ?_⟩
      simp only [List.length_cons, List.cons_append]
      have imp : ∀ r H1, (∃ a' d' J, H1 = M.set id (RD s a' d') ++ J /\ P r a' d' J) -> H.length ≤ H1.length /\ ∃ a' d' J, (H1[id]? = some (RD s a' d') /\ H1.drop H.length = J) /\ P r a' d' J := by
        rintro r H1 ⟨a', d', J, rfl, hP⟩
        refine ⟨by simp [hM], a', d', J, ⟨by simp [hl], ?_⟩, hP⟩
        rw [<- hM, List.drop_append_of_le_length (by simp)]
        simp
      have hh : ∀ t H1, HAND CC rs (fun r H1 => ∃ a' d' J, H1 = M.set id (RD s a' d') ++ J /\ P r a' d' J) t H1 -> HAND CC rs (fun r H1 => H.length ≤ H1.length /\ ∃ a' d' J, (H1[id]? = some (RD s a' d') /\ H1.drop H.length = J) /\ P r a' d' J) t H1 := by
        rintro t H1 ⟨l, q1, q2⟩
        refine ⟨l, q1, ?_⟩
        match l, q2 with
        | [], q2 => exact imp _ _ q2
        | [v], q2 => exact imp _ _ q2
        | v :: w :: r, q2 => exact imp _ _ q2
      revert hk
      cases arunD CC (Call CC) k c (.ptr id 0 :: (rest ++ List.replicate (n - (rest.length + 1)) .undef)) M with
      | none => exact fun h => h
      | some o =>
        cases o with
        | plain x t H1 => cases x <;> first | exact hh _ _ | exact imp _ _ | exact fun h => h
        | later g dd x t H1 =>
          cases x with
          | normal => rintro ⟨k, q, H2, q1, q2⟩; exact ⟨k, q, H2, q1, hh _ _ q2⟩
          | ret => rintro ⟨k, q, H2, q1, q2⟩; exact ⟨k, q, H2, q1, hh _ _ q2⟩
          | panic v =>
            rintro ⟨k, q, H2, q1, q2⟩
            refine ⟨k, q, H2, q1, ?_⟩
            cases q with
            | none => exact hh _ _ q2
            | some w => exact imp _ _ q2
          | pan v => rintro ⟨k, q, H2, q1, q2, q3⟩; exact ⟨k, q, H2, q1, q2, imp _ _ q3⟩
          | exit j => exact fun h => h
  have e : H' = H.set id (RD s a' d') ++ J := by
   refine List.ext_getElem? fun j => ?_
   rcases Nat.lt_or_ge j H.length with hj | hj
   . rw [List.getElem?_append_left (by simpa using hj)]
     by_cases e : id = j
     . subst e; rw [List.getElem?_set_self hj, k6 id (by simp), k2.1]
     . rw [List.getElem?_set_ne e, k7 j hj (by simpa using fun h => e h.symm)]
   . rw [List.getElem?_append_right (by simpa using hj), k8 j hj, <- k2.2, List.getElem?_drop, List.length_set, show H.length + (j - H.length) = j by omega]
  rw [k1, e]; exact ⟨r, a', d', J, rfl, k3⟩
theorem reach_rd {H : Heap} {id : Nat} {s : List UInt8} {a d : Int} {rest : List AV} (hr : treeL rest = true) (hH : H[id]? = some (RD s a d)) : reachL H (.ptr id 0 :: rest) = [id] := by
  have hi : idsL rest = [] := treeL_ids _ hr
  unfold reachL; simp [idsL, AV.ids, hi, reach, hH, RD, AObj.ids]
theorem nowB_at (s : List UInt8) (n : Nat) : nowB (s.drop n) = s.getD n 0 := by
  unfold nowB
  rw [List.headD_eq_head?_getD, List.head?_drop, List.getD_eq_getElem?_getD]
theorem c220 {s : List UInt8} {a d : Int} {H : Heap} {id : Nat} (h0 : 0 ≤ a) (hH : H[id]? = some (RD s a d)) : Call CC 220 [.ptr id 0] H = some (.ok (.int .u8 (u8i (nowB (s.drop a.toNat)))), H) := by
  obtain ⟨r, a', d', J, h1, rfl, rfl, rfl, rfl⟩ := rdcall (f := 220) (rest := []) (P := fun r a' d' J => r = .ok (.int .u8 (u8i (nowB (s.drop a.toNat)))) /\ a' = a /\ d' = d /\ J = []) (fn := Tryz.f220) rfl (by kernel_rfl) rfl rfl rfl rfl hH (by
    intro M hid
    refine sd_plain rfl ?_
    simp [RD, hid]
    refine ⟨by kernel_rfl, ?_⟩
    by_cases h : a < s.length
    . have e1 : idx (.int .i64 a) s.length = some a.toNat := idxI _ _ _ h0 h
      have e2 : a.toNat < s.length := by omega
      have e3 : nowB (s.drop a.toNat) = s[a.toNat] := by rw [nowB_at, List.getD_eq_getElem?_getD, List.getElem?_eq_getElem e2]; rfl
      simp [h, hid, e1, e2, e3, u8i]
      exact ⟨by kernel_rfl, a, d, [], by simp⟩
    . have e3 : nowB (s.drop a.toNat) = 0 := by rw [List.drop_eq_nil_of_le (by omega)]; rfl
      simp [h, e3, u8i]
      exact ⟨a, d, [], by simp⟩)
  rw [h1, set_sameA hH, List.append_nil]
def pos (s r : List UInt8) : Int := (s.length : Int) - r.length
theorem pos_drop {s r : List UInt8} (h : r <:+ s) : s.drop (pos s r).toNat = r := by
  have := List.suffix_iff_eq_drop.1 h
  have hl := h.length_le
  rw [show (pos s r).toNat = s.length - r.length by unfold pos; omega]
  exact this.symm
theorem pos_ge {s r : List UInt8} (h : r <:+ s) : 0 ≤ pos s r := by have := h.length_le; unfold pos; omega
theorem pos_le (s r : List UInt8) : pos s r ≤ s.length := by unfold pos; omega
theorem pos_of {s r : List UInt8} {a : Int} (h0 : 0 ≤ a) (h1 : a ≤ s.length) (e : s.drop a.toNat = r) : a = pos s r := by
  subst e; unfold pos; rw [List.length_drop]; omega
theorem skip_suf : ∀ r : List UInt8, skipB r <:+ r
  | [] => List.suffix_refl _
  | c :: r => by
    unfold skipB
    split
    . exact (skip_suf r).trans (List.suffix_cons c r)
    . exact List.suffix_refl _
theorem skip_skip : ∀ r : List UInt8, skipB (skipB r) = skipB r
  | [] => rfl
  | c :: r => by
    by_cases h : c = 32 \/ c = 10
    . rw [skipB, if_pos h, skip_skip r]
    . rw [skipB, if_neg h, skipB, if_neg h]
theorem nowB_zero {s : List UInt8} {a : Int} (_h0 : 0 ≤ a) (h : nowB (s.drop a.toNat) ≠ 0) : a < s.length := by
  rcases Int.lt_or_le a s.length with h1 | h1
  . exact h1
  . rw [List.drop_eq_nil_of_le (by omega)] at h; exact absurd rfl h
theorem drop_now {s : List UInt8} {a : Int} (h0 : 0 ≤ a) (h : a < s.length) : s.drop a.toNat = nowB (s.drop a.toNat) :: s.drop (a + 1).toNat := by
  have e2 : a.toNat < s.length := by omega
  rw [show (a + 1).toNat = a.toNat + 1 by omega, List.drop_eq_getElem_cons e2]
  simp [nowB, List.getElem?_eq_getElem e2]
theorem u8iE (c k : UInt8) : (u8i c = u8i k) ↔ c = k := by
  unfold u8i
  constructor
  . intro h
    exact UInt8.toNat_inj.1 (by omega)
  . intro h; rw [h]
theorem u8_32 (c : UInt8) : (u8i c = 32) ↔ c = 32 := u8iE c 32
theorem u8_10 (c : UInt8) : (u8i c = 10) ↔ c = 10 := u8iE c 10
theorem u8_34 (c : UInt8) : (u8i c = 34) ↔ c = 34 := u8iE c 34
theorem u8_92 (c : UInt8) : (u8i c = 92) ↔ c = 92 := u8iE c 92
theorem u8_45 (c : UInt8) : (u8i c = 45) ↔ c = 45 := u8iE c 45
theorem u8_123 (c : UInt8) : (u8i c = 123) ↔ c = 123 := u8iE c 123
theorem u8_60 (c : UInt8) : (u8i c = 60) ↔ c = 60 := u8iE c 60
theorem u8_91 (c : UInt8) : (u8i c = 91) ↔ c = 91 := u8iE c 91
theorem u8_40 (c : UInt8) : (u8i c = 40) ↔ c = 40 := u8iE c 40
theorem u8iE' (c k : UInt8) : (u8i c = (k.toNat : Int)) ↔ c = k := u8iE c k
attribute [simp] u8iE' u8_32 u8_10 u8_34 u8_92 u8_45 u8_123 u8_60 u8_91 u8_40
attribute [simp] RD
def I152 (M : Heap) (s : List UInt8) (id : Nat) (a d : Int) (i : Nat) (t : List AV) (H : Heap) : Prop := ∃ b, b = a + i /\ b ≤ s.length /\ skipB (s.drop b.toNat) = skipB (s.drop a.toNat) /\ H = M.set id (RD s b d) /\ Fit (some (.ptr id 0) :: List.replicate 16 none) t
theorem c152 {s : List UInt8} {a d : Int} {H : Heap} {id : Nat} (hs : s.length ≤ 1000000) (h0 : 0 ≤ a) (h1 : a ≤ s.length) (hH : H[id]? = some (RD s a d)) : Call CC 152 [.ptr id 0] H = some (.ok (.tup []), H.set id (RD s (pos s (skipB (s.drop a.toNat))) d)) := by
  obtain ⟨r, a', d', J, h1, rfl, rfl, rfl, rfl⟩ := rdcall (f := 152) (rest := []) (P := fun r a' d' J => r = .ok (.tup []) /\ a' = pos s (skipB (s.drop a.toNat)) /\ d' = d /\ J = []) (fn := Tryz.f152) rfl (by kernel_rfl) rfl rfl rfl rfl hH (by
    intro M hid
    refine sd_plain rfl ?_
    simp
    refine st_iter (I152 M s id a d) s.length ?_ ?_
    . exact ⟨a, by simp, h1, rfl, rfl, by simp⟩
    . rintro i t H ⟨b, hb, hb2, hb3, rfl, ht⟩
      obtain ⟨e, rfl⟩ := ht.elim
      clear ht
      refine ⟨by omega, ?_⟩
      have g1 := c220 (s := s) (a := b) (d := d) (H := M.set id (RD s b d)) (id := id) (by omega) (by simp [hid])
      generalize hc : nowB (s.drop b.toNat) = c at g1
      simp only [RD] at g1
      simp [g1]
      have last : ¬ (c = 32 \/ c = 10) -> b = pos s (skipB (s.drop a.toNat)) := fun hn => by
        refine pos_of (by omega) (by omega) ?_
        rw [<- hb3]
        cases hd : s.drop b.toNat with
        | nil => rfl
        | cons x r =>
          rw [hd] at hc
          have : x = c := hc
          rw [skipB, if_neg (by rw [this]; exact hn)]
      have next : c = 32 \/ c = 10 -> b < s.length /\ skipB (s.drop (b + 1).toNat) = skipB (s.drop a.toNat) := fun hy => by
        have hlt : b < s.length := nowB_zero (by omega) (by rw [hc]; rcases hy with rfl | rfl <;> decide)
        refine ⟨hlt, ?_⟩
        have hd := drop_now (s := s) (a := b) (by omega) hlt
        rw [hc] at hd
        rw [<- hb3, hd, skipB, if_pos hy]
      by_cases h32 : c = 32
      . obtain ⟨k1, k2⟩ := next (.inl h32)
        have w := wrapI (i := b + 1) (by omega) (by omega)
        simp [h32, hid, w]
        exact ⟨b + 1, by omega, by omega, k2, rfl, by simp⟩
      . by_cases h10 : c = 10
        . obtain ⟨k1, k2⟩ := next (.inr h10)
          have w := wrapI (i := b + 1) (by omega) (by omega)
          subst h10
          simp [g1, hid, w]
          exact ⟨b + 1, by omega, by omega, k2, rfl, by simp⟩
        . have k := last (by simp [h32, h10])
          simp [h32, h10, g1]
          exact ⟨b, d, [], by simp, k, rfl, rfl⟩)
  rw [h1, List.append_nil]
def wrong (a : Int) : AV := .iface 160 (.agg [.int .i64 a])
theorem zero160 : zeroOf CC 160 = some (.agg [.int .i64 0]) := by kernel_rfl
noncomputable def fldW : Field := (fieldOf CC 160 0).getD default
theorem fw0 : fieldOf CC 160 0 = some fldW := by kernel_rfl
theorem fwt : fldW.type = 3 := by kernel_rfl
theorem fwo : fldW.offset = 0 := by kernel_rfl
noncomputable def fv160 : Array Field := match CC.P.underlying 160 with | some (.struct fs) => fs | _ => #[]
theorem undv160 : CC.P.underlying 160 = some (.struct fv160) := by kernel_rfl
theorem fv160_all0 : fv160.toList.all (fun f => (CC.P.info? f.type).isSome) = true := by kernel_rfl
theorem fv160_all : ∀ (i : Nat) (x : i < fv160.size), (CC.P.info? fv160[i].type).isSome = true := fun i x => List.all_eq_true.1 fv160_all0 _ (by simp)
theorem fv160_0 : fv160[0]? = some fldW := by kernel_rfl
attribute [simp] zero160 fw0 fwt fwo undv160 fv160_all fv160_0
theorem c153 {s : List UInt8} {a d : Int} {H : Heap} {id : Nat} (hH : H[id]? = some (RD s a d)) : Call CC 153 [.ptr id 0] H = some (.panic (wrong a), H) := by
  obtain ⟨r, a', d', J, h1, rfl, rfl, rfl, rfl⟩ := rdcall (f := 153) (rest := []) (P := fun r a' d' J => r = .panic (wrong a) /\ a' = a /\ d' = d /\ J = []) (fn := Tryz.f153) rfl (by kernel_rfl) rfl rfl rfl rfl hH (by
    intro M hid
    refine sd_plain rfl ?_
    simp [hid, wrong]
    exact ⟨a, d, [], by simp⟩)
  rw [h1, set_sameA hH, List.append_nil]
def mustO (s : List UInt8) (d : Int) (o : Except Nat (List UInt8)) (r : ARet) (a' d' : Int) (J : Heap) : Prop := J = [] /\ d' = d /\ match o with
  | .ok r' => r = .ok (.tup []) /\ a' = pos s r' /\ r' <:+ s
  | .error e => r = .panic (wrong ((s.length : Int) - e))
theorem must_eq {x : UInt8} {cs r : List UInt8} : mustG (x :: cs) (x :: r) = mustG cs r := by rw [mustG, if_pos rfl]
theorem must_ne {x : UInt8} {cs r : List UInt8} (h : nowB r ≠ x) : mustG (x :: cs) r = .error r.length := by
  cases r with
  | nil => rfl
  | cons y r => rw [mustG, if_neg (by exact h)]; rfl
theorem pos_at {s : List UInt8} {a : Int} (h0 : 0 ≤ a) (h1 : a ≤ s.length) : pos s (s.drop a.toNat) = a := (pos_of h0 h1 rfl).symm
theorem left_at {s : List UInt8} {a : Int} (h0 : 0 ≤ a) (h1 : a ≤ s.length) : (s.length : Int) - ((s.drop a.toNat).length : Int) = a := pos_at h0 h1
def I274 (M : Heap) (s sign : List UInt8) (id : Nat) (a d : Int) (i : Nat) (t : List AV) (H : Heap) : Prop := ∃ b : Int, 0 ≤ b /\ i ≤ sign.length /\ b ≤ s.length /\ mustG (sign.drop i) (s.drop b.toNat) = mustB sign (s.drop a.toNat) /\ H = M.set id (RD s b d) /\ Fit (some (.ptr id 0) :: some (.str sign) :: List.replicate 6 none ++ some (.int .i64 sign.length) :: some (.int .i64 i) :: List.replicate 18 none) t
theorem c274 {s sign : List UInt8} {a d : Int} {H : Heap} {id : Nat} (hs : s.length ≤ 1000000) (hg : sign.length ≤ 100) (hg0 : ∀ c ∈ sign, c ≠ 0) (h0 : 0 ≤ a) (h1 : a ≤ s.length) (hH : H[id]? = some (RD s a d)) :
    ∃ r a' d' J, Call CC 274 [.ptr id 0, .str sign] H = some (r, H.set id (RD s a' d') ++ J) /\ mustO s d (mustB sign (s.drop a.toNat)) r a' d' J := by
  refine rdcall (f := 274) (rest := [.str sign]) (fn := Tryz.f274) rfl (by kernel_rfl) rfl rfl rfl rfl hH ?_
  intro M hid
  refine sd_plain rfl ?_
  have g1 := c152 (s := s) (a := a) (d := d) (H := M.set id (RD s a d)) (id := id) hs h0 h1 (by simp [hid])
  simp only [RD] at g1
  simp [g1]
  refine st_iter (I274 M s sign id a d) sign.length ?_ ?_
  . refine ⟨pos s (skipB (s.drop a.toNat)), pos_ge ((skip_suf _).trans (List.drop_suffix _ _)), by omega, pos_le _ _, ?_, rfl, by simp⟩
    rw [pos_drop ((skip_suf _).trans (List.drop_suffix _ _))]; rfl
  . rintro i t H ⟨b, hb, hb1, hb2, hb3, rfl, ht⟩
    obtain ⟨e, rfl⟩ := ht.elim
    clear ht
    refine ⟨hb1, ?_⟩
    have g1 := c220 (s := s) (a := b) (d := d) (H := M.set id (RD s b d)) (id := id) (by omega) (by simp [hid])
    have g2 := c153 (s := s) (a := b) (d := d) (H := M.set id (RD s b d)) (id := id) (by simp [hid])
    have g3 := reach_rd (s := s) (a := b) (d := d) (H := M.set id (RD s b d)) (id := id) (rest := []) rfl (by simp [hid])
    generalize hc : nowB (s.drop b.toNat) = c at g1
    simp only [RD] at g1 g2 g3
    by_cases hi : i < sign.length
    . have e1 : sign.drop i = sign[i] :: sign.drop (i + 1) := List.drop_eq_getElem_cons hi
      rw [e1] at hb3
      have hx0 := hg0 sign[i] (List.getElem_mem hi)
      generalize hx : sign[i] = x at hb3 hx0
      have w := wrapI (i := (i : Int) + 1) (by omega) (by omega)
      simp [hi, hx, g1, g3]
      refine ⟨by kernel_rfl, ?_⟩
      by_cases hcx : c = x
      . have hlt : b < s.length := nowB_zero hb (by rw [hc, hcx]; exact hx0)
        have hd := drop_now hb hlt
        rw [hc, hcx] at hd
        rw [hd, must_eq] at hb3
        have w2 := wrapI (i := b + 1) (by omega) (by omega)
        simp [hcx, hid, w, w2]
        exact ⟨b + 1, by omega, by omega, by omega, hb3, rfl, by simp⟩
      . rw [must_ne (by rw [hc]; exact hcx)] at hb3
        simp [hcx, g2]
        refine ⟨b, d, [], by simp, rfl, rfl, ?_⟩
        rw [<- hb3]
        simp only
        rw [left_at hb hb2]; rfl
    . have hi' : i = sign.length := by omega
      subst hi'
      rw [List.drop_length] at hb3
      simp
      refine ⟨b, d, [], by simp, rfl, rfl, ?_⟩
      rw [<- hb3]
      exact ⟨rfl, (pos_at hb hb2).symm, List.drop_suffix _ _⟩
end Go.Tv
namespace Go.Tv
open Go.Proofs
set_option maxHeartbeats 4000000
def OUT {α : Type} (s : List UInt8) (d : Int) (val : α -> AV) (o : PR α) (r : ARet) (a' d' : Int) : Prop := match o with
  | .ok (v, r') => r = .ok (val v) /\ a' = pos s r' /\ d' = d /\ r' <:+ s
  | .error e => r = .panic (wrong ((s.length : Int) - e))
theorem idx0 (k : IntKind) (n : Nat) : idx (.int k 0) (n + 1) = some 0 := by rw [idxI _ _ _ (by omega) (by omega)]; rfl
attribute [simp] idx0
theorem left_at' {s : List UInt8} {a : Int} (h0 : 0 ≤ a) (h1 : a ≤ s.length) : (s.length : Int) - ((s.length - a.toNat : Nat) : Int) = a := by omega
theorem mustB_skip (sign r : List UInt8) : mustB sign (skipB r) = mustB sign r := by unfold mustB; rw [skip_skip]
theorem c275 {s on en : List UInt8} {a d : Int} {H : Heap} {id : Nat} (hs : s.length ≤ 1000000) (hg : on.length ≤ 100) (hn : on ≠ []) (hg0 : ∀ c ∈ on, c ≠ 0) (hG : en.length ≤ 100) (hG0 : ∀ c ∈ en, c ≠ 0) (h0 : 0 ≤ a) (h1 : a ≤ s.length) (hH : H[id]? = some (RD s a d)) :
    ∃ r a' d' J, Call CC 275 [.ptr id 0, .str on, .str en] H = some (r, H.set id (RD s a' d') ++ J) /\ (J = [] /\ OUT s d (fun b => .bool b) (goesB on en (s.drop a.toNat)) r a' d') := by
  refine rdcall (f := 275) (rest := [.str on, .str en]) (fn := Tryz.f275) rfl (by kernel_rfl) rfl rfl rfl rfl hH ?_
  intro M hid
  refine sd_plain rfl ?_
  have g1 := c152 (s := s) (a := a) (d := d) (H := M.set id (RD s a d)) (id := id) hs h0 h1 (by simp [hid])
  have suf : skipB (s.drop a.toNat) <:+ s := (skip_suf _).trans (List.drop_suffix _ _)
  obtain ⟨b, hb⟩ : ∃ b, b = pos s (skipB (s.drop a.toNat)) := ⟨_, rfl⟩
  have hb0 : 0 ≤ b := hb ▸ pos_ge suf
  have hb1 : b ≤ s.length := hb ▸ pos_le _ _
  have hbd : s.drop b.toNat = skipB (s.drop a.toNat) := by rw [hb]; exact pos_drop suf
  rw [<- hb] at g1
  have g2 := c220 (s := s) (a := b) (d := d) (H := M.set id (RD s b d)) (id := id) hb0 (by simp [hid])
  have g3 := reach_rd (s := s) (a := b) (d := d) (H := M.set id (RD s b d)) (id := id) (rest := []) rfl (by simp [hid])
  obtain ⟨r4, a4, d4, J4, g4, q4⟩ := c274 (s := s) (sign := on) (a := b) (d := d) (H := M.set id (RD s b d)) (id := id) hs hg hg0 hb0 hb1 (by simp [hid])
  obtain ⟨r5, a5, d5, J5, g5, q5⟩ := c274 (s := s) (sign := en) (a := b) (d := d) (H := M.set id (RD s b d)) (id := id) hs hG hG0 hb0 hb1 (by simp [hid])
  obtain ⟨rfl, rfl, q4⟩ := q4
  obtain ⟨rfl, rfl, q5⟩ := q5
  rw [hbd, mustB_skip] at q4 q5
  rw [hbd] at g2
  cases on with
  | nil => exact absurd rfl hn
  | cons o os =>
  simp only [RD, List.set_set] at g1 g2 g3 g4 g5
  simp [g1, g2, g3]
  refine ⟨by kernel_rfl, ?_⟩
  by_cases hc : nowB (skipB (s.drop a.toNat)) = o
  . cases hm : mustB (o :: os) (s.drop a.toNat) with
    | error e =>
      rw [hm] at q4
      simp only at q4
      subst q4
      simp [hc, g4]
      refine ⟨_, _, [], (List.append_nil _).symm, rfl, ?_⟩
      simp only [goesB, List.headD_cons, hc, if_true, hm]; rfl
    | ok r =>
      rw [hm] at q4
      obtain ⟨rfl, rfl, q6⟩ := q4
      simp [hc, g4]
      refine ⟨_, _, [], (List.append_nil _).symm, rfl, ?_⟩
      simp only [goesB, List.headD_cons, hc, if_true, hm]; exact ⟨rfl, rfl, rfl, q6⟩
  . cases hm : mustB en (s.drop a.toNat) with
    | error e =>
      rw [hm] at q5
      simp only at q5
      subst q5
      simp [hc, g5]
      refine ⟨_, _, [], (List.append_nil _).symm, rfl, ?_⟩
      simp only [goesB, List.headD_cons, hc, if_false, hm]; rfl
    | ok r =>
      rw [hm] at q5
      obtain ⟨rfl, rfl, q6⟩ := q5
      simp [hc, g5]
      refine ⟨_, _, [], (List.append_nil _).symm, rfl, ?_⟩
      simp only [goesB, List.headD_cons, hc, if_false, hm]; exact ⟨rfl, rfl, rfl, q6⟩
def openO (s : List UInt8) (d : Int) (o : Except Nat (List UInt8)) (r : ARet) (a' d' : Int) (J : Heap) : Prop := J = [] /\ match o with
  | .ok r' => r = .ok (.tup []) /\ a' = pos s r' /\ d' = d + 1 /\ r' <:+ s
  | .error e => r = .panic (wrong ((s.length : Int) - e))
theorem c272 {s sign : List UInt8} {a : Int} {d : Nat} {H : Heap} {id : Nat} (hs : s.length ≤ 1000000) (hg : sign.length ≤ 100) (hg0 : ∀ c ∈ sign, c ≠ 0) (hd : d ≤ 20) (h0 : 0 ≤ a) (h1 : a ≤ s.length) (hH : H[id]? = some (RD s a d)) :
    ∃ r a' d' J, Call CC 272 [.ptr id 0, .str sign] H = some (r, H.set id (RD s a' d') ++ J) /\ openO s d (openP d sign (s.drop a.toNat)) r a' d' J := by
  refine rdcall (f := 272) (rest := [.str sign]) (fn := Tryz.f272) rfl (by kernel_rfl) rfl rfl rfl rfl hH ?_
  intro M hid
  refine sd_plain rfl ?_
  have g1 := c153 (s := s) (a := a) (d := d) (H := M.set id (RD s a d)) (id := id) (by simp [hid])
  obtain ⟨r4, a4, d4, J4, g4, q4⟩ := c274 (s := s) (sign := sign) (a := a) (d := (d : Int) + 1) (H := M.set id (RD s a ((d : Int) + 1))) (id := id) hs hg hg0 h0 h1 (by simp [hid])
  obtain ⟨rfl, rfl, q4⟩ := q4
  simp only [RD, List.set_set] at g1 g4
  simp [hid]
  by_cases h20 : d = 20
  . have h20' : (d : Int) = 20 := by omega
    simp [h20'] at g1
    simp [h20', g1]
    refine ⟨a, 20, [], by simp, rfl, ?_⟩
    simp only [openP, h20, if_true]
    rw [left_at h0 h1]; rfl
  . have h20' : ¬ (d : Int) = 20 := by omega
    have w := wrapI (i := (d : Int) + 1) (by omega) (by omega)
    cases hm : mustB sign (s.drop a.toNat) with
    | error e =>
      rw [hm] at q4
      simp only at q4
      subst q4
      simp [h20', hid, w, g4]
      refine ⟨_, _, [], (List.append_nil _).symm, rfl, ?_⟩
      simp only [openP, h20, if_false, hm]; rfl
    | ok r =>
      rw [hm] at q4
      obtain ⟨rfl, rfl, q6⟩ := q4
      have g5 := c152 (s := s) (a := pos s r) (d := (d : Int) + 1) (H := M.set id (RD s (pos s r) ((d : Int) + 1))) (id := id) hs (pos_ge q6) (pos_le _ _) (by simp [hid])
      rw [pos_drop q6] at g5
      simp only [RD, List.set_set] at g5
      simp [h20', hid, w, g4, g5]
      refine ⟨_, _, [], (List.append_nil _).symm, rfl, ?_⟩
      simp only [openP, h20, if_false, hm]; exact ⟨trivial, trivial, trivial, (skip_suf _).trans q6⟩
end Go.Tv
namespace Go.Tv
open Go.Proofs
set_option maxHeartbeats 4000000
theorem drop_len {p : UInt8 -> Bool} (r : List UInt8) : r.take (r.length - (r.dropWhile p).length) = r.takeWhile p := by
  have h := List.takeWhile_append_dropWhile (p := p) (l := r)
  generalize r.takeWhile p = x at h ⊢
  generalize r.dropWhile p = y at h ⊢
  subst h
  rw [List.length_append, Nat.add_sub_cancel, List.take_left]
theorem bndI {n m : Nat} {b : Int} (h0 : 0 ≤ b) (h1 : b ≤ m) : bnd n (some (some (.int .i64 b))) m = some b.toNat := by simp only [bnd]; rw [if_pos ⟨h0, h1⟩]
theorem dw_stop {p : UInt8 -> Bool} {r : List UInt8} (h : p (nowB r) = false) : r.dropWhile p = r := by
  cases r with
  | nil => rfl
  | cons c r => rw [List.dropWhile_cons_of_neg (by have : nowB (c :: r) = c := rfl; rw [this] at h; simp [h])]
theorem part0 : partC 0 = false := by kernel_rfl
theorem dig0 : digC 0 = false := by kernel_rfl
theorem dw_suf (p : UInt8 -> Bool) (r : List UInt8) : r.dropWhile p <:+ r := List.dropWhile_suffix p
def I227 (M : Heap) (s : List UInt8) (id : Nat) (a d : Int) (i : Nat) (t : List AV) (H : Heap) : Prop := ∃ b, b = a + i /\ b ≤ s.length /\ (s.drop b.toNat).dropWhile partC = (s.drop a.toNat).dropWhile partC /\ H = M.set id (RD s b d) /\ Fit (some (.ptr id 0) :: none :: some (.str []) :: some (.int .i64 a) :: List.replicate 24 none) t
theorem c227 {s : List UInt8} {a d : Int} {H : Heap} {id : Nat} (hs : s.length ≤ 1000000) (h0 : 0 ≤ a) (h1 : a ≤ s.length) (hH : H[id]? = some (RD s a d)) :
    Call CC 227 [.ptr id 0] H = some (.ok (.str ((s.drop a.toNat).takeWhile partC)), H.set id (RD s (pos s ((s.drop a.toNat).dropWhile partC)) d)) := by
  obtain ⟨r, a', d', J, h1, rfl, rfl, rfl, rfl⟩ := rdcall (f := 227) (rest := []) (P := fun r a' d' J => r = .ok (.str ((s.drop a.toNat).takeWhile partC)) /\ a' = pos s ((s.drop a.toNat).dropWhile partC) /\ d' = d /\ J = []) (fn := Tryz.f227) rfl (by kernel_rfl) rfl rfl rfl rfl hH (by
    intro M hid
    refine sd_plain rfl ?_
    simp [hid]
    refine st_iter (I227 M s id a d) s.length ?_ ?_
    . exact ⟨a, by simp, h1, rfl, rfl, by simp⟩
    . rintro i t H ⟨b, hb, hb2, hb3, rfl, ht⟩
      obtain ⟨e, rfl⟩ := ht.elim
      clear ht
      refine ⟨by omega, ?_⟩
      have g1 := c220 (s := s) (a := b) (d := d) (H := M.set id (RD s b d)) (id := id) (by omega) (by simp [hid])
      generalize hc : nowB (s.drop b.toNat) = c at g1
      simp only [RD] at g1
      cases hp : partC c
      . have hp' : partB (u8i c) = false := hp
        rw [dw_stop (by rw [hc]; exact hp)] at hb3
        have e1 : b = pos s ((s.drop a.toNat).dropWhile partC) := pos_of (by omega) hb2 hb3
        have e2 : bnd s.length (some (some (.int .i64 b))) s.length = some b.toNat := bndI (by omega) hb2
        have e3 : bnd 0 (some (some (.int .i64 a))) b.toNat = some a.toNat := bndI h0 (by omega)
        have e4 : (s.take b.toNat).drop a.toNat = (s.drop a.toNat).takeWhile partC := by
          rw [List.drop_take, <- drop_len, <- hb3, List.length_drop, List.length_drop]
          congr 1; omega
        simp [g1, c203, hp', hid, e2, e3, e4]
        exact ⟨by kernel_rfl, b, d, [], by simp, e1, rfl, rfl⟩
      . have hp' : partB (u8i c) = true := hp
        have hlt : b < s.length := nowB_zero (by omega) (by rw [hc]; intro h; rw [h, part0] at hp; cases hp)
        have hd := drop_now (s := s) (a := b) (by omega) hlt
        rw [hc] at hd
        rw [hd, List.dropWhile_cons_of_pos hp] at hb3
        have w := wrapI (i := b + 1) (by omega) (by omega)
        simp [g1, c203, hp', hid, w]
        exact ⟨b + 1, by omega, by omega, hb3, rfl, by simp⟩)
  rw [h1, List.append_nil]
theorem now_at {s : List UInt8} {b : Int} (h0 : 0 ≤ b) (h : b < s.length) : ∃ h2 : b.toNat < s.length, s[b.toNat] = nowB (s.drop b.toNat) := by
  have e2 : b.toNat < s.length := by omega
  exact ⟨e2, by simp [nowB, List.getElem?_eq_getElem e2]⟩
def I226 (M : Heap) (s : List UInt8) (id : Nat) (a d : Int) (i : Nat) (t : List AV) (H : Heap) : Prop := ∃ b, b = a + i /\ b ≤ s.length /\ (s.drop b.toNat).dropWhile digC = (s.drop a.toNat).dropWhile digC /\ H = M.set id (RD s a d) /\ Fit (some (.ptr id 0) :: none :: some (.bool false) :: some (.int .i64 b) :: List.replicate 47 none) t
theorem c226 {s : List UInt8} {a d : Int} {H : Heap} {id : Nat} (hs : s.length ≤ 1000000) (h0 : 0 ≤ a) (h1 : a ≤ s.length) (hH : H[id]? = some (RD s a d)) :
    Call CC 226 [.ptr id 0] H = some (.ok (.bool (isNumP (s.drop a.toNat))), H) := by
  obtain ⟨r, a', d', J, h1, rfl, rfl, rfl, rfl⟩ := rdcall (f := 226) (rest := []) (P := fun r a' d' J => r = .ok (.bool (isNumP (s.drop a.toNat))) /\ a' = a /\ d' = d /\ J = []) (fn := Tryz.f226) rfl (by kernel_rfl) rfl rfl rfl rfl hH (by
    intro M hid
    refine sd_plain rfl ?_
    simp [hid]
    refine st_iter (I226 M s id a d) s.length ?_ ?_
    . exact ⟨a, by simp, h1, rfl, rfl, by simp⟩
    . rintro i t H ⟨b, hb, hb2, hb3, rfl, ht⟩
      obtain ⟨e, rfl⟩ := ht.elim
      clear ht
      refine ⟨by omega, ?_⟩
      have stop : (s.drop b.toNat).dropWhile digC = s.drop b.toNat -> isNumP (s.drop a.toNat) = (decide (a < b) && !partC (nowB (s.drop b.toNat))) := by
        intro hst
        rw [hst] at hb3
        unfold isNumP
        rw [<- hb3]
        congr 1
        have := congrArg List.length (List.takeWhile_append_dropWhile (p := digC) (l := s.drop a.toNat))
        rw [<- hb3, List.length_append, List.length_drop, List.length_drop] at this
        exact decide_eq_decide.2 (by omega)
      by_cases hlt : b < s.length
      . obtain ⟨hlt2, hnow⟩ := now_at (by omega) hlt
        have hd := drop_now (s := s) (a := b) (by omega) hlt
        have e1 : idx (.int .i64 b) s.length = some b.toNat := idxI _ _ _ (by omega) hlt
        generalize hc : nowB (s.drop b.toNat) = c at hnow hd stop
        have e2 : ((s[b.toNat]).toNat : Int) = u8i c := by rw [hnow]; rfl
        cases hp : digC c
        . have hp' : digitB (u8i c) = false := hp
          rw [stop (dw_stop (by rw [hc]; exact hp))]
          have hne : ¬ b = (s.length : Int) := by omega
          simp [hid, hlt, e1, e2, hlt2, c258, hp']
          by_cases hab : a < b
          . simp [hid, hab, hne, e1, e2, hlt2, c203, partC]
            exact ⟨a, d, [], by simp⟩
          . simp [hab]
            exact ⟨a, d, [], by simp⟩
        . have hp' : digitB (u8i c) = true := hp
          rw [hd, List.dropWhile_cons_of_pos hp] at hb3
          have w := wrapI (i := b + 1) (by omega) (by omega)
          simp [hid, hlt, e1, e2, hlt2, c258, hp', w]
          exact ⟨b + 1, by omega, by omega, hb3, rfl, by simp⟩
      . have e5 : s.drop b.toNat = [] := List.drop_eq_nil_of_le (by omega)
        have e6 : b = s.length := by omega
        rw [stop (by rw [e5]; rfl), e5]
        have e7 : partC (nowB []) = false := part0
        subst e6
        simp [hid]
        by_cases hab : a < (s.length : Int)
        . simp [hid, hab, e7]
          exact ⟨a, d, [], by simp⟩
        . simp [hab]
          exact ⟨a, d, [], by simp⟩)
  rw [h1, set_sameA hH, List.append_nil]
end Go.Tv
namespace Go.Tv
open Go.Proofs
set_option maxHeartbeats 4000000
def I222 (M L : Heap) (s : List UInt8) (id : Nat) (a d sg : Int) (i : Nat) (t : List AV) (H : Heap) : Prop := ∃ b, b = a + i /\ i ≤ 6 /\ b ≤ s.length /\ (s.drop b.toNat).dropWhile digC = (s.drop a.toNat).dropWhile digC /\ 0 ≤ valB ((s.drop a.toNat).take i) /\ valB ((s.drop a.toNat).take i) < (10 : Int) ^ i /\ H = M.set id (RD s b d) ++ L /\
  Fit (some (.ptr id 0) :: some (.int .i64 sg) :: none :: none :: some (.ptr M.length 0) :: some (.int .i64 (valB ((s.drop a.toNat).take i))) :: some (.int .i64 a) :: List.replicate 47 none) t
theorem und3r : CC.P.underlying 3 = some (.int .i64) := by kernel_rfl
attribute [simp] und3r
theorem wrap6 : IntKind.i64.wrap 6 = 6 := by kernel_rfl
theorem wrapU8 {i : Int} (h0 : 0 ≤ i) (h1 : i ≤ 255) : IntKind.u8.wrap i = i := by
  rw [IntKind.wrap_u8]; omega
theorem tw_len (p : UInt8 -> Bool) (r : List UInt8) : (r.takeWhile p).length + (r.dropWhile p).length = r.length := by
  have := congrArg List.length (List.takeWhile_append_dropWhile (p := p) (l := r))
  rwa [List.length_append] at this
theorem valB_snoc (l : List UInt8) (c : UInt8) : valB (l ++ [c]) = valB l * 10 + (u8i c - 48) := by unfold valB; rw [List.foldl_append]; rfl
theorem c222 {s : List UInt8} {a d sg : Int} {H : Heap} {id : Nat} (hs : s.length ≤ 1000000) (hsg : sg = 1 \/ sg = -1) (h0 : 0 ≤ a) (h1 : a ≤ s.length) (hH : H[id]? = some (RD s a d)) :
    ∃ r a' d' J, Call CC 222 [.ptr id 0, .int .i64 sg] H = some (r, H.set id (RD s a' d') ++ J) /\ OUT s d V.av (numP sg (s.drop a.toNat)) r a' d' := by
  refine rdcall (f := 222) (rest := [.int .i64 sg]) (P := fun r a' d' _ => OUT s d V.av (numP sg (s.drop a.toNat)) r a' d') (fn := Tryz.f222) rfl (by kernel_rfl) rfl rfl rfl rfl hH ?_
  intro M hid
  refine sd_plain rfl ?_
  simp [hid]
  refine ⟨by kernel_rfl, ?_⟩
  refine st_iter (I222 M [.cells [.int .i64 0, .int .i64 0, .str [], .empty, .empty] 24] s id a d sg) 6 ?_ ?_
  . exact ⟨a, by simp, by omega, h1, rfl, by simp [valB], by simp [valB], by simp, by simp [valB]⟩
  . rintro i t H ⟨b, hb, hi, hb2, hb3, hv0, hv1, rfl, ht⟩
    obtain ⟨e, rfl⟩ := ht.elim
    clear ht
    refine ⟨hi, ?_⟩
    have g1 := c220 (s := s) (a := b) (d := d) (H := M.set id (RD s b d) ++ [.cells [.int .i64 0, .int .i64 0, .str [], .empty, .empty] 24]) (id := id) (by omega) (by simp [hid])
    have g2 := c153 (s := s) (a := b) (d := d) (H := M.set id (RD s b d) ++ [.cells [.int .i64 0, .int .i64 0, .str [], .empty, .empty] 24]) (id := id) (by simp [hid])
    have hp10 : (10 : Int) ^ i ≤ 10 ^ 6 := by
      have : (10 : Nat) ^ i ≤ 10 ^ 6 := Nat.pow_le_pow_right (by omega) hi
      exact_mod_cast this
    have hp10' : (10 : Int) ^ 6 = 1000000 := by decide
    have hps : (10 : Int) ^ (i + 1) = 10 ^ i * 10 := Int.pow_succ 10 i
    have tw := drop_len (p := digC) (s.drop a.toNat)
    generalize hV : valB ((s.drop a.toNat).take i) = V at hv0 hv1
    generalize hc : nowB (s.drop b.toNat) = c at g1
    simp only [RD] at g1 g2
    cases hp : digC c
    . have hp' : digitB (u8i c) = false := hp
      have hst := dw_stop (p := digC) (r := s.drop b.toNat) (by rw [hc]; exact hp)
      rw [hst] at hb3
      have hl := tw_len digC (s.drop a.toNat)
      have hl2 : (s.drop b.toNat).length = s.length - b.toNat := List.length_drop
      rw [<- hb3, hl2, List.length_drop] at hl
      have hli : ((s.drop a.toNat).takeWhile digC).length = i := by omega
      have htw : (s.drop a.toNat).takeWhile digC = (s.drop a.toNat).take i := by
        rw [<- tw, <- hb3, hl2, List.length_drop]; congr 1; omega
      have hN : numP sg (s.drop a.toNat) = if i = 0 \/ partC c = true then .error (s.drop b.toNat).length else .ok (intV (sg * V), s.drop b.toNat) := by
        unfold numP
        rw [<- hb3, hli, if_neg (by omega), hc, htw, hV]
      rw [hN]
      simp [g1, c258, hp', hid]
      by_cases hi0 : i = 0
      . have hba : b = a := by omega
        rw [if_pos (.inl hi0)]
        subst hba
        simp [g2]
        refine ⟨b, d, ⟨_, rfl⟩, ?_⟩
        show _ = _
        rw [left_at' h0 h1]; rfl
      . have hba : ¬ b = a := by omega
        cases hpc : partC c
        . have hpc' : partB (u8i c) = false := hpc
          rw [if_neg (by simp [hi0])]
          have w := wrapI (i := sg * V) (by rcases hsg with rfl | rfl <;> omega) (by rcases hsg with rfl | rfl <;> omega)
          simp [hba, g1, c203, hpc', w, undv24, fv24_all, fv24_0, fv24_1]
          exact ⟨b, d, ⟨_, rfl⟩, rfl, (pos_at (by omega) hb2).symm, rfl, List.drop_suffix _ _⟩
        . have hpc' : partB (u8i c) = true := hpc
          rw [if_pos (.inr rfl)]
          simp [hba, g1, g2, c203, hpc']
          refine ⟨b, d, ⟨_, rfl⟩, ?_⟩
          show _ = _
          rw [left_at' (by omega) hb2]; rfl
    . have hp' : digitB (u8i c) = true := hp
      have hlt : b < s.length := nowB_zero (by omega) (by rw [hc]; intro h; rw [h, dig0] at hp; cases hp)
      have hd := drop_now (s := s) (a := b) (by omega) hlt
      rw [hc] at hd
      rw [hd, List.dropWhile_cons_of_pos hp] at hb3
      have w := wrapI (i := b - a) (by omega) (by omega)
      by_cases h6 : i = 6
      . have hba : b - a = 6 := by omega
        have hl := tw_len digC (s.drop a.toNat)
        have hl3 := (dw_suf digC (s.drop (b + 1).toNat)).length_le
        rw [<- hb3, List.length_drop] at hl
        rw [List.length_drop] at hl3
        have hN : numP sg (s.drop a.toNat) = .error ((s.drop a.toNat).length - 6) := by
          unfold numP
          rw [if_pos (by omega)]
        rw [hN]
        simp [g1, g2, c258, hp', hid, wrap6, hba]
        refine ⟨b, d, ⟨_, rfl⟩, ?_⟩
        show _ = _
        rw [show ((s.length : Int) - ((s.length - a.toNat - 6 : Nat) : Int)) = b by omega]; rfl
      . have hba : ¬ b - a = 6 := by omega
        have hdg : 48 ≤ u8i c /\ u8i c ≤ 57 := by simpa [digitB] using hp'
        have w1 := wrapI (i := V * 10) (by omega) (by omega)
        have w2 : IntKind.u8.wrap (u8i c - 48) = u8i c - 48 := wrapU8 (by omega) (by omega)
        have w3 := wrapI (i := u8i c - 48) (by omega) (by omega)
        have w4 := wrapI (i := V * 10 + (u8i c - 48)) (by omega) (by omega)
        have w5 := wrapI (i := b + 1) (by omega) (by omega)
        simp [g1, c258, hp', hid, w, hba, w1, w2, w3, w4, w5]
        refine ⟨b + 1, by omega, by omega, by omega, hb3, ?_⟩
        have e1 : (s.drop a.toNat).take (i + 1) = (s.drop a.toNat).take i ++ [c] := by
          have e0 : (s.drop a.toNat).drop i = c :: s.drop (b + 1).toNat := by rw [List.drop_drop, <- hd]; congr 1; omega
          rw [List.take_add, e0]; rfl
        rw [e1, valB_snoc, hV, hps]
        exact ⟨by omega, by omega, rfl, by simp⟩
end Go.Tv
namespace Go.Tv
open Go.Proofs
set_option maxHeartbeats 4000000
theorem app_R {T e : TypeId} {sz : Nat} {z : AV} (hel : elemT CC T = some e) (hint : isIntT CC T = false) (hsz : szOf CC e = some sz) (hz : zeroOf CC e = some z) (hzl : z.cells.length = sz) (hzo : z.cells.all AV.one = true) (hpos : 0 < sz) (hroom : ∀ n, n ≤ 1000000000 -> roomOk CC e n = true)
    (A L : Heap) (a : List AV) (x : AV) (tok : Nat) (ht : TokY sz (A ++ L) a tok) (hge : a ≠ [] -> A.length ≤ tok) (ha5 : a.all (fun v => decide (v.cells.length = sz)) = true) (hb5 : [x].all (fun v => decide (v.cells.length = sz) && v.cells.all AV.one) = true) (hc : a.length + 1 ≤ 1000000000) :
    ∃ L', aappB CC [T, T] [LX a tok, .list [x] none] (A ++ L) = some (.list (a ++ [x]) (some (A.length + L.length)), A ++ L') /\ L'.length = L.length + 1 /\ TokY sz (A ++ L') (a ++ [x]) (A.length + L.length) /\ ∀ j, j < L.length -> (a ≠ [] -> A.length + j ≠ tok) -> L'[j]? = L[j]? := by
  obtain ⟨H', h1, h2, h3, h4⟩ := app_LY1 hel hint hsz hz hzl hzo hpos hroom (A ++ L) a x tok ht ha5 hb5 hc
  have e : H' = A ++ H'.drop A.length := by
    refine List.ext_getElem? fun j => ?_
    rcases Nat.lt_or_ge j A.length with hj | hj
    . rw [List.getElem?_append_left hj, h4 j (by rw [List.length_append]; omega) (fun hne => by have := hge hne; omega), List.getElem?_append_left hj]
    . rw [List.getElem?_append_right hj, List.getElem?_drop, show A.length + (j - A.length) = j by omega]
  rw [List.length_append] at h1 h2 h3 h4
  refine ⟨H'.drop A.length, by rw [<- e]; exact h1, by rw [List.length_drop]; omega, by rw [<- e]; exact h3, fun j hj hne => ?_⟩
  rw [List.getElem?_drop, h4 _ (by omega) hne, List.getElem?_append_right (by omega), show A.length + j - A.length = j by omega]
theorem int101 : isIntT CC 101 = false := by kernel_rfl
theorem zero5 : zeroOf CC 5 = some (.int .u8 0) := by kernel_rfl
theorem room5 (n : Nat) (h : n ≤ 1000000000) : roomOk CC 5 n = true := by
  have hb : (Tryz.prog.info? 5).map (fun i => (i.bytes, i.zero.isSome)) = some (1, true) := by kernel_rfl
  unfold roomOk
  rw [cc_P]
  cases hi : Tryz.prog.info? 5 with
  | none => rw [hi] at hb; cases hb
  | some i =>
    rw [hi] at hb
    simp only [Option.map_some, Option.some.injEq, Prod.mk.injEq] at hb
    simp only [hb.1, hb.2, Bool.and_true, decide_eq_true_eq]
    refine ⟨?_, ?_, by omega⟩ <;> omega
theorem ob_app (a : List UInt8) (x : UInt8) : ofBytes (a ++ [x]) = ofBytes a ++ [.int .u8 (u8i x)] := by simp [ofBytes, u8i]
theorem ob_nil {l : List UInt8} : ofBytes l = [] ↔ l = [] := by simp [ofBytes]
theorem lx_append {l : List AV} {x : AV} {tok : Nat} : LX (l ++ [x]) tok = .list (l ++ [x]) (some tok) := lx_cons (by simp) tok
theorem quo_nil (o : List UInt8) : quoP [] o = .error 0 := by rw [quoP.eq_def]
theorem quo_end (r o : List UInt8) : quoP (34 :: r) o = .ok (.mk 2 0 o [] [], r) := by rw [quoP.eq_def]; simp
theorem quo_esc0 (o : List UInt8) : quoP [92] o = .error 0 := by rw [quoP.eq_def]; simp
theorem quo_esc {x : UInt8} (r o : List UInt8) (h : x = 34 \/ x = 92) : quoP (92 :: x :: r) o = quoP r (o ++ [x]) := by rw [quoP.eq_def]; simp [h]
theorem quo_escB {x : UInt8} (r o : List UInt8) (h : ¬ (x = 34 \/ x = 92)) : quoP (92 :: x :: r) o = .error (r.length + 1) := by rw [quoP.eq_def]; simp [h]
theorem quo_bad {c : UInt8} (r o : List UInt8) (h1 : c ≠ 34) (h2 : c ≠ 92) (h : c.toNat < 32 \/ 126 < c.toNat) : quoP (c :: r) o = .error (r.length + 1) := by rw [quoP.eq_def]; simp [h1, h2, h]
theorem quo_ok {c : UInt8} (r o : List UInt8) (h1 : c ≠ 34) (h2 : c ≠ 92) (h : ¬ (c.toNat < 32 \/ 126 < c.toNat)) : quoP (c :: r) o = quoP r (o ++ [c]) := by rw [quoP.eq_def]; simp [h1, h2, h]
theorem quo_escN {o R : List UInt8} (h : ¬ (nowB R = 34 \/ nowB R = 92)) : quoP (92 :: R) o = .error R.length := by
  cases R with
  | nil => exact quo_esc0 o
  | cons x r => exact quo_escB r o h
theorem quo_badN {o R : List UInt8} (h1 : nowB R ≠ 34) (h2 : nowB R ≠ 92) (h : (nowB R).toNat < 32 \/ 126 < (nowB R).toNat) : quoP R o = .error R.length := by
  cases R with
  | nil => exact quo_nil o
  | cons x r => exact quo_bad r o h1 h2 h
theorem tb_ob : ∀ l : List UInt8, toBytes (ofBytes l) = some l
  | [] => rfl
  | b :: r => by
    have := tb_ob r
    unfold ofBytes at this ⊢
    rw [List.map_cons, toBytes, this]; simp
theorem TokY.other {sz : Nat} {M L : Heap} {id : Nat} {x y : AObj} {els : List AV} {tok : Nat} (h : TokY sz (M.set id x ++ L) els tok) (hge : els ≠ [] -> M.length ≤ tok) : TokY sz (M.set id y ++ L) els tok := fun hne => by
  have h1 := h hne
  have h2 := hge hne
  rw [List.getElem?_append_right (by simpa using h2)] at h1 ⊢
  simpa using h1
def zc24 : AObj := .cells [.int .i64 0, .int .i64 0, .str [], .empty, .empty] 24
def I221 (M : Heap) (s : List UInt8) (id : Nat) (a d : Int) (i : Nat) (t : List AV) (H : Heap) : Prop := ∃ b o tok L, a + 1 + i ≤ b /\ (o.length : Int) ≤ b /\ b ≤ s.length /\ quoP (s.drop b.toNat) o = quoP (s.drop (a + 1).toNat) [] /\ L[0]? = some zc24 /\ TokY 1 (M.set id (RD s b d) ++ L) (ofBytes o) tok /\ (o ≠ [] -> M.length + 1 ≤ tok) /\ H = M.set id (RD s b d) ++ L /\
  Fit (some (.ptr id 0) :: none :: some (.ptr M.length 0) :: some (LX (ofBytes o) tok) :: List.replicate 61 none) t
theorem c221 {s : List UInt8} {a d : Int} {H : Heap} {id : Nat} (hs : s.length ≤ 1000000) (h0 : 0 ≤ a) (h1 : a < s.length) (hH : H[id]? = some (RD s a d)) :
    ∃ r a' d' J, Call CC 221 [.ptr id 0] H = some (r, H.set id (RD s a' d') ++ J) /\ OUT s d V.av (quoP (s.drop (a + 1).toNat) []) r a' d' := by
  refine rdcall (f := 221) (rest := []) (P := fun r a' d' _ => OUT s d V.av (quoP (s.drop (a + 1).toNat) []) r a' d') (fn := Tryz.f221) rfl (by kernel_rfl) rfl rfl rfl rfl hH ?_
  intro M hid
  refine sd_plain rfl ?_
  have w0 := wrapI (i := a + 1) (by omega) (by omega)
  simp [hid, w0]
  refine st_iter (I221 M s id a d) s.length ?_ ?_
  . exact ⟨a + 1, [], 0, [zc24], by omega, by simp; omega, by omega, rfl, rfl, fun h => absurd rfl h, fun h => absurd rfl h, rfl, by simp [LX, ofBytes]⟩
  . rintro i t H ⟨b, o, tok, L, hb, ho, hb2, hb3, hL0, htok, htk, rfl, ht⟩
    obtain ⟨e, rfl⟩ := ht.elim
    clear ht
    refine ⟨by omega, ?_⟩
    have g1 := c220 (s := s) (a := b) (d := d) (H := M.set id (RD s b d) ++ L) (id := id) (by omega) (by simp [hid])
    have g2 := c153 (s := s) (a := b) (d := d) (H := M.set id (RD s b d) ++ L) (id := id) (by simp [hid])
    generalize hc : nowB (s.drop b.toNat) = c at g1
    simp only [RD] at g1 g2
    by_cases h34 : c = 34
    . have hlt : b < s.length := nowB_zero (by omega) (by rw [hc, h34]; decide)
      have hd := drop_now (s := s) (a := b) (by omega) hlt
      rw [hc, h34] at hd
      rw [hd, quo_end] at hb3
      have w := wrapI (i := b + 1) (by omega) (by omega)
      have av : (V.mk 2 0 o [] []).av = .agg [.int .i64 2, .int .i64 0, .str o, .list [] none, .list [] none] := rfl
      cases L with
      | nil => simp at hL0
      | cons z0 L =>
      simp [zc24] at hL0
      subst hL0
      have tb := tb_ob o
      by_cases ho0 : o = []
      . subst ho0
        rw [<- hb3]
        simp [lx_nil, ofBytes, g1, h34, hid, w, undv24, fv24_all, fv24_0, fv24_2]
        exact ⟨b + 1, d, ⟨_, rfl⟩, rfl, (pos_at (by omega) (by omega)).symm, rfl, List.drop_suffix _ _⟩
      . have hne : ofBytes o ≠ [] := fun h => ho0 (ob_nil.1 h)
        rw [<- hb3]
        simp [lx_cons hne, tb, g1, h34, hid, w, undv24, fv24_all, fv24_0, fv24_2]
        exact ⟨b + 1, d, ⟨_, rfl⟩, rfl, (pos_at (by omega) (by omega)).symm, rfl, List.drop_suffix _ _⟩
    . have app : ∀ (c' : UInt8) (b' : Int), ∃ L', aappB CC [101, 101] [LX (ofBytes o) tok, .list [.int .u8 (u8i c')] none] (M.set id (.cells [.str s, .int .i64 b', .int .i64 d] 108) ++ L) = some (.list (ofBytes (o ++ [c'])) (some (M.length + L.length)), M.set id (.cells [.str s, .int .i64 b', .int .i64 d] 108) ++ L') /\ L'[0]? = some zc24 /\ ∀ b'', TokY 1 (M.set id (.cells [.str s, .int .i64 b'', .int .i64 d] 108) ++ L') (ofBytes (o ++ [c'])) (M.length + L.length) := by
        intro c' b'
        have hL : 0 < L.length := (List.getElem?_eq_some_iff.1 hL0).1
        have hge : ofBytes o ≠ [] -> M.length ≤ tok := fun h => by have := htk (fun e => h (ob_nil.2 e)); omega
        obtain ⟨L', k1, k2, k3, k4⟩ := app_R (T := 101) (e := 5) (sz := 1) el101 int101 sz5 zero5 rfl rfl (by decide) room5 (M.set id (.cells [.str s, .int .i64 b', .int .i64 d] 108)) L (ofBytes o) (.int .u8 (u8i c')) tok (htok.other hge) (by simpa using hge) (ob_cells o) rfl (by rw [ob_len]; omega)
        rw [List.length_set] at k1 k3 k4
        refine ⟨L', by rw [ob_app]; exact k1, by rw [k4 0 hL (fun h => by have := htk (fun e => h (ob_nil.2 e)); omega)]; exact hL0, fun b'' => ?_⟩
        rw [ob_app]
        exact k3.other fun _ => by omega
      by_cases h92 : c = 92
      . have hlt : b < s.length := nowB_zero (by omega) (by rw [hc, h92]; decide)
        have hd := drop_now (s := s) (a := b) (by omega) hlt
        rw [hc, h92] at hd
        have g3 := c220 (s := s) (a := b + 1) (d := d) (H := M.set id (RD s (b + 1) d) ++ L) (id := id) (by omega) (by simp [hid])
        have g4 := c153 (s := s) (a := b + 1) (d := d) (H := M.set id (RD s (b + 1) d) ++ L) (id := id) (by simp [hid])
        have w := wrapI (i := b + 1) (by omega) (by omega)
        generalize hc2 : nowB (s.drop (b + 1).toNat) = c2 at g3
        simp only [RD] at g3 g4
        rw [hd] at hb3
        by_cases hq : c2 = 34 \/ c2 = 92
        . have hlt2 : b + 1 < s.length := nowB_zero (by omega) (by rw [hc2]; rcases hq with rfl | rfl <;> decide)
          have hd2 := drop_now (s := s) (a := b + 1) (by omega) hlt2
          rw [hc2] at hd2
          rw [hd2, quo_esc _ _ hq] at hb3
          obtain ⟨L', k1, k2, k3⟩ := app c2 (b + 1)
          have w2 := wrapI (i := b + 1 + 1) (by omega) (by omega)
          rcases hq with rfl | rfl
          all_goals
            have e34 : u8i 34 = 34 := by decide
            have e92 : u8i 92 = 92 := by decide
            simp only [e34, e92] at g3 k1
            simp [-aappB, zero5, g1, h92, hid, w, g3, k1, w2, e92]
            refine ⟨b + 1 + 1, _, _, L', by omega, by simp; omega, by omega, hb3, k2, k3 _, fun _ => by have := (List.getElem?_eq_some_iff.1 hL0).1; omega, rfl, ?_⟩
            rw [ob_app, lx_append]
            simp [e34, e92]
        . rw [quo_escN (by rw [hc2]; exact hq)] at hb3
          rw [<- hb3]
          simp only [not_or] at hq
          simp [g1, h92, hid, w, g3, g4, hq.1, hq.2]
          refine ⟨b + 1, d, ⟨_, rfl⟩, ?_⟩
          show _ = _
          rw [left_at' (by omega) (by omega)]; rfl
      . by_cases hr : u8i c < 32 \/ 126 < u8i c
        . have hr' : (nowB (s.drop b.toNat)).toNat < 32 \/ 126 < (nowB (s.drop b.toNat)).toNat := by
            rw [hc]; unfold u8i at hr; omega
          rw [quo_badN (by rw [hc]; exact h34) (by rw [hc]; exact h92) hr'] at hb3
          rw [<- hb3]
          by_cases hr1 : u8i c < 32
          . simp [g1, g2, h34, h92, hr1]
            refine ⟨b, d, ⟨_, rfl⟩, ?_⟩
            show _ = _
            rw [left_at' (by omega) hb2]; rfl
          . have hr2 : 126 < u8i c := by omega
            simp [g1, g2, h34, h92, hr1, hr2]
            refine ⟨b, d, ⟨_, rfl⟩, ?_⟩
            show _ = _
            rw [left_at' (by omega) hb2]; rfl
        . have hlt : b < s.length := nowB_zero (by omega) (by rw [hc]; intro h; subst h; exact hr (.inl (by decide)))
          have hd := drop_now (s := s) (a := b) (by omega) hlt
          rw [hc] at hd
          rw [hd, quo_ok _ _ h34 h92 (by unfold u8i at hr; omega)] at hb3
          obtain ⟨L', k1, k2, k3⟩ := app c b
          have w := wrapI (i := b + 1) (by omega) (by omega)
          simp only [not_or] at hr
          simp [-aappB, zero5, g1, h34, h92, hid, hr.1, hr.2, k1, w]
          refine ⟨b + 1, _, _, L', by omega, by simp; omega, by omega, hb3, k2, k3 _, fun _ => by have := (List.getElem?_eq_some_iff.1 hL0).1; omega, rfl, ?_⟩
          rw [ob_app, lx_append]
          simp
end Go.Tv
