/-
  The reader of the reference: blanks, signs, words, numbers, strings.
-/
import Derived.Test.YtbofonlhakedpaaGreatDoorTxd
import Derived.Test.YtbofonlhakedpaaGreatDoorTxa
namespace Go.Tv
open Go.Proofs
set_option maxHeartbeats 4000000
def RF (s : List UInt8) (a b : Int) : AObj := .cells [.str s, .int .i64 a, .int .i64 b] 112
noncomputable def fldQ (j : Nat) : Field := (fieldOf CC 112 j).getD default
theorem fq0 : fieldOf CC 112 0 = some (fldQ 0) := by kernel_rfl
theorem fq1 : fieldOf CC 112 1 = some (fldQ 1) := by kernel_rfl
theorem fq2 : fieldOf CC 112 2 = some (fldQ 2) := by kernel_rfl
theorem fqt0 : (fldQ 0).type = 9 := by kernel_rfl
theorem fqt1 : (fldQ 1).type = 3 := by kernel_rfl
theorem fqt2 : (fldQ 2).type = 3 := by kernel_rfl
theorem fqo0 : (fldQ 0).offset = 0 := by kernel_rfl
theorem fqo1 : (fldQ 1).offset = 1 := by kernel_rfl
theorem fqo2 : (fldQ 2).offset = 2 := by kernel_rfl
theorem sz110 : szOf CC 110 = some 1 := by kernel_rfl
theorem sz112 : szOf CC 112 = some 3 := by kernel_rfl
theorem ag112 : aggT CC 112 = some true := by kernel_rfl
theorem ag110 : aggT CC 110 = some false := by kernel_rfl
attribute [simp] fq0 fq1 fq2 fqt0 fqt1 fqt2 fqo0 fqo1 fqo2 sz110 sz112 ag112 ag110
theorem rfcall {f : FuncId} {fn : Func} {c : Code} {rs : List ResultVar} {n : Nat} {s : List UInt8} {a d : Int} {H : Heap} {id : Nat} {rest : List AV} {P : ARet -> Int -> Int -> Heap -> Prop} (hk : okF f = true) (hf : Tryz.prog.funcs[f]? = some fn) (hb : fn.body = some c) (hs : fn.results.toList = rs) (hm : fn.ntmps = n)
    (hr : treeL rest = true) (hH : H[id]? = some (RF s a d))
    (h : ∀ M : Heap, id < M.length -> SD CC (Call CC) c (.ptr id 0 :: (rest ++ List.replicate (n - (rest.length + 1)) .undef)) (M.set id (RF s a d)) (RESD CC (Call CC) rs fun r H1 => ∃ a' d' J, H1 = M.set id (RF s a' d') ++ J /\ P r a' d' J)) :
    ∃ r a' d' J, Call CC f (.ptr id 0 :: rest) H = some (r, H.set id (RF s a' d') ++ J) /\ P r a' d' J := by
  have hid : id < H.length := (List.getElem?_eq_some_iff.1 hH).1
  obtain ⟨h1, h2, h3, h4, h5, h6, h7, h8⟩ := okF_facts (z := false) hk
  have hi : idsL rest = [] := treeL_ids _ hr
  obtain ⟨r, H1, H', k1, ⟨a', d', J, k2, k3⟩, k4, k5, k6, k7, k8⟩ := call_objsA (P := fun r H1 => ∃ a' d' J, (H1[id]? = some (RF s a' d') /\ H1.drop H.length = J) /\ P r a' d' J) (H := H) (args := .ptr id 0 :: rest) (R := [id]) h1 h2 h7 (by rw [h3]; exact hf) h4 h5 h6
    (by simp [treeL, AV.tree]) (by unfold reachL; simp [idsL, AV.ids, hi, reach, hH, RF, AObj.ids]) (by simp [closed, idsL, AV.ids, hi, hH, RF, AObj.ids]) hb hs hm fun M hM hj => by
      have hM' : M[id]? = some (RF s a d) := by rw [hj id (by simp)]; exact hH
      have hl : id < M.length := by rw [hM]; exact hid
      have := h M hl
      rw [set_sameA hM'] at this
      obtain ⟨k, hk⟩ := this
      refine ⟨k, ?_⟩
      simp only [List.length_cons, List.cons_append]
      have imp : ∀ r H1, (∃ a' d' J, H1 = M.set id (RF s a' d') ++ J /\ P r a' d' J) -> H.length ≤ H1.length /\ ∃ a' d' J, (H1[id]? = some (RF s a' d') /\ H1.drop H.length = J) /\ P r a' d' J := by
        rintro r H1 ⟨a', d', J, rfl, hP⟩
        refine ⟨by simp [hM], a', d', J, ⟨by simp [hl], ?_⟩, hP⟩
        rw [<- hM, List.drop_append_of_le_length (by simp)]
        simp
      have hh : ∀ t H1, HAND CC rs (fun r H1 => ∃ a' d' J, H1 = M.set id (RF s a' d') ++ J /\ P r a' d' J) t H1 -> HAND CC rs (fun r H1 => H.length ≤ H1.length /\ ∃ a' d' J, (H1[id]? = some (RF s a' d') /\ H1.drop H.length = J) /\ P r a' d' J) t H1 := by
        rintro t H1 ⟨l, q1, q2⟩
        refine ⟨l, q1, ?_⟩
        match l, q2 with
        | [], q2 => exact imp _ _ q2
        | [v], q2 => exact imp _ _ q2
        | v :: w :: r, q2 => exact imp _ _ q2
      revert hk
      cases arunD CC (Call CC) k c (.ptr id 0 :: (rest ++ List.replicate (n - (rest.length + 1)) .undef)) M with
      | none => exact fun h => h
      | some o =>
        cases o with
        | plain x t H1 => cases x <;> first | exact hh _ _ | exact imp _ _ | exact fun h => h
        | later g dd x t H1 =>
          cases x with
          | normal => rintro ⟨k, q, H2, q1, q2⟩; exact ⟨k, q, H2, q1, hh _ _ q2⟩
          | ret => rintro ⟨k, q, H2, q1, q2⟩; exact ⟨k, q, H2, q1, hh _ _ q2⟩
          | panic v =>
            rintro ⟨k, q, H2, q1, q2⟩
            refine ⟨k, q, H2, q1, ?_⟩
            cases q with
            | none => exact hh _ _ q2
            | some w => exact imp _ _ q2
          | pan v => rintro ⟨k, q, H2, q1, q2, q3⟩; exact ⟨k, q, H2, q1, q2, imp _ _ q3⟩
          | exit j => exact fun h => h
  have e : H' = H.set id (RF s a' d') ++ J := by
   refine List.ext_getElem? fun j => ?_
   rcases Nat.lt_or_ge j H.length with hj | hj
   . rw [List.getElem?_append_left (by simpa using hj)]
     by_cases e : id = j
     . subst e; rw [List.getElem?_set_self hj, k6 id (by simp), k2.1]
     . rw [List.getElem?_set_ne e, k7 j hj (by simpa using fun h => e h.symm)]
   . rw [List.getElem?_append_right (by simpa using hj), k8 j hj, <- k2.2, List.getElem?_drop, List.length_set, show H.length + (j - H.length) = j by omega]
  rw [k1, e]; exact ⟨r, a', d', J, rfl, k3⟩
theorem reach_rf {H : Heap} {id : Nat} {s : List UInt8} {a d : Int} {rest : List AV} (hr : treeL rest = true) (hH : H[id]? = some (RF s a d)) : reachL H (.ptr id 0 :: rest) = [id] := by
  have hi : idsL rest = [] := treeL_ids _ hr
  unfold reachL; simp [idsL, AV.ids, hi, reach, hH, RF, AObj.ids]
theorem c154 {s : List UInt8} {a b : Int} {H : Heap} {id : Nat} (h0 : 0 ≤ a) (h1 : a ≤ s.length) (hH : H[id]? = some (RF s a b)) : Call CC 154 [.ptr id 0] H = some (.ok (.int .u8 (u8i (nowB (s.drop a.toNat)))), H) := by
  obtain ⟨r, a', d', J, h1, rfl, rfl, rfl, rfl⟩ := rfcall (f := 154) (rest := []) (P := fun r a' d' J => r = .ok (.int .u8 (u8i (nowB (s.drop a.toNat)))) /\ a' = a /\ d' = b /\ J = []) (fn := Tryz.f154) rfl (by kernel_rfl) rfl rfl rfl rfl hH (by
    intro M hid
    refine sd_plain rfl ?_
    simp [RF, hid]
    refine ⟨by kernel_rfl, ?_⟩
    by_cases h : a = s.length
    . have e3 : nowB (s.drop a.toNat) = 0 := by rw [List.drop_eq_nil_of_le (by omega)]; rfl
      simp [h] at e3
      simp [h, e3, u8i]
      exact ⟨s.length, b, [], by simp⟩
    . have h' : a < s.length := by omega
      obtain ⟨e2, e3⟩ := now_at h0 h'
      have e1 : idx (.int .i64 a) s.length = some a.toNat := idxI _ _ _ h0 h'
      simp [h, hid, e1, e2, e3, u8i]
      exact ⟨by kernel_rfl, a, b, [], by simp⟩)
  rw [h1, set_sameA hH, List.append_nil]
attribute [simp] RF
def I93 (M : Heap) (s : List UInt8) (id : Nat) (a d : Int) (i : Nat) (t : List AV) (H : Heap) : Prop := ∃ b, b = a + i /\ b ≤ s.length /\ skipB (s.drop b.toNat) = skipB (s.drop a.toNat) /\ H = M.set id (RF s b d) /\ Fit (some (.ptr id 0) :: List.replicate 43 none) t
theorem c93 {s : List UInt8} {a d : Int} {H : Heap} {id : Nat} (hs : s.length ≤ 1000000) (h0 : 0 ≤ a) (h1 : a ≤ s.length) (hH : H[id]? = some (RF s a d)) : Call CC 93 [.ptr id 0] H = some (.ok (.tup []), H.set id (RF s (pos s (skipB (s.drop a.toNat))) d)) := by
  obtain ⟨r, a', d', J, h1, rfl, rfl, rfl, rfl⟩ := rfcall (f := 93) (rest := []) (P := fun r a' d' J => r = .ok (.tup []) /\ a' = pos s (skipB (s.drop a.toNat)) /\ d' = d /\ J = []) (fn := Tryz.f93) rfl (by kernel_rfl) rfl rfl rfl rfl hH (by
    intro M hid
    refine sd_plain rfl ?_
    simp
    refine st_iter (I93 M s id a d) s.length ?_ ?_
    . exact ⟨a, by simp, h1, rfl, rfl, by simp⟩
    . rintro i t H ⟨b, hb, hb2, hb3, rfl, ht⟩
      obtain ⟨e, rfl⟩ := ht.elim
      clear ht
      refine ⟨by omega, ?_⟩
      have last : skipB (s.drop b.toNat) = s.drop b.toNat -> b = pos s (skipB (s.drop a.toNat)) := fun hn => pos_of (by omega) (by omega) (by rw [<- hb3]; exact hn.symm)
      by_cases hlt : b < s.length
      . obtain ⟨hlt2, hnow⟩ := now_at (by omega) hlt
        have hd := drop_now (s := s) (a := b) (by omega) hlt
        have e1 : idx (.int .i64 b) s.length = some b.toNat := idxI _ _ _ (by omega) hlt
        generalize hc : nowB (s.drop b.toNat) = c at hnow hd
        have e2 : ((s[b.toNat]).toNat : Int) = u8i c := by rw [hnow]; rfl
        have w := wrapI (i := b + 1) (by omega) (by omega)
        by_cases h32 : c = 32
        . rw [hd, skipB, if_pos (.inl h32)] at hb3
          simp [hid, hlt, e1, e2, hlt2, h32, w]
          refine ⟨by kernel_rfl, ?_⟩
          exact ⟨b + 1, by omega, by omega, hb3, rfl, by simp⟩
        . by_cases h10 : c = 10
          . rw [hd, skipB, if_pos (.inr h10)] at hb3
            simp [hid, hlt, e1, e2, hlt2, h10, w]
            refine ⟨by kernel_rfl, ?_⟩
            exact ⟨b + 1, by omega, by omega, hb3, rfl, by simp⟩
          . have hl := last (by rw [hd, skipB, if_neg (by simp [h32, h10])])
            simp [hid, hlt, e1, e2, hlt2, h32, h10]
            exact ⟨by kernel_rfl, b, d, [], by simp, hl, rfl, rfl⟩
      . have hl := last (by rw [List.drop_eq_nil_of_le (by omega)]; rfl)
        simp [hid, hlt]
        exact ⟨by kernel_rfl, b, d, [], by simp, hl, rfl, rfl⟩)
  rw [h1, List.append_nil]
end Go.Tv
namespace Go.Tv
open Go.Proofs
set_option maxHeartbeats 4000000
theorem c159 {s : List UInt8} {a b n : Int} {H : Heap} {id : Nat} (hH : H[id]? = some (RF s a b)) : Call CC 159 [.ptr id 0, .int .i64 n] H = some (.ok (.tup []), H.set id (RF s a (if b = -1 then n else b))) := by
  obtain ⟨r, a', d', J, h1, rfl, rfl, rfl, rfl⟩ := rfcall (f := 159) (rest := [.int .i64 n]) (P := fun r a' d' J => r = .ok (.tup []) /\ a' = a /\ d' = (if b = -1 then n else b) /\ J = []) (fn := Tryz.f159) rfl (by kernel_rfl) rfl rfl rfl rfl hH (by
    intro M hid
    refine sd_plain rfl ?_
    by_cases hb : b = -1
    . simp [hid, hb]
      exact ⟨a, n, [], by simp⟩
    . simp [hid, hb]
      exact ⟨a, b, [], by simp⟩)
  rw [h1, List.append_nil]
theorem c94 {s : List UInt8} {a b : Int} {H : Heap} {id : Nat} (hH : H[id]? = some (RF s a b)) : Call CC 94 [.ptr id 0] H = some (.ok (.tup []), H.set id (RF s a (if b = -1 then a else b))) := by
  obtain ⟨r, a', d', J, h1, rfl, rfl, rfl, rfl⟩ := rfcall (f := 94) (rest := []) (P := fun r a' d' J => r = .ok (.tup []) /\ a' = a /\ d' = (if b = -1 then a else b) /\ J = []) (fn := Tryz.f94) rfl (by kernel_rfl) rfl rfl rfl rfl hH (by
    intro M hid
    refine sd_plain rfl ?_
    have g1 := c159 (s := s) (a := a) (b := b) (n := a) (H := M.set id (RF s a b)) (id := id) (by simp [hid])
    simp only [RF, List.set_set] at g1
    simp [hid, g1]
    exact ⟨a, _, [], (List.append_nil _).symm, rfl, rfl, rfl⟩)
  rw [h1, List.append_nil]
theorem c155 (c : Int) (H : Heap) : Call CC 155 [.int .u8 c] H = some (.ok (.bool (partB c)), H) := by
  refine cwp (fn := Tryz.f155) rfl (by kernel_rfl) rfl rfl rfl rfl rfl rfl ?_ H
  unfold partB
  simp [c170]
  cases h1 : letterB c <;> cases h2 : digitB c <;> simp [c171, h2]
theorem c228 (w : List UInt8) (H : Heap) : Call CC 228 [.str w] H = some (.ok (V.mk 2 0 w [] []).av, H) := by
  refine cwp (fn := Tryz.f228) rfl (by kernel_rfl) rfl rfl rfl rfl rfl rfl ?_ H
  simp [V.av, avs, undv24, fv24_all, fv24_0, fv24_2]
theorem c160 (w : List UInt8) (H : Heap) : Call CC 160 [.str w] H = some (.ok (V.mk 3 0 w [] []).av, H) := by
  refine cwp (fn := Tryz.f160) rfl (by kernel_rfl) rfl rfl rfl rfl rfl rfl ?_ H
  simp [V.av, avs, undv24, fv24_all, fv24_0, fv24_2]
theorem c68 (b : Bool) (H : Heap) : Call CC 68 [.bool b] H = some (.ok (V.mk 0 (if b then 1 else 0) [] [] []).av, H) := by
  refine cwp (fn := Tryz.f68) rfl (by kernel_rfl) rfl rfl rfl rfl rfl rfl ?_ H
  simp [V.av, avs, c84, undv24, fv24_all, fv24_0, fv24_1]
def I156 (M : Heap) (s : List UInt8) (id : Nat) (a d : Int) (i : Nat) (t : List AV) (H : Heap) : Prop := ∃ b, b = a + i /\ b ≤ s.length /\ (s.drop b.toNat).dropWhile partC = (s.drop a.toNat).dropWhile partC /\ H = M.set id (RF s b d) /\ Fit (some (.ptr id 0) :: none :: some (.str []) :: some (.int .i64 a) :: List.replicate 44 none) t
theorem c156 {s : List UInt8} {a d : Int} {H : Heap} {id : Nat} (hs : s.length ≤ 1000000) (h0 : 0 ≤ a) (h1 : a ≤ s.length) (hH : H[id]? = some (RF s a d)) :
    Call CC 156 [.ptr id 0] H = some (.ok (.str ((s.drop a.toNat).takeWhile partC)), H.set id (RF s (pos s ((s.drop a.toNat).dropWhile partC)) d)) := by
  obtain ⟨r, a', d', J, h1, rfl, rfl, rfl, rfl⟩ := rfcall (f := 156) (rest := []) (P := fun r a' d' J => r = .ok (.str ((s.drop a.toNat).takeWhile partC)) /\ a' = pos s ((s.drop a.toNat).dropWhile partC) /\ d' = d /\ J = []) (fn := Tryz.f156) rfl (by kernel_rfl) rfl rfl rfl rfl hH (by
    intro M hid
    refine sd_plain rfl ?_
    simp [hid]
    refine st_iter (I156 M s id a d) s.length ?_ ?_
    . exact ⟨a, by simp, h1, rfl, rfl, by simp⟩
    . rintro i t H ⟨b, hb, hb2, hb3, rfl, ht⟩
      obtain ⟨e, rfl⟩ := ht.elim
      clear ht
      refine ⟨by omega, ?_⟩
      have stop : (s.drop b.toNat).dropWhile partC = s.drop b.toNat -> b = pos s ((s.drop a.toNat).dropWhile partC) /\ (s.take b.toNat).drop a.toNat = (s.drop a.toNat).takeWhile partC := fun hst => by
        rw [hst] at hb3
        refine ⟨pos_of (by omega) hb2 hb3, ?_⟩
        rw [List.drop_take, <- drop_len, <- hb3, List.length_drop, List.length_drop]
        congr 1; omega
      have e5 : bnd s.length (some (some (.int .i64 b))) s.length = some b.toNat := bndI (by omega) hb2
      have e6 : bnd 0 (some (some (.int .i64 a))) b.toNat = some a.toNat := bndI h0 (by omega)
      by_cases hlt : b < s.length
      . obtain ⟨hlt2, hnow⟩ := now_at (by omega) hlt
        have hd := drop_now (s := s) (a := b) (by omega) hlt
        have e1 : idx (.int .i64 b) s.length = some b.toNat := idxI _ _ _ (by omega) hlt
        generalize hc : nowB (s.drop b.toNat) = c at hnow hd
        have e2 : ((s[b.toNat]).toNat : Int) = u8i c := by rw [hnow]; rfl
        cases hp : partC c
        . have hp' : partB (u8i c) = false := hp
          obtain ⟨k1, k2⟩ := stop (dw_stop (by rw [hc]; exact hp))
          simp [hid, hlt, e1, e2, hlt2, c155, hp', e5, e6, k2]
          exact ⟨by kernel_rfl, by kernel_rfl, b, d, [], by simp, k1, rfl, rfl⟩
        . have hp' : partB (u8i c) = true := hp
          have w := wrapI (i := b + 1) (by omega) (by omega)
          rw [hd, List.dropWhile_cons_of_pos hp] at hb3
          simp [hid, hlt, e1, e2, hlt2, c155, hp', w]
          exact ⟨by kernel_rfl, b + 1, by omega, by omega, hb3, rfl, by simp⟩
      . obtain ⟨k1, k2⟩ := stop (by rw [List.drop_eq_nil_of_le (by omega)]; rfl)
        simp [hid, hlt, e5, e6, k2]
        exact ⟨by kernel_rfl, by kernel_rfl, b, d, [], by simp, k1, rfl, rfl⟩)
  rw [h1, List.append_nil]
def I157 (s : List UInt8) (i : Nat) (t : List AV) (_H : Heap) : Prop := i ≤ s.length /\ (s.drop i).all digC = s.all digC /\ Fit [some (.str s), none, some (.bool false), some (.int .i64 i), none, none, none, none, none, none, none, none, none, none, none, none, none] t
theorem c157 (s : List UInt8) (H : Heap) (hs : s.length ≤ 1000000) : Call CC 157 [.str s] H = some (.ok (.bool (s.all digC && !s.isEmpty)), H) := by
  refine cwp (fn := Tryz.f157) rfl (by kernel_rfl) rfl rfl rfl rfl rfl rfl ?_ H
  simp
  refine st_iter (I157 s) s.length ?_ ?_
  . exact ⟨by omega, rfl, by simp⟩
  . rintro i t H ⟨hi, hd, ht⟩
    obtain ⟨e, rfl⟩ := ht.elim
    clear ht
    refine ⟨hi, ?_⟩
    by_cases hil : i < s.length
    . rw [List.drop_eq_getElem_cons hil, List.all_cons] at hd
      have w := wrapI (i := (i : Int) + 1) (by omega) (by omega)
      have e1 : ((s[i]).toNat : Int) = u8i s[i] := rfl
      cases hp : digC s[i]
      . have hp' : digitB (u8i s[i]) = false := hp
        rw [hp, Bool.false_and] at hd
        rw [<- hd]
        simp [hil, e1, c171, hp']
      . have hp' : digitB (u8i s[i]) = true := hp
        rw [hp, Bool.true_and] at hd
        simp [hil, e1, c171, hp', w]
        exact ⟨by omega, hd, by simp⟩
    . have hi' : i = s.length := by omega
      subst hi'
      rw [List.drop_length] at hd
      rw [<- hd]
      simp
end Go.Tv
namespace Go.Tv
open Go.Proofs
set_option maxHeartbeats 8000000
def OUTF {α : Type} (s : List UInt8) (val : α -> AV) (o : PR α) (r : ARet) (a' b' : Int) : Prop := match o with
  | .ok (v, r') => r = .ok (val v) /\ a' = pos s r' /\ b' = -1 /\ r' <:+ s
  | .error e => (∃ w, r = .ok (val w)) /\ b' = (s.length : Int) - e /\ 0 ≤ a' /\ a' ≤ s.length
def I158 (M : Heap) (s w : List UInt8) (id : Nat) (a n : Int) (i : Nat) (t : List AV) (H : Heap) : Prop := i ≤ w.length /\ i ≤ 6 /\ 0 ≤ valB (w.take i) /\ valB (w.take i) < (10 : Int) ^ i /\ H = M.set id (RF s a (-1)) /\
  Fit (some (.ptr id 0) :: some (.str w) :: some (.int .i64 n) :: none :: none :: none :: none :: some (.int .i64 (valB (w.take i))) :: some (.int .i64 i) :: List.replicate 22 none) t
theorem c158 {s w : List UInt8} {a n : Int} {H : Heap} {id : Nat} (hw : w.length ≤ 1000000) (hd : w.all digC = true) (hn : 0 ≤ n /\ n ≤ 1000000) (hH : H[id]? = some (RF s a (-1))) :
    Call CC 158 [.ptr id 0, .str w, .int .i64 n] H = some (.ok (.int .i64 (if 6 < w.length then 0 else valB w)), H.set id (RF s a (if 6 < w.length then n + 6 else -1))) := by
  obtain ⟨r, a', d', J, h1, rfl, rfl, rfl, rfl⟩ := rfcall (f := 158) (rest := [.str w, .int .i64 n]) (P := fun r a' d' J => r = .ok (.int .i64 (if 6 < w.length then 0 else valB w)) /\ a' = a /\ d' = (if 6 < w.length then n + 6 else -1) /\ J = []) (fn := Tryz.f158) rfl (by kernel_rfl) rfl rfl rfl rfl hH (by
    intro M hid
    refine sd_plain rfl ?_
    simp
    refine st_iter (I158 M s w id a n) 6 ?_ ?_
    . exact ⟨by omega, by omega, by simp [valB], by simp [valB], rfl, by simp [valB]⟩
    . rintro i t H ⟨hi, hi6, hv0, hv1, rfl, ht⟩
      obtain ⟨e, rfl⟩ := ht.elim
      clear ht
      refine ⟨hi6, ?_⟩
      have g1 := c159 (s := s) (a := a) (b := -1) (n := n + 6) (H := M.set id (RF s a (-1))) (id := id) (by simp [hid])
      simp only [RF, List.set_set, if_true] at g1
      have hp10 : (10 : Int) ^ i ≤ 10 ^ 6 := by
        have : (10 : Nat) ^ i ≤ 10 ^ 6 := Nat.pow_le_pow_right (by omega) hi6
        exact_mod_cast this
      have hp10' : (10 : Int) ^ 6 = 1000000 := by decide
      have hps : (10 : Int) ^ (i + 1) = 10 ^ i * 10 := Int.pow_succ 10 i
      generalize hV : valB (w.take i) = V at hv0 hv1
      by_cases hil : i < w.length
      . by_cases h6 : i = 6
        . have wn := wrapI (i := n + 6) (by omega) (by omega)
          have hw6 : 6 < w.length := by omega
          subst h6
          have hw6' : (6 : Int) < w.length := by omega
          simp [hw6, hw6', wn, g1]
          exact ⟨a, n + 6, [], by simp⟩
        . have hdg : digC w[i] = true := List.all_eq_true.1 hd _ (List.getElem_mem hil)
          have hdg' : 48 ≤ u8i w[i] /\ u8i w[i] ≤ 57 := by simpa [digC, digitB] using hdg
          have e1 : ((w[i]).toNat : Int) = u8i w[i] := rfl
          have h6' : ¬ (i : Int) = 6 := by omega
          have hj := wrapI (i := (i : Int) + 1) (by omega) (by omega)
          have w1 := wrapI (i := 10 * V) (by omega) (by omega)
          have w2 : IntKind.u8.wrap (u8i w[i] - 48) = u8i w[i] - 48 := wrapU8 (by omega) (by omega)
          have w3 := wrapI (i := u8i w[i] - 48) (by omega) (by omega)
          have w4 := wrapI (i := 10 * V + (u8i w[i] - 48)) (by omega) (by omega)
          simp [hil, h6', e1, w1, w2, w3, w4, hj]
          have e2 : w.take (i + 1) = w.take i ++ [w[i]] := by rw [List.take_succ_eq_append_getElem hil]
          refine ⟨by omega, by omega, ?_, ?_, rfl, ?_⟩
          . rw [e2, valB_snoc, hV]; omega
          . rw [e2, valB_snoc, hV, hps]; omega
          . rw [e2, valB_snoc, hV]; simp; omega
      . have hi' : i = w.length := by omega
        have h6 : ¬ 6 < w.length := by omega
        rw [hi', List.take_length] at hV
        subst hi'
        simp [h6, hV]
        exact ⟨a, -1, [], by simp⟩)
  rw [h1, List.append_nil]
theorem c229 {s : List UInt8} {a b : Int} {c : UInt8} {H : Heap} {id : Nat} (hs : s.length ≤ 1000000) (hc0 : c ≠ 0) (h0 : 0 ≤ a) (h1 : a ≤ s.length) (hH : H[id]? = some (RF s a b)) :
    Call CC 229 [.ptr id 0, .int .u8 (u8i c)] H = some (.ok (.bool (decide (b = -1) && decide (nowB (skipB (s.drop a.toNat)) = c))), H.set id (RF s (pos s (skipB (s.drop a.toNat))) b)) := by
  obtain ⟨r, a', d', J, h1, rfl, rfl, rfl, rfl⟩ := rfcall (f := 229) (rest := [.int .u8 (u8i c)]) (P := fun r a' d' J => r = .ok (.bool (decide (b = -1) && decide (nowB (skipB (s.drop a.toNat)) = c))) /\ a' = pos s (skipB (s.drop a.toNat)) /\ d' = b /\ J = []) (fn := Tryz.f229) rfl (by kernel_rfl) rfl rfl rfl rfl hH (by
    intro M hid
    refine sd_plain rfl ?_
    have g1 := c93 (s := s) (a := a) (d := b) (H := M.set id (RF s a b)) (id := id) hs h0 h1 (by simp [hid])
    have suf : skipB (s.drop a.toNat) <:+ s := (skip_suf _).trans (List.drop_suffix _ _)
    obtain ⟨d, hd⟩ : ∃ d, d = pos s (skipB (s.drop a.toNat)) := ⟨_, rfl⟩
    have hd0 : 0 ≤ d := hd ▸ pos_ge suf
    have hd1 : d ≤ s.length := hd ▸ pos_le _ _
    have hdd : s.drop d.toNat = skipB (s.drop a.toNat) := by rw [hd]; exact pos_drop suf
    rw [<- hd] at g1 ⊢
    have g2 := c154 (s := s) (a := d) (b := b) (H := M.set id (RF s d b)) (id := id) hd0 hd1 (by simp [hid])
    have g3 := reach_rf (s := s) (a := d) (d := b) (H := M.set id (RF s d b)) (id := id) (rest := []) rfl (by simp [hid])
    rw [hdd] at g2
    simp only [RF, List.set_set] at g1 g2 g3
    have e0 : nowB (skipB (s.drop a.toNat)) = c -> d < s.length := fun h => nowB_zero hd0 (by rw [hdd, h]; exact hc0)
    generalize nowB (skipB (s.drop a.toNat)) = x at g2 e0 ⊢
    by_cases hb : b = -1
    . subst hb
      by_cases hx : x = c
      . have hlt := e0 hx
        simp [g1, g2, g3, hx, hid, hlt]
        exact ⟨by kernel_rfl, d, -1, [], by simp⟩
      . simp [g1, g2, g3, hx, hid, u8iE]
        exact ⟨by kernel_rfl, d, -1, [], by simp⟩
    . simp [g1, hb, hid]
      exact ⟨by kernel_rfl, d, b, [], by simp⟩)
  rw [h1, List.append_nil]
def signO (s : List UInt8) (b : Int) (o : Except Nat (List UInt8)) (a' b' : Int) : Prop := 0 ≤ a' /\ a' ≤ s.length /\ (b ≠ -1 -> b' = b) /\ (b = -1 -> match o with
  | .ok r' => a' = pos s r' /\ b' = -1 /\ r' <:+ s
  | .error e => b' = (s.length : Int) - e)
def I230 (M : Heap) (s sign : List UInt8) (id : Nat) (a : Int) (i : Nat) (t : List AV) (H : Heap) : Prop := ∃ d : Int, 0 ≤ d /\ i ≤ sign.length /\ d ≤ s.length /\ mustG (sign.drop i) (s.drop d.toNat) = mustB sign (s.drop a.toNat) /\ H = M.set id (RF s d (-1)) /\ Fit (some (.ptr id 0) :: some (.str sign) :: none :: none :: some (.int .i64 i) :: List.replicate 31 none) t
theorem c230 {s sign : List UInt8} {a b : Int} {H : Heap} {id : Nat} (hs : s.length ≤ 1000000) (hg : sign.length ≤ 100) (hg0 : ∀ c ∈ sign, c ≠ 0) (h0 : 0 ≤ a) (h1 : a ≤ s.length) (hH : H[id]? = some (RF s a b)) :
    ∃ r a' b' J, Call CC 230 [.ptr id 0, .str sign] H = some (r, H.set id (RF s a' b') ++ J) /\ r = .ok (.tup []) /\ J = [] /\ signO s b (mustB sign (s.drop a.toNat)) a' b' := by
  refine rfcall (f := 230) (rest := [.str sign]) (P := fun r a' b' J => r = .ok (.tup []) /\ J = [] /\ signO s b (mustB sign (s.drop a.toNat)) a' b') (fn := Tryz.f230) rfl (by kernel_rfl) rfl rfl rfl rfl hH ?_
  intro M hid
  refine sd_plain rfl ?_
  have g1 := c93 (s := s) (a := a) (d := b) (H := M.set id (RF s a b)) (id := id) hs h0 h1 (by simp [hid])
  have suf : skipB (s.drop a.toNat) <:+ s := (skip_suf _).trans (List.drop_suffix _ _)
  simp only [RF, List.set_set] at g1
  simp [g1]
  by_cases hb : b = -1
  . subst hb
    refine st_iter (I230 M s sign id a) sign.length ?_ ?_
    . refine ⟨pos s (skipB (s.drop a.toNat)), pos_ge suf, by omega, pos_le _ _, ?_, rfl, by simp⟩
      rw [pos_drop suf]; rfl
    . rintro i t H ⟨d, hd, hi1, hd2, hd3, rfl, ht⟩
      obtain ⟨e, rfl⟩ := ht.elim
      clear ht
      refine ⟨hi1, ?_⟩
      have g2 := c154 (s := s) (a := d) (b := -1) (H := M.set id (RF s d (-1))) (id := id) hd hd2 (by simp [hid])
      have g3 := c94 (s := s) (a := d) (b := -1) (H := M.set id (RF s d (-1))) (id := id) (by simp [hid])
      have g4 := reach_rf (s := s) (a := d) (d := -1) (H := M.set id (RF s d (-1))) (id := id) (rest := []) rfl (by simp [hid])
      generalize hc : nowB (s.drop d.toNat) = c at g2
      simp only [RF, List.set_set, if_true] at g2 g3 g4
      by_cases hi : i < sign.length
      . have e1 : sign.drop i = sign[i] :: sign.drop (i + 1) := List.drop_eq_getElem_cons hi
        rw [e1] at hd3
        have hx0 := hg0 sign[i] (List.getElem_mem hi)
        generalize hx : sign[i] = x at hd3 hx0
        have w := wrapI (i := (i : Int) + 1) (by omega) (by omega)
        by_cases hcx : c = x
        . have hlt : d < s.length := nowB_zero hd (by rw [hc, hcx]; exact hx0)
          have hdn := drop_now hd hlt
          rw [hc, hcx] at hdn
          rw [hdn, must_eq] at hd3
          have w2 := wrapI (i := d + 1) (by omega) (by omega)
          simp [hi, hx, g2, g4, hcx, hid, w, w2]
          exact ⟨by kernel_rfl, d + 1, by omega, by omega, by omega, hd3, rfl, by simp⟩
        . rw [must_ne (by rw [hc]; exact hcx)] at hd3
          simp [hi, hx, g2, g3, g4, hcx, hid]
          refine ⟨by kernel_rfl, d, d, [], (List.append_nil _).symm, rfl, hd, hd2, fun h => absurd rfl h, fun _ => ?_⟩
          rw [<- hd3]
          exact (left_at hd hd2).symm
      . have hi' : i = sign.length := by omega
        subst hi'
        rw [List.drop_length] at hd3
        simp
        refine ⟨d, -1, [], (List.append_nil _).symm, rfl, hd, hd2, fun h => absurd rfl h, fun _ => ?_⟩
        rw [<- hd3]
        exact ⟨(pos_at hd hd2).symm, rfl, List.drop_suffix _ _⟩
  . refine st_iter (fun i t H => i = 0 /\ H = M.set id (RF s (pos s (skipB (s.drop a.toNat))) b) /\ Fit (some (.ptr id 0) :: some (.str sign) :: none :: none :: some (.int .i64 0) :: List.replicate 31 none) t) 1 ?_ ?_
    . exact ⟨rfl, rfl, by simp⟩
    . rintro i t H ⟨rfl, rfl, ht⟩
      obtain ⟨e, rfl⟩ := ht.elim
      clear ht
      refine ⟨by omega, ?_⟩
      by_cases hsg : 0 < sign.length
      . simp [hsg, hid, hb]
        exact ⟨_, _, [], (List.append_nil _).symm, rfl, pos_ge suf, pos_le _ _, fun _ => rfl, fun h => absurd h hb⟩
      . simp [hsg]
        exact ⟨_, _, [], (List.append_nil _).symm, rfl, pos_ge suf, pos_le _ _, fun _ => rfl, fun h => absurd h hb⟩
end Go.Tv
namespace Go.Tv
open Go.Proofs
set_option maxHeartbeats 8000000
set_option maxRecDepth 8000
theorem ints2 (k : IntKind) (a b : Int) : ints [.int k a, .int k b] = some (k, [a, b]) := by simp [ints]
attribute [simp] ints2
theorem c164 {s : List UInt8} {a b : Int} {c : UInt8} {H : Heap} {id : Nat} (hs : s.length ≤ 1000000) (hc0 : c ≠ 0) (h0 : 0 ≤ a) (h1 : a ≤ s.length) (hH : H[id]? = some (RF s a b)) :
    Call CC 164 [.ptr id 0, .int .u8 (u8i c)] H = some (.ok (.tup []), H.set id (RF s (if a < s.length then a + 1 else a) (if b = -1 /\ nowB (s.drop a.toNat) ≠ c then a else b))) := by
  obtain ⟨r, a', d', J, k1, rfl, rfl, rfl, rfl⟩ := rfcall (f := 164) (rest := [.int .u8 (u8i c)]) (P := fun r a' d' J => r = .ok (.tup []) /\ a' = (if a < s.length then a + 1 else a) /\ d' = (if b = -1 /\ nowB (s.drop a.toNat) ≠ c then a else b) /\ J = []) (fn := Tryz.f164) rfl (by kernel_rfl) rfl rfl rfl rfl hH (by
    intro M hid
    refine sd_plain rfl ?_
    have g1 := c94 (s := s) (a := a) (b := b) (H := M.set id (RF s a b)) (id := id) (by simp [hid])
    have g3 := reach_rf (s := s) (a := a) (d := b) (H := M.set id (RF s a b)) (id := id) (rest := []) rfl (by simp [hid])
    simp only [RF, List.set_set] at g1 g3
    have w := wrapI (i := a + 1) (by omega) (by omega)
    have hm1 : ¬ a < s.length -> (s.length : Int) < a + 1 := by omega
    have hm2 : a < s.length -> ¬ (s.length : Int) < a + 1 := by omega
    by_cases hlt : a < s.length
    . obtain ⟨hlt2, hnow⟩ := now_at h0 hlt
      have e1 : idx (.int .i64 a) s.length = some a.toNat := idxI _ _ _ h0 hlt
      generalize hc : nowB (s.drop a.toNat) = x at hnow
      have e2 : ((s[a.toNat]).toNat : Int) = u8i x := by rw [hnow]; rfl
      have hne : ¬ a = s.length := by omega
      by_cases hb : b = -1
      . subst hb
        by_cases hx : x = c
        . simp [hid, hlt, hlt2, hne, e1, e2, hx, w, hm2 hlt]
          exact ⟨by kernel_rfl, by kernel_rfl, _, _, [], (List.append_nil _).symm, rfl, rfl, rfl⟩
        . simp [hid, hlt, hlt2, hne, e1, e2, hx, u8iE, g1, w, hm2 hlt]
          exact ⟨by kernel_rfl, by kernel_rfl, _, _, [], (List.append_nil _).symm, rfl, rfl, rfl⟩
      . simp [hid, hlt, hb, w, hm2 hlt]
        exact ⟨by kernel_rfl, by kernel_rfl, _, _, [], (List.append_nil _).symm, rfl, rfl, rfl⟩
    . have hne : a = s.length := by omega
      subst hne
      have hn0 : ¬ nowB [] = c := fun h => hc0 h.symm
      by_cases hb : b = -1
      . subst hb
        simp [hid, g1, w, hm1 hlt, hn0]
        exact ⟨by kernel_rfl, by kernel_rfl, _, _, [], (List.append_nil _).symm, rfl, rfl, rfl⟩
      . simp [hid, hb, w, hm1 hlt]
        exact ⟨by kernel_rfl, by kernel_rfl, _, _, [], (List.append_nil _).symm, rfl, rfl, rfl⟩)
  rw [k1, List.append_nil]
theorem int_av (n : Int) : (intV n).av = .agg [.int .i64 1, .int .i64 n, .str [], .list [] none, .list [] none] := rfl
theorem valB_bnd0 : ∀ (n : Nat) (w : List UInt8), w.length = n -> w.all digC = true -> 0 ≤ valB w /\ valB w < (10 : Int) ^ n
  | 0, w, h, _ => by rw [List.length_eq_zero_iff.1 h]; decide
  | n + 1, w, h, hd => by
    have hne : w ≠ [] := by intro e; subst e; cases h
    have e := List.dropLast_concat_getLast hne
    have hd' : (w.dropLast).all digC = true := List.all_eq_true.2 fun x hx => List.all_eq_true.1 hd x (List.dropLast_subset _ hx)
    have ih := valB_bnd0 n w.dropLast (by simp [h]) hd'
    have hl : digC (w.getLast hne) = true := List.all_eq_true.1 hd _ (List.getLast_mem hne)
    have hl' : 48 ≤ u8i (w.getLast hne) /\ u8i (w.getLast hne) ≤ 57 := by simpa [digC, digitB] using hl
    have hp : (10 : Int) ^ (n + 1) = 10 ^ n * 10 := Int.pow_succ 10 n
    rw [<- e, valB_snoc, hp]
    omega
theorem valB_bnd {w : List UInt8} (hd : w.all digC = true) (hl : w.length ≤ 6) : 0 ≤ valB w /\ valB w < 1000000 := by
  have h := valB_bnd0 _ w rfl hd
  have : (10 : Int) ^ w.length ≤ 10 ^ 6 := by
    have : (10 : Nat) ^ w.length ≤ 10 ^ 6 := Nat.pow_le_pow_right (by omega) hl
    exact_mod_cast this
  have h6 : (10 : Int) ^ 6 = 1000000 := by decide
  omega
def I161 (M : Heap) (s : List UInt8) (id : Nat) (a : Int) (i : Nat) (t : List AV) (H : Heap) : Prop := ∃ b, b = a + i /\ b ≤ s.length /\ (s.drop b.toNat).dropWhile digC = (s.drop a.toNat).dropWhile digC /\ H = M.set id (RF s b (-1)) ++ [zc24] /\
  Fit (some (.ptr id 0) :: none :: some (.ptr M.length 0) :: some (.int .i64 a) :: List.replicate 91 none) t
theorem c161 {s : List UInt8} {a : Int} {H : Heap} {id : Nat} (hs : s.length ≤ 1000000) (h0 : 0 ≤ a) (h1 : a ≤ s.length) (hH : H[id]? = some (RF s a (-1))) :
    ∃ r a' b' J, Call CC 161 [.ptr id 0] H = some (r, H.set id (RF s a' b') ++ J) /\ OUTF s V.av (numP (-1) (s.drop a.toNat)) r a' b' := by
  refine rfcall (f := 161) (rest := []) (P := fun r a' b' _ => OUTF s V.av (numP (-1) (s.drop a.toNat)) r a' b') (fn := Tryz.f161) rfl (by kernel_rfl) rfl rfl rfl rfl hH ?_
  intro M hid
  refine sd_plain rfl ?_
  simp [hid]
  refine st_iter (I161 M s id a) s.length ?_ ?_
  . exact ⟨a, by simp, h1, rfl, rfl, by simp⟩
  . rintro i t H ⟨b, hb, hb2, hb3, rfl, ht⟩
    obtain ⟨e, rfl⟩ := ht.elim
    clear ht
    refine ⟨by omega, ?_⟩
    simp only [zc24]
    have tw := drop_len (p := digC) (s.drop a.toNat)
    obtain ⟨w, hw⟩ : ∃ w, w = (s.take b.toNat).drop a.toNat := ⟨_, rfl⟩
    have g1 := c94 (s := s) (a := b) (b := -1) (H := M.set id (RF s b (-1)) ++ [zc24]) (id := id) (by simp [hid])
    have g3 := reach_rf (s := s) (a := b) (d := -1) (H := M.set id (RF s b (-1)) ++ [zc24]) (id := id) (rest := []) rfl (by simp [hid])
    have e5 : bnd s.length (some (some (.int .i64 b))) s.length = some b.toNat := bndI (by omega) hb2
    have e6 : bnd 0 (some (some (.int .i64 a))) b.toNat = some a.toNat := bndI h0 (by omega)
    have ws := wrapI (i := b - a) (by omega) (by omega)
    have fin : (s.drop b.toNat).dropWhile digC = s.drop b.toNat -> (numP (-1) (s.drop a.toNat) = if 6 < i then .error ((s.drop a.toNat).length - 6) else if i = 0 \/ partC (nowB (s.drop b.toNat)) = true then .error (s.drop b.toNat).length else .ok (intV (-1 * valB w), s.drop b.toNat)) /\ w.length = i /\ w.all digC = true := fun hst => by
      rw [hst] at hb3
      have hl := tw_len digC (s.drop a.toNat)
      have hl2 : (s.drop b.toNat).length = s.length - b.toNat := List.length_drop
      rw [<- hb3, hl2, List.length_drop] at hl
      have hli : ((s.drop a.toNat).takeWhile digC).length = i := by omega
      have htw : (s.drop a.toNat).takeWhile digC = w := by
        rw [hw, List.drop_take, <- tw, <- hb3, hl2, List.length_drop]; congr 1; omega
      refine ⟨?_, by rw [<- htw, hli], by rw [<- htw]; exact List.all_takeWhile⟩
      unfold numP
      rw [<- hb3, hli, htw]
    have hwl : w.length ≤ 1000000 := by rw [hw, List.length_drop, List.length_take]; omega
    simp only [RF, zc24] at g1 g3
    simp [hid] at g1
    have leaf : (s.drop b.toNat).dropWhile digC = s.drop b.toNat -> ∃ v, Call CC 158 [.ptr id 0, .str w, .int .i64 a] (M.set id (.cells [.str s, .int .i64 b, .int .i64 (-1)] 112) ++ [.cells [.int .i64 0, .int .i64 0, .str [], .empty, .empty] 24]) = some (.ok (.int .i64 v), M.set id (.cells [.str s, .int .i64 b, .int .i64 (if 6 < i then a + 6 else -1)] 112) ++ [.cells [.int .i64 0, .int .i64 0, .str [], .empty, .empty] 24]) /\ IntKind.i64.wrap (-v) = -v /\ ((i ≤ 6 /\ i ≠ 0 /\ partC (nowB (s.drop b.toNat)) = false) \/ 6 < i -> OUTF s V.av (numP (-1) (s.drop a.toNat)) (.ok (intV (-v)).av) b (if 6 < i then a + 6 else -1)) := fun hst => by
      obtain ⟨k1, k2, k3⟩ := fin hst
      have g2 := c158 (s := s) (w := w) (a := b) (n := a) (H := M.set id (RF s b (-1)) ++ [zc24]) (id := id) hwl k3 ⟨h0, by omega⟩ (by simp [hid])
      simp only [RF, zc24] at g2
      simp [hid] at g2
      rw [k2] at g2
      refine ⟨_, g2, ?_, ?_⟩
      . by_cases h6 : 6 < i
        . simp [h6]; kernel_rfl
        . simp only [if_neg h6]
          have := valB_bnd k3 (by omega : w.length ≤ 6)
          exact wrapI (by omega) (by omega)
      . intro hcase
        rw [k1]
        by_cases h6 : 6 < i
        . simp only [if_pos h6, OUTF]
          refine ⟨⟨intV 0, rfl⟩, ?_, by omega, hb2⟩
          rw [List.length_drop]; omega
        . obtain ⟨h6', hi0, hp⟩ := hcase.resolve_right h6
          rw [if_neg h6, if_neg (by simp [hi0, hp])]
          simp only [if_neg h6, OUTF]
          refine ⟨?_, (pos_at (by omega) hb2).symm, trivial, List.drop_suffix _ _⟩
          rw [Int.neg_one_mul]
    by_cases hlt : b < s.length
    . obtain ⟨hlt2, hnow⟩ := now_at (by omega) hlt
      have hd := drop_now (s := s) (a := b) (by omega) hlt
      have e1 : idx (.int .i64 b) s.length = some b.toNat := idxI _ _ _ (by omega) hlt
      generalize hc : nowB (s.drop b.toNat) = c at hnow hd leaf fin
      have e2 : ((s[b.toNat]).toNat : Int) = u8i c := by rw [hnow]; rfl
      cases hp : digC c
      . have hp' : digitB (u8i c) = false := hp
        have hst := dw_stop (p := digC) (r := s.drop b.toNat) (by rw [hc]; exact hp)
        obtain ⟨k1, k2, k3⟩ := fin hst
        obtain ⟨v, l1, l2, l3⟩ := leaf hst
        by_cases hi0 : i = 0
        . have hba : b = a := by omega
          rw [k1, if_neg (by omega), if_pos (.inl hi0)]
          subst hba
          simp (maxSteps := 4000000) [hid, hlt, hlt2, e1, e2, c171, hp', g1, undv24, fv24_all]
          refine ⟨by kernel_rfl, by kernel_rfl, _, _, ⟨_, rfl⟩, ⟨zeroV, rfl⟩, ?_, by omega, hb2⟩
          rw [left_at' h0 h1]
        . have hba : ¬ b = a := by omega
          by_cases h6 : 6 < i
          . have h6' : ¬ b - a ≤ 6 := by omega
            have := l3 (.inr h6)
            rw [if_pos h6] at l1 this
            simp (maxSteps := 4000000) [hid, hlt, hlt2, e1, e2, c171, hp', hba, ws, h6', e5, e6, <- hw, l1, l2, c69, int_av]
            exact ⟨by kernel_rfl, by kernel_rfl, by kernel_rfl, _, _, ⟨_, rfl⟩, this⟩
          . have h6' : b - a ≤ 6 := by omega
            rw [if_neg h6] at l1
            cases hpc : partC c
            . have hpc' : partB (u8i c) = false := hpc
              have := l3 (.inl ⟨by omega, hi0, hpc⟩)
              rw [if_neg h6] at this
              simp (maxSteps := 4000000) [hid, hlt, hlt2, e1, e2, c171, hp', hba, ws, h6', c155, hpc', e5, e6, <- hw, l1, l2, c69, int_av]
              exact ⟨by kernel_rfl, by kernel_rfl, by kernel_rfl, _, _, ⟨_, rfl⟩, this⟩
            . have hpc' : partB (u8i c) = true := hpc
              rw [k1, if_neg h6, if_pos (.inr hpc)]
              simp (maxSteps := 4000000) [hid, hlt, hlt2, e1, e2, c171, hp', hba, ws, h6', c155, hpc', g1, undv24, fv24_all]
              refine ⟨by kernel_rfl, by kernel_rfl, _, _, ⟨_, rfl⟩, ⟨zeroV, rfl⟩, ?_, by omega, hb2⟩
              rw [left_at' (by omega) hb2]
      . have hp' : digitB (u8i c) = true := hp
        have w := wrapI (i := b + 1) (by omega) (by omega)
        rw [hd, List.dropWhile_cons_of_pos hp] at hb3
        simp (maxSteps := 4000000) [hid, hlt, e1, e2, hlt2, c171, hp', w]
        exact ⟨by kernel_rfl, b + 1, by omega, by omega, hb3, rfl, by simp⟩
    . have hd : s.drop b.toNat = [] := List.drop_eq_nil_of_le (by omega)
      have hst : (s.drop b.toNat).dropWhile digC = s.drop b.toNat := by rw [hd]; rfl
      obtain ⟨k1, k2, k3⟩ := fin hst
      obtain ⟨v, l1, l2, l3⟩ := leaf hst
      by_cases hi0 : i = 0
      . have hba : b = a := by omega
        rw [k1, if_neg (by omega), if_pos (.inl hi0)]
        subst hba
        simp (maxSteps := 4000000) [hid, hlt, g1, undv24, fv24_all]
        refine ⟨by kernel_rfl, by kernel_rfl, _, _, ⟨_, rfl⟩, ⟨zeroV, rfl⟩, ?_, by omega, hb2⟩
        rw [left_at' h0 h1]
      . have hba : ¬ b = a := by omega
        have hpn : partC (nowB (s.drop b.toNat)) = false := by rw [hd]; decide
        by_cases h6 : 6 < i
        . have := l3 (.inr h6)
          rw [if_pos h6] at l1 this
          simp (maxSteps := 4000000) [hid, hlt, hba, e5, e6, <- hw, l1, l2, c69, int_av]
          exact ⟨by kernel_rfl, by kernel_rfl, by kernel_rfl, _, _, ⟨_, rfl⟩, this⟩
        . have := l3 (.inl ⟨by omega, hi0, hpn⟩)
          rw [if_neg h6] at l1 this
          simp (maxSteps := 4000000) [hid, hlt, hba, e5, e6, <- hw, l1, l2, c69, int_av]
          exact ⟨by kernel_rfl, by kernel_rfl, by kernel_rfl, _, _, ⟨_, rfl⟩, this⟩
end Go.Tv
namespace Go.Tv
open Go.Proofs
set_option maxHeartbeats 8000000
set_option maxRecDepth 8000
theorem str_av (o : List UInt8) : (V.mk 2 0 o [] []).av = .agg [.int .i64 2, .int .i64 0, .str o, .list [] none, .list [] none] := rfl
theorem tb1 (c : UInt8) : toBytes [.int .u8 (u8i c)] = some [c] := tb_ob [c]
theorem e34 : u8i 34 = 34 := by decide
theorem e92 : u8i 92 = 92 := by decide
def I162 (M : Heap) (s : List UInt8) (id : Nat) (a : Int) (i : Nat) (t : List AV) (H : Heap) : Prop := ∃ b o, a + i ≤ b /\ (o.length : Int) ≤ b /\ b ≤ s.length /\ quoP (s.drop b.toNat) o = quoP (s.drop a.toNat) [] /\ H = M.set id (RF s b (-1)) ++ [zc24] /\
  Fit (some (.ptr id 0) :: none :: some (.ptr M.length 0) :: some (.str o) :: List.replicate 89 none) t
theorem c162 {s : List UInt8} {a : Int} {H : Heap} {id : Nat} (hs : s.length ≤ 1000000) (h0 : 0 ≤ a) (h1 : a ≤ s.length) (hH : H[id]? = some (RF s a (-1))) :
    ∃ r a' b' J, Call CC 162 [.ptr id 0] H = some (r, H.set id (RF s a' b') ++ J) /\ OUTF s V.av (quoP (s.drop a.toNat) []) r a' b' := by
  refine rfcall (f := 162) (rest := []) (P := fun r a' b' _ => OUTF s V.av (quoP (s.drop a.toNat) []) r a' b') (fn := Tryz.f162) rfl (by kernel_rfl) rfl rfl rfl rfl hH ?_
  intro M hid
  refine sd_plain rfl ?_
  simp
  refine st_iter (I162 M s id a) s.length ?_ ?_
  . exact ⟨a, [], by simp, by simpa using h0, h1, rfl, by simp [zc24], by simp⟩
  . rintro i t H ⟨b, o, hb, hob, hb2, hb3, rfl, ht⟩
    obtain ⟨e, rfl⟩ := ht.elim
    clear ht
    refine ⟨by omega, ?_⟩
    simp only [zc24]
    have g1 := fun (c : Int) => c94 (s := s) (a := c) (b := -1) (H := M.set id (RF s c (-1)) ++ [zc24]) (id := id) (by simp [hid])
    simp only [RF, zc24] at g1
    simp [hid] at g1
    have ho1 : o.length ≤ 4611686018427387903 := by omega
    have w := wrapI (i := b + 1) (by omega) (by omega)
    have bad : ∀ b' : Int, 0 ≤ b' -> b' ≤ s.length -> quoP (s.drop a.toNat) [] = .error (s.drop b'.toNat).length -> OUTF s V.av (quoP (s.drop a.toNat) []) (.ok zeroV.av) b' b' := fun b' k0 k1 k2 => by
      rw [k2]
      exact ⟨⟨zeroV, rfl⟩, (left_at k0 k1).symm, k0, k1⟩
    by_cases hlt : b < s.length
    . obtain ⟨hlt2, hnow⟩ := now_at (by omega) hlt
      have hd := drop_now (s := s) (a := b) (by omega) hlt
      have e1 : idx (.int .i64 b) s.length = some b.toNat := idxI _ _ _ (by omega) hlt
      generalize hc : nowB (s.drop b.toNat) = c at hnow hd
      have e2 : ((s[b.toNat]).toNat : Int) = u8i c := by rw [hnow]; rfl
      by_cases h34 : c = 34
      . rw [hd, h34, quo_end] at hb3
        rw [<- hb3]
        simp (maxSteps := 4000000) [hid, hlt, hlt2, e1, e2, h34, e34, w, c228, str_av]
        exact ⟨by kernel_rfl, by kernel_rfl, b + 1, -1, ⟨_, rfl⟩, rfl, (pos_at (by omega) (by omega)).symm, rfl, List.drop_suffix _ _⟩
      . by_cases h92 : c = 92
        . rw [hd, h92] at hb3
          by_cases hlt3 : b + 1 < s.length
          . obtain ⟨hlt4, hnow2⟩ := now_at (by omega) hlt3
            have hd2 := drop_now (s := s) (a := b + 1) (by omega) hlt3
            have e3 : idx (.int .i64 (b + 1)) s.length = some (b + 1).toNat := idxI _ _ _ (by omega) hlt3
            have hne : ¬ b + 1 = s.length := by omega
            generalize hc2 : nowB (s.drop (b + 1).toNat) = c2 at hnow2 hd2
            have e4 : ((s[(b + 1).toNat]).toNat : Int) = u8i c2 := by rw [hnow2]; rfl
            have w2 := wrapI (i := b + 1 + 1) (by omega) (by omega)
            by_cases hq : c2 = 34 \/ c2 = 92
            . rw [hd2, quo_esc _ _ hq] at hb3
              have tb34 := tb1 34
              have tb92 := tb1 92
              rw [e34] at tb34
              rw [e92] at tb92
              rcases hq with rfl | rfl
              all_goals
                simp (maxSteps := 4000000) [hid, hlt, hlt2, e1, e2, h92, e34, e92, w, hne, hlt4, e3, e4, w2, tb34, tb92, zero5, ho1]
                refine ⟨by kernel_rfl, by kernel_rfl, by kernel_rfl, by kernel_rfl, b + 1 + 1, _, by omega, by simp; omega, by omega, hb3, rfl, by simp⟩
            . have := bad (b + 1) (by omega) (by omega) (by rw [<- hb3, quo_escN (by rw [hc2]; exact hq)])
              simp only [not_or] at hq
              simp (maxSteps := 4000000) [hid, hlt, hlt2, e1, e2, h92, e92, w, hne, hlt4, e3, e4, hq.1, hq.2, g1, undv24, fv24_all]
              exact ⟨by kernel_rfl, by kernel_rfl, by kernel_rfl, by kernel_rfl, _, _, ⟨_, rfl⟩, this⟩
          . have hne : b + 1 = s.length := by omega
            have w' : IntKind.i64.wrap (s.length : Int) = s.length := wrapI (by omega) (by omega)
            have hnil : s.drop (b + 1).toNat = [] := List.drop_eq_nil_of_le (by omega)
            have := bad (b + 1) (by omega) (by omega) (by rw [<- hb3, hnil, quo_esc0]; rfl)
            simp (maxSteps := 4000000) [hid, hlt, hlt2, e1, e2, h92, e92, hne, w', g1, undv24, fv24_all]
            rw [hne] at this
            exact ⟨by kernel_rfl, by kernel_rfl, by kernel_rfl, _, _, ⟨_, rfl⟩, this⟩
        . by_cases hr : u8i c < 32 \/ 126 < u8i c
          . have hr' : (nowB (s.drop b.toNat)).toNat < 32 \/ 126 < (nowB (s.drop b.toNat)).toNat := by
              rw [hc]; unfold u8i at hr; omega
            have := bad b (by omega) hb2 (by rw [<- hb3, quo_badN (by rw [hc]; exact h34) (by rw [hc]; exact h92) hr'])
            by_cases hr1 : u8i c < 32
            . simp (maxSteps := 4000000) [hid, hlt, hlt2, e1, e2, h34, h92, hr1, g1, undv24, fv24_all]
              exact ⟨by kernel_rfl, by kernel_rfl, _, _, ⟨_, rfl⟩, this⟩
            . have hr2 : 126 < u8i c := by omega
              simp (maxSteps := 4000000) [hid, hlt, hlt2, e1, e2, h34, h92, hr1, hr2, g1, undv24, fv24_all]
              exact ⟨by kernel_rfl, by kernel_rfl, _, _, ⟨_, rfl⟩, this⟩
          . rw [hd, quo_ok _ _ h34 h92 (by unfold u8i at hr; omega)] at hb3
            simp only [not_or] at hr
            simp (maxSteps := 4000000) [hid, hlt, hlt2, e1, e2, h34, h92, hr.1, hr.2, w, tb1, zero5, ho1]
            exact ⟨by kernel_rfl, by kernel_rfl, b + 1, _, by omega, by simp; omega, by omega, hb3, rfl, by simp⟩
    . have hnil : s.drop b.toNat = [] := List.drop_eq_nil_of_le (by omega)
      have := bad b (by omega) hb2 (by rw [<- hb3, hnil, quo_nil]; rfl)
      simp (maxSteps := 4000000) [hid, hlt, g1, undv24, fv24_all]
      exact ⟨by kernel_rfl, _, _, ⟨_, rfl⟩, this⟩
end Go.Tv
