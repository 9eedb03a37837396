/-
  The reader of the reference: values.
-/
import Derived.Test.YtbofonlhakedpaaGreatDoorTxa
import Derived.Test.YtbofonlhakedpaaGreatDoorExl
import Derived.Test.YtbofonlhakedpaaGreatDoorTxg
namespace Go.Tv
set_option maxHeartbeats 4000000
theorem must2 (x y : UInt8) (r : List UInt8) : mustB [x, y] r = match mustB [x] r with | .error e => .error e | .ok r1 => mustG [y] r1 := by
  unfold mustB
  cases skipB r with
  | nil => rfl
  | cons c t =>
    by_cases h : c = x
    . subst h; rw [must_eq, must_eq]; rfl
    . rw [must_ne (by simpa [nowB] using h), must_ne (by simpa [nowB] using h)]
theorem goes2 (o x y : UInt8) (r : List UInt8) : goesB [o] [x, y] r = match goesB [o] [x] r with
    | .error e => .error e
    | .ok (true, r1) => .ok (true, r1)
    | .ok (false, r1) => match mustG [y] r1 with | .ok r2 => .ok (false, r2) | .error e => .error e := by
  unfold goesB
  by_cases ho : nowB (skipB r) = [o].headD 0
  . rw [if_pos ho, if_pos ho]
    cases mustB [o] r <;> rfl
  . rw [if_neg ho, if_neg ho, must2]
    cases mustB [x] r with
    | error e => rfl
    | ok r1 => cases mustG [y] r1 <;> rfl
theorem pL2 (x y : UInt8) (d : Nat) : ∀ (n : Nat) (r : List UInt8), pL n d [x, y] r = match pL n d [x] r with
    | .error e => .error e
    | .ok (l, r1) => match mustG [y] r1 with | .ok r2 => .ok (l, r2) | .error e => .error e
  | 0, r => by rw [pL, pL]
  | n + 1, r => by
    rw [pL, pL]
    cases pV n d r with
    | error e => rfl
    | ok vr =>
      obtain ⟨v, r1⟩ := vr
      simp only
      rw [goes2]
      cases goesB [44] [x] r1 with
      | error e => rfl
      | ok br =>
        obtain ⟨b, r2⟩ := br
        cases b with
        | false => simp only; cases mustG [y] r2 <;> rfl
        | true =>
          simp only
          rw [pL2 x y d n r2]
          cases pL n d [x] r2 with
          | error e => rfl
          | ok lr =>
            obtain ⟨l, r3⟩ := lr
            simp only [mapP]
            cases mustG [y] r3 <;> rfl
theorem pL02 (x y : UInt8) (d n : Nat) (r : List UInt8) : pL0 n d [x, y] r = match pL0 n d [x] r with
    | .error e => .error e
    | .ok (l, r1) => match mustG [y] r1 with | .ok r2 => .ok (l, r2) | .error e => .error e := by
  cases n with
  | zero => rw [pL0, pL0]
  | succ n =>
    rw [pL0, pL0]
    by_cases h : nowB r = x
    . have h1 : nowB r = [x, y].headD 0 := h
      have h2 : nowB r = [x].headD 0 := h
      rw [if_pos h1, if_pos h2, must2]
      cases mustB [x] r with
      | error e => rfl
      | ok r1 => simp only; cases mustG [y] r1 <;> rfl
    . have h1 : ¬ nowB r = [x, y].headD 0 := h
      have h2 : ¬ nowB r = [x].headD 0 := h
      rw [if_neg h1, if_neg h2, pL2]
theorem pV_skip (n d : Nat) (r : List UInt8) : pV (n + 1) d (skipB r) = pV (n + 1) d r := by
  rw [pV.eq_def (n + 1) d (skipB r), pV.eq_def (n + 1) d r]; simp only [skip_skip]
theorem pR_skip (n d : Nat) (r : List UInt8) : pR (n + 1) d (skipB r) = pR (n + 1) d r := by
  rw [pR.eq_def (n + 1) d (skipB r), pR.eq_def (n + 1) d r]; simp only [skip_skip]
theorem pM_skip (n d : Nat) (r : List UInt8) : pM (n + 2) d (skipB r) = pM (n + 2) d r := by
  rw [pM.eq_def (n + 2) d (skipB r), pM.eq_def (n + 2) d r]; simp only [pV_skip]
theorem dig_partF {c : UInt8} (h : digC c = true) : partC c = true := by
  unfold digC at h; unfold partC partB; rw [h]; simp
theorem word_num : ∀ {r : List UInt8}, (r.takeWhile partC).all digC = true -> r.takeWhile digC = r.takeWhile partC /\ r.dropWhile digC = r.dropWhile partC
  | [], _ => ⟨rfl, rfl⟩
  | c :: r, h => by
    cases hp : partC c with
    | true =>
      rw [List.takeWhile_cons_of_pos hp, List.all_cons, Bool.and_eq_true] at h
      obtain ⟨k1, k2⟩ := word_num h.2
      rw [List.takeWhile_cons_of_pos hp, List.takeWhile_cons_of_pos h.1, List.dropWhile_cons_of_pos hp, List.dropWhile_cons_of_pos h.1]
      exact ⟨by rw [k1], k2⟩
    | false =>
      have hd : ¬ digC c = true := fun hd => by rw [dig_partF hd] at hp; cases hp
      have hp' : ¬ partC c = true := by rw [hp]; simp
      rw [List.takeWhile_cons_of_neg hp', List.takeWhile_cons_of_neg hd, List.dropWhile_cons_of_neg hp', List.dropWhile_cons_of_neg hd]
      exact ⟨rfl, rfl⟩
theorem dw_now (p : UInt8 -> Bool) (h0 : p 0 = false) : ∀ r : List UInt8, p (nowB (r.dropWhile p)) = false
  | [] => h0
  | c :: r => by
    cases hp : p c with
    | true => rw [List.dropWhile_cons_of_pos hp]; exact dw_now p h0 r
    | false => rw [List.dropWhile_cons_of_neg (by rw [hp]; simp)]; exact hp
theorem num_iff {r : List UInt8} (h : 0 < (r.takeWhile partC).length) : isNumP r = (r.takeWhile partC).all digC := by
  unfold isNumP
  cases ha : (r.takeWhile partC).all digC with
  | true =>
    obtain ⟨k1, k2⟩ := word_num ha
    rw [k1, k2, dw_now partC part0]
    simpa using h
  | false =>
    rw [Bool.eq_false_iff]
    intro hne
    rw [Bool.and_eq_true] at hne
    have hp : partC (nowB (r.dropWhile digC)) = false := by simpa using hne.2
    have key : ∀ q : List UInt8, partC (nowB (q.dropWhile digC)) = false -> (q.takeWhile partC).all digC = true := by
      intro q
      induction q with
      | nil => intro _; rfl
      | cons c q ih =>
        intro hq
        cases hd : digC c with
        | true =>
          rw [List.dropWhile_cons_of_pos hd] at hq
          rw [List.takeWhile_cons_of_pos (dig_partF hd), List.all_cons, hd, ih hq]; rfl
        | false =>
          rw [List.dropWhile_cons_of_neg (by rw [hd]; simp)] at hq
          rw [List.takeWhile_cons_of_neg (by show ¬ partC c = true; rw [show partC c = false from hq]; simp)]; rfl
    rw [key r hp] at ha
    cases ha
theorem num_none {r : List UInt8} (h : partC (nowB r) = false) : isNumP r = false /\ wordP r = .error r.length := by
  cases r with
  | nil => exact ⟨by unfold isNumP; simp, by unfold wordP; rfl⟩
  | cons c q =>
    have hp : ¬ partC c = true := by rw [show partC c = false from h]; simp
    have hd : ¬ digC c = true := fun hd => hp (dig_partF hd)
    constructor
    . unfold isNumP; rw [List.takeWhile_cons_of_neg hd]; rfl
    . unfold wordP; rw [List.takeWhile_cons_of_neg hp]; rfl
end Go.Tv
namespace Go.Tv
open Go.Proofs
set_option maxHeartbeats 16000000
set_option maxRecDepth 8000
theorem RES.map {α β : Type} {s : List UInt8} {b : Int} {o : PR α} {v : α} {a' b' : Int} (f : α -> β) (h : RES s b o v a' b') : RES s b (mapP f o) (f v) a' b' := by
  obtain ⟨h1, h2, h3, h4⟩ := h
  refine ⟨h1, h2, h3, fun hb => ?_⟩
  have h4 := h4 hb
  cases o with
  | error e => exact h4
  | ok x => obtain ⟨x, r⟩ := x; obtain ⟨rfl, k⟩ := h4; exact ⟨rfl, k⟩
theorem tw_pos {p : UInt8 -> Bool} {r : List UInt8} (h0 : p 0 = false) (h : p (nowB r) = true) : 0 < (r.takeWhile p).length := by
  cases r with
  | nil => exact absurd h (by show ¬ p 0 = true; rw [h0]; simp)
  | cons c q =>
    have h' : p c = true := h
    rw [List.takeWhile_cons_of_pos h']; simp
theorem mod_av (w : List UInt8) : (V.mk 3 0 w [] []).av = .agg [.int .i64 3, .int .i64 0, .str w, .list [] none, .list [] none] := rfl
theorem boo_av (n : Int) : (V.mk 0 n [] [] []).av = .agg [.int .i64 0, .int .i64 n, .str [], .list [] none, .list [] none] := rfl
theorem tup_av (l : List V) : (tupV l).av = .agg [.int .i64 5, .int .i64 0, .str [], .list (avs (tupK l.length)) none, .list (avs l) none] := rfl
theorem must_one {c : UInt8} {r : List UInt8} (h : skipB r = r) (hc : c ≠ 0) (hn : nowB r = c) : mustB [c] r = .ok (r.drop 1) := by
  obtain ⟨r', h1, h2⟩ := must_now hc (by rw [h]; exact hn)
  rw [h] at h1
  rw [h2, h1]; rfl
theorem c92 {s : List UInt8} {n : Nat} (hs : s.length ≤ 1000000) (hv : ∀ m < n, VALF s m) : VALF s n := by
  intro a b d H id hd h0 h1 hn hH
  refine rfcall (f := 92) (rest := [.int .i64 d]) (P := fun r a' b' _ => ∃ v, r = .ok (V.av v) /\ RES s b (pV n d (s.drop a.toNat)) v a' b') (fn := Tryz.f92) rfl (by kernel_rfl) rfl rfl rfl rfl hH ?_
  intro M hid
  refine sd_plain rfl ?_
  have g1 := c93 (s := s) (a := a) (d := b) (H := M.set id (RF s a b) ++ [zc24]) (id := id) hs h0 h1 (by simp [hid])
  have suf : skipB (s.drop a.toNat) <:+ s := (skip_suf _).trans (List.drop_suffix _ _)
  have hsl := skip_len (s.drop a.toNat)
  have hss := skip_skip (s.drop a.toNat)
  obtain ⟨p, hp⟩ : ∃ p, p = pos s (skipB (s.drop a.toNat)) := ⟨_, rfl⟩
  have hp0 : 0 ≤ p := hp ▸ pos_ge suf
  have hp1 : p ≤ s.length := hp ▸ pos_le _ _
  have hpd : s.drop p.toNat = skipB (s.drop a.toNat) := by rw [hp]; exact pos_drop suf
  rw [<- hp] at g1
  by_cases hb : b = -1
  case neg =>
    simp only [RF, zc24] at g1
    simp [hid] at g1
    simp [g1, hid, hb, undv24, fv24_all]
    exact ⟨p, b, ⟨_, rfl⟩, zeroV, rfl, hp0, hp1, fun _ => rfl, fun h => absurd h hb⟩
  subst hb
  have hn := hn rfl
  obtain ⟨n, rfl⟩ : ∃ m, n = m + 1 := ⟨n - 1, by omega⟩
  have hP := pV.eq_def (n + 1) d (s.drop a.toNat)
  simp only at hP
  rw [<- hpd] at hP hsl hss
  have hpl : (s.drop p.toNat).length = s.length - p.toNat := List.length_drop
  generalize hr1 : s.drop p.toNat = r1 at *
  have hd1 : ∀ {c : UInt8}, nowB r1 = c -> c ≠ 0 -> p < s.length /\ r1.drop 1 = s.drop (p + 1).toNat := by
    intro c hc hc0
    refine ⟨nowB_zero hp0 (by rw [hr1, hc]; exact hc0), ?_⟩
    rw [<- hr1, List.drop_drop]; congr 1; omega
  obtain ⟨c, hc⟩ : ∃ c, c = nowB r1 := ⟨_, rfl⟩
  have g2 := c154 (s := s) (a := p) (b := -1) (H := M.set id (RF s p (-1)) ++ [zc24]) (id := id) hp0 hp1 (by simp [hid])
  have g94 := c94 (s := s) (a := p) (b := -1) (H := M.set id (RF s p (-1)) ++ [zc24]) (id := id) (by simp [hid])
  rw [hr1, <- hc] at g2
  rw [<- hc] at hP
  have bad : ∀ v, pV (n + 1) d (s.drop a.toNat) = .error r1.length -> RES s (-1) (pV (n + 1) d (s.drop a.toNat)) v p p := fun v h => by
    rw [h]
    exact ⟨hp0, hp1, fun h => absurd rfl h, fun _ => by show p = _; omega⟩
  simp only [RF, zc24, if_true] at g1 g2 g94
  simp [hid] at g1 g94
  have wp : p < s.length -> IntKind.i64.wrap (p + 1) = p + 1 := fun h => wrapI (by omega) (by omega)
  cases hpc : partC c with
  | true =>
    have hpc' : partB (u8i c) = true := hpc
    rw [if_neg (by rintro rfl; revert hpc; decide), if_neg (by rintro rfl; revert hpc; decide), if_neg (by rintro rfl; revert hpc; decide), if_neg (by rintro rfl; revert hpc; decide), if_neg (by rintro rfl; revert hpc; decide), if_neg (by rintro rfl; revert hpc; decide)] at hP
    have hwl := tw_pos (r := r1) part0 (by rw [<- hc]; exact hpc)
    rw [num_iff hwl] at hP
    have g3 := c156 (s := s) (a := p) (d := -1) (H := M.set id (RF s p (-1)) ++ [zc24]) (id := id) hs hp0 hp1 (by simp [hid])
    rw [hr1] at g3
    have suf2 : r1.dropWhile partC <:+ s := (dw_suf _ _).trans (by rw [<- hr1]; exact List.drop_suffix _ _)
    have htw := (List.takeWhile_prefix (l := r1) partC).length_le
    obtain ⟨f, hf0⟩ : ∃ f, f = pos s (r1.dropWhile partC) := ⟨_, rfl⟩
    have hf1 : 0 ≤ f := hf0 ▸ pos_ge suf2
    have hf2 : f ≤ s.length := hf0 ▸ pos_le _ _
    have hN := fun h => word_num (r := r1) h
    rw [wordP] at hP
    obtain ⟨w, hw⟩ : ∃ w, w = r1.takeWhile partC := ⟨_, rfl⟩
    rw [<- hw] at hwl htw g3 hP hN
    rw [<- hf0] at g3
    have hwe : (!w.isEmpty) = true := by cases w with | nil => simp at hwl | cons => rfl
    have g5 := fun H => c157 w H (by omega)
    rw [hwe, Bool.and_true] at g5
    cases ha : w.all digC with
    | true =>
      obtain ⟨k1, k2⟩ := hN ha
      rw [ha, if_pos rfl, numP, k1, k2, if_neg (show ¬ (w.length = 0 \/ partC (nowB (r1.dropWhile partC)) = true) by rw [dw_now partC part0]; simp; intro h; rw [h] at hwl; simp at hwl)] at hP
      have g6 := c158 (s := s) (w := w) (a := f) (n := p) (H := M.set id (RF s f (-1)) ++ [zc24]) (id := id) (by omega) ha ⟨hp0, by omega⟩ (by simp [hid])
      rw [ha] at g5
      simp only [RF, zc24] at g3 g6
      simp [hid] at g3 g6
      by_cases h6 : 6 < w.length
      . rw [if_pos h6] at hP
        simp only [if_pos h6] at g6
        simp [g1, g2, c155, hpc', g3, g5, g6, hid, c69, int_av]
        refine ⟨f, p + 6, ⟨_, rfl⟩, intV 0, rfl, hf1, hf2, fun h => absurd rfl h, fun _ => ?_⟩
        rw [hP]
        show p + 6 = _
        omega
      . rw [if_neg h6] at hP
        simp only [if_neg h6] at g6
        simp [g1, g2, c155, hpc', g3, g5, g6, hid, c69, int_av]
        refine ⟨f, -1, ⟨_, rfl⟩, intV (1 * valB w), by rw [Int.one_mul]; rfl, hf1, hf2, fun h => absurd rfl h, fun _ => ?_⟩
        rw [hP]
        exact ⟨rfl, hf0, rfl, suf2⟩
    | false =>
      rw [ha] at g5
      rw [ha, if_neg (by simp)] at hP
      have g7 := fun H => c99 w H (by omega)
      have g8 := c159 (s := s) (a := f) (b := -1) (n := p) (H := M.set id (RF s f (-1)) ++ [zc24]) (id := id) (by simp [hid])
      simp only [RF, zc24, if_true] at g3 g8
      simp [hid] at g3 g8
      by_cases w1 : w = [84, 82, 85, 69]
      . rw [if_pos w1] at hP
        subst w1
        simp [g1, g2, c155, hpc', g3, g5, hid, c68, boo_av]
        refine ⟨f, -1, ⟨_, rfl⟩, .mk 0 1 [] [] [], rfl, hf1, hf2, fun h => absurd rfl h, fun _ => ?_⟩
        rw [hP]
        exact ⟨rfl, hf0, rfl, suf2⟩
      rw [if_neg w1] at hP
      by_cases w2 : w = [70, 65, 76, 83, 69]
      . rw [if_pos w2] at hP
        subst w2
        simp [g1, g2, c155, hpc', g3, g5, hid, c68, boo_av]
        refine ⟨f, -1, ⟨_, rfl⟩, .mk 0 0 [] [] [], rfl, hf1, hf2, fun h => absurd rfl h, fun _ => ?_⟩
        rw [hP]
        exact ⟨rfl, hf0, rfl, suf2⟩
      rw [if_neg w2] at hP
      cases hnm : nameB w with
      | true =>
        rw [hnm] at g7
        rw [hnm, if_pos rfl] at hP
        simp [g1, g2, c155, hpc', g3, g5, g7, hid, w1, w2, c160, mod_av]
        refine ⟨f, -1, ⟨_, rfl⟩, .mk 3 0 w [] [], rfl, hf1, hf2, fun h => absurd rfl h, fun _ => ?_⟩
        rw [hP]
        exact ⟨rfl, hf0, rfl, suf2⟩
      | false =>
        rw [hnm] at g7
        rw [hnm, if_neg (by simp)] at hP
        simp [g1, g2, c155, hpc', g3, g5, g7, g8, hid, w1, w2, c160, mod_av]
        refine ⟨f, p, ⟨_, rfl⟩, .mk 3 0 w [] [], rfl, hf1, hf2, fun h => absurd rfl h, fun _ => ?_⟩
        rw [hP]
        show p = _
        omega
  | false =>
    have hpc' : partB (u8i c) = false := hpc
    obtain ⟨nn1, nn2⟩ := num_none (r := r1) (by rw [<- hc]; exact hpc)
    rw [nn1, nn2, if_neg (show ¬ (false = true) by simp)] at hP
    by_cases c34 : c = 34
    . rw [if_pos c34] at hP
      obtain ⟨hlt, hdr⟩ := hd1 hc.symm (by rw [c34]; decide)
      rw [hdr] at hP
      have w := wp hlt
      obtain ⟨r6, a6, b6, J6, g6, q6⟩ := c162 (s := s) (a := p + 1) (H := M.set id (RF s (p + 1) (-1)) ++ [zc24]) (id := id) hs (by omega) (by omega) (by simp [hid])
      obtain ⟨v, rfl, q7⟩ := q6.res
      simp only [RF, zc24, V.av_eq v] at g6
      simp [hid] at g6
      have hq : partB 34 = false := by decide
      rw [c34, show u8i 34 = 34 by decide] at g2
      simp [g1, g2, c155, hq, hid, w, g6]
      exact ⟨_, _, ⟨_, rfl⟩, v, by rw [<- V.av_eq v], by rw [hP]; exact q7⟩
    rw [if_neg c34] at hP
    by_cases c45 : c = 45
    . rw [if_pos c45] at hP
      obtain ⟨hlt, hdr⟩ := hd1 hc.symm (by rw [c45]; decide)
      rw [hdr] at hP
      have w := wp hlt
      obtain ⟨r6, a6, b6, J6, g6, q6⟩ := c161 (s := s) (a := p + 1) (H := M.set id (RF s (p + 1) (-1)) ++ [zc24]) (id := id) hs (by omega) (by omega) (by simp [hid])
      obtain ⟨v, rfl, q7⟩ := q6.res
      simp only [RF, zc24, V.av_eq v] at g6
      simp [hid] at g6
      have hq : partB 45 = false := by decide
      rw [c45, show u8i 45 = 45 by decide] at g2
      simp [g1, g2, c155, hq, hid, w, g6]
      exact ⟨_, _, ⟨_, rfl⟩, v, by rw [<- V.av_eq v], by rw [hP]; exact q7⟩
    rw [if_neg c45] at hP
    have hd1' : ∀ {x : UInt8}, c = x -> x ≠ 0 -> p < s.length /\ s.drop (p + 1).toNat = r1.drop 1 /\ (s.drop (p + 1).toNat).length + 1 ≤ r1.length := fun {x} h hx => by
      obtain ⟨k1, k2⟩ := hd1 hc.symm (by rw [h]; exact hx)
      exact ⟨k1, k2.symm, by rw [List.length_drop, hpl]; omega⟩
    have wd : IntKind.i64.wrap ((d : Int) + 1) = (d : Int) + 1 := wrapI (by omega) (by omega)
    have ho : ∀ {x : UInt8}, c = x -> x ≠ 0 -> d ≠ 20 -> openP d [x] r1 = .ok (skipB (s.drop (p + 1).toNat)) := fun {x} h hx h20 => by
      unfold openP; rw [if_neg h20, must_one hss hx (by rw [<- hc]; exact h), (hd1' h hx).2.1]
    have hE : d = 20 -> ∀ sign, openP d sign r1 = .error r1.length := fun h sign => by unfold openP; rw [if_pos h]
    by_cases c123 : c = 123
    . rw [if_pos c123] at hP
      have hq : partB 123 = false := by decide
      rw [c123, show u8i 123 = 123 by decide] at g2
      obtain ⟨hlt, hdr, hle⟩ := hd1' c123 (by decide)
      have w := wp hlt
      by_cases hd20 : d = 20
      . have hd20' : (d : Int) = 20 := by omega
        rw [hE hd20] at hP
        simp [g1, g2, c155, hq, hid, hd20', g94, undv24, fv24_all]
        exact ⟨p, p, ⟨_, rfl⟩, zeroV, rfl, bad _ hP⟩
      . have hd20' : ¬ (d : Int) = 20 := by omega
        obtain ⟨r6, a6, b6, J6, g6, l, rfl, hll, q6⟩ := c163 (s := s) (c := 125) (a := p + 1) (b := -1) (d := d + 1) (n := n) (H := M.set id (RF s (p + 1) (-1)) ++ [zc24]) (id := id) hs (by decide) (by decide) (by omega) (by omega) (by omega) (by omega) (fun m hm => hv m (by omega)) (by simp [hid])
        rw [show u8i 125 = 125 by decide] at g6
        rw [ho c123 (by decide) hd20] at hP
        simp only [RF, zc24] at g6
        simp [hid] at g6
        simp [g1, g2, c155, hq, hid, hd20', w, wd, g6, c38, setV_av]
        exact ⟨_, _, ⟨_, rfl⟩, setV l, rfl, by rw [hP]; exact q6.map _⟩
    rw [if_neg c123] at hP
    by_cases c60 : c = 60
    . rw [if_pos c60] at hP
      have hq : partB 60 = false := by decide
      rw [c60, show u8i 60 = 60 by decide] at g2
      obtain ⟨hlt, hdr, hle⟩ := hd1' c60 (by decide)
      have w := wp hlt
      by_cases hd20 : d = 20
      . have hd20' : (d : Int) = 20 := by omega
        rw [hE hd20] at hP
        simp [g1, g2, c155, hq, hid, hd20', g94, undv24, fv24_all]
        exact ⟨p, p, ⟨_, rfl⟩, zeroV, rfl, bad _ hP⟩
      . have hd20' : ¬ (d : Int) = 20 := by omega
        obtain ⟨a1, ha1⟩ : ∃ a1 : Int, a1 = if p + 1 < s.length then p + 1 + 1 else p + 1 := ⟨_, rfl⟩
        obtain ⟨b1, hb1⟩ : ∃ b1 : Int, b1 = if (-1 : Int) = -1 /\ nowB (s.drop (p + 1).toNat) ≠ 60 then p + 1 else -1 := ⟨_, rfl⟩
        have hA0 : p + 1 ≤ a1 /\ a1 ≤ s.length := by rw [ha1]; split <;> omega
        have g5 := c164 (s := s) (c := 60) (a := p + 1) (b := -1) (H := M.set id (RF s (p + 1) (-1)) ++ [zc24]) (id := id) hs (by decide) (by omega) (by omega) (by simp [hid])
        rw [<- ha1, <- hb1, show u8i 60 = 60 by decide] at g5
        obtain ⟨r6, a2, b2, J6, g6, l, rfl, hll, q6⟩ := c163 (s := s) (c := 62) (a := a1) (b := b1) (d := d + 1) (n := n) (H := M.set id (RF s a1 b1) ++ [zc24]) (id := id) hs (by decide) (by decide) (by omega) (by omega) (by omega) (by rw [List.length_drop] at hle ⊢; omega) (fun m hm => hv m (by omega)) (by simp [hid])
        have q61 := q6.1
        have q62 := q6.2.1
        have g7 := c164 (s := s) (c := 62) (a := a2) (b := b2) (H := M.set id (RF s a2 b2) ++ zc24 :: J6) (id := id) hs (by decide) q61 q62 (by simp [hid])
        obtain ⟨a3, ha3⟩ : ∃ a3 : Int, a3 = if a2 < s.length then a2 + 1 else a2 := ⟨_, rfl⟩
        obtain ⟨b3, hb3⟩ : ∃ b3 : Int, b3 = if b2 = -1 /\ nowB (s.drop a2.toNat) ≠ 62 then a2 else b2 := ⟨_, rfl⟩
        rw [<- ha3, <- hb3] at g7
        rw [show u8i 62 = 62 by decide] at g6 g7
        have hA3 : 0 ≤ a3 /\ a3 ≤ s.length := by rw [ha3]; split <;> omega
        have fin : RES s (-1) (pV (n + 1) d (s.drop a.toNat)) (tupV l) a3 b3 := by
          refine ⟨hA3.1, hA3.2, fun h => absurd rfl h, fun _ => ?_⟩
          have hop : openP d [60, 60] r1 = match mustG [60] (s.drop (p + 1).toNat) with | .ok r => .ok (skipB r) | .error e => .error e := by
            unfold openP
            rw [if_neg hd20, must2, must_one hss (by decide) (by rw [<- hc]; exact c60), <- hdr]
            simp only
            cases mustG [60] (s.drop (p + 1).toNat) <;> rfl
          by_cases hx : nowB (s.drop (p + 1).toNat) = 60
          . have hlt2 : p + 1 < s.length := nowB_zero (by omega) (by rw [hx]; decide)
            have hdn := drop_now (s := s) (a := p + 1) (by omega) hlt2
            rw [hx] at hdn
            rw [if_pos hlt2] at ha1
            rw [if_neg (by simp [hx])] at hb1
            rw [hdn, must_eq, mustG] at hop
            rw [hop] at hP
            simp only at hP
            rw [pL02] at hP
            rw [<- ha1] at hP
            have q64 := q6.2.2.2 hb1
            cases hl0 : pL0 n (d + 1) [62] (skipB (s.drop a1.toNat)) with
            | error e =>
              rw [hl0] at hP q64
              simp only at q64
              have he := (errP n).l0 hl0
              have hsk := skip_len (s.drop a1.toNat)
              rw [List.length_drop] at hsk
              rw [hP]
              rw [if_neg (by omega)] at hb3
              show b3 = _
              omega
            | ok lr =>
              obtain ⟨l', r9⟩ := lr
              rw [hl0] at hP q64
              obtain ⟨rfl, e2, rfl, q7⟩ := q64
              have e2' : s.drop a2.toNat = r9 := by rw [e2]; exact pos_drop q7
              simp only at hP
              rw [hP]
              by_cases hy : nowB (s.drop a2.toNat) = 62
              . have hlt3 : a2 < s.length := nowB_zero q61 (by rw [hy]; decide)
                have hdn3 := drop_now q61 hlt3
                rw [hy] at hdn3
                rw [<- e2', hdn3, must_eq, mustG]
                rw [if_pos hlt3] at ha3
                rw [if_neg (by simp [hy])] at hb3
                rw [ha3, hb3]
                exact ⟨rfl, (pos_at (by omega) (by omega)).symm, rfl, List.drop_suffix _ _⟩
              . rw [<- e2', must_ne hy]
                rw [if_pos ⟨rfl, hy⟩] at hb3
                rw [hb3]
                exact (left_at q61 q62).symm
          . rw [must_ne hx] at hop
            rw [hop] at hP
            simp only at hP
            rw [if_pos ⟨rfl, hx⟩] at hb1
            have hb1n : b1 ≠ -1 := by omega
            have hb2 := q6.2.2.1 hb1n
            rw [if_neg (by omega)] at hb3
            rw [hP]
            show b3 = _
            rw [hb3, hb2, hb1, left_at (by omega) (by omega)]
        simp only [RF, zc24] at g5 g6 g7
        simp [hid] at g5 g6 g7
        have g118 := fun H => c118 l H (by omega)
        simp [g1, g2, c155, hq, hid, hd20', w, wd, g5, g6, g7, g118, tup_av]
        exact ⟨_, _, ⟨_, rfl⟩, tupV l, rfl, fin⟩
    rw [if_neg c60] at hP
    by_cases c91 : c = 91
    . rw [if_pos c91] at hP
      have hq : partB 91 = false := by decide
      rw [c91, show u8i 91 = 91 by decide] at g2
      obtain ⟨hlt, hdr, hle⟩ := hd1' c91 (by decide)
      have w := wp hlt
      by_cases hd20 : d = 20
      . have hd20' : (d : Int) = 20 := by omega
        rw [hE hd20] at hP
        simp [g1, g2, c155, hq, hid, hd20', g94, undv24, fv24_all]
        exact ⟨p, p, ⟨_, rfl⟩, zeroV, rfl, bad _ hP⟩
      . have hd20' : ¬ (d : Int) = 20 := by omega
        obtain ⟨r6, a6, b6, J6, g6, v, rfl, q6⟩ := c165 (s := s) (a := p + 1) (d := d + 1) (n := n) (H := M.set id (RF s (p + 1) (-1)) ++ [zc24]) (id := id) hs (by omega) (by omega) (by omega) (by omega) (fun m hm => hv m (by omega)) (by simp [hid])
        rw [ho c91 (by decide) hd20] at hP
        obtain ⟨n, rfl⟩ : ∃ m, n = m + 2 := ⟨n - 2, by omega⟩
        simp only [pR_skip] at hP
        simp only [RF, zc24, V.av_eq v] at g6
        simp [hid] at g6
        simp [g1, g2, c155, hq, hid, hd20', w, wd, g6]
        exact ⟨_, _, ⟨_, rfl⟩, v, by rw [<- V.av_eq v], by rw [hP]; exact q6⟩
    rw [if_neg c91] at hP
    by_cases c40 : c = 40
    . rw [if_pos c40] at hP
      have hq : partB 40 = false := by decide
      rw [c40, show u8i 40 = 40 by decide] at g2
      obtain ⟨hlt, hdr, hle⟩ := hd1' c40 (by decide)
      have w := wp hlt
      by_cases hd20 : d = 20
      . have hd20' : (d : Int) = 20 := by omega
        rw [hE hd20] at hP
        simp [g1, g2, c155, hq, hid, hd20', g94, undv24, fv24_all]
        exact ⟨p, p, ⟨_, rfl⟩, zeroV, rfl, bad _ hP⟩
      . have hd20' : ¬ (d : Int) = 20 := by omega
        obtain ⟨r6, a6, b6, J6, g6, v, rfl, q6⟩ := c166 (s := s) (a := p + 1) (d := d + 1) (n := n) (H := M.set id (RF s (p + 1) (-1)) ++ [zc24]) (id := id) hs (by omega) (by omega) (by omega) (by omega) (fun m hm => hv m (by omega)) (by simp [hid])
        rw [ho c40 (by decide) hd20] at hP
        obtain ⟨n, rfl⟩ : ∃ m, n = m + 2 := ⟨n - 2, by omega⟩
        simp only [pM_skip] at hP
        simp only [RF, zc24, V.av_eq v] at g6
        simp [hid] at g6
        simp [g1, g2, c155, hq, hid, hd20', w, wd, g6]
        exact ⟨_, _, ⟨_, rfl⟩, v, by rw [<- V.av_eq v], by rw [hP]; exact q6⟩
    rw [if_neg c40] at hP
    simp [g1, g2, c155, hpc', c34, c45, c123, c60, c91, c40, hid, g94, undv24, fv24_all]
    exact ⟨p, p, ⟨_, rfl⟩, zeroV, rfl, bad _ hP⟩
theorem valf {s : List UInt8} (hs : s.length ≤ 1000000) (n : Nat) : VALF s n := by
  induction n using Nat.strongRecOn with
  | _ n ih => exact c92 hs ih
end Go.Tv
