/-
  The text of a value, and the value with a text, in plain Lean; reading reverses writing.
-/
import Derived.Test.YtbofonlhakedpaaGreatDoorExe
import Derived.Test.YtbofonlhakedpaaGreatDoorPla
import Derived.Lib.ItoaNum
import Derived.Test.YtbofonlhakedpaaGreatDoorShapesA
namespace Go.Tv
set_option maxHeartbeats 4000000
def sepB (sep : List UInt8) : List (List UInt8) -> List UInt8
  | [] => []
  | x :: r => x ++ r.flatMap fun y => sep ++ y
def pairB (sign : List UInt8) : List (List UInt8) -> List (List UInt8) -> List (List UInt8)
  | k :: ks, x :: xs => (k ++ sign ++ x) :: pairB sign ks xs
  | _, _ => []
mutual
def txtV : V -> List UInt8
  | .mk k n s ks is =>
    if k = 0 then (if n = 1 then [84, 82, 85, 69] else [70, 65, 76, 83, 69])
    else if k = 1 then Lib.itoa n
    else if k = 2 then [34] ++ quoS s ++ [34]
    else if k = 3 then s
    else if k = 4 then [123] ++ sepB [44, 32] (txtL is) ++ [125]
    else if shapeF (.mk k n s ks is) = 1 then [60, 60] ++ sepB [44, 32] (txtL is) ++ [62, 62]
    else if shapeF (.mk k n s ks is) = 2 then [91] ++ sepB [44, 32] (pairB [32, 124, 45, 62, 32] (ks.map V.s) (txtL is)) ++ [93]
    else [40] ++ sepB [32, 64, 64, 32] (pairB [32, 58, 62, 32] (txtL ks) (txtL is)) ++ [41]
def txtL : List V -> List (List UInt8)
  | [] => []
  | v :: r => txtV v :: txtL r
end
abbrev PR (α : Type) := Except Nat (α × List UInt8)
def skipB : List UInt8 -> List UInt8
  | [] => []
  | c :: r => if c = 32 \/ c = 10 then skipB r else c :: r
def nowB (r : List UInt8) : UInt8 := r.headD 0
def partC (c : UInt8) : Bool := partB (u8i c)
def digC (c : UInt8) : Bool := digitB (u8i c)
def mustG : List UInt8 -> List UInt8 -> Except Nat (List UInt8)
  | [], r => .ok r
  | _ :: _, [] => .error 0
  | c :: cs, x :: r => if x = c then mustG cs r else .error (r.length + 1)
def mustB (sign r : List UInt8) : Except Nat (List UInt8) := mustG sign (skipB r)
def goesB (on en r : List UInt8) : PR Bool :=
  if nowB (skipB r) = on.headD 0 then (match mustB on r with | .ok r1 => .ok (true, r1) | .error e => .error e)
  else (match mustB en r with | .ok r1 => .ok (false, r1) | .error e => .error e)
def valB (s : List UInt8) : Int := s.foldl (fun n c => n * 10 + (u8i c - 48)) 0
def numP (sign : Int) (r : List UInt8) : PR V :=
  if 6 < (r.takeWhile digC).length then .error (r.length - 6)
  else if (r.takeWhile digC).length = 0 \/ partC (nowB (r.dropWhile digC)) = true then .error (r.dropWhile digC).length
  else .ok (intV (sign * valB (r.takeWhile digC)), r.dropWhile digC)
def isNumP (r : List UInt8) : Bool := decide (0 < (r.takeWhile digC).length) && !partC (nowB (r.dropWhile digC))
def quoP : List UInt8 -> List UInt8 -> PR V
  | [], _ => .error 0
  | c :: r, out =>
    if c = 34 then .ok (.mk 2 0 out [] [], r)
    else if c = 92 then (match r with
      | [] => .error 0
      | x :: r' => if x = 34 \/ x = 92 then quoP r' (out ++ [x]) else .error (r'.length + 1))
    else if c.toNat < 32 \/ 126 < c.toNat then .error (r.length + 1) else quoP r (out ++ [c])
def wordP (r : List UInt8) : PR V :=
  if r.takeWhile partC = [84, 82, 85, 69] then .ok (.mk 0 1 [] [] [], r.dropWhile partC)
  else if r.takeWhile partC = [70, 65, 76, 83, 69] then .ok (.mk 0 0 [] [] [], r.dropWhile partC)
  else if nameB (r.takeWhile partC) then .ok (.mk 3 0 (r.takeWhile partC) [] [], r.dropWhile partC)
  else .error r.length
def openP (d : Nat) (sign r : List UInt8) : Except Nat (List UInt8) :=
  if d = 20 then .error r.length else match mustB sign r with | .ok r1 => .ok (skipB r1) | .error e => .error e
def mapP {α β : Type} (f : α -> β) : PR α -> PR β
  | .ok (a, r) => .ok (f a, r)
  | .error e => .error e
mutual
def pV : Nat -> Nat -> List UInt8 -> PR V
  | 0, _, r => .error r.length
  | n + 1, d, r =>
    let r1 := skipB r
    let c := nowB r1
    if c = 34 then quoP (r1.drop 1) []
    else if c = 45 then numP (-1) (r1.drop 1)
    else if c = 123 then (match openP d [123] r1 with | .error e => .error e | .ok r2 => mapP (fun l => .mk 4 0 [] [] l) (pL0 n (d + 1) [125] r2))
    else if c = 60 then (match openP d [60, 60] r1 with | .error e => .error e | .ok r2 => mapP (fun l => .mk 5 0 [] ((List.range l.length).map fun i => intV ((i + 1 : Nat) : Int)) l) (pL0 n (d + 1) [62, 62] r2))
    else if c = 91 then (match openP d [91] r1 with | .error e => .error e | .ok r2 => mapP (fun l => .mk 5 0 [] (l.map Prod.fst) (l.map Prod.snd)) (pR n (d + 1) r2))
    else if c = 40 then (match openP d [40] r1 with | .error e => .error e | .ok r2 => mapP (fun l => .mk 5 0 [] (l.map Prod.fst) (l.map Prod.snd)) (pM n (d + 1) r2))
    else if isNumP r1 then numP 1 r1
    else wordP r1
def pL0 : Nat -> Nat -> List UInt8 -> List UInt8 -> PR (List V)
  | 0, _, _, r => .error r.length
  | n + 1, d, en, r => if nowB r = en.headD 0 then (match mustB en r with | .ok r1 => .ok ([], r1) | .error e => .error e) else pL n d en r
def pL : Nat -> Nat -> List UInt8 -> List UInt8 -> PR (List V)
  | 0, _, _, r => .error r.length
  | n + 1, d, en, r => match pV n d r with
    | .error e => .error e
    | .ok (v, r1) => match goesB [44] en r1 with
      | .error e => .error e
      | .ok (false, r2) => .ok ([v], r2)
      | .ok (true, r2) => mapP (v :: ·) (pL n d en r2)
def pR : Nat -> Nat -> List UInt8 -> PR (List (V × V))
  | 0, _, r => .error r.length
  | n + 1, d, r =>
    let r0 := skipB r
    if nameB (r0.takeWhile partC) then
      match mustB [124, 45, 62] (r0.dropWhile partC) with
      | .error e => .error e
      | .ok r1 => match pV n d r1 with
        | .error e => .error e
        | .ok (v, r2) => match goesB [44] [93] r2 with
          | .error e => .error e
          | .ok (false, r3) => .ok ([(.mk 2 0 (r0.takeWhile partC) [] [], v)], r3)
          | .ok (true, r3) => mapP ((.mk 2 0 (r0.takeWhile partC) [] [], v) :: ·) (pR n d r3)
    else .error r0.length
def pM : Nat -> Nat -> List UInt8 -> PR (List (V × V))
  | 0, _, r => .error r.length
  | n + 1, d, r => match pV n d r with
    | .error e => .error e
    | .ok (k, r1) => match mustB [58, 62] r1 with
      | .error e => .error e
      | .ok r2 => match pV n d r2 with
        | .error e => .error e
        | .ok (v, r3) => match goesB [64, 64] [41] r3 with
          | .error e => .error e
          | .ok (false, r4) => .ok ([(k, v)], r4)
          | .ok (true, r4) => mapP ((k, v) :: ·) (pM n d r4)
end
def pT (s : List UInt8) : Except Nat V := match pV (3 * s.length + 1) 0 s with
  | .error e => .error (s.length - e)
  | .ok (v, r) => if skipB r = [] then .ok v else .error (s.length - (skipB r).length)
end Go.Tv
namespace Go.Tv
set_option maxHeartbeats 4000000
theorem nowB_cons (c : UInt8) (r : List UInt8) : nowB (c :: r) = c := rfl
theorem skipB_cons {c : UInt8} {r : List UInt8} (h1 : c ≠ 32) (h2 : c ≠ 10) : skipB (c :: r) = c :: r := by
  rw [skipB, if_neg (by rintro (h | h) <;> contradiction)]
theorem skipB_sp (r : List UInt8) : skipB (32 :: r) = skipB r := by rw [skipB, if_pos (.inl rfl)]
theorem skipB_idem : ∀ r : List UInt8, skipB (skipB r) = skipB r
  | [] => rfl
  | c :: r => by
    by_cases h : c = 32 \/ c = 10
    . rw [skipB, if_pos h]; exact skipB_idem r
    . have e : skipB (c :: r) = c :: r := by rw [skipB, if_neg h]
      rw [e, e]
theorem pV_sp (n d : Nat) (r : List UInt8) : pV (n + 1) d (32 :: r) = pV (n + 1) d r := by
  simp only [pV, skipB_sp]
theorem takeW {p : UInt8 -> Bool} {s rest : List UInt8} (hs : ∀ c ∈ s, p c = true) (hr : p (nowB rest) = false) : (s ++ rest).takeWhile p = s /\ (s ++ rest).dropWhile p = rest := by
  have h0 : rest.takeWhile p = [] /\ rest.dropWhile p = rest := by
    cases rest with
    | nil => exact ⟨rfl, rfl⟩
    | cons c r =>
      have hc : p c = false := hr
      simp [hc]
  induction s with
  | nil => exact h0
  | cons c s ih =>
    have hc := hs c (by simp)
    obtain ⟨i1, i2⟩ := ih fun x hx => hs x (by simp [hx])
    simp only [List.cons_append, List.takeWhile_cons, List.dropWhile_cons, hc, if_true, i1, i2]
    exact ⟨trivial, trivial⟩
theorem valB_app (a : List UInt8) (c : UInt8) : valB (a ++ [c]) = valB a * 10 + (u8i c - 48) := by
  unfold valB; rw [List.foldl_append]; rfl
theorem u8_digit {k : Nat} (h : k < 10) : u8i (UInt8.ofNat (48 + k)) = 48 + k := by
  unfold u8i
  have : (UInt8.ofNat (48 + k)).toNat = 48 + k := by
    rw [UInt8.toNat_ofNat']; omega
  rw [this]; omega
theorem dec_spec (u : Nat) : valB (Lib.decDigits u) = u /\ (∀ c ∈ Lib.decDigits u, digC c = true) /\ Lib.decDigits u ≠ [] := by
  induction u using Nat.strongRecOn with
  | _ u ih =>
    by_cases h : u < 10
    . rw [Lib.decDigits, dif_pos h]
      have e := u8_digit h
      refine ⟨?_, fun c hc => ?_, by simp⟩
      . have := valB_app [] (UInt8.ofNat (48 + u))
        rw [List.nil_append] at this
        rw [this, e]
        have : valB [] = 0 := rfl
        omega
      . rw [List.mem_singleton] at hc; subst hc
        unfold digC digitB; rw [e]
        simp; omega
    . rw [Lib.decDigits, dif_neg h]
      obtain ⟨i1, i2, i3⟩ := ih (u / 10) (by omega)
      have hk : u % 10 < 10 := Nat.mod_lt _ (by decide)
      have e := u8_digit hk
      refine ⟨?_, fun c hc => ?_, by simp⟩
      . rw [valB_app, i1, e]; omega
      . rcases List.mem_append.1 hc with hc | hc
        . exact i2 c hc
        . rw [List.mem_singleton] at hc; subst hc
          unfold digC digitB; rw [e]
          simp; omega
theorem dec_len : ∀ (k u : Nat), u < 10 ^ (k + 1) -> (Lib.decDigits u).length ≤ k + 1
  | 0, u, h => by rw [Lib.decDigits, dif_pos (by simpa using h)]; simp
  | k + 1, u, h => by
    rw [Lib.decDigits]
    split
    . simp
    . have := dec_len k (u / 10) (by rw [Nat.pow_succ] at h; omega)
      simp only [List.length_append, List.length_cons, List.length_nil]; omega
theorem dig_part {c : UInt8} (h : digC c = true) : partC c = true := by
  unfold partC partB; unfold digC at h; rw [h]; simp
theorem dig_ne {c : UInt8} (h : digC c = true) : c ≠ 34 /\ c ≠ 45 /\ c ≠ 123 /\ c ≠ 60 /\ c ≠ 91 /\ c ≠ 40 /\ c ≠ 32 /\ c ≠ 10 := by
  refine ⟨?_, ?_, ?_, ?_, ?_, ?_, ?_, ?_⟩ <;> (rintro rfl; exact absurd h (by decide))
theorem numP_dec (sign : Int) (u : Nat) (hu : u < 1000000) (rest : List UInt8) (hr : partC (nowB rest) = false) : numP sign (Lib.decDigits u ++ rest) = .ok (intV (sign * u), rest) := by
  obtain ⟨h1, h2, h3⟩ := dec_spec u
  have hd : digC (nowB rest) = false := by
    cases hx : digC (nowB rest) with
    | false => rfl
    | true => rw [dig_part hx] at hr; cases hr
  obtain ⟨t1, t2⟩ := takeW h2 hd
  have hl := dec_len 5 u (by simpa using hu)
  have hp : (Lib.decDigits u).length ≠ 0 := by simpa using h3
  rw [numP, t1, t2, if_neg (by omega), if_neg (by rintro (h | h); exact hp h; rw [hr] at h; cases h), h1]
theorem isNum_dec (u : Nat) (rest : List UInt8) (hr : partC (nowB rest) = false) : isNumP (Lib.decDigits u ++ rest) = true := by
  obtain ⟨h1, h2, h3⟩ := dec_spec u
  have hd : digC (nowB rest) = false := by
    cases hx : digC (nowB rest) with
    | false => rfl
    | true => rw [dig_part hx] at hr; cases hr
  obtain ⟨t1, t2⟩ := takeW h2 hd
  have hp : 0 < (Lib.decDigits u).length := by
    have : (Lib.decDigits u).length ≠ 0 := by simpa using h3
    omega
  rw [isNumP, t1, t2, hr, decide_eq_true hp]; rfl
theorem pV_int (n d : Nat) (k : Int) (hk : -10000 ≤ k /\ k ≤ 10000) (rest : List UInt8) (hr : partC (nowB rest) = false) : pV (n + 1) d (Lib.itoa k ++ rest) = .ok (intV k, rest) := by
  unfold Lib.itoa
  split
  . rename_i hneg
    have e : skipB (45 :: (Lib.decDigits k.natAbs ++ rest)) = 45 :: (Lib.decDigits k.natAbs ++ rest) := skipB_cons (by decide) (by decide)
    rw [List.cons_append, pV]
    simp only [e, nowB_cons]
    rw [if_neg (by decide), if_pos trivial]
    show numP (-1) (Lib.decDigits k.natAbs ++ rest) = _
    rw [numP_dec _ _ (by omega) _ hr]
    have : (-1 : Int) * (k.natAbs : Int) = k := by omega
    rw [this]
  . rename_i hneg
    obtain ⟨h1, h2, h3⟩ := dec_spec k.toNat
    obtain ⟨c, t, ht⟩ : ∃ c t, Lib.decDigits k.toNat = c :: t := by
      cases hh : Lib.decDigits k.toNat with
      | nil => exact absurd hh h3
      | cons c t => exact ⟨c, t, rfl⟩
    have hc := h2 c (by rw [ht]; simp)
    obtain ⟨a1, a2, a3, a4, a5, a6, a7, a8⟩ := dig_ne hc
    have e : skipB (Lib.decDigits k.toNat ++ rest) = Lib.decDigits k.toNat ++ rest := by rw [ht, List.cons_append]; exact skipB_cons a7 a8
    have en : nowB (Lib.decDigits k.toNat ++ rest) = c := by rw [ht]; rfl
    rw [pV]
    simp only [e, en]
    rw [if_neg a1, if_neg a2, if_neg a3, if_neg a4, if_neg a5, if_neg a6, isNum_dec _ _ hr, if_pos rfl, numP_dec _ _ (by omega) _ hr]
    have : (1 : Int) * (k.toNat : Int) = k := by omega
    rw [this]
theorem quoP_cons (c : UInt8) (r out : List UInt8) : quoP (c :: r) out = (if c = 34 then .ok (.mk 2 0 out [] [], r)
    else if c = 92 then (match r with
      | [] => .error 0
      | x :: r' => if x = 34 \/ x = 92 then quoP r' (out ++ [x]) else .error (r'.length + 1))
    else if c.toNat < 32 \/ 126 < c.toNat then .error (r.length + 1) else quoP r (out ++ [c])) := by
  rw [quoP.eq_def]
  all_goals (cases r <;> rfl)
theorem quoP_quo : ∀ (s out rest : List UInt8), shownB s = true -> quoP (quoS s ++ 34 :: rest) out = .ok (.mk 2 0 (out ++ s) [] [], rest)
  | [], out, rest, _ => by
    show quoP (34 :: rest) out = _
    rw [quoP_cons, if_pos rfl, List.append_nil]
  | c :: s, out, rest, h => by
    have hc : (decide (32 ≤ u8i c) && decide (u8i c ≤ 126)) = true /\ shownB s = true := by
      unfold shownB at h; rw [List.all_cons, Bool.and_eq_true] at h; exact h
    obtain ⟨hc, hs⟩ := hc
    simp only [Bool.and_eq_true, decide_eq_true_eq] at hc
    have ih := quoP_quo s (out ++ [c]) rest hs
    rw [List.append_assoc, List.singleton_append] at ih
    have e : quoS (c :: s) = (if c = 34 \/ c = 92 then [92, c] else [c]) ++ quoS s := rfl
    rw [e]
    by_cases h1 : c = 34 \/ c = 92
    . rw [if_pos h1]
      show quoP (92 :: c :: (quoS s ++ 34 :: rest)) out = _
      rw [quoP_cons, if_neg (by decide), if_pos rfl]
      simp only [if_pos h1]
      exact ih
    . rw [if_neg h1]
      show quoP (c :: (quoS s ++ 34 :: rest)) out = _
      have hn : ¬ (c.toNat < 32 \/ 126 < c.toNat) := by
        unfold u8i at hc; omega
      rw [quoP_cons, if_neg (fun h => h1 (.inl h)), if_neg (fun h => h1 (.inr h)), if_neg hn]
      exact ih
theorem pV_str (n d : Nat) (s : List UInt8) (hs : shownB s = true) (rest : List UInt8) : pV (n + 1) d ([34] ++ quoS s ++ [34] ++ rest) = .ok (.mk 2 0 s [] [], rest) := by
  have e0 : [34] ++ quoS s ++ [34] ++ rest = 34 :: (quoS s ++ 34 :: rest) := by simp
  have e : skipB (34 :: (quoS s ++ 34 :: rest)) = 34 :: (quoS s ++ 34 :: rest) := skipB_cons (by decide) (by decide)
  rw [e0, pV]
  simp only [e, nowB_cons]
  rw [if_pos trivial]
  have := quoP_quo s [] rest hs
  simpa using this
theorem let_ne {c : UInt8} (h : partC c = true) : c ≠ 34 /\ c ≠ 45 /\ c ≠ 123 /\ c ≠ 60 /\ c ≠ 91 /\ c ≠ 40 /\ c ≠ 32 /\ c ≠ 10 := by
  refine ⟨?_, ?_, ?_, ?_, ?_, ?_, ?_, ?_⟩ <;> (rintro rfl; exact absurd h (by decide))
theorem pV_word (n d : Nat) (s : List UInt8) (hp : ∀ c ∈ s, partC c = true) (hl : ∃ c ∈ s, digC c = false) (rest : List UInt8) : pV (n + 1) d (s ++ rest) = wordP (s ++ rest) := by
  obtain ⟨c0, hc0, hd0⟩ := hl
  obtain ⟨c, t, rfl⟩ : ∃ c t, s = c :: t := by
    cases s with
    | nil => simp at hc0
    | cons c t => exact ⟨c, t, rfl⟩
  obtain ⟨a1, a2, a3, a4, a5, a6, a7, a8⟩ := let_ne (hp c (by simp))
  have e : skipB (c :: t ++ rest) = c :: t ++ rest := skipB_cons a7 a8
  have hnum : ∀ s : List UInt8, (∀ c ∈ s, partC c = true) -> (∃ c ∈ s, digC c = false) -> partC (nowB ((s ++ rest).dropWhile digC)) = true := by
    intro s
    induction s with
    | nil => intro _ h; simp at h
    | cons x s ih =>
      intro h1 h2
      rw [List.cons_append, List.dropWhile_cons]
      cases hx : digC x with
      | false => simp; exact h1 x (by simp)
      | true =>
        simp only [if_true]
        refine ih (fun c hc => h1 c (by simp [hc])) ?_
        obtain ⟨y, hy, hyd⟩ := h2
        rcases List.mem_cons.1 hy with e | hy
        . subst e; rw [hx] at hyd; cases hyd
        . exact ⟨y, hy, hyd⟩
  have hf : isNumP (c :: t ++ rest) = false := by
    rw [isNumP, hnum (c :: t) hp ⟨c0, hc0, hd0⟩]; simp
  rw [pV]
  simp only [e]
  have en : nowB (c :: t ++ rest) = c := rfl
  rw [en, if_neg a1, if_neg a2, if_neg a3, if_neg a4, if_neg a5, if_neg a6, hf, if_neg (by decide)]
theorem name_facts {s : List UInt8} (h : nameB s = true) : (∀ c ∈ s, partC c = true) /\ (∃ c ∈ s, digC c = false) /\ s ≠ [84, 82, 85, 69] /\ s ≠ [70, 65, 76, 83, 69] := by
  unfold nameB at h
  simp only [Bool.and_eq_true, Bool.not_eq_true', List.all_eq_true, List.any_eq_true] at h
  obtain ⟨⟨⟨⟨_, _⟩, h3⟩, h4⟩, ⟨c, hc, hl⟩⟩ := h
  refine ⟨h4, ⟨c, hc, ?_⟩, ?_, ?_⟩
  . unfold letterB at hl
    unfold digC digitB
    simp only [Bool.or_eq_true, Bool.and_eq_true, decide_eq_true_eq] at hl
    cases hx : decide (48 ≤ u8i c) && decide (u8i c ≤ 57) with
    | false => rfl
    | true =>
      simp only [Bool.and_eq_true, decide_eq_true_eq] at hx
      omega
  . rintro rfl; exact absurd h3 (by decide)
  . rintro rfl; exact absurd h3 (by decide)
theorem pV_name (n d : Nat) (s : List UInt8) (hs : nameB s = true) (rest : List UInt8) (hr : partC (nowB rest) = false) : pV (n + 1) d (s ++ rest) = .ok (.mk 3 0 s [] [], rest) := by
  obtain ⟨h1, h2, h3, h4⟩ := name_facts hs
  obtain ⟨t1, t2⟩ := takeW h1 hr
  rw [pV_word n d s h1 h2 rest, wordP, t1, t2, if_neg h3, if_neg h4, hs, if_pos rfl]
theorem pV_true (n d : Nat) (rest : List UInt8) (hr : partC (nowB rest) = false) : pV (n + 1) d ([84, 82, 85, 69] ++ rest) = .ok (.mk 0 1 [] [] [], rest) := by
  have h1 : ∀ c ∈ ([84, 82, 85, 69] : List UInt8), partC c = true := by decide
  obtain ⟨t1, t2⟩ := takeW h1 hr
  rw [pV_word n d _ h1 ⟨84, by simp, by decide⟩ rest, wordP, t1, t2, if_pos rfl]
theorem pV_false (n d : Nat) (rest : List UInt8) (hr : partC (nowB rest) = false) : pV (n + 1) d ([70, 65, 76, 83, 69] ++ rest) = .ok (.mk 0 0 [] [] [], rest) := by
  have h1 : ∀ c ∈ ([70, 65, 76, 83, 69] : List UInt8), partC c = true := by decide
  obtain ⟨t1, t2⟩ := takeW h1 hr
  rw [pV_word n d _ h1 ⟨70, by simp, by decide⟩ rest, wordP, t1, t2, if_neg (by decide), if_pos rfl]
end Go.Tv
namespace Go.Tv
set_option maxHeartbeats 4000000
theorem txtL_map : ∀ l : List V, txtL l = l.map txtV
  | [] => rfl
  | v :: r => by rw [txtL, txtL_map r, List.map_cons]
theorem mustG_app : ∀ (s r : List UInt8), mustG s (s ++ r) = .ok r
  | [], r => by simp [mustG]
  | c :: s, r => by rw [List.cons_append, mustG, if_pos rfl]; exact mustG_app s r
def headC (c : UInt8) : Bool := partC c || c == 34 || c == 45 || c == 123 || c == 60 || c == 91 || c == 40
theorem head_ne {c : UInt8} (h : headC c = true) : c ≠ 32 /\ c ≠ 10 /\ c ≠ 125 /\ c ≠ 62 := by
  refine ⟨?_, ?_, ?_, ?_⟩ <;> (rintro rfl; exact absurd h (by decide))
theorem txt_head {v : V} (h : ownE v = 0) : ∃ c t, txtV v = c :: t /\ headC c = true := by
  obtain ⟨h1, h2, h3, h4, h5⟩ := (own_iff v).1 h
  cases v with
  | mk k n s ks is =>
    simp only [mk_kind, mk_num, mk_s, mk_keys, mk_items] at h1 h2 h3 h4 h5
    rw [txtV]
    by_cases k0 : k = 0
    . rw [if_pos k0]
      split
      . exact ⟨84, _, rfl, by decide⟩
      . exact ⟨70, _, rfl, by decide⟩
    rw [if_neg k0]
    by_cases k1 : k = 1
    . rw [if_pos k1]
      unfold Lib.itoa
      split
      . exact ⟨45, _, rfl, by decide⟩
      . obtain ⟨_, q2, q3⟩ := dec_spec n.toNat
        cases hh : Lib.decDigits n.toNat with
        | nil => exact absurd hh q3
        | cons c t =>
          have := q2 c (by rw [hh]; simp)
          exact ⟨c, t, rfl, by unfold headC; rw [dig_part this]; rfl⟩
    rw [if_neg k1]
    by_cases k2 : k = 2
    . rw [if_pos k2]; exact ⟨34, _, rfl, by decide⟩
    rw [if_neg k2]
    by_cases k3 : k = 3
    . rw [if_pos k3]
      have hn : nameB s = true := by
        cases hb : nameB s with
        | true => rfl
        | false => exact absurd (.inr ⟨k3, hb⟩) h4
      obtain ⟨q1, ⟨c0, hc0, _⟩, _⟩ := name_facts hn
      cases s with
      | nil => simp at hc0
      | cons c t => exact ⟨c, t, rfl, by unfold headC; rw [q1 c (by simp)]; rfl⟩
    rw [if_neg k3]
    by_cases k4 : k = 4
    . rw [if_pos k4]; exact ⟨123, _, rfl, by decide⟩
    rw [if_neg k4]
    split
    . exact ⟨60, _, rfl, by decide⟩
    . split
      . exact ⟨91, _, rfl, by decide⟩
      . exact ⟨40, _, rfl, by decide⟩
theorem skip_txt {v : V} (h : ownE v = 0) (r : List UInt8) : skipB (txtV v ++ r) = txtV v ++ r := by
  obtain ⟨c, t, e, hc⟩ := txt_head h
  obtain ⟨a1, a2, _, _⟩ := head_ne hc
  rw [e, List.cons_append]; exact skipB_cons a1 a2
def RT (v : V) : Prop := ∀ n d rest, 3 * (txtV v ++ rest).length + 1 ≤ n -> d + v.dep ≤ 20 -> partC (nowB rest) = false -> pV n d (txtV v ++ rest) = .ok (v, rest)
theorem goes_on (en r : List UInt8) : goesB [44] en (44 :: r) = .ok (true, r) := by
  have e : skipB (44 :: r) = 44 :: r := skipB_cons (by decide) (by decide)
  have := mustG_app [44] r
  rw [List.singleton_append] at this
  rw [goesB, e, if_pos (show nowB (44 :: r) = [44].headD 0 from rfl), mustB, e, this]
theorem goes_off {c : UInt8} {en r : List UInt8} (h1 : c ≠ 44) (h2 : c ≠ 32) (h3 : c ≠ 10) : goesB [44] (c :: en) (c :: en ++ r) = .ok (false, r) := by
  have e : skipB (c :: en ++ r) = c :: en ++ r := skipB_cons h2 h3
  rw [goesB, e, if_neg (show ¬ nowB (c :: en ++ r) = [44].headD 0 from h1), mustB, e, mustG_app]
theorem pL_sp (n d : Nat) (en r : List UInt8) : pL (n + 2) d en (32 :: r) = pL (n + 2) d en r := by
  rw [pL, pL, pV_sp]
def moreB (sep : List UInt8) (l : List V) : List UInt8 := (txtL l).flatMap fun y => sep ++ y
theorem moreB_cons (sep : List UInt8) (v : V) (l : List V) : moreB sep (v :: l) = sep ++ txtV v ++ moreB sep l := by
  simp [moreB, txtL, List.flatMap_cons]
theorem pL_txt {c : UInt8} {en : List UInt8} (h1 : c ≠ 44) (h2 : c ≠ 32) (h3 : c ≠ 10) (hp : partC c = false) : ∀ (l : List V) (v : V), (∀ x ∈ v :: l, RT x) -> ∀ (n d : Nat) (rest : List UInt8),
    3 * (txtV v ++ (moreB [44, 32] l ++ (c :: en ++ rest))).length + 2 ≤ n -> d + deps (v :: l) ≤ 20 -> pL n d (c :: en) (txtV v ++ (moreB [44, 32] l ++ (c :: en ++ rest))) = .ok (v :: l, rest)
  | [], v, hv, n, d, rest, hn, hd => by
    obtain ⟨m, rfl⟩ : ∃ m, n = m + 1 := ⟨n - 1, by omega⟩
    have hd' : d + v.dep ≤ 20 := by simp only [deps] at hd; omega
    have := hv v (by simp) m d (moreB [44, 32] [] ++ (c :: en ++ rest)) (by omega) hd' hp
    rw [pL, this]
    show (match goesB [44] (c :: en) (c :: en ++ rest) with | .error e => Except.error e | .ok (false, r2) => .ok ([v], r2) | .ok (true, r2) => mapP (v :: ·) (pL m d (c :: en) r2)) = _
    rw [goes_off h1 h2 h3]
  | x :: l, v, hv, n, d, rest, hn, hd => by
    obtain ⟨m, rfl⟩ : ∃ m, n = m + 1 := ⟨n - 1, by omega⟩
    have hd' : d + v.dep ≤ 20 := by simp only [deps] at hd; omega
    have hd2 : d + deps (x :: l) ≤ 20 := by simp only [deps] at hd ⊢; omega
    have e0 : moreB [44, 32] (x :: l) ++ (c :: en ++ rest) = 44 :: 32 :: (txtV x ++ (moreB [44, 32] l ++ (c :: en ++ rest))) := by rw [moreB_cons]; simp
    rw [e0] at hn ⊢
    have hl : (txtV v ++ 44 :: 32 :: (txtV x ++ (moreB [44, 32] l ++ (c :: en ++ rest)))).length = (txtV v).length + 2 + (txtV x ++ (moreB [44, 32] l ++ (c :: en ++ rest))).length := by
      rw [List.length_append, List.length_cons, List.length_cons]; omega
    have := hv v (by simp) m d (44 :: 32 :: (txtV x ++ (moreB [44, 32] l ++ (c :: en ++ rest)))) (by omega) hd' (show partC 44 = false by decide)
    rw [hl] at hn
    obtain ⟨m2, rfl⟩ : ∃ m2, m = m2 + 2 := ⟨m - 2, by omega⟩
    have ih := pL_txt (en := en) h1 h2 h3 hp l x (fun y hy => hv y (by simp only [List.mem_cons] at hy ⊢; exact .inr hy)) (m2 + 2) d rest (by omega) hd2
    rw [pL, this]
    show (match goesB [44] (c :: en) (44 :: 32 :: (txtV x ++ (moreB [44, 32] l ++ (c :: en ++ rest)))) with | .error e => Except.error e | .ok (false, r2) => .ok ([v], r2) | .ok (true, r2) => mapP (v :: ·) (pL (m2 + 2) d (c :: en) r2)) = _
    rw [goes_on]
    simp only [pL_sp, ih, mapP]
theorem pL0_txt {c : UInt8} {en : List UInt8} (h1 : c ≠ 44) (h2 : c ≠ 32) (h3 : c ≠ 10) (hp : partC c = false) (hh : ∀ x, headC x = true -> x ≠ c) (l : List V) (hl : ∀ x ∈ l, RT x /\ ownE x = 0) (n d : Nat) (rest : List UInt8)
    (hn : 3 * (sepB [44, 32] (txtL l) ++ (c :: en ++ rest)).length + 3 ≤ n) (hd : d + deps l ≤ 20) :
    pL0 n d (c :: en) (skipB (sepB [44, 32] (txtL l) ++ (c :: en ++ rest))) = .ok (l, rest) := by
  obtain ⟨m, rfl⟩ : ∃ m, n = m + 1 := ⟨n - 1, by omega⟩
  cases l with
  | nil =>
    have e : skipB (sepB [44, 32] (txtL []) ++ (c :: en ++ rest)) = c :: en ++ rest := skipB_cons h2 h3
    rw [e, pL0, if_pos (show nowB (c :: en ++ rest) = (c :: en).headD 0 from rfl), mustB, show skipB (c :: en ++ rest) = c :: en ++ rest from e, mustG_app]
  | cons v r =>
    have e0 : sepB [44, 32] (txtL (v :: r)) ++ (c :: en ++ rest) = txtV v ++ (moreB [44, 32] r ++ (c :: en ++ rest)) := by
      simp only [txtL, sepB, moreB, List.append_assoc]
    have ho := (hl v (by simp)).2
    rw [e0] at hn ⊢
    rw [skip_txt ho]
    obtain ⟨x, t, ex, hx⟩ := txt_head ho
    have hne : ¬ nowB (txtV v ++ (moreB [44, 32] r ++ (c :: en ++ rest))) = (c :: en).headD 0 := by rw [ex]; exact hh x hx
    rw [pL0, if_neg hne]
    exact pL_txt h1 h2 h3 hp r v (fun y hy => (hl y hy).1) m d rest (by omega) hd
theorem pR_sp (n d : Nat) (r : List UInt8) : pR (n + 1) d (32 :: r) = pR (n + 1) d r := by simp only [pR, skipB_sp]
theorem pM_sp (n d : Nat) (r : List UInt8) : pM (n + 2) d (32 :: r) = pM (n + 2) d r := by rw [pM, pM, pV_sp]
def moreP (sep sign : List UInt8) (ks xs : List (List UInt8)) : List UInt8 := (pairB sign ks xs).flatMap fun y => sep ++ y
theorem moreP_cons (sep sign k x : List UInt8) (ks xs : List (List UInt8)) : moreP sep sign (k :: ks) (x :: xs) = sep ++ (k ++ (sign ++ (x ++ moreP sep sign ks xs))) := by
  simp [moreP, pairB]
theorem moreP_nil (sep sign : List UInt8) (xs : List (List UInt8)) : moreP sep sign [] xs = [] := by
  cases xs <;> rfl
theorem name_skip {s : List UInt8} (h : nameB s = true) (r : List UInt8) : skipB (s ++ r) = s ++ r := by
  obtain ⟨q1, ⟨c0, hc0, _⟩, _⟩ := name_facts h
  cases s with
  | nil => simp at hc0
  | cons c t =>
    obtain ⟨a1, a2, a3, a4, a5, a6, a7, a8⟩ := let_ne (q1 c (by simp))
    exact skipB_cons a7 a8
def recOk (k : V) : Prop := k = .mk 2 0 k.s [] [] /\ nameB k.s = true
theorem must_arrow (X : List UInt8) : mustB [124, 45, 62] (32 :: 124 :: 45 :: 62 :: 32 :: X) = .ok (32 :: X) := by
  rw [mustB, skipB_sp, skipB_cons (by decide) (by decide)]; exact mustG_app [124, 45, 62] (32 :: X)
theorem must_colon (X : List UInt8) : mustB [58, 62] (32 :: 58 :: 62 :: 32 :: X) = .ok (32 :: X) := by
  rw [mustB, skipB_sp, skipB_cons (by decide) (by decide)]; exact mustG_app [58, 62] (32 :: X)
theorem goes_on2 (X : List UInt8) : goesB [64, 64] [41] (32 :: 64 :: 64 :: 32 :: X) = .ok (true, 32 :: X) := by
  have e : skipB (32 :: 64 :: 64 :: 32 :: X) = 64 :: 64 :: 32 :: X := by rw [skipB_sp]; exact skipB_cons (by decide) (by decide)
  rw [goesB, e, if_pos (show nowB (64 :: 64 :: 32 :: X) = [64, 64].headD 0 from rfl), mustB, e]
  rw [show (64 : UInt8) :: 64 :: 32 :: X = [64, 64] ++ (32 :: X) from rfl, mustG_app]
theorem goes_off2 (X : List UInt8) : goesB [64, 64] [41] (41 :: X) = .ok (false, X) := by
  have e : skipB (41 :: X) = 41 :: X := skipB_cons (by decide) (by decide)
  rw [goesB, e, if_neg (show ¬ nowB (41 :: X) = [64, 64].headD 0 from (by decide : ¬ (41 : UInt8) = 64)), mustB, e]
  rw [show (41 : UInt8) :: X = [41] ++ X from rfl, mustG_app]
theorem pR_txt : ∀ (ks is : List V) (k v : V), recOk k -> (∀ x ∈ ks, recOk x) -> ks.length = is.length -> RT v -> (∀ x ∈ is, RT x) -> ∀ (n d : Nat) (rest : List UInt8),
    3 * (k.s ++ (32 :: 124 :: 45 :: 62 :: 32 :: (txtV v ++ (moreP [44, 32] [32, 124, 45, 62, 32] (ks.map V.s) (txtL is) ++ 93 :: rest)))).length + 2 ≤ n -> d + v.dep ≤ 20 -> d + deps is ≤ 20 ->
    pR n d (k.s ++ (32 :: 124 :: 45 :: 62 :: 32 :: (txtV v ++ (moreP [44, 32] [32, 124, 45, 62, 32] (ks.map V.s) (txtL is) ++ 93 :: rest)))) = .ok ((k, v) :: ks.zip is, rest) := by
  intro ks
  induction ks with
  | nil =>
    intro is k v hk _ hl hv _ n d rest hn hd _
    have hi : is = [] := by cases is with | nil => rfl | cons a r => simp at hl
    subst hi
    rw [List.map_nil, moreP_nil, List.nil_append] at hn ⊢
    simp only [List.length_append, List.length_cons] at hn
    obtain ⟨m, rfl⟩ : ∃ m, n = m + 2 := ⟨n - 2, by omega⟩
    obtain ⟨q1, _, _⟩ := name_facts hk.2
    obtain ⟨t1, t2⟩ := takeW (rest := 32 :: 124 :: 45 :: 62 :: 32 :: (txtV v ++ 93 :: rest)) q1 (show partC 32 = false by decide)
    have hp : pV (m + 1) d (32 :: (txtV v ++ 93 :: rest)) = .ok (v, 93 :: rest) := by
      rw [pV_sp]; exact hv (m + 1) d (93 :: rest) (by simp only [List.length_append, List.length_cons]; omega) hd (show partC 93 = false by decide)
    have hg := goes_off (c := 93) (en := []) (r := rest) (by decide) (by decide) (by decide)
    rw [pR]
    simp only [name_skip hk.2, t1, t2, hk.2, if_true, must_arrow, hp, <- hk.1]
    rw [show (93 : UInt8) :: rest = 93 :: [] ++ rest from rfl, hg]
    rfl
  | cons k2 ks ih =>
    intro is k v hk hks hl hv his n d rest hn hd hds
    obtain ⟨v2, is, rfl⟩ : ∃ a r, is = a :: r := by cases is with | nil => simp at hl | cons a r => exact ⟨a, r, rfl⟩
    rw [List.map_cons, txtL, moreP_cons] at hn ⊢
    have e0 : [44, 32] ++ (k2.s ++ ([32, 124, 45, 62, 32] ++ (txtV v2 ++ moreP [44, 32] [32, 124, 45, 62, 32] (ks.map V.s) (txtL is)))) ++ 93 :: rest
        = 44 :: 32 :: (k2.s ++ (32 :: 124 :: 45 :: 62 :: 32 :: (txtV v2 ++ (moreP [44, 32] [32, 124, 45, 62, 32] (ks.map V.s) (txtL is) ++ 93 :: rest)))) := by simp
    rw [e0] at hn ⊢
    simp only [deps] at hds
    have hn2 := hn
    simp only [List.length_append, List.length_cons] at hn2
    obtain ⟨m, rfl⟩ : ∃ m, n = m + 2 := ⟨n - 2, by omega⟩
    have i1 := ih is k2 v2 (hks k2 (by simp)) (fun x hx => hks x (by simp [hx])) (by simpa using hl) (his v2 (by simp)) (fun x hx => his x (by simp [hx])) (m + 1) d rest (by simp only [List.length_append, List.length_cons]; omega) (by omega) (by omega)
    generalize hY : k2.s ++ (32 :: 124 :: 45 :: 62 :: 32 :: (txtV v2 ++ (moreP [44, 32] [32, 124, 45, 62, 32] (ks.map V.s) (txtL is) ++ 93 :: rest))) = Y at *
    obtain ⟨q1, _, _⟩ := name_facts hk.2
    obtain ⟨t1, t2⟩ := takeW (rest := 32 :: 124 :: 45 :: 62 :: 32 :: (txtV v ++ 44 :: 32 :: Y)) q1 (show partC 32 = false by decide)
    have hp : pV (m + 1) d (32 :: (txtV v ++ 44 :: 32 :: Y)) = .ok (v, 44 :: 32 :: Y) := by
      rw [pV_sp]; exact hv (m + 1) d (44 :: 32 :: Y) (by simp only [List.length_append, List.length_cons] at hn ⊢; omega) hd (show partC 44 = false by decide)
    rw [pR]
    simp only [name_skip hk.2, t1, t2, hk.2, if_true, must_arrow, hp, <- hk.1, goes_on, pR_sp, i1, mapP]
    rfl
theorem pM_txt : ∀ (ks is : List V) (k v : V), RT k -> (∀ x ∈ ks, RT x) -> ks.length = is.length -> RT v -> (∀ x ∈ is, RT x) -> ∀ (n d : Nat) (rest : List UInt8),
    3 * (txtV k ++ (32 :: 58 :: 62 :: 32 :: (txtV v ++ (moreP [32, 64, 64, 32] [32, 58, 62, 32] (txtL ks) (txtL is) ++ 41 :: rest)))).length + 2 ≤ n -> d + k.dep ≤ 20 -> d + v.dep ≤ 20 -> d + deps ks ≤ 20 -> d + deps is ≤ 20 ->
    pM n d (txtV k ++ (32 :: 58 :: 62 :: 32 :: (txtV v ++ (moreP [32, 64, 64, 32] [32, 58, 62, 32] (txtL ks) (txtL is) ++ 41 :: rest)))) = .ok ((k, v) :: ks.zip is, rest) := by
  intro ks
  induction ks with
  | nil =>
    intro is k v hk _ hl hv _ n d rest hn hdk hd _ _
    have hi : is = [] := by cases is with | nil => rfl | cons a r => simp at hl
    subst hi
    rw [txtL, moreP_nil, List.nil_append] at hn ⊢
    have hn2 := hn
    simp only [List.length_append, List.length_cons] at hn2
    obtain ⟨m, rfl⟩ : ∃ m, n = m + 2 := ⟨n - 2, by omega⟩
    have hpk := hk (m + 1) d (32 :: 58 :: 62 :: 32 :: (txtV v ++ 41 :: rest)) (by omega) hdk (show partC 32 = false by decide)
    have hp : pV (m + 1) d (32 :: (txtV v ++ 41 :: rest)) = .ok (v, 41 :: rest) := by
      rw [pV_sp]; exact hv (m + 1) d (41 :: rest) (by simp only [List.length_append, List.length_cons]; omega) hd (show partC 41 = false by decide)
    rw [pM]
    simp only [hpk, must_colon, hp, goes_off2]
    rfl
  | cons k2 ks ih =>
    intro is k v hk hks hl hv his n d rest hn hdk hd hdks hds
    obtain ⟨v2, is, rfl⟩ : ∃ a r, is = a :: r := by cases is with | nil => simp at hl | cons a r => exact ⟨a, r, rfl⟩
    rw [txtL, txtL, moreP_cons] at hn ⊢
    have e0 : [32, 64, 64, 32] ++ (txtV k2 ++ ([32, 58, 62, 32] ++ (txtV v2 ++ moreP [32, 64, 64, 32] [32, 58, 62, 32] (txtL ks) (txtL is)))) ++ 41 :: rest
        = 32 :: 64 :: 64 :: 32 :: (txtV k2 ++ (32 :: 58 :: 62 :: 32 :: (txtV v2 ++ (moreP [32, 64, 64, 32] [32, 58, 62, 32] (txtL ks) (txtL is) ++ 41 :: rest)))) := by simp
    rw [e0] at hn ⊢
    simp only [deps] at hds hdks
    have hn2 := hn
    simp only [List.length_append, List.length_cons] at hn2
    obtain ⟨m, rfl⟩ : ∃ m, n = m + 3 := ⟨n - 3, by omega⟩
    have i1 := ih is k2 v2 (hks k2 (by simp)) (fun x hx => hks x (by simp [hx])) (by simpa using hl) (his v2 (by simp)) (fun x hx => his x (by simp [hx])) (m + 2) d rest (by simp only [List.length_append, List.length_cons]; omega) (by omega) (by omega) (by omega) (by omega)
    generalize hY : txtV k2 ++ (32 :: 58 :: 62 :: 32 :: (txtV v2 ++ (moreP [32, 64, 64, 32] [32, 58, 62, 32] (txtL ks) (txtL is) ++ 41 :: rest))) = Y at *
    have hpk := hk (m + 2) d (32 :: 58 :: 62 :: 32 :: (txtV v ++ 32 :: 64 :: 64 :: 32 :: Y)) (by omega) hdk (show partC 32 = false by decide)
    have hp : pV (m + 2) d (32 :: (txtV v ++ 32 :: 64 :: 64 :: 32 :: Y)) = .ok (v, 32 :: 64 :: 64 :: 32 :: Y) := by
      rw [pV_sp]; exact hv (m + 2) d (32 :: 64 :: 64 :: 32 :: Y) (by simp only [List.length_append, List.length_cons] at hn ⊢; omega) hd (show partC 32 = false by decide)
    rw [pM]
    simp only [hpk, must_colon, hp, goes_on2, pM_sp, i1, mapP]
    rfl
theorem openP_ok {d : Nat} (hd : d ≠ 20) {c : UInt8} {s r : List UInt8} (h1 : c ≠ 32) (h2 : c ≠ 10) : openP d (c :: s) (c :: s ++ r) = .ok (skipB r) := by
  have e : skipB (c :: s ++ r) = c :: s ++ r := skipB_cons h1 h2
  rw [openP, if_neg hd, mustB, e, mustG_app]
theorem tup_keys : ∀ (l : List V) (i : Nat), errL false l = 0 -> tupL l i = true -> l = (List.range l.length).map fun j => intV ((i + j + 1 : Nat) : Int)
  | [], _, _, _ => rfl
  | k :: r, i, he, h => by
    rw [tupL, Bool.and_eq_true, Bool.and_eq_true] at h
    obtain ⟨⟨h1, h2⟩, h3⟩ := h
    have hk := errL_mem he k (by simp)
    have ho := (errV_zero hk).1
    have e1 := own_int ho (by simpa using h1)
    have h2' : k.num = (i : Int) + 1 := by simpa using h2
    have hr : errL false r = 0 := by
      have : errV false k = 0 := hk
      rw [errL, if_neg (by rw [this]; exact fun h => h rfl)] at he
      exact he
    have ih := tup_keys r (i + 1) hr (by push_cast; exact h3)
    rw [List.length_cons, List.range_succ_eq_map, List.map_cons, List.map_map]
    congr 1
    . rw [e1, h2']; congr 1
    . rw [ih, List.length_map, List.length_range]
      apply List.map_congr_left
      intro j _
      simp only [Function.comp]
      congr 2; omega
theorem zip_fst : ∀ (a b : List V), a.length = b.length -> (a.zip b).map Prod.fst = a
  | [], b, _ => by simp
  | x :: a, [], h => by simp at h
  | x :: a, y :: b, h => by simp [zip_fst a b (by simpa using h)]
theorem zip_snd : ∀ (a b : List V), a.length = b.length -> (a.zip b).map Prod.snd = b
  | [], [], _ => rfl
  | [], y :: b, h => by simp at h
  | x :: a, [], h => by simp at h
  | x :: a, y :: b, h => by simp [zip_snd a b (by simpa using h)]
theorem rt (v : V) : errV false v = 0 -> RT v := by
  refine V.ind (P := fun v => errV false v = 0 -> RT v) (fun v ik ii h => ?_) v
  obtain ⟨ho, _, hke, hie⟩ := errV_zero h
  have Rk : ∀ x ∈ v.keys, RT x := fun x hx => ik x hx (errL_mem hke x hx)
  have Ri : ∀ x ∈ v.items, RT x /\ ownE x = 0 := fun x hx => ⟨ii x hx (errL_mem hie x hx), (errV_zero (errL_mem hie x hx)).1⟩
  clear ik ii
  obtain ⟨h1, h2, h3, h4, h5⟩ := (own_iff v).1 ho
  intro n d rest hn hd hr
  obtain ⟨n, rfl⟩ : ∃ m, n = m + 1 := ⟨n - 1, by omega⟩
  rw [V.dep_eq] at hd
  obtain ⟨k, m, s, ks, is⟩ := v
  simp only [mk_kind, mk_num, mk_s, mk_keys, mk_items] at h1 h2 h3 h4 h5 hke hie Rk Ri hd
  have e_n : k ≠ 0 -> k ≠ 1 -> m = 0 := fun a b => Classical.byContradiction fun c => h2 (.inl ⟨a, b, c⟩)
  have e_s : k ≠ 2 -> k ≠ 3 -> s = [] := fun a b => Classical.byContradiction fun c => h2 (.inr (.inl ⟨a, b, c⟩))
  have e_i : k ≠ 4 -> k ≠ 5 -> is = [] := fun a b => Classical.byContradiction fun c => h2 (.inr (.inr (.inl ⟨a, b, c⟩)))
  have e_k : k ≠ 5 -> ks = [] := fun a => Classical.byContradiction fun c => h2 (.inr (.inr (.inr (.inl ⟨a, c⟩))))
  have e_b : k = 0 -> 0 ≤ m /\ m ≤ 1 := fun a => Classical.byContradiction fun c => h2 (.inr (.inr (.inr (.inr ⟨a, c⟩))))
  clear h2
  have hdn : d ≠ 20 := by omega
  rw [txtV] at hn ⊢
  by_cases k0 : k = 0
  . subst k0
    obtain rfl := e_s (by decide) (by decide)
    obtain rfl := e_i (by decide) (by decide)
    obtain rfl := e_k (by decide)
    have hm : m = 0 \/ m = 1 := by have := e_b rfl; omega
    rw [if_pos rfl]
    rcases hm with rfl | rfl
    . exact pV_false n d rest hr
    . exact pV_true n d rest hr
  rw [if_neg k0] at hn ⊢
  by_cases k1 : k = 1
  . subst k1
    obtain rfl := e_s (by decide) (by decide)
    obtain rfl := e_i (by decide) (by decide)
    obtain rfl := e_k (by decide)
    rw [if_pos rfl]
    have hm : -10000 ≤ m /\ m ≤ 10000 := Classical.byContradiction fun c => h3 (.inl ⟨rfl, c⟩)
    exact pV_int n d m hm rest hr
  rw [if_neg k1] at hn ⊢
  obtain rfl := e_n k0 k1
  by_cases k2 : k = 2
  . subst k2
    obtain rfl := e_i (by decide) (by decide)
    obtain rfl := e_k (by decide)
    rw [if_pos rfl]
    have hm : shownB s = true := by
      cases hb : shownB s with
      | true => rfl
      | false => exact absurd (.inl ⟨rfl, hb⟩) h4
    exact pV_str n d s hm rest
  rw [if_neg k2] at hn ⊢
  by_cases k3 : k = 3
  . subst k3
    obtain rfl := e_i (by decide) (by decide)
    obtain rfl := e_k (by decide)
    rw [if_pos rfl]
    have hm : nameB s = true := by
      cases hb : nameB s with
      | true => rfl
      | false => exact absurd (.inr ⟨rfl, hb⟩) h4
    exact pV_name n d s hm rest hr
  rw [if_neg k3] at hn ⊢
  obtain rfl := e_s k2 k3
  by_cases k4 : k = 4
  . subst k4
    obtain rfl := e_k (by decide)
    rw [if_pos rfl] at hn ⊢
    have e0 : [123] ++ sepB [44, 32] (txtL is) ++ [125] ++ rest = [123] ++ (sepB [44, 32] (txtL is) ++ (125 :: [] ++ rest)) := by simp
    rw [e0] at hn ⊢
    have hn2 := hn
    simp only [List.length_append, List.length_cons, List.length_nil] at hn2
    have e1 : skipB ([123] ++ (sepB [44, 32] (txtL is) ++ (125 :: [] ++ rest))) = [123] ++ (sepB [44, 32] (txtL is) ++ (125 :: [] ++ rest)) := skipB_cons (by decide) (by decide)
    have hl := pL0_txt (c := 125) (en := []) (by decide) (by decide) (by decide) (by decide) (fun x hx => (head_ne hx).2.2.1) is Ri n (d + 1) rest (by simp only [List.length_append, List.length_cons, List.length_nil]; omega) (by omega)
    rw [pV]
    simp only [e1]
    rw [show nowB ([123] ++ (sepB [44, 32] (txtL is) ++ (125 :: [] ++ rest))) = 123 from rfl, if_neg (by decide), if_neg (by decide), if_pos rfl, openP_ok hdn (by decide) (by decide)]
    simp only [hl, mapP]
  rw [if_neg k4] at hn ⊢
  have k5 : k = 5 := by omega
  subst k5
  have hlen : ks.length = is.length := Classical.byContradiction fun c => h5 ⟨rfl, c⟩
  by_cases hsh : shapeF (.mk 5 0 [] ks is) = 1
  . rw [if_pos hsh] at hn ⊢
    have ht : tupL ks 0 = true := by
      cases hb : tupL ks 0 with
      | true => rfl
      | false =>
        unfold shapeF at hsh
        rw [if_pos (show V.kind (.mk 5 0 [] ks is) = 5 from rfl), if_neg (show ¬ tupL (V.keys (.mk 5 0 [] ks is)) 0 = true by rw [mk_keys, hb]; decide)] at hsh
        by_cases hx : (V.keys (.mk 5 0 [] ks is)).all recK = true
        . rw [if_pos hx] at hsh; exact absurd hsh (by decide)
        . rw [if_neg hx] at hsh; exact absurd hsh (by decide)
    have e0 : [60, 60] ++ sepB [44, 32] (txtL is) ++ [62, 62] ++ rest = [60, 60] ++ (sepB [44, 32] (txtL is) ++ (62 :: [62] ++ rest)) := by simp
    rw [e0] at hn ⊢
    have hn2 := hn
    simp only [List.length_append, List.length_cons, List.length_nil] at hn2
    have e1 : skipB ([60, 60] ++ (sepB [44, 32] (txtL is) ++ (62 :: [62] ++ rest))) = [60, 60] ++ (sepB [44, 32] (txtL is) ++ (62 :: [62] ++ rest)) := skipB_cons (by decide) (by decide)
    have hl := pL0_txt (c := 62) (en := [62]) (by decide) (by decide) (by decide) (by decide) (fun x hx => (head_ne hx).2.2.2) is Ri n (d + 1) rest (by simp only [List.length_append, List.length_cons, List.length_nil]; omega) (by omega)
    rw [pV]
    simp only [e1]
    rw [show nowB ([60, 60] ++ (sepB [44, 32] (txtL is) ++ (62 :: [62] ++ rest))) = 60 from rfl, if_neg (by decide), if_neg (by decide), if_neg (by decide), if_pos rfl, openP_ok hdn (by decide) (by decide)]
    have hk := tup_keys ks 0 hke ht
    simp only [Nat.zero_add] at hk
    simp only [hl, mapP]
    rw [<- hlen, <- hk]
  rw [if_neg hsh] at hn ⊢
  have hne : ∃ k1 ks1, ks = k1 :: ks1 := by
    cases ks with
    | nil => exact absurd rfl hsh
    | cons a r => exact ⟨a, r, rfl⟩
  obtain ⟨k1', ks1, rfl⟩ := hne
  obtain ⟨i1, is1, rfl⟩ : ∃ a r, is = a :: r := by cases is with | nil => simp at hlen | cons a r => exact ⟨a, r, rfl⟩
  have hlen1 : ks1.length = is1.length := by simpa using hlen
  simp only [deps] at hd
  by_cases hs2 : shapeF (.mk 5 0 [] (k1' :: ks1) (i1 :: is1)) = 2
  . rw [if_pos hs2] at hn ⊢
    have hall : ∀ x ∈ k1' :: ks1, recOk x := by
      have : (k1' :: ks1).all recK = true := by
        unfold shapeF at hs2
        rw [if_pos (show V.kind (.mk 5 0 [] (k1' :: ks1) (i1 :: is1)) = 5 from rfl)] at hs2
        by_cases hy : tupL (V.keys (.mk 5 0 [] (k1' :: ks1) (i1 :: is1))) 0 = true
        . rw [if_pos hy] at hs2; exact absurd hs2 (by decide)
        rw [if_neg hy] at hs2
        by_cases hx : (V.keys (.mk 5 0 [] (k1' :: ks1) (i1 :: is1))).all recK = true
        . exact hx
        . rw [if_neg hx] at hs2; exact absurd hs2 (by decide)
      intro x hx
      have hx2 := List.all_eq_true.1 this x hx
      unfold recK at hx2
      rw [Bool.and_eq_true, decide_eq_true_eq] at hx2
      refine ⟨?_, hx2.2⟩
      have ox := (errV_zero (errL_mem hke x hx)).1
      obtain ⟨_, g2, _, _, _⟩ := (own_iff x).1 ox
      have a1 : x.num = 0 := Classical.byContradiction fun c => g2 (.inl ⟨by rw [hx2.1]; decide, by rw [hx2.1]; decide, c⟩)
      have a2 : x.items = [] := Classical.byContradiction fun c => g2 (.inr (.inr (.inl ⟨by rw [hx2.1]; decide, by rw [hx2.1]; decide, c⟩)))
      have a3 : x.keys = [] := Classical.byContradiction fun c => g2 (.inr (.inr (.inr (.inl ⟨by rw [hx2.1]; decide, c⟩))))
      have := V.eta x
      rw [hx2.1, a1, a2, a3] at this
      exact this.symm
    have e0 : [91] ++ sepB [44, 32] (pairB [32, 124, 45, 62, 32] ((k1' :: ks1).map V.s) (txtL (i1 :: is1))) ++ [93] ++ rest
        = [91] ++ (k1'.s ++ (32 :: 124 :: 45 :: 62 :: 32 :: (txtV i1 ++ (moreP [44, 32] [32, 124, 45, 62, 32] (ks1.map V.s) (txtL is1) ++ 93 :: rest)))) := by
      simp [txtL, pairB, sepB, moreP]
    rw [e0] at hn ⊢
    have hR := pR_txt ks1 is1 k1' i1 (hall k1' (by simp)) (fun x hx => hall x (by simp [hx])) hlen1 (Ri i1 (by simp)).1 (fun x hx => (Ri x (by simp [hx])).1) n (d + 1) rest (by simp only [List.length_append, List.length_cons, List.length_nil] at hn ⊢; omega) (by omega) (by omega)
    have hsk : skipB (k1'.s ++ (32 :: 124 :: 45 :: 62 :: 32 :: (txtV i1 ++ (moreP [44, 32] [32, 124, 45, 62, 32] (ks1.map V.s) (txtL is1) ++ 93 :: rest)))) = _ := name_skip (hall k1' (by simp)).2 _
    generalize hY : k1'.s ++ (32 :: 124 :: 45 :: 62 :: 32 :: (txtV i1 ++ (moreP [44, 32] [32, 124, 45, 62, 32] (ks1.map V.s) (txtL is1) ++ 93 :: rest))) = Y at *
    have e1 : skipB ([91] ++ Y) = [91] ++ Y := skipB_cons (by decide) (by decide)
    rw [pV]
    simp only [e1]
    rw [show nowB ([91] ++ Y) = 91 from rfl, if_neg (by decide), if_neg (by decide), if_neg (by decide), if_neg (by decide), if_pos rfl, openP_ok hdn (by decide) (by decide), hsk]
    simp only [hR, mapP, List.map_cons, zip_fst _ _ hlen1, zip_snd _ _ hlen1]
  rw [if_neg hs2] at hn ⊢
  have e0 : [40] ++ sepB [32, 64, 64, 32] (pairB [32, 58, 62, 32] (txtL (k1' :: ks1)) (txtL (i1 :: is1))) ++ [41] ++ rest
      = [40] ++ (txtV k1' ++ (32 :: 58 :: 62 :: 32 :: (txtV i1 ++ (moreP [32, 64, 64, 32] [32, 58, 62, 32] (txtL ks1) (txtL is1) ++ 41 :: rest)))) := by
    simp [txtL, pairB, sepB, moreP]
  rw [e0] at hn ⊢
  have hM := pM_txt ks1 is1 k1' i1 (Rk k1' (by simp)) (fun x hx => Rk x (by simp [hx])) hlen1 (Ri i1 (by simp)).1 (fun x hx => (Ri x (by simp [hx])).1) n (d + 1) rest (by simp only [List.length_append, List.length_cons, List.length_nil] at hn ⊢; omega) (by omega) (by omega) (by omega) (by omega)
  have hsk : skipB (txtV k1' ++ (32 :: 58 :: 62 :: 32 :: (txtV i1 ++ (moreP [32, 64, 64, 32] [32, 58, 62, 32] (txtL ks1) (txtL is1) ++ 41 :: rest)))) = _ := skip_txt (errV_zero (errL_mem hke k1' (by simp))).1 _
  generalize hY : txtV k1' ++ (32 :: 58 :: 62 :: 32 :: (txtV i1 ++ (moreP [32, 64, 64, 32] [32, 58, 62, 32] (txtL ks1) (txtL is1) ++ 41 :: rest))) = Y at *
  have e1 : skipB ([40] ++ Y) = [40] ++ Y := skipB_cons (by decide) (by decide)
  rw [pV]
  simp only [e1]
  rw [show nowB ([40] ++ Y) = 40 from rfl, if_neg (by decide), if_neg (by decide), if_neg (by decide), if_neg (by decide), if_neg (by decide), if_pos rfl, openP_ok hdn (by decide) (by decide), hsk]
  simp only [hM, mapP, List.map_cons, zip_fst _ _ hlen1, zip_snd _ _ hlen1]
theorem pT_txt (v : V) (h : errV false v = 0) (hd : v.dep ≤ 20) : pT (txtV v) = .ok v := by
  have := rt v h (3 * (txtV v ++ []).length + 1) 0 [] (Nat.le_refl _) (by omega) (by decide)
  rw [List.append_nil] at this
  rw [pT, this]
  rfl
end Go.Tv
namespace Go.Tv
set_option maxHeartbeats 4000000
theorem join_sep (sep : List UInt8) : ∀ l : List (List UInt8), Lib.join l sep = sepB sep l
  | [] => rfl
  | x :: r => by rw [Lib.join_cons, sepB, Lib.joinTail, List.flatMap_def]
theorem quoS_len : ∀ s : List UInt8, (quoS s).length ≤ 2 * s.length
  | [] => by simp [quoS]
  | c :: r => by
    have := quoS_len r
    have e : quoS (c :: r) = (if c = 34 \/ c = 92 then [92, c] else [c]) ++ quoS r := rfl
    rw [e, List.length_append, List.length_cons]
    split
    . simp only [List.length_cons, List.length_nil]; omega
    . simp only [List.length_cons, List.length_nil]; omega
def totB : List (List UInt8) -> Nat
  | [] => 0
  | x :: r => x.length + totB r
theorem sep_len (sep : List UInt8) : ∀ l : List (List UInt8), (sepB sep l).length ≤ totB l + l.length * sep.length
  | [] => by simp [sepB]
  | x :: r => by
    have h : ∀ r : List (List UInt8), (r.flatMap fun y => sep ++ y).length = totB r + r.length * sep.length := by
      intro r
      induction r with
      | nil => simp [totB]
      | cons a r ih => simp only [List.flatMap_cons, List.length_append, ih, totB, List.length_cons, Nat.add_mul]; omega
    rw [sepB, List.length_append, h, totB, List.length_cons, Nat.add_mul]; omega
theorem pair_len (sign : List UInt8) : ∀ ks xs : List (List UInt8), (pairB sign ks xs).length ≤ xs.length /\ totB (pairB sign ks xs) ≤ totB ks + totB xs + xs.length * sign.length
  | [], xs => by cases xs <;> simp [pairB, totB]
  | k :: ks, [] => by simp [pairB, totB]
  | k :: ks, x :: xs => by
    obtain ⟨h1, h2⟩ := pair_len sign ks xs
    simp only [pairB, totB, List.length_cons, List.length_append, Nat.add_mul]
    omega
theorem txtL_len : ∀ l : List V, (txtL l).length = l.length
  | [] => rfl
  | v :: r => by simp [txtL, txtL_len r]
theorem tot_mem {x : List UInt8} : ∀ {l : List (List UInt8)}, x ∈ l -> x.length ≤ totB l
  | a :: r, h => by
    rcases List.mem_cons.1 h with rfl | h
    . simp [totB]
    . have := tot_mem h; simp only [totB]; omega
theorem own_num {v : V} (h : ownE v = 0) : v.kind = 1 -> -10000 ≤ v.num /\ v.num ≤ 10000 := by
  obtain ⟨_, _, h3, _, _⟩ := (own_iff v).1 h
  intro k
  by_cases hh : -10000 ≤ v.num /\ v.num ≤ 10000
  . exact hh
  . exact absurd (.inl ⟨k, hh⟩) h3
theorem own_s {v : V} (h : ownE v = 0) : v.s.length ≤ 40 := by
  have O := own0_of h
  obtain ⟨_, _, h3, h4, _⟩ := (own_iff v).1 h
  by_cases k2 : v.kind = 2
  . have : ¬ 40 < v.s.length := fun h => h3 (.inr ⟨k2, h⟩)
    omega
  . by_cases k3 : v.kind = 3
    . have hn : nameB v.s = true := by
        cases hb : nameB v.s with
        | true => rfl
        | false => exact absurd (.inr ⟨k3, hb⟩) h4
      unfold nameB at hn
      simp only [Bool.and_eq_true, decide_eq_true_eq] at hn
      have := hn.1.1.1.2
      omega
    . rw [O.s k2 k3]; simp
theorem txt_eq (v : V) : txtV v =
    if v.kind = 0 then (if v.num = 1 then [84, 82, 85, 69] else [70, 65, 76, 83, 69])
    else if v.kind = 1 then Lib.itoa v.num
    else if v.kind = 2 then [34] ++ quoS v.s ++ [34]
    else if v.kind = 3 then v.s
    else if v.kind = 4 then [123] ++ sepB [44, 32] (txtL v.items) ++ [125]
    else if shapeF v = 1 then [60, 60] ++ sepB [44, 32] (txtL v.items) ++ [62, 62]
    else if shapeF v = 2 then [91] ++ sepB [44, 32] (pairB [32, 124, 45, 62, 32] (v.keys.map V.s) (txtL v.items)) ++ [93]
    else [40] ++ sepB [32, 64, 64, 32] (pairB [32, 58, 62, 32] (txtL v.keys) (txtL v.items)) ++ [41] := by
  cases v; rw [txtV]; rfl
theorem err_strW {o : Bool} (v : V) : errV o v = 0 -> v.str := by
  refine V.ind (P := fun v => errV o v = 0 -> v.str) (fun v hk hi he => ?_) v
  obtain ⟨h0, _, hek, hei⟩ := errV_zero he
  have O := own0_of h0
  have hL : ∀ l : List V, (∀ x ∈ l, x.str) -> strs' l := by
    intro l
    induction l with
    | nil => intro _; trivial
    | cons a r ih => intro h; exact ⟨h a (by simp), ih fun x hx => h x (by simp [hx])⟩
  rw [V.str_eq]
  refine ⟨?_, hL _ fun x hx => hk x hx (errL_mem hek x hx), hL _ fun x hx => hi x hx (errL_mem hei x hx)⟩
  obtain ⟨_, _, h3, h4, _⟩ := (own_iff v).1 h0
  by_cases k2 : v.kind = 2
  . have : ¬ 40 < v.s.length := fun h => h3 (.inr ⟨k2, h⟩)
    omega
  . by_cases k3 : v.kind = 3
    . have hn : nameB v.s = true := by
        cases hb : nameB v.s with
        | true => rfl
        | false => exact absurd (.inr ⟨k3, hb⟩) h4
      unfold nameB at hn
      simp only [Bool.and_eq_true, decide_eq_true_eq] at hn
      have := hn.1.1.1.2
      omega
    . rw [O.s k2 k3]; simp
theorem tots_txt {l : List V} (h : ∀ x ∈ l, (txtV x).length + 9 ≤ 100 * x.cnt) : totB (txtL l) + 9 * l.length ≤ 100 * cnts l := by
  induction l with
  | nil => simp [txtL, totB, cnts]
  | cons a r ih =>
    have h1 := h a (by simp)
    have h2 := ih fun x hx => h x (by simp [hx])
    simp only [txtL, totB, cnts, List.length_cons]; omega
theorem tots_s {l : List V} (h : ∀ x ∈ l, x.s.length ≤ 40) : totB (l.map V.s) + 9 * l.length ≤ 100 * cnts l := by
  induction l with
  | nil => simp [totB, cnts]
  | cons a r ih =>
    have h1 := h a (by simp)
    have h2 := ih fun x hx => h x (by simp [hx])
    have := cnt_pos a
    simp only [List.map_cons, totB, cnts, List.length_cons]; omega
theorem itoa_len {n : Int} (h : -10000 ≤ n /\ n ≤ 10000) : (Lib.itoa n).length ≤ 7 := by
  unfold Lib.itoa
  split
  . have := dec_len 5 n.natAbs (by omega)
    simp only [List.length_cons]; omega
  . have := dec_len 5 n.toNat (by omega)
    omega
theorem tlen (v : V) : errV false v = 0 -> (txtV v).length + 9 ≤ 100 * v.cnt := by
  refine V.ind (P := fun v => errV false v = 0 -> (txtV v).length + 9 ≤ 100 * v.cnt) (fun v ik ii h => ?_) v
  obtain ⟨h0, _, hek, hei⟩ := errV_zero h
  have O := own0_of h0
  have hk := tots_txt fun x hx => ik x hx (errL_mem hek x hx)
  have hi := tots_txt fun x hx => ii x hx (errL_mem hei x hx)
  have hs := tots_s fun x hx => own_s (errV_zero (errL_mem hek x hx)).1
  have hv := own_s h0
  have hq := quoS_len v.s
  have hp1 := pair_len [32, 124, 45, 62, 32] (v.keys.map V.s) (txtL v.items)
  have hp2 := pair_len [32, 58, 62, 32] (txtL v.keys) (txtL v.items)
  have hl1 := sep_len [44, 32] (txtL v.items)
  have hl2 := sep_len [44, 32] (pairB [32, 124, 45, 62, 32] (v.keys.map V.s) (txtL v.items))
  have hl3 := sep_len [32, 64, 64, 32] (pairB [32, 58, 62, 32] (txtL v.keys) (txtL v.items))
  rw [txtL_len] at hp1 hp2 hl1
  have hc := V.cnt_eq v
  rw [txt_eq]
  simp only [List.length_cons, List.length_nil] at hl1 hl2 hl3 hp1 hp2
  split
  . split <;> simp <;> omega
  split
  . rename_i k; have := itoa_len (own_num h0 k); omega
  split
  . simp; omega
  split
  . omega
  split
  . simp; omega
  split
  . simp; omega
  rename_i n0 n1 n2 n3 n4 _
  have hlen := O.len (by have := O.kind; omega)
  split
  . simp; omega
  . simp; omega
end Go.Tv
namespace Go.Tv
set_option maxHeartbeats 4000000
theorem skip_len (r : List UInt8) : (skipB r).length ≤ r.length := by
  induction r with
  | nil => exact Nat.le_refl _
  | cons c r ih => unfold skipB; split <;> simp; omega
theorem mustG_len : ∀ {sign r r' : List UInt8}, mustG sign r = .ok r' -> r'.length + sign.length = r.length
  | [], r, r', h => by rw [mustG] at h; injection h with h; subst h; rfl
  | c :: cs, [], r', h => by rw [mustG] at h; cases h
  | c :: cs, x :: r, r', h => by
    rw [mustG] at h
    split at h
    . have := mustG_len h; simp; omega
    . cases h
theorem mustB_len {sign r r' : List UInt8} (h : mustB sign r = .ok r') : r'.length + sign.length ≤ r.length := by
  have := mustG_len h
  have := skip_len r
  omega
theorem goesB_len {on en r r' : List UInt8} {b : Bool} (h : goesB on en r = .ok (b, r')) : r'.length + min on.length en.length ≤ r.length := by
  unfold goesB at h
  split at h
  . split at h
    . rename_i r1 h1; injection h with h; injection h with h2 h3; subst h3; have := mustB_len h1; omega
    . cases h
  . split at h
    . rename_i r1 h1; injection h with h; injection h with h2 h3; subst h3; have := mustB_len h1; omega
    . cases h
theorem openP_len {d : Nat} {sign r r' : List UInt8} (h : openP d sign r = .ok r') : r'.length + sign.length ≤ r.length := by
  unfold openP at h
  split at h
  . cases h
  . split at h
    . rename_i r1 h1; injection h with h; subst h; have := mustB_len h1; have := skip_len r1; omega
    . cases h
theorem numP_len {sg : Int} {r r' : List UInt8} {v : V} (h : numP sg r = .ok (v, r')) : r'.length ≤ r.length := by
  unfold numP at h
  split at h
  . cases h
  . split at h
    . cases h
    . injection h with h; injection h with h1 h2; subst h2; exact (List.dropWhile_suffix _).length_le
theorem quoP_len : ∀ {r o r' : List UInt8} {v : V}, quoP r o = .ok (v, r') -> r'.length ≤ r.length
  | [], o, r', v, h => by rw [quoP.eq_def] at h; cases h
  | c :: r, o, r', v, h => by
    rw [quoP.eq_def] at h
    simp only at h
    split at h
    . injection h with h; injection h with h1 h2; subst h2; simp
    . split at h
      . split at h
        . cases h
        . rename_i x r2
          split at h
          . have := quoP_len h; simp; omega
          . cases h
      . split at h
        . cases h
        . have := quoP_len h; simp; omega
theorem wordP_len {r r' : List UInt8} {v : V} (h : wordP r = .ok (v, r')) : r'.length ≤ r.length := by
  have hl := (List.dropWhile_suffix (l := r) partC).length_le
  unfold wordP at h
  split at h
  . injection h with h; injection h with h1 h2; subst h2; exact hl
  . split at h
    . injection h with h; injection h with h1 h2; subst h2; exact hl
    . split at h
      . injection h with h; injection h with h1 h2; subst h2; exact hl
      . cases h
theorem mapP_ok {α β : Type} {f : α -> β} {o : PR α} {b : β} {r : List UInt8} (h : mapP f o = .ok (b, r)) : ∃ a, o = .ok (a, r) /\ b = f a := by
  cases o with
  | error e => cases h
  | ok x => obtain ⟨a, r2⟩ := x; injection h with h; injection h with h1 h2; subst h1 h2; exact ⟨a, rfl, rfl⟩
structure LenP (n : Nat) : Prop where
  v : ∀ {d r v r'}, pV n d r = .ok (v, r') -> r'.length ≤ r.length
  l0 : ∀ {d en r v r'}, pL0 n d en r = .ok (v, r') -> r'.length ≤ r.length
  l : ∀ {d en r v r'}, pL n d en r = .ok (v, r') -> r'.length ≤ r.length
  r : ∀ {d r v r'}, pR n d r = .ok (v, r') -> r'.length ≤ r.length
  m : ∀ {d r v r'}, pM n d r = .ok (v, r') -> r'.length ≤ r.length
theorem lenP : ∀ n, LenP n
  | 0 => by
    refine ⟨?_, ?_, ?_, ?_, ?_⟩
    . intro d r v r' h; rw [pV] at h; cases h
    . intro d en r v r' h; rw [pL0] at h; cases h
    . intro d en r v r' h; rw [pL] at h; cases h
    . intro d r v r' h; rw [pR] at h; cases h
    . intro d r v r' h; rw [pM] at h; cases h
  | n + 1 => by
    have ih := lenP n
    refine ⟨?_, ?_, ?_, ?_, ?_⟩
    . intro d r v r' h
      rw [pV] at h
      have hs := skip_len r
      have hd1 : ((skipB r).drop 1).length ≤ (skipB r).length := by simp
      split at h
      . have := quoP_len h; omega
      split at h
      . have := numP_len h; omega
      split at h
      . split at h
        . cases h
        . rename_i r2 h2
          obtain ⟨l, h3, _⟩ := mapP_ok h
          have := ih.l0 h3; have := openP_len h2; omega
      split at h
      . split at h
        . cases h
        . rename_i r2 h2
          obtain ⟨l, h3, _⟩ := mapP_ok h
          have := ih.l0 h3; have := openP_len h2; omega
      split at h
      . split at h
        . cases h
        . rename_i r2 h2
          obtain ⟨l, h3, _⟩ := mapP_ok h
          have := ih.r h3; have := openP_len h2; omega
      split at h
      . split at h
        . cases h
        . rename_i r2 h2
          obtain ⟨l, h3, _⟩ := mapP_ok h
          have := ih.m h3; have := openP_len h2; omega
      split at h
      . have := numP_len h; omega
      . have := wordP_len h; omega
    . intro d en r v r' h
      rw [pL0] at h
      split at h
      . split at h
        . rename_i r1 h1; injection h with h; injection h with h2 h3; subst h3; have := mustB_len h1; omega
        . cases h
      . exact ih.l h
    . intro d en r v r' h
      rw [pL] at h
      split at h
      . cases h
      . rename_i v1 r1 h1
        have l1 := ih.v h1
        split at h
        . cases h
        . rename_i r2 h2; injection h with h; injection h with h3 h4; subst h4; have := goesB_len h2; omega
        . rename_i r2 h2
          obtain ⟨l, h3, _⟩ := mapP_ok h
          have := ih.l h3; have := goesB_len h2; omega
    . intro d r v r' h
      rw [pR] at h
      have hs := skip_len r
      have hl := (List.dropWhile_suffix (l := skipB r) partC).length_le
      split at h
      . split at h
        . cases h
        . rename_i r1 h1
          have l1 := mustB_len h1
          split at h
          . cases h
          . rename_i v1 r2 h2
            have l2 := ih.v h2
            split at h
            . cases h
            . rename_i r3 h3; injection h with h; injection h with h4 h5; subst h5; have := goesB_len h3; omega
            . rename_i r3 h3
              obtain ⟨l, h4, _⟩ := mapP_ok h
              have := ih.r h4; have := goesB_len h3; omega
      . cases h
    . intro d r v r' h
      rw [pM] at h
      split at h
      . cases h
      . rename_i v1 r1 h1
        have l1 := ih.v h1
        split at h
        . cases h
        . rename_i r2 h2
          have l2 := mustB_len h2
          split at h
          . cases h
          . rename_i v2 r3 h3
            have l3 := ih.v h3
            split at h
            . cases h
            . rename_i r4 h4; injection h with h; injection h with h5 h6; subst h6; have := goesB_len h4; omega
            . rename_i r4 h4
              obtain ⟨l, h5, _⟩ := mapP_ok h
              have := ih.m h5; have := goesB_len h4; omega
end Go.Tv
namespace Go.Tv
set_option maxHeartbeats 4000000
theorem strs'_iff : ∀ l : List V, strs' l ↔ ∀ x ∈ l, x.str
  | [] => by simp [strs']
  | v :: r => by simp [strs', strs'_iff r]
theorem numP_cnt {sg : Int} {r r' : List UInt8} {v : V} (h : numP sg r = .ok (v, r')) : v.cnt = 1 /\ v.str /\ r'.length + 1 ≤ r.length := by
  unfold numP at h
  split at h
  . cases h
  . split at h
    . cases h
    . rename_i h2
      injection h with h; injection h with h3 h4; subst h3 h4
      have hl := congrArg List.length (List.takeWhile_append_dropWhile (p := digC) (l := r))
      rw [List.length_append] at hl
      exact ⟨rfl, by simp [intV, V.str, strs'], by omega⟩
theorem quoP_cnt : ∀ {r o r' : List UInt8} {v : V}, r.length + o.length ≤ 9223372036854775807 -> quoP r o = .ok (v, r') -> v.cnt = 1 /\ v.str /\ r'.length + 1 ≤ r.length
  | [], o, r', v, _, h => by rw [quoP.eq_def] at h; cases h
  | c :: r, o, r', v, hb, h => by
    rw [quoP.eq_def] at h
    simp only at h
    simp only [List.length_cons] at hb
    split at h
    . injection h with h; injection h with h1 h2; subst h1 h2; exact ⟨rfl, by simp [V.str, strs']; omega, by simp⟩
    . split at h
      . split at h
        . cases h
        . rename_i x r2
          simp only [List.length_cons] at hb
          split at h
          . have := quoP_cnt (by simp; omega) h; exact ⟨this.1, this.2.1, by simp; omega⟩
          . cases h
      . split at h
        . cases h
        . have := quoP_cnt (by simp; omega) h; exact ⟨this.1, this.2.1, by simp; omega⟩
theorem wordP_cnt {r r' : List UInt8} {v : V} (hb : r.length ≤ 9223372036854775807) (h : wordP r = .ok (v, r')) : v.cnt = 1 /\ v.str /\ r'.length + 1 ≤ r.length := by
  have hl := congrArg List.length (List.takeWhile_append_dropWhile (p := partC) (l := r))
  rw [List.length_append] at hl
  unfold wordP at h
  split at h
  . rename_i h1
    rw [h1] at hl
    injection h with h; injection h with h2 h3; subst h2 h3; exact ⟨rfl, by simp [V.str, strs'], by simp at hl; omega⟩
  . split at h
    . rename_i h1
      rw [h1] at hl
      injection h with h; injection h with h2 h3; subst h2 h3; exact ⟨rfl, by simp [V.str, strs'], by simp at hl; omega⟩
    . split at h
      . rename_i h1
        injection h with h; injection h with h2 h3; subst h2 h3
        have : 1 ≤ (r.takeWhile partC).length := by
          unfold nameB at h1
          simp only [Bool.and_eq_true, decide_eq_true_eq] at h1
          exact h1.1.1.1.1
        exact ⟨rfl, by simp [V.str, strs']; omega, by omega⟩
      . cases h
structure CntP (n : Nat) : Prop where
  v : ∀ {d r v r'}, r.length ≤ 9223372036854775807 -> pV n d r = .ok (v, r') -> v.cnt + 3 * r'.length ≤ 3 * r.length /\ v.str
  l0 : ∀ {d en r l r'}, 0 < en.length -> r.length ≤ 9223372036854775807 -> pL0 n d en r = .ok (l, r') -> cnts l + l.length + 3 * r'.length ≤ 3 * r.length /\ strs' l
  l : ∀ {d en r l r'}, 0 < en.length -> r.length ≤ 9223372036854775807 -> pL n d en r = .ok (l, r') -> cnts l + l.length + 3 * r'.length ≤ 3 * r.length /\ strs' l
  r : ∀ {d r l r'}, r.length ≤ 9223372036854775807 -> pR n d r = .ok (l, r') -> cnts (l.map Prod.fst) + cnts (l.map Prod.snd) + 3 * r'.length ≤ 3 * r.length /\ strs' (l.map Prod.fst) /\ strs' (l.map Prod.snd)
  m : ∀ {d r l r'}, r.length ≤ 9223372036854775807 -> pM n d r = .ok (l, r') -> cnts (l.map Prod.fst) + cnts (l.map Prod.snd) + 3 * r'.length ≤ 3 * r.length /\ strs' (l.map Prod.fst) /\ strs' (l.map Prod.snd)
theorem cnts_ints : ∀ (n : Nat) (f : Nat -> Int), cnts ((List.range n).map fun i => intV (f i)) = n
  | 0, f => rfl
  | n + 1, f => by rw [List.range_succ, List.map_append, cnts_append, cnts_ints n f]; simp [cnts, intV, V.cnt]
theorem strs_ints (n : Nat) (f : Nat -> Int) : strs' ((List.range n).map fun i => intV (f i)) := by
  rw [strs'_iff]; intro x hx; obtain ⟨i, _, rfl⟩ := List.mem_map.1 hx; simp [intV, V.str, strs']
theorem cntP : ∀ n, CntP n
  | 0 => by
    refine ⟨?_, ?_, ?_, ?_, ?_⟩
    . intro d r v r' _ h; rw [pV] at h; cases h
    . intro d en r v r' _ _ h; rw [pL0] at h; cases h
    . intro d en r v r' _ _ h; rw [pL] at h; cases h
    . intro d r v r' _ h; rw [pR] at h; cases h
    . intro d r v r' _ h; rw [pM] at h; cases h
  | n + 1 => by
    have ih := cntP n
    refine ⟨?_, ?_, ?_, ?_, ?_⟩
    . intro d r v r' hb h
      rw [pV] at h
      have hs := skip_len r
      have hd1 : ((skipB r).drop 1).length ≤ (skipB r).length := by simp
      split at h
      . have := quoP_cnt (by simp at hd1 ⊢; omega) h; exact ⟨by omega, this.2.1⟩
      split at h
      . have := numP_cnt h; exact ⟨by omega, this.2.1⟩
      split at h
      . split at h
        . cases h
        . rename_i r2 h2
          obtain ⟨l, h3, rfl⟩ := mapP_ok h
          have l2 := openP_len h2
          simp only [List.length_cons, List.length_nil] at l2
          have := ih.l0 (by simp) (by omega) h3
          exact ⟨by simp only [V.cnt, cnts]; omega, by simp [V.str, strs', this.2]⟩
      split at h
      . split at h
        . cases h
        . rename_i r2 h2
          obtain ⟨l, h3, rfl⟩ := mapP_ok h
          have l2 := openP_len h2
          simp only [List.length_cons, List.length_nil] at l2
          have := ih.l0 (by simp) (by omega) h3
          have e := cnts_ints l.length fun i => ((i + 1 : Nat) : Int)
          have e2 := strs_ints l.length fun i => ((i + 1 : Nat) : Int)
          exact ⟨by simp only [V.cnt, e]; omega, by simp only [V.str]; exact ⟨by simp, e2, this.2⟩⟩
      split at h
      . split at h
        . cases h
        . rename_i r2 h2
          obtain ⟨l, h3, rfl⟩ := mapP_ok h
          have l2 := openP_len h2
          simp only [List.length_cons, List.length_nil] at l2
          have := ih.r (by omega) h3
          exact ⟨by simp only [V.cnt]; omega, by simp only [V.str]; exact ⟨by simp, this.2.1, this.2.2⟩⟩
      split at h
      . split at h
        . cases h
        . rename_i r2 h2
          obtain ⟨l, h3, rfl⟩ := mapP_ok h
          have l2 := openP_len h2
          simp only [List.length_cons, List.length_nil] at l2
          have := ih.m (by omega) h3
          exact ⟨by simp only [V.cnt]; omega, by simp only [V.str]; exact ⟨by simp, this.2.1, this.2.2⟩⟩
      split at h
      . have := numP_cnt h; exact ⟨by omega, this.2.1⟩
      . have := wordP_cnt (by omega) h; exact ⟨by omega, this.2.1⟩
    . intro d en r v r' he hb h
      rw [pL0] at h
      split at h
      . split at h
        . rename_i r1 h1; injection h with h; injection h with h2 h3; subst h2 h3; have := mustB_len h1; exact ⟨by simp only [cnts, List.length_nil]; omega, by simp [strs']⟩
        . cases h
      . exact ih.l he hb h
    . intro d en r v r' he hb h
      rw [pL] at h
      split at h
      . cases h
      . rename_i v1 r1 h1
        have l1 := ih.v hb h1
        split at h
        . cases h
        . rename_i r2 h2; injection h with h; injection h with h3 h4; subst h3 h4
          have := goesB_len h2
          have hm : min [44].length en.length = 1 := by simp; omega
          exact ⟨by simp only [cnts, List.length_cons, List.length_nil]; omega, by simp [strs', l1.2]⟩
        . rename_i r2 h2
          obtain ⟨l, h3, rfl⟩ := mapP_ok h
          have := goesB_len h2
          have hm : min [44].length en.length = 1 := by simp; omega
          have := ih.l he (by omega) h3
          exact ⟨by simp only [cnts, List.length_cons]; omega, by simp [strs', l1.2, this.2]⟩
    . intro d r v r' hb h
      rw [pR] at h
      have hs := skip_len r
      have hl := congrArg List.length (List.takeWhile_append_dropWhile (p := partC) (l := skipB r))
      rw [List.length_append] at hl
      split at h
      . rename_i hnm
        have hwl : 1 ≤ ((skipB r).takeWhile partC).length := by
          unfold nameB at hnm
          simp only [Bool.and_eq_true, decide_eq_true_eq] at hnm
          exact hnm.1.1.1.1
        split at h
        . cases h
        . rename_i r1 h1
          have l1 := mustB_len h1
          split at h
          . cases h
          . rename_i v1 r2 h2
            have l2 := ih.v (by omega) h2
            split at h
            . cases h
            . rename_i r3 h3; injection h with h; injection h with h4 h5; subst h4 h5; have := goesB_len h3
              exact ⟨by simp only [List.map_cons, List.map_nil, cnts, V.cnt]; omega, by simp [strs', V.str]; omega, by simp [strs', l2.2]⟩
            . rename_i r3 h3
              obtain ⟨l, h4, rfl⟩ := mapP_ok h
              have := goesB_len h3
              have l4 := ih.r (by omega) h4
              exact ⟨by simp only [List.map_cons, cnts, V.cnt]; omega, by simp [strs', V.str, l4.2.1]; omega, by simp [strs', l2.2, l4.2.2]⟩
      . cases h
    . intro d r v r' hb h
      rw [pM] at h
      split at h
      . cases h
      . rename_i v1 r1 h1
        have l1 := ih.v hb h1
        split at h
        . cases h
        . rename_i r2 h2
          have l2 := mustB_len h2
          split at h
          . cases h
          . rename_i v2 r3 h3
            have l3 := ih.v (by omega) h3
            split at h
            . cases h
            . rename_i r4 h4; injection h with h; injection h with h5 h6; subst h5 h6; have := goesB_len h4
              exact ⟨by simp only [List.map_cons, List.map_nil, cnts]; omega, by simp [strs', l1.2], by simp [strs', l3.2]⟩
            . rename_i r4 h4
              obtain ⟨l, h5, rfl⟩ := mapP_ok h
              have := goesB_len h4
              have l5 := ih.m (by omega) h5
              exact ⟨by simp only [List.map_cons, cnts]; omega, by simp [strs', l1.2, l5.2.1], by simp [strs', l3.2, l5.2.2]⟩
end Go.Tv
namespace Go.Tv
set_option maxHeartbeats 4000000
theorem mustG_err : ∀ {sign r : List UInt8} {e : Nat}, mustG sign r = .error e -> e ≤ r.length
  | [], r, e, h => by rw [mustG] at h; cases h
  | c :: cs, [], e, h => by rw [mustG] at h; injection h with h; subst h; simp
  | c :: cs, x :: r, e, h => by
    rw [mustG] at h
    split at h
    . have := mustG_err h; simp; omega
    . injection h with h; subst h; simp
theorem mustB_err {sign r : List UInt8} {e : Nat} (h : mustB sign r = .error e) : e ≤ r.length := by
  have := mustG_err h
  have := skip_len r
  omega
theorem goesB_err {on en r : List UInt8} {e : Nat} (h : goesB on en r = .error e) : e ≤ r.length := by
  unfold goesB at h
  split at h
  . split at h
    . cases h
    . rename_i h1; injection h with h; subst h; exact mustB_err h1
  . split at h
    . cases h
    . rename_i h1; injection h with h; subst h; exact mustB_err h1
theorem openP_err {d : Nat} {sign r : List UInt8} {e : Nat} (h : openP d sign r = .error e) : e ≤ r.length := by
  unfold openP at h
  split at h
  . injection h with h; omega
  . split at h
    . cases h
    . rename_i h1; injection h with h; subst h; exact mustB_err h1
theorem numP_err {sg : Int} {r : List UInt8} {e : Nat} (h : numP sg r = .error e) : e ≤ r.length := by
  have := (List.dropWhile_suffix (l := r) digC).length_le
  unfold numP at h
  split at h
  . injection h with h; omega
  . split at h
    . injection h with h; omega
    . cases h
theorem quoP_err : ∀ {r o : List UInt8} {e : Nat}, quoP r o = .error e -> e ≤ r.length
  | [], o, e, h => by rw [quoP.eq_def] at h; injection h with h; omega
  | c :: r, o, e, h => by
    rw [quoP.eq_def] at h
    simp only at h
    split at h
    . cases h
    . split at h
      . split at h
        . injection h with h; omega
        . rename_i x r2
          split at h
          . have := quoP_err h; simp; omega
          . injection h with h; simp; omega
      . split at h
        . injection h with h; simp; omega
        . have := quoP_err h; simp; omega
theorem wordP_err {r : List UInt8} {e : Nat} (h : wordP r = .error e) : e ≤ r.length := by
  unfold wordP at h
  split at h
  . cases h
  . split at h
    . cases h
    . split at h
      . cases h
      . injection h with h; omega
theorem mapP_err {α β : Type} {f : α -> β} {o : PR α} {e : Nat} (h : mapP f o = .error e) : o = .error e := by
  cases o with
  | error e' => injection h with h; subst h; rfl
  | ok x => cases h
structure ErrP (n : Nat) : Prop where
  v : ∀ {d r e}, pV n d r = .error e -> e ≤ r.length
  l0 : ∀ {d en r e}, pL0 n d en r = .error e -> e ≤ r.length
  l : ∀ {d en r e}, pL n d en r = .error e -> e ≤ r.length
  r : ∀ {d r e}, pR n d r = .error e -> e ≤ r.length
  m : ∀ {d r e}, pM n d r = .error e -> e ≤ r.length
theorem errP : ∀ n, ErrP n
  | 0 => by
    refine ⟨?_, ?_, ?_, ?_, ?_⟩
    . intro d r e h; rw [pV] at h; injection h with h; omega
    . intro d en r e h; rw [pL0] at h; injection h with h; omega
    . intro d en r e h; rw [pL] at h; injection h with h; omega
    . intro d r e h; rw [pR] at h; injection h with h; omega
    . intro d r e h; rw [pM] at h; injection h with h; omega
  | n + 1 => by
    have ih := errP n
    refine ⟨?_, ?_, ?_, ?_, ?_⟩
    . intro d r e h
      rw [pV] at h
      have hs := skip_len r
      have hd1 : ((skipB r).drop 1).length ≤ (skipB r).length := by simp
      split at h
      . have := quoP_err h; omega
      split at h
      . have := numP_err h; omega
      split at h
      . split at h
        . rename_i h2; injection h with h; subst h; have := openP_err h2; omega
        . rename_i r2 h2; have := ih.l0 (mapP_err h); have := openP_len h2; omega
      split at h
      . split at h
        . rename_i h2; injection h with h; subst h; have := openP_err h2; omega
        . rename_i r2 h2; have := ih.l0 (mapP_err h); have := openP_len h2; omega
      split at h
      . split at h
        . rename_i h2; injection h with h; subst h; have := openP_err h2; omega
        . rename_i r2 h2; have := ih.r (mapP_err h); have := openP_len h2; omega
      split at h
      . split at h
        . rename_i h2; injection h with h; subst h; have := openP_err h2; omega
        . rename_i r2 h2; have := ih.m (mapP_err h); have := openP_len h2; omega
      split at h
      . have := numP_err h; omega
      . have := wordP_err h; omega
    . intro d en r e h
      rw [pL0] at h
      split at h
      . split at h
        . cases h
        . rename_i h1; injection h with h; subst h; exact mustB_err h1
      . exact ih.l h
    . intro d en r e h
      rw [pL] at h
      split at h
      . rename_i h1; injection h with h; subst h; exact ih.v h1
      . rename_i v1 r1 h1
        have l1 := (lenP n).v h1
        split at h
        . rename_i h2; injection h with h; subst h; have := goesB_err h2; omega
        . cases h
        . rename_i r2 h2
          have := ih.l (mapP_err h); have := goesB_len h2; omega
    . intro d r e h
      rw [pR] at h
      have hs := skip_len r
      have hl := (List.dropWhile_suffix (l := skipB r) partC).length_le
      split at h
      . split at h
        . rename_i h1; injection h with h; subst h; have := mustB_err h1; omega
        . rename_i r1 h1
          have l1 := mustB_len h1
          split at h
          . rename_i h2; injection h with h; subst h; have := ih.v h2; omega
          . rename_i v1 r2 h2
            have l2 := (lenP n).v h2
            split at h
            . rename_i h3; injection h with h; subst h; have := goesB_err h3; omega
            . cases h
            . rename_i r3 h3
              have := ih.r (mapP_err h); have := goesB_len h3; omega
      . injection h with h; omega
    . intro d r e h
      rw [pM] at h
      split at h
      . rename_i h1; injection h with h; subst h; exact ih.v h1
      . rename_i v1 r1 h1
        have l1 := (lenP n).v h1
        split at h
        . rename_i h2; injection h with h; subst h; have := mustB_err h2; omega
        . rename_i r2 h2
          have l2 := mustB_len h2
          split at h
          . rename_i h3; injection h with h; subst h; have := ih.v h3; omega
          . rename_i v2 r3 h3
            have l3 := (lenP n).v h3
            split at h
            . rename_i h4; injection h with h; subst h; have := goesB_err h4; omega
            . cases h
            . rename_i r4 h4
              have := ih.m (mapP_err h); have := goesB_len h4; omega
end Go.Tv
