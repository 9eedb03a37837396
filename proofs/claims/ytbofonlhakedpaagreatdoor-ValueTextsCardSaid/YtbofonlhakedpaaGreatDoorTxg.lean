/-
  The reader of the reference: lists, records, maps.
-/
import Derived.Test.YtbofonlhakedpaaGreatDoorTxf
namespace Go.Tv
open Go.Proofs
set_option maxHeartbeats 8000000
set_option maxRecDepth 8000
def RES {α : Type} (s : List UInt8) (b : Int) (o : PR α) (v : α) (a' b' : Int) : Prop := 0 ≤ a' /\ a' ≤ s.length /\ (b ≠ -1 -> b' = b) /\ (b = -1 -> match o with
  | .ok (x, r') => v = x /\ a' = pos s r' /\ b' = -1 /\ r' <:+ s
  | .error e => b' = (s.length : Int) - e)
theorem OUTF.res {α : Type} {s : List UInt8} {val : α -> AV} {o : PR α} {r : ARet} {a' b' : Int} (h : OUTF s val o r a' b') : ∃ v, r = .ok (val v) /\ RES s (-1) o v a' b' := by
  unfold OUTF at h
  match o, h with
  | .ok (v, r'), ⟨h1, h2, h3, h4⟩ => exact ⟨v, h1, h2 ▸ pos_ge h4, h2 ▸ pos_le _ _, fun h => absurd rfl h, fun _ => ⟨rfl, h2, h3, h4⟩⟩
  | .error e, ⟨⟨w, h1⟩, h2, h3, h4⟩ => exact ⟨w, h1, h3, h4, fun h => absurd rfl h, fun _ => h2⟩
def VALF (s : List UInt8) (n : Nat) : Prop := ∀ {a b : Int} {d : Nat} {H : Heap} {id : Nat}, d ≤ 20 -> 0 ≤ a -> a ≤ s.length -> (b = -1 -> 3 * (s.drop a.toNat).length + 1 ≤ n) -> H[id]? = some (RF s a b) ->
  ∃ r a' b' J, Call CC 92 [.ptr id 0, .int .i64 d] H = some (r, H.set id (RF s a' b') ++ J) /\ ∃ v, r = .ok (V.av v) /\ RES s b (pV n d (s.drop a.toNat)) v a' b'
theorem must_now {c : UInt8} {r : List UInt8} (hc : c ≠ 0) (h : nowB (skipB r) = c) : ∃ r', skipB r = c :: r' /\ mustB [c] r = .ok r' := by
  unfold mustB
  generalize skipB r = q at h
  cases q with
  | nil => exact absurd h.symm hc
  | cons x q => simp [nowB] at h; subst h; exact ⟨q, rfl, by rw [must_eq, mustG]⟩
theorem goes_no {o c : UInt8} {os r : List UInt8} (h : nowB (skipB r) ≠ c) : goesB (o :: os) [c] r = match mustB (o :: os) r with | .ok r1 => .ok (true, r1) | .error e => .error e := by
  unfold goesB
  by_cases ho : nowB (skipB r) = o
  . have ho' : nowB (skipB r) = (o :: os).headD 0 := ho
    rw [if_pos ho']; rfl
  . have ho' : ¬ nowB (skipB r) = (o :: os).headD 0 := ho
    rw [if_neg ho']; unfold mustB; rw [must_ne h, must_ne ho]
theorem goes_yes {o c : UInt8} {os r : List UInt8} (hoc : c ≠ o) (hc : c ≠ 0) (h : nowB (skipB r) = c) : ∃ r', skipB r = c :: r' /\ goesB (o :: os) [c] r = .ok (false, r') := by
  obtain ⟨r', h1, h2⟩ := must_now hc h
  refine ⟨r', h1, ?_⟩
  unfold goesB
  have ho' : ¬ nowB (skipB r) = (o :: os).headD 0 := by rw [h]; exact hoc
  rw [if_neg ho', h2]
def LST {α : Type} (s : List UInt8) (T : PR (List α)) (P : Nat -> List UInt8 -> PR (List α)) (n i : Nat) (l : List α) (b bad : Int) : Prop :=
  (bad = -1 /\ ∃ m, i + m = n /\ (l.length : Int) ≤ b /\ 3 * (s.drop b.toNat).length + 2 ≤ m /\ mapP (fun x => l ++ x) (P m (s.drop b.toNat)) = T) \/ (bad ≠ -1 /\ i ≤ n + 1 /\ ∃ e : Nat, T = .error e /\ bad = (s.length : Int) - e)
def I163 (M : Heap) (s : List UInt8) (id : Nat) (c : UInt8) (T : PR (List V)) (d n : Nat) (i : Nat) (t : List AV) (H : Heap) : Prop := ∃ b bad l tok L, (0 : Int) ≤ b /\ b ≤ s.length /\ LST s T (fun m r => pL m d [c] r) n i l b bad /\
  TokY 5 (M.set id (RF s b bad) ++ L) (avs l) tok /\ (l ≠ [] -> M.length ≤ tok) /\ H = M.set id (RF s b bad) ++ L /\
  Fit (some (.ptr id 0) :: some (.int .u8 (u8i c)) :: some (.int .i64 d) :: none :: none :: none :: none :: some (LX (avs l) tok) :: List.replicate 36 none) t
def I163b (M : Heap) (s : List UInt8) (id : Nat) (p b : Int) (i : Nat) (t : List AV) (H : Heap) : Prop := i = 0 /\ H = M.set id (RF s p b) /\ Fit (some (.ptr id 0) :: List.replicate 43 none) t
theorem c163 {s : List UInt8} {a b : Int} {c : UInt8} {d n : Nat} {H : Heap} {id : Nat} (hs : s.length ≤ 1000000) (hc0 : c ≠ 0) (hc44 : c ≠ 44) (hd : d ≤ 20) (h0 : 0 ≤ a) (h1 : a ≤ s.length) (hn : 3 * (s.drop a.toNat).length + 3 ≤ n) (hv : ∀ m < n, VALF s m) (hH : H[id]? = some (RF s a b)) :
    ∃ r a' b' J, Call CC 163 [.ptr id 0, .int .u8 (u8i c), .int .i64 d] H = some (r, H.set id (RF s a' b') ++ J) /\ ∃ l, r = .ok (.list (avs l) none) /\ l.length ≤ 1000001 /\ RES s b (pL0 n d [c] (skipB (s.drop a.toNat))) l a' b' := by
  refine rfcall (f := 163) (rest := [.int .u8 (u8i c), .int .i64 d]) (P := fun r a' b' _ => ∃ l, r = .ok (.list (avs l) none) /\ l.length ≤ 1000001 /\ RES s b (pL0 n d [c] (skipB (s.drop a.toNat))) l a' b') (fn := Tryz.f163) rfl (by kernel_rfl) rfl rfl rfl rfl hH ?_
  intro M hid
  refine sd_plain rfl ?_
  have g1 := c229 (s := s) (a := a) (b := b) (c := c) (H := M.set id (RF s a b)) (id := id) hs hc0 h0 h1 (by simp [hid])
  have suf : skipB (s.drop a.toNat) <:+ s := (skip_suf _).trans (List.drop_suffix _ _)
  have hsl := skip_len (s.drop a.toNat)
  have hss := skip_skip (s.drop a.toNat)
  obtain ⟨p, hp⟩ : ∃ p, p = pos s (skipB (s.drop a.toNat)) := ⟨_, rfl⟩
  have hp0 : 0 ≤ p := hp ▸ pos_ge suf
  have hp1 : p ≤ s.length := hp ▸ pos_le _ _
  have hpd : s.drop p.toNat = skipB (s.drop a.toNat) := by rw [hp]; exact pos_drop suf
  rw [<- hp] at g1
  generalize hr2 : skipB (s.drop a.toNat) = r2 at *
  simp only [RF, List.set_set] at g1
  obtain ⟨n, rfl⟩ : ∃ n', n = n' + 1 := ⟨n - 1, by omega⟩
  by_cases hb : b = -1
  . subst hb
    by_cases hx : nowB r2 = c
    . obtain ⟨r3, k1, k2⟩ := must_now (r := r2) hc0 (by rw [hss]; exact hx)
      have hlt : p < s.length := nowB_zero hp0 (by rw [hpd, hx]; exact hc0)
      have hdn := drop_now hp0 hlt
      rw [hpd, hx] at hdn
      rw [hss, hdn] at k1
      have k1' := (List.cons.inj k1).2
      have w := wrapI (i := p + 1) (by omega) (by omega)
      have hP : pL0 (n + 1) d [c] r2 = .ok ([], r3) := by
        have hx' : nowB r2 = [c].headD 0 := hx
        rw [pL0, if_pos hx', k2]
      rw [hP]
      simp [g1, hx, hid, w]
      refine ⟨p + 1, -1, ⟨[], (List.append_nil _).symm⟩, [], rfl, by simp, by omega, by omega, fun h => absurd rfl h, fun _ => ⟨rfl, ?_, rfl, ?_⟩⟩
      . rw [<- k1']; exact (pos_at (by omega) (by omega)).symm
      . rw [<- k1']; exact List.drop_suffix _ _
    . have hP : pL0 (n + 1) d [c] r2 = pL n d [c] r2 := by
        have hx' : ¬ nowB r2 = [c].headD 0 := hx
        rw [pL0, if_neg hx']
      rw [hP]
      simp [g1, hx]
      obtain ⟨T, hT⟩ : ∃ T, T = pL n d [c] r2 := ⟨_, rfl⟩
      rw [<- hT]
      refine st_iter (I163 M s id c T d n) (n + 1) ?_ ?_
      . refine ⟨p, -1, [], 0, [], hp0, hp1, .inl ⟨rfl, n, by omega, by simpa using hp0, by rw [hpd]; omega, by rw [hpd, hT]; exact mapP_id _⟩, fun h => absurd rfl h, fun h => absurd rfl h, by simp, by simp [avs, lx_nil]⟩
      . rintro i t H ⟨b, bad, l, tok, L, hb0, hb1, hst, htok, htk, rfl, ht⟩
        obtain ⟨e, rfl⟩ := ht.elim
        clear ht
        rcases hst with ⟨rfl, m, him, hlb, hm, hsp⟩ | ⟨hbad, hin, er, hTe, hbe⟩
        . refine ⟨by omega, ?_⟩
          obtain ⟨m, rfl⟩ : ∃ m', m = m' + 1 := ⟨m - 1, by omega⟩
          obtain ⟨r6, a6, b6, J6, g6, v, rfl, q1, q2, -, q4⟩ := hv m (by omega) (a := b) (b := -1) (d := d) (H := M.set id (RF s b (-1)) ++ L) (id := id) hd hb0 hb1 (fun _ => by omega) (by simp [hid])
          have q4 := q4 rfl
          simp only [RF] at g6
          simp [hid] at g6
          simp only [pL] at hsp
          have hge : avs l ≠ [] -> M.length ≤ tok := fun h => by have := htk (avs_ne.1 h); omega
          have htok2 : TokY 5 (M.set id (RF s a6 b6) ++ (L ++ J6)) (avs l) tok := by
            rw [<- List.append_assoc]; exact (htok.other hge).app J6
          obtain ⟨L', k1, k2, k3, k4⟩ := app_R (T := 22) (e := 24) (sz := 5) el22 int22 sz24 zero24 rfl rfl (by decide) room24 (M.set id (RF s a6 b6)) (L ++ J6) (avs l) v.av tok htok2 (by simpa using hge) (avs_cells5 l) (by simp [V.av_eq]) (by rw [avs_len]; omega)
          rw [List.length_set] at k1 k3
          have g8 := c229 (s := s) (a := a6) (b := b6) (c := c) (H := M.set id (RF s a6 b6) ++ L') (id := id) hs hc0 q1 q2 (by simp [hid])
          have suf6 : skipB (s.drop a6.toNat) <:+ s := (skip_suf _).trans (List.drop_suffix _ _)
          obtain ⟨u, hu⟩ : ∃ u, u = pos s (skipB (s.drop a6.toNat)) := ⟨_, rfl⟩
          have hu0 : 0 ≤ u := hu ▸ pos_ge suf6
          have hu1 : u ≤ s.length := hu ▸ pos_le _ _
          have hud : s.drop u.toNat = skipB (s.drop a6.toNat) := by rw [hu]; exact pos_drop suf6
          rw [<- hu] at g8
          simp only [RF] at g8 k1
          simp [hid] at g8
          rw [V.av_eq] at k1 g6
          by_cases hyes : b6 = -1 /\ nowB (skipB (s.drop a6.toNat)) = c
          . obtain ⟨rfl, hx⟩ := hyes
            cases hpv : pV m d (s.drop b.toNat) with
            | error er =>
              rw [hpv] at q4
              have := (errP m).v hpv
              rw [List.length_drop] at this
              simp only at q4
              omega
            | ok vr =>
            obtain ⟨v', r1⟩ := vr
            rw [hpv] at q4 hsp
            obtain ⟨rfl, e6, -, q7⟩ := q4
            simp only at hsp
            have e6' : s.drop a6.toNat = r1 := by rw [e6]; exact pos_drop q7
            rw [e6'] at hx hud
            obtain ⟨r9, k5, k6⟩ := goes_yes (o := 44) (os := []) hc44 hc0 hx
            rw [k6] at hsp
            have hlt : u < s.length := nowB_zero hu0 (by rw [hud, hx]; exact hc0)
            have hdn := drop_now hu0 hlt
            rw [hud, hx, k5] at hdn
            have hdn' := (List.cons.inj hdn).2
            have w := wrapI (i := u + 1) (by omega) (by omega)
            rw [<- hsp]
            rw [e6', hx] at g8
            simp [-aappB, g6, k1, g8, hid, w]
            rw [<- V.av_eq v, <- avs_snoc, erase_avs]
            refine ⟨_, _, ⟨_, rfl⟩, l ++ [v], rfl, by simp; omega, by omega, by omega, fun h => absurd rfl h, fun _ => ⟨rfl, ?_, rfl, ?_⟩⟩
            . rw [hdn']; exact (pos_at (by omega) (by omega)).symm
            . rw [hdn']; exact List.drop_suffix _ _
          . have hno : (decide (b6 = -1) && decide (nowB (skipB (s.drop a6.toNat)) = c)) = false := by simpa using hyes
            obtain ⟨r9, a9, b9, J9, g9, rfl, rfl, q10, q11, q12, q13⟩ := c230 (s := s) (sign := [44]) (a := u) (b := b6) (H := M.set id (RF s u b6) ++ L') (id := id) hs (by decide) (by decide) hu0 hu1 (by simp [hid])
            rw [hud, mustB_skip] at q13
            simp only [RF] at g9
            simp [hid] at g9
            rw [hno] at g8
            simp [-aappB, hid, g6, k1, g8, g9]
            refine ⟨a9, b9, l ++ [v], M.length + (L ++ J6).length, L', q10, q11, ?_, by rw [avs_snoc]; exact k3.other fun _ => by omega, fun _ => by omega, rfl, ?_⟩
            . cases hpv : pV m d (s.drop b.toNat) with
              | error er =>
                rw [hpv] at q4 hsp
                simp only at q4
                have := (errP m).v hpv
                rw [List.length_drop] at this
                have hb6 : b6 ≠ -1 := by omega
                exact .inr ⟨by rw [q12 hb6]; exact hb6, by omega, er, hsp.symm, by rw [q12 hb6]; exact q4⟩
              | ok vr =>
                obtain ⟨v', r1⟩ := vr
                rw [hpv] at q4 hsp
                obtain ⟨rfl, e6, rfl, q7⟩ := q4
                have hvl := (lenP m).v hpv
                have e6' : s.drop a6.toNat = r1 := by rw [e6]; exact pos_drop q7
                have hx : nowB (skipB r1) ≠ c := fun h => hyes ⟨rfl, by rw [e6']; exact h⟩
                simp only at hsp
                rw [goes_no hx] at hsp
                have q13 := q13 rfl
                rw [e6'] at q13
                have hba6 : b ≤ a6 := by rw [e6]; unfold pos; rw [List.length_drop] at hvl; omega
                cases hmu : mustB [44] r1 with
                | error er =>
                  rw [hmu] at q13 hsp
                  simp only at q13 hsp
                  have := mustB_err hmu
                  have := q7.length_le
                  exact .inr ⟨by omega, by omega, er, hsp.symm, q13⟩
                | ok r9 =>
                  rw [hmu] at q13 hsp
                  obtain ⟨rfl, rfl, q14⟩ := q13
                  simp only [mapP_app] at hsp
                  have hml := mustB_len hmu
                  simp only [List.length_cons, List.length_nil] at hml
                  have hp9 : s.drop (pos s r9).toNat = r9 := pos_drop q14
                  have hl1 : r1.length = s.length - a6.toNat := by rw [<- e6', List.length_drop]
                  refine .inl ⟨rfl, m, by omega, ?_, ?_, by rw [hp9]; exact hsp⟩
                  . rw [List.length_append]; simp only [List.length_cons, List.length_nil]; unfold pos; omega
                  . rw [hp9]; rw [List.length_drop] at hm hvl; omega
            . rw [avs_snoc, lx_append, V.av_eq v]
              simp
        . refine ⟨hin, ?_⟩
          simp [hid, hbad]
          refine ⟨_, _, ⟨_, rfl⟩, [], rfl, by simp, hb0, hb1, fun h => absurd rfl h, fun _ => ?_⟩
          rw [hTe]
          exact hbe
  . simp [g1, hb]
    refine st_iter (I163b M s id p b) 1 ?_ ?_
    . exact ⟨rfl, rfl, by simp⟩
    . rintro i t H ⟨rfl, rfl, ht⟩
      obtain ⟨e, rfl⟩ := ht.elim
      clear ht
      refine ⟨by omega, ?_⟩
      simp [hid, hb]
      exact ⟨_, _, ⟨[], (List.append_nil _).symm⟩, [], rfl, by simp, hp0, hp1, fun _ => rfl, fun h => absurd h hb⟩
end Go.Tv
namespace Go.Tv
open Go.Proofs
set_option maxHeartbeats 8000000
set_option maxRecDepth 8000
structure RowsF (M : Heap) (x : AObj) (id : Nat) (o2 o3 : AObj) (L : Heap) (K I : List AV) (tk ti : Nat) : Prop where
  k : TokY 5 (M.set id x ++ [o2, o3] ++ L) K tk
  i : TokY 5 (M.set id x ++ [o2, o3] ++ L) I ti
  gk : K ≠ [] -> M.length + 2 ≤ tk
  gi : I ≠ [] -> M.length + 2 ≤ ti
  ne : K ≠ [] -> I ≠ [] -> tk ≠ ti
theorem RowsF.nil {M : Heap} {x : AObj} {id : Nat} {o2 o3 : AObj} {L : Heap} {tk ti : Nat} : RowsF M x id o2 o3 L [] [] tk ti :=
  ⟨fun h => absurd rfl h, fun h => absurd rfl h, fun h => absurd rfl h, fun h => absurd rfl h, fun h => absurd rfl h⟩
theorem app_R3 {T e : TypeId} {sz : Nat} {z : AV} (hel : elemT CC T = some e) (hint : isIntT CC T = false) (hsz : szOf CC e = some sz) (hz : zeroOf CC e = some z) (hzl : z.cells.length = sz) (hzo : z.cells.all AV.one = true) (hpos : 0 < sz) (hroom : ∀ n, n ≤ 1000000000 -> roomOk CC e n = true)
    (A L : Heap) (a : List AV) (x : AV) (tok : Nat) (ht : TokY sz (A ++ L) a tok) (hge : a ≠ [] -> A.length ≤ tok) (ha5 : a.all (fun v => decide (v.cells.length = sz)) = true) (hb5 : [x].all (fun v => decide (v.cells.length = sz) && v.cells.all AV.one) = true) (hc : a.length + 1 ≤ 1000000000) :
    ∃ L', aappB CC [T, T] [LX a tok, .list [x] none] (A ++ L) = some (.list (a ++ [x]) (some (A.length + L.length)), A ++ L') /\ L'.length = L.length + 1 /\ TokY sz (A ++ L') (a ++ [x]) (A.length + L.length) /\
      (∀ {sz2 : Nat} {els2 : List AV} {tok2 : Nat}, TokY sz2 (A ++ L) els2 tok2 -> (els2 ≠ [] -> A.length ≤ tok2) -> (a ≠ [] -> els2 ≠ [] -> tok2 ≠ tok) -> TokY sz2 (A ++ L') els2 tok2) /\ ∀ j, j < L.length -> (a ≠ [] -> A.length + j ≠ tok) -> L'[j]? = L[j]? := by
  obtain ⟨L', h1, h2, h3, h4⟩ := app_R hel hint hsz hz hzl hzo hpos hroom A L a x tok ht hge ha5 hb5 hc
  refine ⟨L', h1, h2, h3, fun {sz2 els2 tok2} h5 h6 h7 hne => ?_, h4⟩
  have h8 := h5 hne
  have h9 := h6 hne
  rw [List.getElem?_append_right h9] at h8 ⊢
  rw [h4 _ (List.getElem?_eq_some_iff.1 h8).1 (fun ha => by have := h7 ha hne; omega)]
  exact h8
theorem RowsF.app {M : Heap} {x y : AObj} {id : Nat} {o2 o3 : AObj} {L : Heap} (J : Heap) {K I : List AV} {tk ti : Nat} (kv v : V) (hR : RowsF M x id o2 o3 L K I tk ti) (hK5 : K.all (fun v => decide (v.cells.length = 5)) = true) (hI5 : I.all (fun v => decide (v.cells.length = 5)) = true) (hK : K.length ≤ 1000000) (hI : I.length ≤ 1000000) :
    ∃ L2 L3 tk' ti',
      aappB CC [22, 22] [LX K tk, .list [kv.av] none] (M.set id y ++ o2 :: o3 :: (L ++ J)) = some (.list (K ++ [kv.av]) (some tk'), M.set id y ++ o2 :: o3 :: L2) /\
      aappB CC [22, 22] [LX I ti, .list [v.av] none] (M.set id y ++ o2 :: o3 :: L2) = some (.list (I ++ [v.av]) (some ti'), M.set id y ++ o2 :: o3 :: L3) /\
      (∀ z o2' o3', RowsF M z id o2' o3' L3 (K ++ [kv.av]) (I ++ [v.av]) tk' ti') /\ ∀ j, j < J.length -> L2[L.length + j]? = J[j]? := by
  obtain ⟨L2, k1, k2, k3, k4, k5⟩ := app_R3 (T := 22) (e := 24) (sz := 5) el22 int22 sz24 zero24 rfl rfl (by decide) room24 (M.set id y ++ [o2, o3]) (L ++ J) K kv.av tk ((hR.k.app2 J).pre (by simp) (by simpa using hR.gk)) (by simpa using hR.gk) hK5 (by simp [V.av_eq]) (by omega)
  have i1 := k4 ((hR.i.app2 J).pre (by simp) (by simpa using hR.gi)) (by simpa using hR.gi) (fun a b e => hR.ne a b e.symm)
  obtain ⟨L3, x1, x2, x3, x4⟩ := app_R2 (T := 22) (e := 24) (sz := 5) el22 int22 sz24 zero24 rfl rfl (by decide) room24 (M.set id y ++ [o2, o3]) L2 I v.av ti i1 (by simpa using hR.gi) hI5 (by simp [V.av_eq]) (by omega)
  have htk : K ≠ [] -> tk < M.length + 2 + L.length := fun hne => by
    have := (List.getElem?_eq_some_iff.1 (hR.k hne)).1
    simp at this; omega
  have hti : I ≠ [] -> ti < M.length + 2 + L.length := fun hne => by
    have := (List.getElem?_eq_some_iff.1 (hR.i hne)).1
    simp at this; omega
  have y1 := x4 k3 (by intro _; simp) (fun hne _ e => by have := hti hne; simp at e; omega)
  refine ⟨L2, L3, _, _, by simpa using k1, by simpa using x1, fun z o2' o3' => ⟨?_, ?_, fun _ => by simp, fun _ => by simp, fun _ _ => by simp at k2 ⊢; omega⟩, fun j hj => ?_⟩
  . simpa using y1.pre (A' := M.set id z ++ [o2', o3']) (by simp) (by intro _; simp)
  . simpa using x3.pre (A' := M.set id z ++ [o2', o3']) (by simp) (by intro _; simp)
  . rw [k5 (L.length + j) (by simp; omega) (fun hne => by have := htk hne; simp; omega), List.getElem?_append_right (by omega)]
    congr 1; omega
theorem lx_or (K : List AV) (tk : Nat) : (LX K tk = .empty /\ K = []) \/ LX K tk = .list K (some tk) := by
  cases K with
  | nil => exact .inl ⟨rfl, rfl⟩
  | cons x r => exact .inr (lx_cons (by simp) tk)
def mkR (l : List (V × V)) : V := .mk 5 0 [] (l.map Prod.fst) (l.map Prod.snd)
theorem mkR_av (l : List (V × V)) : (mkR l).av = .agg [.int .i64 5, .int .i64 0, .str [], .list (avs (l.map Prod.fst)) none, .list (avs (l.map Prod.snd)) none] := rfl
def I165 (M : Heap) (s : List UInt8) (id : Nat) (T : PR (List (V × V))) (d n : Nat) (i : Nat) (t : List AV) (H : Heap) : Prop := ∃ b bad, ∃ (l : List (V × V)), ∃ tk ti L, (0 : Int) ≤ b /\ b ≤ s.length /\ LST s T (fun m r => pR m d r) n i l b bad /\
  RowsF M (RF s b bad) id zc24 (rc (avs (l.map Prod.fst)) (avs (l.map Prod.snd)) tk ti) L (avs (l.map Prod.fst)) (avs (l.map Prod.snd)) tk ti /\ H = M.set id (RF s b bad) ++ zc24 :: rc (avs (l.map Prod.fst)) (avs (l.map Prod.snd)) tk ti :: L /\
  Fit (some (.ptr id 0) :: some (.int .i64 d) :: none :: none :: some (.ptr M.length 0) :: some (.ptr (M.length + 1) 0) :: List.replicate 55 none) t
noncomputable def ops165 : Array Oper := (regions (Tryz.f165.body.getD .skip)).headD #[]
theorem c165 {s : List UInt8} {a : Int} {d n : Nat} {H : Heap} {id : Nat} (hs : s.length ≤ 1000000) (hd : d ≤ 20) (h0 : 0 ≤ a) (h1 : a ≤ s.length) (hn : 3 * (s.drop a.toNat).length + 2 ≤ n) (hv : ∀ m < n, VALF s m) (hH : H[id]? = some (RF s a (-1))) :
    ∃ r a' b' J, Call CC 165 [.ptr id 0, .int .i64 d] H = some (r, H.set id (RF s a' b') ++ J) /\ ∃ v, r = .ok (V.av v) /\ RES s (-1) (mapP mkR (pR n d (s.drop a.toNat))) v a' b' := by
  refine rfcall (f := 165) (rest := [.int .i64 d]) (P := fun r a' b' _ => ∃ v, r = .ok (V.av v) /\ RES s (-1) (mapP mkR (pR n d (s.drop a.toNat))) v a' b') (fn := Tryz.f165) rfl (by kernel_rfl) rfl rfl rfl rfl hH ?_
  intro M hid
  refine sd_plain rfl ?_
  obtain ⟨T, hT⟩ : ∃ T, T = pR n d (s.drop a.toNat) := ⟨_, rfl⟩
  rw [<- hT]
  simp [undv24, fv24_all, fv24_0]
  refine st_iter (I165 M s id T d n) (n + 1) ?_ ?_
  . refine ⟨a, -1, [], 0, 0, [], h0, h1, .inl ⟨rfl, n, by omega, by simpa using h0, hn, by rw [hT]; exact mapP_id _⟩, RowsF.nil, ?_, by simp⟩
    simp [zc24, rc, avs, lx_nil]
  . rintro i t H ⟨b, bad, l, tk, ti, L, hb0, hb1, hst, hR, rfl, ht⟩
    obtain ⟨e, rfl⟩ := ht.elim
    clear ht
    generalize hK : avs (l.map Prod.fst) = K at hR ⊢
    generalize hI : avs (l.map Prod.snd) = I at hR ⊢
    have hKl : K.length = l.length := by rw [<- hK, avs_len, List.length_map]
    have hIl : I.length = l.length := by rw [<- hI, avs_len, List.length_map]
    have hK5 : K.all (fun v => decide (v.cells.length = 5)) = true := by rw [<- hK]; exact avs_cells _
    have hI5 : I.all (fun v => decide (v.cells.length = 5)) = true := by rw [<- hI]; exact avs_cells _
    rcases hst with ⟨rfl, m, him, hlb, hm, hsp⟩ | ⟨hbad, hin, er, hTe, hbe⟩
    . refine ⟨by omega, ?_⟩
      obtain ⟨m, rfl⟩ : ∃ m', m = m' + 1 := ⟨m - 1, by omega⟩
      simp only [pR] at hsp
      have g1 := c93 (s := s) (a := b) (d := -1) (H := M.set id (RF s b (-1)) ++ zc24 :: rc K I tk ti :: L) (id := id) hs hb0 hb1 (by simp [hid])
      have suf : skipB (s.drop b.toNat) <:+ s := (skip_suf _).trans (List.drop_suffix _ _)
      have hsl := skip_len (s.drop b.toNat)
      obtain ⟨c, hc0⟩ : ∃ c, c = pos s (skipB (s.drop b.toNat)) := ⟨_, rfl⟩
      have hc1 : 0 ≤ c := hc0 ▸ pos_ge suf
      have hc2 : c ≤ s.length := hc0 ▸ pos_le _ _
      have hcd : s.drop c.toNat = skipB (s.drop b.toNat) := by rw [hc0]; exact pos_drop suf
      rw [<- hc0] at g1
      have g2 := c156 (s := s) (a := c) (d := -1) (H := M.set id (RF s c (-1)) ++ zc24 :: rc K I tk ti :: L) (id := id) hs hc1 hc2 (by simp [hid])
      rw [hcd] at g2
      generalize hr0 : skipB (s.drop b.toNat) = r0 at *
      have suf2 : r0.dropWhile partC <:+ s := (dw_suf _ _).trans suf
      have hdl := (dw_suf partC r0).length_le
      have htw := (List.takeWhile_prefix (l := r0) partC).length_le
      obtain ⟨f, hf0⟩ : ∃ f, f = pos s (r0.dropWhile partC) := ⟨_, rfl⟩
      have hf1 : 0 ≤ f := hf0 ▸ pos_ge suf2
      have hf2 : f ≤ s.length := hf0 ▸ pos_le _ _
      have hfd : s.drop f.toNat = r0.dropWhile partC := by rw [hf0]; exact pos_drop suf2
      obtain ⟨w, hw⟩ : ∃ w, w = r0.takeWhile partC := ⟨_, rfl⟩
      rw [<- hf0, <- hw] at g2
      have g5 := fun H => c99 w H (by rw [hw]; rw [List.length_drop] at hsl; omega)
      obtain ⟨bad1, hbad1⟩ : ∃ bad1, bad1 = if nameB w = true then -1 else c := ⟨_, rfl⟩
      have g3 := c159 (s := s) (a := f) (b := -1) (n := c) (H := M.set id (RF s f (-1)) ++ zc24 :: rc K I tk ti :: L) (id := id) (by simp [hid])
      obtain ⟨r4, a4, b4, J4, g4, rfl, rfl, s1, s2, s3, s4⟩ := c230 (s := s) (sign := [124, 45, 62]) (a := f) (b := bad1) (H := M.set id (RF s f bad1) ++ zc24 :: rc K I tk ti :: L) (id := id) hs (by decide) (by decide) hf1 hf2 (by simp [hid])
      rw [hfd] at s4
      have st1 : (b4 = -1 /\ nameB w = true /\ ∃ r1, mustB [124, 45, 62] (r0.dropWhile partC) = .ok r1 /\ a4 = pos s r1 /\ r1 <:+ s) \/ (b4 ≠ -1 /\ ∃ e : Nat, T = .error e /\ b4 = (s.length : Int) - e) := by
        cases hnm : nameB w with
        | false =>
          rw [hnm] at hbad1
          simp at hbad1
          have hb1' : bad1 ≠ -1 := by omega
          refine .inr ⟨by rw [s3 hb1']; exact hb1', r0.length, ?_, ?_⟩
          . rw [<- hsp, <- hw, hnm]; rfl
          . rw [s3 hb1', hbad1, hc0]; rfl
        | true =>
          rw [hnm] at hbad1
          simp at hbad1
          have s4 := s4 hbad1
          rw [<- hw, hnm, if_pos rfl] at hsp
          cases hmu : mustB [124, 45, 62] (r0.dropWhile partC) with
          | error er =>
            rw [hmu] at s4 hsp
            simp only at s4
            have := mustB_err hmu
            have := suf2.length_le
            exact .inr ⟨by omega, er, hsp.symm, s4⟩
          | ok r1 =>
            rw [hmu] at s4
            exact .inl ⟨s4.2.1, rfl, r1, rfl, s4.1, s4.2.2⟩
      obtain ⟨r6, a6, b6, J6, g6, v, rfl, q1, q2, q3, q4⟩ := hv m (by omega) (a := a4) (b := b4) (d := d) (H := M.set id (RF s a4 b4) ++ zc24 :: rc K I tk ti :: L) (id := id) hd s1 s2 (fun h4 => by
        rcases st1 with ⟨-, -, r1, k1, k2, k3⟩ | ⟨k1, -⟩
        . have := mustB_len k1
          rw [k2, pos_drop k3]
          rw [List.length_drop] at hsl hm
          omega
        . exact absurd h4 k1) (by simp [hid])
      obtain ⟨L2, L3, tk', ti', x1, x2, x3, x4⟩ := RowsF.app (y := RF s a6 b6) (J6 ++ [.cells [.int .i64 v.kind, .int .i64 v.num, .str v.s, .list (avs v.keys) none, .list (avs v.items) none] 24]) (.mk 2 0 w [] []) v hR hK5 hI5 (by omega) (by omega)
      obtain ⟨K', hK'⟩ : ∃ K', K' = K ++ [(V.mk 2 0 w [] []).av] := ⟨_, rfl⟩
      obtain ⟨I', hI'⟩ : ∃ I', I' = I ++ [v.av] := ⟨_, rfl⟩
      rw [<- hK', <- hI'] at x3
      have x4 := x4 J6.length (by simp)
      rw [List.getElem?_append_right (by omega), Nat.sub_self] at x4
      simp only [List.getElem?_cons_zero] at x4
      have eK : LX K' tk' = .list (K ++ [(V.mk 2 0 w [] []).av]) (some tk') := by rw [hK']; exact lx_append
      have eI : LX I' ti' = .list (I ++ [v.av]) (some ti') := by rw [hI']; exact lx_append
      have suf6 : skipB (s.drop a6.toNat) <:+ s := (skip_suf _).trans (List.drop_suffix _ _)
      obtain ⟨u, hu⟩ : ∃ u, u = pos s (skipB (s.drop a6.toNat)) := ⟨_, rfl⟩
      have hu0 : 0 ≤ u := hu ▸ pos_ge suf6
      have hu1 : u ≤ s.length := hu ▸ pos_le _ _
      have hud : s.drop u.toNat = skipB (s.drop a6.toNat) := by rw [hu]; exact pos_drop suf6
      have g8 := c229 (s := s) (a := a6) (b := b6) (c := 93) (H := M.set id (RF s a6 b6) ++ zc24 :: rc K' I' tk' ti' :: L3) (id := id) hs (by decide) q1 q2 (by simp [hid])
      rw [<- hu] at g8
      obtain ⟨r9, a9, b9, J9, g9, rfl, rfl, q10, q11, q12, q13⟩ := c230 (s := s) (sign := [44]) (a := u) (b := b6) (H := M.set id (RF s u b6) ++ zc24 :: rc K' I' tk' ti' :: L3) (id := id) hs (by decide) (by decide) hu0 hu1 (by simp [hid])
      rw [hud, mustB_skip] at q13
      have eKV : avs ((l ++ [(V.mk 2 0 w [] [], v)]).map Prod.fst) = K' := by rw [hK', <- hK, List.map_append, List.map_cons, List.map_nil, avs_snoc]
      have eIV : avs ((l ++ [(V.mk 2 0 w [] [], v)]).map Prod.snd) = I' := by rw [hI', <- hI, List.map_append, List.map_cons, List.map_nil, avs_snoc]
      simp only [RF, rc, zc24, eK, eI, str_av, V.av_eq v] at g1 g2 g3 g4 g6 g8 g9 x1 x2
      simp [-aappB, hid] at g1 g2 g3 g4 g6 g8 g9 x1 x2
      simp only [rc, zc24]
      have e93 : u8i 93 = 93 := by decide
      rw [e93] at g8
      have hne2 : ¬ M.length + (L.length + J6.length + 1 + 1) = M.length + 1 := by omega
      have drw : drawE ops165 [Eff.quiet, Eff.quiet, Eff.quiet, Eff.quiet, Eff.quiet, Eff.new, Eff.quiet, Eff.quiet, Eff.quiet, Eff.quiet, Eff.new, Eff.quiet, Eff.put (M.length + 1), Eff.quiet, Eff.put (M.length + 1)]
          [none, some (M.length + 1), none, none, none, none, none, some (M.length + 1), some (M.length + (L.length + J6.length + 1 + 1)), none, none, none, none, none, none] = true := by
        refine drawE_map (fun j => if j = M.length + 1 then 0 else 1) ?_
        simp [mapE]
        kernel_rfl
      by_cases hyes : b6 = -1 /\ nowB (skipB (s.drop a6.toNat)) = 93
      . obtain ⟨rfl, hx⟩ := hyes
        obtain ⟨hnm, r5, k5, k6, k7⟩ : nameB w = true /\ ∃ r5, T = .ok (l ++ [(V.mk 2 0 w [] [], v)], s.drop (u + 1).toNat) /\ a6 = pos s r5 /\ u < s.length := by
          rcases st1 with ⟨h4, hnm, r1, k1, k2, k3⟩ | ⟨h4, er, k1, k2⟩
          . have q4 := q4 h4
            rw [k2, pos_drop k3] at q4
            rw [<- hw, hnm, if_pos rfl, k1] at hsp
            simp only at hsp
            cases hpv : pV m d r1 with
            | error er =>
              rw [hpv] at q4
              simp only at q4
              have := (errP m).v hpv
              have := k3.length_le
              omega
            | ok vr =>
              obtain ⟨v', r5⟩ := vr
              rw [hpv] at q4 hsp
              obtain ⟨rfl, e6, -, q7⟩ := q4
              have e6' : s.drop a6.toNat = r5 := by rw [e6]; exact pos_drop q7
              rw [e6'] at hx hud
              obtain ⟨r9, k5, k6⟩ := goes_yes (o := 44) (os := []) (by decide) (by decide) hx
              simp only at hsp
              rw [k6] at hsp
              have hlt : u < s.length := nowB_zero hu0 (by rw [hud, hx]; decide)
              have hdn := drop_now hu0 hlt
              rw [hud, hx, k5] at hdn
              exact ⟨hnm, r5, by rw [<- hsp, <- (List.cons.inj hdn).2]; rfl, e6, hlt⟩
          . exact absurd (q3 h4).symm (fun h => h4 (by rw [h]))
        have hb1e : bad1 = -1 := by rw [hbad1, hnm]; rfl
        have wu := wrapI (i := u + 1) (by omega) (by omega)
        rw [hb1e] at g4
        rw [hx] at g8
        simp [-aappB, -appEff, appEff_LX, hid, g1, g2, g5, hnm, g4, g6, c228, str_av, x1, x2, x4, g8, wu]
        refine ⟨drw, u + 1, -1, ⟨_, rfl⟩, mkR (l ++ [(V.mk 2 0 w [] [], v)]), ?_, by omega, by omega, fun h => absurd rfl h, fun _ => ?_⟩
        . rw [mkR_av, eKV, eIV, <- V.av_eq v, <- str_av, <- hK', <- hI', <- eKV, <- eIV, erase_avs, erase_avs]
        . rw [k5]
          exact ⟨rfl, (pos_at (by omega) (by omega)).symm, rfl, List.drop_suffix _ _⟩
      . have hno : (decide (b6 = -1) && decide (nowB (skipB (s.drop a6.toNat)) = 93)) = false := by simpa using hyes
        rw [hno] at g8
        have stN : LST s T (fun m r => pR m d r) n (i + 1) (l ++ [(V.mk 2 0 w [] [], v)]) a9 b9 := by
          rcases st1 with ⟨h4, hnm, r1, k1, k2, k3⟩ | ⟨h4, er, k1, k2⟩
          . have q4 := q4 h4
            rw [k2, pos_drop k3] at q4
            rw [<- hw, hnm, if_pos rfl, k1] at hsp
            simp only at hsp
            have hk3 := k3.length_le
            have hml := mustB_len k1
            simp only [List.length_cons, List.length_nil] at hml
            cases hpv : pV m d r1 with
            | error er =>
              rw [hpv] at q4 hsp
              simp only at q4
              have := (errP m).v hpv
              have hb6 : b6 ≠ -1 := by omega
              exact .inr ⟨by rw [q12 hb6]; exact hb6, by omega, er, hsp.symm, by rw [q12 hb6]; exact q4⟩
            | ok vr =>
              obtain ⟨v', r5⟩ := vr
              rw [hpv] at q4 hsp
              obtain ⟨rfl, e6, rfl, q7⟩ := q4
              have hvl := (lenP m).v hpv
              have e6' : s.drop a6.toNat = r5 := by rw [e6]; exact pos_drop q7
              have hx : nowB (skipB r5) ≠ 93 := fun h => hyes ⟨rfl, by rw [e6']; exact h⟩
              simp only at hsp
              rw [goes_no hx] at hsp
              have q13 := q13 rfl
              rw [e6'] at q13
              cases hmu : mustB [44] r5 with
              | error er =>
                rw [hmu] at q13 hsp
                simp only at q13 hsp
                have := mustB_err hmu
                have := q7.length_le
                exact .inr ⟨by omega, by omega, er, hsp.symm, q13⟩
              | ok r9 =>
                rw [hmu] at q13 hsp
                obtain ⟨rfl, rfl, q14⟩ := q13
                simp only [mapP_app] at hsp
                have hml2 := mustB_len hmu
                simp only [List.length_cons, List.length_nil] at hml2
                have hp9 : s.drop (pos s r9).toNat = r9 := pos_drop q14
                rw [List.length_drop] at hsl hm
                refine .inl ⟨rfl, m, by omega, ?_, ?_, by rw [hp9]; exact hsp⟩
                . rw [List.length_append]; simp only [List.length_cons, List.length_nil]; unfold pos; omega
                . rw [hp9]; omega
          . have hb6 : b6 = b4 := q3 h4
            have hb9 : b9 = b6 := q12 (by rw [hb6]; exact h4)
            exact .inr ⟨by rw [hb9, hb6]; exact h4, by omega, er, k1, by rw [hb9, hb6]; exact k2⟩
        cases hnm : nameB w with
        | true =>
          have hb1e : bad1 = -1 := by rw [hbad1, hnm]; rfl
          rw [hb1e] at g4
          simp [-aappB, -appEff, appEff_LX, hid, g1, g2, g5, hnm, g4, g6, c228, str_av, x1, x2, x4, g8, g9]
          refine ⟨drw, a9, b9, l ++ [(V.mk 2 0 w [] [], v)], tk', ti', L3, q10, q11, stN, by rw [eKV, eIV]; exact x3 _ _ _, ?_, ?_⟩
          . rw [eKV, eIV]; simp only [zc24, rc, RF, eK, eI, str_av, V.av_eq v]
          . simp
        | false =>
          have hb1e : bad1 = c := by rw [hbad1, hnm]; rfl
          rw [hb1e] at g4
          simp [-aappB, -appEff, appEff_LX, hid, g1, g2, g3, g5, hnm, g4, g6, c228, str_av, x1, x2, x4, g8, g9]
          refine ⟨drw, a9, b9, l ++ [(V.mk 2 0 w [] [], v)], tk', ti', L3, q10, q11, stN, by rw [eKV, eIV]; exact x3 _ _ _, ?_, ?_⟩
          . rw [eKV, eIV]; simp only [zc24, rc, RF, eK, eI, str_av, V.av_eq v]
          . simp
    . refine ⟨hin, ?_⟩
      have hKe : eraseL K = K := by rw [<- hK]; exact erase_avs _
      have hIe : eraseL I = I := by rw [<- hI]; exact erase_avs _
      have eV : (mkR l).av = .agg [.int .i64 5, .int .i64 0, .str [], .list K none, .list I none] := by rw [mkR_av, hK, hI]
      have fin : RES s (-1) (mapP mkR T) (mkR l) b bad := ⟨hb0, hb1, fun h => absurd rfl h, fun _ => by rw [hTe]; exact hbe⟩
      rcases lx_or K tk with ⟨eK, hK0⟩ | eK <;> rcases lx_or I ti with ⟨eI, hI0⟩ | eI
      . simp [zc24, rc, eK, eI, hid, hbad]
        exact ⟨b, bad, ⟨_, rfl⟩, mkR l, by rw [eV, hK0, hI0], fin⟩
      . simp [zc24, rc, eK, eI, hid, hbad, hIe]
        exact ⟨b, bad, ⟨_, rfl⟩, mkR l, by rw [eV, hK0], fin⟩
      . simp [zc24, rc, eK, eI, hid, hbad, hKe]
        exact ⟨b, bad, ⟨_, rfl⟩, mkR l, by rw [eV, hI0], fin⟩
      . simp [zc24, rc, eK, eI, hid, hbad, hKe, hIe]
        exact ⟨b, bad, ⟨_, rfl⟩, mkR l, by rw [eV], fin⟩
end Go.Tv
namespace Go.Tv
open Go.Proofs
set_option maxHeartbeats 8000000
set_option maxRecDepth 8000
def I166 (M : Heap) (s : List UInt8) (id : Nat) (T : PR (List (V × V))) (d n : Nat) (i : Nat) (t : List AV) (H : Heap) : Prop := ∃ b bad, ∃ (l : List (V × V)), ∃ tk ti L, (0 : Int) ≤ b /\ b ≤ s.length /\ LST s T (fun m r => pM m d r) n i l b bad /\
  RowsF M (RF s b bad) id zc24 (rc (avs (l.map Prod.fst)) (avs (l.map Prod.snd)) tk ti) L (avs (l.map Prod.fst)) (avs (l.map Prod.snd)) tk ti /\ H = M.set id (RF s b bad) ++ zc24 :: rc (avs (l.map Prod.fst)) (avs (l.map Prod.snd)) tk ti :: L /\
  Fit (some (.ptr id 0) :: some (.int .i64 d) :: none :: none :: some (.ptr M.length 0) :: some (.ptr (M.length + 1) 0) :: List.replicate 42 none) t
noncomputable def ops166 : Array Oper := (regions (Tryz.f166.body.getD .skip)).headD #[]
theorem c166 {s : List UInt8} {a : Int} {d n : Nat} {H : Heap} {id : Nat} (hs : s.length ≤ 1000000) (hd : d ≤ 20) (h0 : 0 ≤ a) (h1 : a ≤ s.length) (hn : 3 * (s.drop a.toNat).length + 2 ≤ n) (hv : ∀ m < n, VALF s m) (hH : H[id]? = some (RF s a (-1))) :
    ∃ r a' b' J, Call CC 166 [.ptr id 0, .int .i64 d] H = some (r, H.set id (RF s a' b') ++ J) /\ ∃ v, r = .ok (V.av v) /\ RES s (-1) (mapP mkR (pM n d (s.drop a.toNat))) v a' b' := by
  refine rfcall (f := 166) (rest := [.int .i64 d]) (P := fun r a' b' _ => ∃ v, r = .ok (V.av v) /\ RES s (-1) (mapP mkR (pM n d (s.drop a.toNat))) v a' b') (fn := Tryz.f166) rfl (by kernel_rfl) rfl rfl rfl rfl hH ?_
  intro M hid
  refine sd_plain rfl ?_
  obtain ⟨T, hT⟩ : ∃ T, T = pM n d (s.drop a.toNat) := ⟨_, rfl⟩
  rw [<- hT]
  simp [undv24, fv24_all, fv24_0]
  refine st_iter (I166 M s id T d n) (n + 1) ?_ ?_
  . refine ⟨a, -1, [], 0, 0, [], h0, h1, .inl ⟨rfl, n, by omega, by simpa using h0, hn, by rw [hT]; exact mapP_id _⟩, RowsF.nil, ?_, by simp⟩
    simp [zc24, rc, avs, lx_nil]
  . rintro i t H ⟨b, bad, l, tk, ti, L, hb0, hb1, hst, hR, rfl, ht⟩
    obtain ⟨e, rfl⟩ := ht.elim
    clear ht
    generalize hK : avs (l.map Prod.fst) = K at hR ⊢
    generalize hI : avs (l.map Prod.snd) = I at hR ⊢
    have hKl : K.length = l.length := by rw [<- hK, avs_len, List.length_map]
    have hIl : I.length = l.length := by rw [<- hI, avs_len, List.length_map]
    have hK5 : K.all (fun v => decide (v.cells.length = 5)) = true := by rw [<- hK]; exact avs_cells _
    have hI5 : I.all (fun v => decide (v.cells.length = 5)) = true := by rw [<- hI]; exact avs_cells _
    rcases hst with ⟨rfl, m, him, hlb, hm, hsp⟩ | ⟨hbad, hin, er, hTe, hbe⟩
    . refine ⟨by omega, ?_⟩
      obtain ⟨m, rfl⟩ : ∃ m', m = m' + 1 := ⟨m - 1, by omega⟩
      simp only [pM] at hsp
      obtain ⟨r5, a5, b5, J5, g5, kv, rfl, p1, p2, -, p4⟩ := hv m (by omega) (a := b) (b := -1) (d := d) (H := M.set id (RF s b (-1)) ++ zc24 :: rc K I tk ti :: L) (id := id) hd hb0 hb1 (fun _ => by omega) (by simp [hid])
      have p4 := p4 rfl
      obtain ⟨ko, hko⟩ : ∃ ko, ko = AObj.cells [.int .i64 kv.kind, .int .i64 kv.num, .str kv.s, .list (avs kv.keys) none, .list (avs kv.items) none] 24 := ⟨_, rfl⟩
      obtain ⟨r4, a4, b4, J4, g4, rfl, rfl, s1, s2, s3, s4⟩ := c230 (s := s) (sign := [58, 62]) (a := a5) (b := b5) (H := M.set id (RF s a5 b5) ++ zc24 :: rc K I tk ti :: (L ++ (J5 ++ [ko]))) (id := id) hs (by decide) (by decide) p1 p2 (by simp [hid])
      have st1 : (b4 = -1 /\ ∃ r0 r1, pV m d (s.drop b.toNat) = .ok (kv, r0) /\ mustB [58, 62] r0 = .ok r1 /\ a4 = pos s r1 /\ r1 <:+ s /\ r0 <:+ s) \/ (b4 ≠ -1 /\ ∃ e : Nat, T = .error e /\ b4 = (s.length : Int) - e) := by
        cases hpv : pV m d (s.drop b.toNat) with
        | error er =>
          rw [hpv] at p4 hsp
          simp only at p4
          have := (errP m).v hpv
          rw [List.length_drop] at this
          have hb5 : b5 ≠ -1 := by omega
          exact .inr ⟨by rw [s3 hb5]; exact hb5, er, hsp.symm, by rw [s3 hb5]; exact p4⟩
        | ok vr =>
          obtain ⟨v', r0⟩ := vr
          rw [hpv] at p4 hsp
          obtain ⟨rfl, e5, e5b, q7⟩ := p4
          have e5' : s.drop a5.toNat = r0 := by rw [e5]; exact pos_drop q7
          have s4 := s4 e5b
          rw [e5'] at s4
          simp only at hsp
          cases hmu : mustB [58, 62] r0 with
          | error er =>
            rw [hmu] at s4 hsp
            simp only at s4
            have := mustB_err hmu
            have := q7.length_le
            exact .inr ⟨by omega, er, hsp.symm, s4⟩
          | ok r1 =>
            rw [hmu] at s4
            exact .inl ⟨s4.2.1, r0, r1, rfl, hmu, s4.1, s4.2.2, q7⟩
      obtain ⟨r6, a6, b6, J6, g6, v, rfl, q1, q2, q3, q4⟩ := hv m (by omega) (a := a4) (b := b4) (d := d) (H := M.set id (RF s a4 b4) ++ zc24 :: rc K I tk ti :: (L ++ (J5 ++ [ko]))) (id := id) hd s1 s2 (fun h4 => by
        rcases st1 with ⟨-, r0, r1, k0, k1, k2, k3, -⟩ | ⟨k1, -⟩
        . have := mustB_len k1
          have := (lenP m).v k0
          rw [k2, pos_drop k3]
          omega
        . exact absurd h4 k1) (by simp [hid])
      obtain ⟨L2, L3, tk', ti', x1, x2, x3, x4⟩ := RowsF.app (y := RF s a6 b6) (J5 ++ ko :: (J6 ++ [.cells [.int .i64 v.kind, .int .i64 v.num, .str v.s, .list (avs v.keys) none, .list (avs v.items) none] 24])) kv v hR hK5 hI5 (by omega) (by omega)
      obtain ⟨K', hK'⟩ : ∃ K', K' = K ++ [kv.av] := ⟨_, rfl⟩
      obtain ⟨I', hI'⟩ : ∃ I', I' = I ++ [v.av] := ⟨_, rfl⟩
      rw [<- hK', <- hI'] at x3
      have x4 := x4 (J5.length + (J6.length + 1)) (by simp)
      rw [List.getElem?_append_right (by omega), show J5.length + (J6.length + 1) - J5.length = J6.length + 1 by omega, List.getElem?_cons_succ, List.getElem?_append_right (by omega), Nat.sub_self] at x4
      simp only [List.getElem?_cons_zero] at x4
      have eK : LX K' tk' = .list (K ++ [kv.av]) (some tk') := by rw [hK']; exact lx_append
      have eI : LX I' ti' = .list (I ++ [v.av]) (some ti') := by rw [hI']; exact lx_append
      have suf6 : skipB (s.drop a6.toNat) <:+ s := (skip_suf _).trans (List.drop_suffix _ _)
      obtain ⟨u, hu⟩ : ∃ u, u = pos s (skipB (s.drop a6.toNat)) := ⟨_, rfl⟩
      have hu0 : 0 ≤ u := hu ▸ pos_ge suf6
      have hu1 : u ≤ s.length := hu ▸ pos_le _ _
      have hud : s.drop u.toNat = skipB (s.drop a6.toNat) := by rw [hu]; exact pos_drop suf6
      have g8 := c229 (s := s) (a := a6) (b := b6) (c := 41) (H := M.set id (RF s a6 b6) ++ zc24 :: rc K' I' tk' ti' :: L3) (id := id) hs (by decide) q1 q2 (by simp [hid])
      rw [<- hu] at g8
      obtain ⟨r9, a9, b9, J9, g9, rfl, rfl, q10, q11, q12, q13⟩ := c230 (s := s) (sign := [64, 64]) (a := u) (b := b6) (H := M.set id (RF s u b6) ++ zc24 :: rc K' I' tk' ti' :: L3) (id := id) hs (by decide) (by decide) hu0 hu1 (by simp [hid])
      rw [hud, mustB_skip] at q13
      have eKV : avs ((l ++ [(kv, v)]).map Prod.fst) = K' := by rw [hK', <- hK, List.map_append, List.map_cons, List.map_nil, avs_snoc]
      have eIV : avs ((l ++ [(kv, v)]).map Prod.snd) = I' := by rw [hI', <- hI, List.map_append, List.map_cons, List.map_nil, avs_snoc]
      subst hko
      simp only [RF, rc, zc24, eK, eI, V.av_eq kv, V.av_eq v] at g4 g5 g6 g8 g9 x1 x2
      simp [-aappB, hid] at g4 g5 g6 g8 g9 x1 x2
      simp only [rc, zc24]
      have e41 : u8i 41 = 41 := by decide
      rw [e41] at g8
      have hne2 : ¬ M.length + (L.length + J5.length + 1 + 1) = M.length + 1 := by omega
      have hne3 : ¬ M.length + (L.length + (J5.length + (J6.length + 1)) + 1 + 1) = M.length + 1 := by omega
      have drw : drawE ops166 [Eff.quiet, Eff.quiet, Eff.quiet, Eff.quiet, Eff.new, Eff.quiet, Eff.quiet, Eff.quiet, Eff.quiet, Eff.new, Eff.quiet, Eff.put (M.length + 1), Eff.quiet, Eff.put (M.length + 1)]
          [none, some (M.length + 1), some (M.length + (L.length + J5.length + 1 + 1)), none, none, none, some (M.length + 1), some (M.length + (L.length + (J5.length + (J6.length + 1)) + 1 + 1)), none, none, none, none, none, none] = true := by
        refine drawE_map (fun j => if j = M.length + 1 then 0 else 1) ?_
        simp [mapE]
        kernel_rfl
      by_cases hyes : b6 = -1 /\ nowB (skipB (s.drop a6.toNat)) = 41
      . obtain ⟨rfl, hx⟩ := hyes
        obtain ⟨r5, k5, k6, k7⟩ : ∃ r5, T = .ok (l ++ [(kv, v)], s.drop (u + 1).toNat) /\ a6 = pos s r5 /\ u < s.length := by
          rcases st1 with ⟨h4, r0, r1, k0, k1, k2, k3, k8⟩ | ⟨h4, er, k1, k2⟩
          . have q4 := q4 h4
            rw [k2, pos_drop k3] at q4
            rw [k0] at hsp
            simp only at hsp
            rw [k1] at hsp
            simp only at hsp
            cases hpv : pV m d r1 with
            | error er =>
              rw [hpv] at q4
              simp only at q4
              have := (errP m).v hpv
              have := k3.length_le
              omega
            | ok vr =>
              obtain ⟨v', r5⟩ := vr
              rw [hpv] at q4 hsp
              obtain ⟨rfl, e6, -, q7⟩ := q4
              have e6' : s.drop a6.toNat = r5 := by rw [e6]; exact pos_drop q7
              rw [e6'] at hx hud
              obtain ⟨r9, k5, k6⟩ := goes_yes (o := 64) (os := [64]) (by decide) (by decide) hx
              simp only at hsp
              rw [k6] at hsp
              have hlt : u < s.length := nowB_zero hu0 (by rw [hud, hx]; decide)
              have hdn := drop_now hu0 hlt
              rw [hud, hx, k5] at hdn
              exact ⟨r5, by rw [<- hsp, <- (List.cons.inj hdn).2]; rfl, e6, hlt⟩
          . exact absurd (q3 h4).symm (fun h => h4 (by rw [h]))
        have wu := wrapI (i := u + 1) (by omega) (by omega)
        rw [hx] at g8
        simp [-aappB, -appEff, appEff_LX, hid, g5, g4, g6, x1, x2, x4, g8, wu]
        refine ⟨drw, u + 1, -1, ⟨_, rfl⟩, mkR (l ++ [(kv, v)]), ?_, by omega, by omega, fun h => absurd rfl h, fun _ => ?_⟩
        . rw [mkR_av, eKV, eIV, <- V.av_eq v, <- V.av_eq kv, <- hK', <- hI', <- eKV, <- eIV, erase_avs, erase_avs]
        . rw [k5]
          exact ⟨rfl, (pos_at (by omega) (by omega)).symm, rfl, List.drop_suffix _ _⟩
      . have hno : (decide (b6 = -1) && decide (nowB (skipB (s.drop a6.toNat)) = 41)) = false := by simpa using hyes
        rw [hno] at g8
        have stN : LST s T (fun m r => pM m d r) n (i + 1) (l ++ [(kv, v)]) a9 b9 := by
          rcases st1 with ⟨h4, r0, r1, k0, k1, k2, k3, k8⟩ | ⟨h4, er, k1, k2⟩
          . have q4 := q4 h4
            rw [k2, pos_drop k3] at q4
            rw [k0] at hsp
            simp only at hsp
            rw [k1] at hsp
            simp only at hsp
            have hk3 := k3.length_le
            have hk8 := k8.length_le
            have hml := mustB_len k1
            simp only [List.length_cons, List.length_nil] at hml
            cases hpv : pV m d r1 with
            | error er =>
              rw [hpv] at q4 hsp
              simp only at q4
              have := (errP m).v hpv
              have hb6 : b6 ≠ -1 := by omega
              exact .inr ⟨by rw [q12 hb6]; exact hb6, by omega, er, hsp.symm, by rw [q12 hb6]; exact q4⟩
            | ok vr =>
              obtain ⟨v', r5⟩ := vr
              rw [hpv] at q4 hsp
              obtain ⟨rfl, e6, rfl, q7⟩ := q4
              have hvl := (lenP m).v hpv
              have e6' : s.drop a6.toNat = r5 := by rw [e6]; exact pos_drop q7
              have hx : nowB (skipB r5) ≠ 41 := fun h => hyes ⟨rfl, by rw [e6']; exact h⟩
              simp only at hsp
              rw [goes_no hx] at hsp
              have q13 := q13 rfl
              rw [e6'] at q13
              cases hmu : mustB [64, 64] r5 with
              | error er =>
                rw [hmu] at q13 hsp
                simp only at q13 hsp
                have := mustB_err hmu
                have := q7.length_le
                exact .inr ⟨by omega, by omega, er, hsp.symm, q13⟩
              | ok r9 =>
                rw [hmu] at q13 hsp
                obtain ⟨rfl, rfl, q14⟩ := q13
                simp only [mapP_app] at hsp
                have hml2 := mustB_len hmu
                simp only [List.length_cons, List.length_nil] at hml2
                have hp9 : s.drop (pos s r9).toNat = r9 := pos_drop q14
                rw [List.length_drop] at hm
                have hvl0 := (lenP m).v k0
                rw [List.length_drop] at hvl0
                refine .inl ⟨rfl, m, by omega, ?_, ?_, by rw [hp9]; exact hsp⟩
                . rw [List.length_append]; simp only [List.length_cons, List.length_nil]; unfold pos; omega
                . rw [hp9]; omega
          . have hb6 : b6 = b4 := q3 h4
            have hb9 : b9 = b6 := q12 (by rw [hb6]; exact h4)
            exact .inr ⟨by rw [hb9, hb6]; exact h4, by omega, er, k1, by rw [hb9, hb6]; exact k2⟩
        simp [-aappB, -appEff, appEff_LX, hid, g5, g4, g6, x1, x2, x4, g8, g9]
        refine ⟨drw, a9, b9, l ++ [(kv, v)], tk', ti', L3, q10, q11, stN, by rw [eKV, eIV]; exact x3 _ _ _, ?_, ?_⟩
        . rw [eKV, eIV]; simp only [zc24, rc, RF, eK, eI, V.av_eq kv, V.av_eq v]
        . simp
    . refine ⟨hin, ?_⟩
      have hKe : eraseL K = K := by rw [<- hK]; exact erase_avs _
      have hIe : eraseL I = I := by rw [<- hI]; exact erase_avs _
      have eV : (mkR l).av = .agg [.int .i64 5, .int .i64 0, .str [], .list K none, .list I none] := by rw [mkR_av, hK, hI]
      have fin : RES s (-1) (mapP mkR T) (mkR l) b bad := ⟨hb0, hb1, fun h => absurd rfl h, fun _ => by rw [hTe]; exact hbe⟩
      rcases lx_or K tk with ⟨eK, hK0⟩ | eK <;> rcases lx_or I ti with ⟨eI, hI0⟩ | eI
      . simp [zc24, rc, eK, eI, hid, hbad]
        exact ⟨b, bad, ⟨_, rfl⟩, mkR l, by rw [eV, hK0, hI0], fin⟩
      . simp [zc24, rc, eK, eI, hid, hbad, hIe]
        exact ⟨b, bad, ⟨_, rfl⟩, mkR l, by rw [eV, hK0], fin⟩
      . simp [zc24, rc, eK, eI, hid, hbad, hKe]
        exact ⟨b, bad, ⟨_, rfl⟩, mkR l, by rw [eV, hI0], fin⟩
      . simp [zc24, rc, eK, eI, hid, hbad, hKe, hIe]
        exact ⟨b, bad, ⟨_, rfl⟩, mkR l, by rw [eV], fin⟩
end Go.Tv
