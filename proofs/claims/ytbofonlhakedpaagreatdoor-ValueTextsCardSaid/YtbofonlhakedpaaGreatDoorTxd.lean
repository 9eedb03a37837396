/-
  The reader of package value: lists, records, maps, values.
-/
import Derived.Test.YtbofonlhakedpaaGreatDoorTxc
import Derived.Test.YtbofonlhakedpaaGreatDoorTxa
namespace Go.Tv
open Go.Proofs
set_option maxHeartbeats 4000000
theorem sd_defer1 {C : Cfg} {call : Caller} {t : List AV} {H : Heap} {Q : DOut -> Prop} {id y : Nat} {ty ty2 : TypeId} {pos pos2 : String} {aft aft2 : Array Edge} {at_ : Array TypeId} {g : FuncId} {caps : Array Operand} {cs : List AV} {b : Code} (hc : evs C t caps.toList = some cs) (hy : y < t.length) (h : ST C call b (t.set y (.fn (.func g) [] cs)) H [] fun e t H => Q (.later g cs e t H)) :
    SD C call (.seq (.region id #[⟨some y, .makeFunc (.func g) #[] caps, ty, pos, aft, none⟩, ⟨none, .defer ⟨.value (.tmp y), #[], at_⟩, ty2, pos2, aft2, none⟩] false) b) t H Q := by
  refine sd_defer (g := g) (d := cs) (t' := t.set y (.fn (.func g) [] cs)) (H' := H) (by simp [isDefer]) ?_ h
  have e : List.range 2 = [0, 1] := rfl
  simp [e, aopsD, isDefer, adefer, hc, hy]
theorem lat_deep {g : FuncId} (hg : g = 273 \/ g = 276 \/ g = 277) {s : List UInt8} {a d : Int} {M L : Heap} {id : Nat} {p : Option AV} {Q : Option AV -> Heap -> Prop} (hid : id < M.length) (hL : L[0]? = some (.cells [.ptr id 0] 106)) (h : Q p (M.set id (RD s a (IntKind.i64.wrap (d - 1))) ++ L)) :
    LAT CC (Call CC) g [.ptr M.length 0] p (M.set id (RD s a d) ++ L) Q := by
  simp only [RD] at h ⊢
  rcases hg with rfl | rfl | rfl
  . refine lat_plain (fn := Tryz.f273) (by kernel_rfl) rfl rfl rfl rfl ?_
    simp [hid, hL, h]
  . refine lat_plain (fn := Tryz.f276) (by kernel_rfl) rfl rfl rfl rfl ?_
    simp [hid, hL, h]
  . refine lat_plain (fn := Tryz.f277) (by kernel_rfl) rfl rfl rfl rfl ?_
    simp [hid, hL, h]
theorem wrong_erase (a : Int) : (wrong a).erase = wrong a := rfl
attribute [simp] wrong_erase
theorem mapP_id {α : Type} (o : PR (List α)) : mapP (fun x => [] ++ x) o = o := by cases o <;> rfl
theorem mapP_app {α : Type} (l : List α) (v : α) (o : PR (List α)) : mapP (fun x => l ++ x) (mapP (v :: ·) o) = mapP (fun x => (l ++ [v]) ++ x) o := by
  cases o with
  | error e => rfl
  | ok x => obtain ⟨a, r⟩ := x; simp [mapP]
theorem avs_snoc (l : List V) (v : V) : avs (l ++ [v]) = avs l ++ [v.av] := by simp [avs_map]
theorem avs_ne {l : List V} : avs l ≠ [] ↔ l ≠ [] := by simp [avs_map]
theorem avs_cells5 (l : List V) : (avs l).all (fun v => decide (v.cells.length = 5)) = true := avs_cells l
def VALC (s : List UInt8) (n : Nat) : Prop := ∀ {a : Int} {d : Nat} {H : Heap} {id : Nat}, d ≤ 20 -> 0 ≤ a -> a ≤ s.length -> 3 * (s.drop a.toNat).length + 1 ≤ n -> H[id]? = some (RD s a d) ->
  ∃ r a' d' J, Call CC 151 [.ptr id 0] H = some (r, H.set id (RD s a' d') ++ J) /\ OUT s d V.av (pV n d (s.drop a.toNat)) r a' d'
def valsP (n d : Nat) (sign en r : List UInt8) : PR (List V) := match openP d sign r with
  | .error e => .error e
  | .ok r2 => pL0 n (d + 1) en r2
def I223 (M : Heap) (s en r2 : List UInt8) (id d n : Nat) (i : Nat) (t : List AV) (H : Heap) : Prop := ∃ b l tok L m, i + m = n /\ (0 : Int) ≤ b /\ b ≤ s.length /\ (l.length : Int) ≤ b /\ 3 * (s.drop b.toNat).length + 2 ≤ m /\ mapP (fun x => l ++ x) (pL m (d + 1) en (s.drop b.toNat)) = pL n (d + 1) en r2 /\
  L[0]? = some (.cells [.ptr id 0] 106) /\ TokY 5 (M.set id (RD s b ((d : Int) + 1)) ++ L) (avs l) tok /\ (l ≠ [] -> M.length + 1 ≤ tok) /\ H = M.set id (RD s b ((d : Int) + 1)) ++ L /\
  Fit (none :: none :: some (.str en) :: some (.ptr M.length 0) :: none :: none :: none :: some (LX (avs l) tok) :: List.replicate 23 none) t
theorem c223 {s sign en : List UInt8} {a : Int} {d n : Nat} {H : Heap} {id : Nat} (hs : s.length ≤ 1000000) (hg : sign.length ≤ 100) (hg0 : ∀ c ∈ sign, c ≠ 0) (hgn : sign ≠ []) (hen : en.length ≤ 100) (he0 : ∀ c ∈ en, c ≠ 0) (hn0 : en ≠ []) (hd : d ≤ 20) (h0 : 0 ≤ a) (h1 : a ≤ s.length) (hn : 3 * (s.drop a.toNat).length ≤ n) (hv : ∀ m < n, VALC s m) (hH : H[id]? = some (RD s a d)) :
    ∃ r a' d' J, Call CC 223 [.ptr id 0, .str sign, .str en] H = some (r, H.set id (RD s a' d') ++ J) /\ OUT s d (fun l => .list (avs l) none) (valsP n d sign en (s.drop a.toNat)) r a' d' := by
  refine rdcall (f := 223) (rest := [.str sign, .str en]) (P := fun r a' d' _ => OUT s d (fun l => .list (avs l) none) (valsP n d sign en (s.drop a.toNat)) r a' d') (fn := Tryz.f223) rfl (by kernel_rfl) rfl rfl rfl rfl hH ?_
  intro M hid
  refine sd_seq rfl ?_
  simp
  refine sd_seq rfl ?_
  obtain ⟨r4, a4, d4, J4, g4, q4⟩ := c272 (s := s) (sign := sign) (a := a) (d := d) (H := M.set id (RD s a d) ++ [.cells [.ptr id 0] 106]) (id := id) hs hg hg0 hd h0 h1 (by simp [hid])
  obtain ⟨rfl, q4⟩ := q4
  simp [hid] at g4
  cases ho : openP d sign (s.drop a.toNat) with
  | error e =>
    rw [ho] at q4
    simp only at q4
    subst q4
    simp [g4]
    exact ⟨_, _, ⟨_, rfl⟩, by simp only [valsP, ho]; rfl⟩
  | ok r2 =>
  rw [ho] at q4
  obtain ⟨rfl, rfl, rfl, q6⟩ := q4
  have hd20 : d ≠ 20 := by intro h; unfold openP at ho; rw [if_pos h] at ho; cases ho
  have hlen := openP_len ho
  have hgl : 0 < sign.length := List.length_pos_iff.2 hgn
  obtain ⟨b, hb⟩ : ∃ b, b = pos s r2 := ⟨_, rfl⟩
  have hb0 : 0 ≤ b := hb ▸ pos_ge q6
  have hb1 : b ≤ s.length := hb ▸ pos_le _ _
  have hbd : s.drop b.toNat = r2 := by rw [hb]; exact pos_drop q6
  rw [<- hb] at g4
  simp [g4]
  refine sd_defer1 rfl (by simp) ?_
  simp
  have g1 := c220 (s := s) (a := b) (d := (d : Int) + 1) (H := M.set id (RD s b ((d : Int) + 1)) ++ [.cells [.ptr id 0] 106]) (id := id) hb0 (by simp [hid])
  have g3 := reach_rd (s := s) (a := b) (d := (d : Int) + 1) (H := M.set id (RD s b ((d : Int) + 1)) ++ [.cells [.ptr id 0] 106]) (id := id) (rest := []) rfl (by simp [hid])
  obtain ⟨r5, a5, d5, J5, g5, q5⟩ := c274 (s := s) (sign := en) (a := b) (d := (d : Int) + 1) (H := M.set id (RD s b ((d : Int) + 1)) ++ [.cells [.ptr id 0] 106]) (id := id) hs hen he0 hb0 hb1 (by simp [hid])
  obtain ⟨rfl, rfl, q5⟩ := q5
  rw [hbd] at g1 q5
  have wd : IntKind.i64.wrap ((d : Int) + 1 - 1) = d := by rw [Int.add_sub_cancel]; exact wrapI (by omega) (by omega)
  cases en with
  | nil => exact absurd rfl hn0
  | cons o os =>
  simp only [RD] at g1 g3 g5
  simp [hid] at g5
  simp [g1, g3]
  refine ⟨by kernel_rfl, ?_⟩
  obtain ⟨n, rfl⟩ : ∃ n', n = n' + 1 := ⟨n - 1, by omega⟩
  by_cases hc : nowB r2 = o
  . have hP : valsP (n + 1) d sign (o :: os) (s.drop a.toNat) = match mustB (o :: os) r2 with | .ok r1 => .ok ([], r1) | .error e => .error e := by
      have hc' : nowB r2 = (o :: os).headD 0 := hc
      simp only [valsP, ho, pL0]; rw [if_pos hc']; rfl
    rw [hP]
    cases hm : mustB (o :: os) r2 with
    | error e =>
      rw [hm] at q5
      simp only at q5
      subst q5
      simp [hc, g5]
      refine lat_deep (.inl rfl) hid rfl ?_
      exact ⟨_, _, ⟨_, rfl⟩, rfl⟩
    | ok r3 =>
      rw [hm] at q5
      obtain ⟨rfl, rfl, q7⟩ := q5
      simp [hc, g5]
      refine lat_deep (.inl rfl) hid rfl ?_
      rw [wd]
      unfold HAND
      simp
      exact ⟨_, _, ⟨_, rfl⟩, rfl, rfl, rfl, q7⟩
  . have hP : valsP (n + 1) d sign (o :: os) (s.drop a.toNat) = pL n (d + 1) (o :: os) r2 := by
      have hc' : ¬ nowB r2 = (o :: os).headD 0 := hc
      simp only [valsP, ho, pL0]; rw [if_neg hc']
    rw [hP]
    simp [hc]
    refine st_iter (I223 M s (o :: os) r2 id d n) n ?_ ?_
    . exact ⟨b, [], 0, [.cells [.ptr id 0] 106], n, by omega, hb0, hb1, by simpa using hb0, by rw [hbd]; omega, by rw [hbd]; exact mapP_id _, rfl, fun h => absurd rfl h, fun h => absurd rfl h, rfl, by simp [avs, lx_nil]⟩
    . rintro i t H ⟨b, l, tok, L, m, him, hb0, hb1, hlb, hm, hsp, hL0, htok, htk, rfl, ht⟩
      obtain ⟨e, rfl⟩ := ht.elim
      clear ht
      refine ⟨by omega, ?_⟩
      obtain ⟨m, rfl⟩ : ∃ m', m = m' + 1 := ⟨m - 1, by omega⟩
      obtain ⟨r6, a6, d6, J6, g6, q6'⟩ := hv m (by omega) (a := b) (d := d + 1) (H := M.set id (RD s b ((d : Int) + 1)) ++ L) (id := id) (by omega) hb0 hb1 (by omega) (by simp [hid])
      simp only [RD] at g6
      simp [hid] at g6
      rw [pL] at hsp
      cases hpv : pV m (d + 1) (s.drop b.toNat) with
      | error er =>
        rw [hpv] at hsp q6'
        simp only [OUT] at q6'
        subst q6'
        rw [<- hsp]
        simp [hL0, g6]
        refine lat_deep (.inl rfl) hid (L := L ++ J6) (by rw [List.getElem?_append_left (List.getElem?_eq_some_iff.1 hL0).1]; exact hL0) ?_
        exact ⟨_, _, ⟨_, rfl⟩, rfl⟩
      | ok vr =>
      obtain ⟨v, r1⟩ := vr
      rw [hpv] at hsp q6'
      obtain ⟨rfl, rfl, rfl, q7⟩ := q6'
      have hvl := (lenP m).v hpv
      simp only at hsp
      obtain ⟨c, hc0⟩ : ∃ c, c = pos s r1 := ⟨_, rfl⟩
      have hc1 : 0 ≤ c := hc0 ▸ pos_ge q7
      have hc2 : c ≤ s.length := hc0 ▸ pos_le _ _
      have hcd : s.drop c.toNat = r1 := by rw [hc0]; exact pos_drop q7
      rw [<- hc0] at g6
      have hcb : b ≤ c := by rw [hc0]; unfold pos; rw [List.length_drop] at hvl; omega
      have hge : avs l ≠ [] -> M.length ≤ tok := fun h => by have := htk (avs_ne.1 h); omega
      have hLp : 0 < L.length := (List.getElem?_eq_some_iff.1 hL0).1
      have htok2 : TokY 5 (M.set id (RD s c ((d : Int) + 1)) ++ (L ++ J6)) (avs l) tok := by
        rw [<- List.append_assoc]; exact (htok.other hge).app J6
      obtain ⟨L', k1, k2, k3, k4⟩ := app_R (T := 22) (e := 24) (sz := 5) el22 int22 sz24 zero24 rfl rfl (by decide) room24 (M.set id (RD s c ((d : Int) + 1))) (L ++ J6) (avs l) v.av tok htok2 (by simpa using hge) (avs_cells5 l) (by simp [V.av_eq]) (by rw [avs_len]; omega)
      have hL0' : L'[0]? = some (.cells [.ptr id 0] 106) := by
        rw [k4 0 (by simp; omega) (fun h => by have := htk (avs_ne.1 h); simp; omega), List.getElem?_append_left hLp]; exact hL0
      rw [List.length_set] at k1 k3
      obtain ⟨r8, a8, d8, J8, g8, rfl, q8⟩ := c275 (s := s) (on := [44]) (en := o :: os) (a := c) (d := (d : Int) + 1) (H := M.set id (RD s c ((d : Int) + 1)) ++ L') (id := id) hs (by decide) (by simp) (by decide) hen he0 hc1 hc2 (by simp [hid])
      rw [hcd] at q8
      simp only [RD] at g8 k1
      simp [hid] at g8
      rw [V.av_eq] at k1
      cases hgo : goesB [44] (o :: os) r1 with
      | error er =>
        rw [hgo] at hsp q8
        simp only [OUT] at q8
        subst q8
        rw [<- hsp]
        simp [-aappB, hL0, hL0', V.av_eq, g6, k1, g8]
        refine lat_deep (.inl rfl) hid hL0' ?_
        exact ⟨_, _, ⟨_, rfl⟩, rfl⟩
      | ok br =>
      obtain ⟨bb, r9⟩ := br
      rw [hgo] at hsp q8
      obtain ⟨rfl, rfl, rfl, q9⟩ := q8
      have hgl := goesB_len hgo
      cases bb with
      | false =>
        rw [<- hsp]
        simp [-aappB, hL0, hL0', V.av_eq, g6, k1, g8]
        refine lat_deep (.inl rfl) hid hL0' ?_
        rw [wd]
        unfold HAND
        simp
        rw [<- V.av_eq v, <- avs_snoc, erase_avs]
        exact ⟨_, _, ⟨_, rfl⟩, rfl, rfl, rfl, q9⟩
      | true =>
        simp only [mapP_app] at hsp
        simp [-aappB, hL0, hL0', V.av_eq, g6, k1, g8]
        have hp9 : s.drop (pos s r9).toNat = r9 := pos_drop q9
        have hm1 : min [44].length (o :: os).length = 1 := by simp
        refine ⟨pos s r9, l ++ [v], M.length + (L ++ J6).length, L', m, by omega, pos_ge q9, pos_le _ _, ?_, by rw [hp9]; rw [List.length_drop] at hm hvl; omega, by rw [hp9]; exact hsp, hL0', ?_, fun _ => by simp; omega, rfl, ?_⟩
        . rw [List.length_append, hc0] at *
          unfold pos at *
          simp only [List.length_cons, List.length_nil]
          omega
        . rw [avs_snoc]; exact k3.other fun _ => by omega
        . rw [avs_snoc, lx_append, V.av_eq v]
          simp
end Go.Tv
namespace Go.Tv
open Go.Proofs
set_option maxHeartbeats 8000000
theorem app_R2 {T e : TypeId} {sz : Nat} {z : AV} (hel : elemT CC T = some e) (hint : isIntT CC T = false) (hsz : szOf CC e = some sz) (hz : zeroOf CC e = some z) (hzl : z.cells.length = sz) (hzo : z.cells.all AV.one = true) (hpos : 0 < sz) (hroom : ∀ n, n ≤ 1000000000 -> roomOk CC e n = true)
    (A L : Heap) (a : List AV) (x : AV) (tok : Nat) (ht : TokY sz (A ++ L) a tok) (hge : a ≠ [] -> A.length ≤ tok) (ha5 : a.all (fun v => decide (v.cells.length = sz)) = true) (hb5 : [x].all (fun v => decide (v.cells.length = sz) && v.cells.all AV.one) = true) (hc : a.length + 1 ≤ 1000000000) :
    ∃ L', aappB CC [T, T] [LX a tok, .list [x] none] (A ++ L) = some (.list (a ++ [x]) (some (A.length + L.length)), A ++ L') /\ L'.length = L.length + 1 /\ TokY sz (A ++ L') (a ++ [x]) (A.length + L.length) /\
      ∀ {sz2 : Nat} {els2 : List AV} {tok2 : Nat}, TokY sz2 (A ++ L) els2 tok2 -> (els2 ≠ [] -> A.length ≤ tok2) -> (a ≠ [] -> els2 ≠ [] -> tok2 ≠ tok) -> TokY sz2 (A ++ L') els2 tok2 := by
  obtain ⟨L', h1, h2, h3, h4⟩ := app_R hel hint hsz hz hzl hzo hpos hroom A L a x tok ht hge ha5 hb5 hc
  refine ⟨L', h1, h2, h3, fun {sz2 els2 tok2} h5 h6 h7 hne => ?_⟩
  have h8 := h5 hne
  have h9 := h6 hne
  rw [List.getElem?_append_right h9] at h8 ⊢
  rw [h4 _ (List.getElem?_eq_some_iff.1 h8).1 (fun ha => by have := h7 ha hne; omega)]
  exact h8
theorem TokY.pre {sz : Nat} {A A' L : Heap} {els : List AV} {tok : Nat} (h : TokY sz (A ++ L) els tok) (hlen : A'.length = A.length) (hge : els ≠ [] -> A.length ≤ tok) : TokY sz (A' ++ L) els tok := fun hne => by
  have h1 := h hne
  have h2 := hge hne
  rw [List.getElem?_append_right (by omega)] at h1 ⊢
  rw [hlen]; exact h1
theorem TokY.app2 {sz : Nat} {A L : Heap} {els : List AV} {tok : Nat} (h : TokY sz (A ++ L) els tok) (J : Heap) : TokY sz (A ++ (L ++ J)) els tok := by rw [<- List.append_assoc]; exact h.app J
def bx (id : Nat) : AObj := .cells [.ptr id 0] 106
def rc (K I : List AV) (tk ti : Nat) : AObj := .cells [.int .i64 5, .int .i64 0, .str [], LX K tk, LX I ti] 24
structure Rows2 (M : Heap) (x : AObj) (id : Nat) (o2 o3 : AObj) (L : Heap) (K I : List AV) (tk ti : Nat) : Prop where
  k : TokY 5 (M.set id x ++ [bx id, o2, o3] ++ L) K tk
  i : TokY 5 (M.set id x ++ [bx id, o2, o3] ++ L) I ti
  gk : K ≠ [] -> M.length + 3 ≤ tk
  gi : I ≠ [] -> M.length + 3 ≤ ti
  ne : K ≠ [] -> I ≠ [] -> tk ≠ ti
theorem Rows2.pre {M : Heap} {x y : AObj} {id : Nat} {o2 o2' o3 o3' : AObj} {L : Heap} {K I : List AV} {tk ti : Nat} (h : Rows2 M x id o2 o3 L K I tk ti) : Rows2 M y id o2' o3' L K I tk ti :=
  ⟨TokY.pre h.k (by simp) (by simpa using h.gk), TokY.pre h.i (by simp) (by simpa using h.gi), h.gk, h.gi, h.ne⟩
def rcdP (n d : Nat) (r : List UInt8) : PR V := match openP d [91] r with
  | .error e => .error e
  | .ok r2 => mapP (fun l => V.mk 5 0 [] (l.map Prod.fst) (l.map Prod.snd)) (pR n (d + 1) r2)
theorem appEff_LX (K : List AV) (tk : Nat) (x : AV) : appEff (some [LX K tk, x]) = .new := by unfold LX; split <;> rfl
def kE (w : List UInt8) : AV := .agg [.int .i64 2, .int .i64 0, .str w, .empty, .empty]
theorem eraseL_snoc (l : List AV) (v : AV) : eraseL (l ++ [v]) = eraseL l ++ [v.erase] := by
  induction l with
  | nil => rfl
  | cons x r ih => simp [eraseL, ih]
def I224 (M : Heap) (s r2 : List UInt8) (id d n : Nat) (i : Nat) (t : List AV) (H : Heap) : Prop := ∃ b, ∃ (l : List (V × V)), ∃ tk ti L m K, eraseL K = avs (l.map Prod.fst) /\ K.length = l.length /\ K.all (fun v => decide (v.cells.length = 5)) = true /\ i + m = n /\ (0 : Int) ≤ b /\ b ≤ s.length /\ (l.length : Int) ≤ b /\ 3 * (s.drop b.toNat).length + 2 ≤ m /\ mapP (fun x => l ++ x) (pR m (d + 1) (s.drop b.toNat)) = pR n (d + 1) r2 /\
  Rows2 M (RD s b ((d : Int) + 1)) id zc24 (rc K (avs (l.map Prod.snd)) tk ti) L K (avs (l.map Prod.snd)) tk ti /\ H = M.set id (RD s b ((d : Int) + 1)) ++ bx id :: zc24 :: rc K (avs (l.map Prod.snd)) tk ti :: L /\
  Fit (none :: some (.ptr M.length 0) :: some (.ptr (M.length + 1) 0) :: some (.ptr (M.length + 2) 0) :: List.replicate 43 none) t
def regions : Code -> List (Array Oper)
  | .seq a b => regions a ++ regions b
  | .region _ ops true => [ops]
  | .cond _ a b => regions a ++ regions b
  | .block _ c => regions c
  | .loop c => regions c
  | _ => []
noncomputable def ops224 : Array Oper := (regions (Tryz.f224.body.getD .skip)).headD #[]
theorem c224 {s : List UInt8} {a : Int} {d n : Nat} {H : Heap} {id : Nat} (hs : s.length ≤ 1000000) (hd : d ≤ 20) (h0 : 0 ≤ a) (h1 : a ≤ s.length) (hn : 3 * (s.drop a.toNat).length ≤ n) (hv : ∀ m < n, VALC s m) (hH : H[id]? = some (RD s a d)) :
    ∃ r a' d' J, Call CC 224 [.ptr id 0] H = some (r, H.set id (RD s a' d') ++ J) /\ OUT s d V.av (rcdP n d (s.drop a.toNat)) r a' d' := by
  refine rdcall (f := 224) (rest := []) (P := fun r a' d' _ => OUT s d V.av (rcdP n d (s.drop a.toNat)) r a' d') (fn := Tryz.f224) rfl (by kernel_rfl) rfl rfl rfl rfl hH ?_
  intro M hid
  refine sd_seq rfl ?_
  simp
  refine sd_seq rfl ?_
  obtain ⟨r4, a4, d4, J4, g4, q4⟩ := c272 (s := s) (sign := [91]) (a := a) (d := d) (H := M.set id (RD s a d) ++ [bx id, zc24]) (id := id) hs (by decide) (by decide) hd h0 h1 (by simp [hid])
  obtain ⟨rfl, q4⟩ := q4
  simp only [bx, zc24] at g4
  simp [hid] at g4
  cases ho : openP d [91] (s.drop a.toNat) with
  | error e =>
    rw [ho] at q4
    simp only at q4
    subst q4
    simp [g4]
    exact ⟨_, _, ⟨_, rfl⟩, by simp only [rcdP, ho]; rfl⟩
  | ok r2 =>
  rw [ho] at q4
  obtain ⟨rfl, rfl, rfl, q6⟩ := q4
  have hd20 : d ≠ 20 := by intro h; unfold openP at ho; rw [if_pos h] at ho; cases ho
  have hlen := openP_len ho
  simp only [List.length_cons, List.length_nil] at hlen
  obtain ⟨b, hb⟩ : ∃ b, b = pos s r2 := ⟨_, rfl⟩
  have hb0 : 0 ≤ b := hb ▸ pos_ge q6
  have hb1 : b ≤ s.length := hb ▸ pos_le _ _
  have hbd : s.drop b.toNat = r2 := by rw [hb]; exact pos_drop q6
  rw [<- hb] at g4
  have wd : IntKind.i64.wrap ((d : Int) + 1 - 1) = d := by rw [Int.add_sub_cancel]; exact wrapI (by omega) (by omega)
  have hP : rcdP n d (s.drop a.toNat) = mapP (fun l => V.mk 5 0 [] (l.map Prod.fst) (l.map Prod.snd)) (pR n (d + 1) r2) := by simp only [rcdP, ho]
  rw [hP]
  simp [g4]
  refine sd_defer1 rfl (by simp) ?_
  simp [undv24, fv24_all, fv24_0]
  refine st_iter (I224 M s r2 id d n) n ?_ ?_
  . refine ⟨b, [], 0, 0, [], n, [], rfl, rfl, rfl, by omega, hb0, hb1, by simpa using hb0, by rw [hbd]; omega, by rw [hbd]; exact mapP_id _, ⟨fun h => absurd rfl h, fun h => absurd rfl h, fun h => absurd rfl h, fun h => absurd rfl h, fun h => absurd rfl h⟩, ?_, by simp⟩
    simp [bx, zc24, rc, avs, lx_nil]
  . rintro i t H ⟨b, l, tk, ti, L, m, K, hK, hKl, hK5, him, hb0, hb1, hlb, hm, hsp, hR, rfl, ht⟩
    obtain ⟨e, rfl⟩ := ht.elim
    clear ht
    refine ⟨by omega, ?_⟩
    generalize hI : avs (l.map Prod.snd) = I at hR ⊢
    obtain ⟨m, rfl⟩ : ∃ m', m = m' + 1 := ⟨m - 1, by omega⟩
    rw [pR] at hsp
    have g1 := c152 (s := s) (a := b) (d := (d : Int) + 1) (H := M.set id (RD s b ((d : Int) + 1)) ++ bx id :: zc24 :: rc K I tk ti :: L) (id := id) hs hb0 hb1 (by simp [hid])
    have suf : skipB (s.drop b.toNat) <:+ s := (skip_suf _).trans (List.drop_suffix _ _)
    have hsl := skip_len (s.drop b.toNat)
    obtain ⟨c, hc0⟩ : ∃ c, c = pos s (skipB (s.drop b.toNat)) := ⟨_, rfl⟩
    have hc1 : 0 ≤ c := hc0 ▸ pos_ge suf
    have hc2 : c ≤ s.length := hc0 ▸ pos_le _ _
    have hcd : s.drop c.toNat = skipB (s.drop b.toNat) := by rw [hc0]; exact pos_drop suf
    rw [<- hc0] at g1
    have g2 := c227 (s := s) (a := c) (d := (d : Int) + 1) (H := M.set id (RD s c ((d : Int) + 1)) ++ bx id :: zc24 :: rc K I tk ti :: L) (id := id) hs hc1 hc2 (by simp [hid])
    have g3 := c153 (s := s) (a := c) (d := (d : Int) + 1) (H := M.set id (RD s c ((d : Int) + 1)) ++ bx id :: zc24 :: rc K I tk ti :: L) (id := id) (by simp [hid])
    rw [hcd] at g2
    generalize hr0 : skipB (s.drop b.toNat) = r0 at *
    have g5 := fun H => c133 (r0.takeWhile partC) H (by have := (List.takeWhile_prefix (l := r0) partC).length_le; rw [List.length_drop] at hsl; omega)
    simp only [RD] at g1 g2 g3
    simp [hid] at g1 g2
    cases hnm : nameB (r0.takeWhile partC) with
    | false =>
      rw [hnm] at g5
      rw [hnm] at hsp
      rw [<- hsp]
      simp [bx] at g1 g2 g3 ⊢
      simp [g1, g2, g3, g5, hid]
      refine lat_deep (.inr (.inl rfl)) hid rfl ?_
      refine ⟨_, _, ⟨_, rfl⟩, ?_⟩
      show ARet.panic (wrong c) = .panic (wrong ((s.length : Int) - r0.length))
      rw [hc0]; rfl
    | true =>
      rw [hnm] at g5
      rw [hnm, if_pos rfl] at hsp
      have suf2 : r0.dropWhile partC <:+ s := (dw_suf _ _).trans suf
      have hdl := (dw_suf partC r0).length_le
      obtain ⟨w, hw⟩ : ∃ w, w = r0.takeWhile partC := ⟨_, rfl⟩
      obtain ⟨f, hf0⟩ : ∃ f, f = pos s (r0.dropWhile partC) := ⟨_, rfl⟩
      have hf1 : 0 ≤ f := hf0 ▸ pos_ge suf2
      have hf2 : f ≤ s.length := hf0 ▸ pos_le _ _
      have hfd : s.drop f.toNat = r0.dropWhile partC := by rw [hf0]; exact pos_drop suf2
      rw [<- hf0] at g2
      rw [<- hw] at g2 hsp g5
      obtain ⟨rm, am, dm, Jm, gm, rfl, rfl, qm⟩ := c274 (s := s) (sign := [124, 45, 62]) (a := f) (d := (d : Int) + 1) (H := M.set id (RD s f ((d : Int) + 1)) ++ bx id :: zc24 :: rc K I tk ti :: L) (id := id) hs (by decide) (by decide) hf1 hf2 (by simp [hid])
      rw [hfd] at qm
      simp [hid] at gm
      cases hmu : mustB [124, 45, 62] (r0.dropWhile partC) with
      | error er =>
        rw [hmu] at hsp qm
        simp only at qm
        subst qm
        rw [<- hsp]
        simp [bx] at g1 g2 gm ⊢
        simp [g1, g2, g5, gm, hid]
        refine lat_deep (.inr (.inl rfl)) hid rfl ?_
        exact ⟨_, _, ⟨_, rfl⟩, rfl⟩
      | ok r1 =>
      rw [hmu] at hsp qm
      obtain ⟨rfl, rfl, q7⟩ := qm
      have hml := mustB_len hmu
      simp only [List.length_cons, List.length_nil] at hml
      simp only at hsp
      obtain ⟨h, hh0⟩ : ∃ h, h = pos s r1 := ⟨_, rfl⟩
      have hh1 : 0 ≤ h := hh0 ▸ pos_ge q7
      have hh2 : h ≤ s.length := hh0 ▸ pos_le _ _
      have hhd : s.drop h.toNat = r1 := by rw [hh0]; exact pos_drop q7
      rw [<- hh0] at gm
      have hIl : I.length = l.length := by rw [<- hI, avs_len, List.length_map]
      have hI5 : I.all (fun v => decide (v.cells.length = 5)) = true := by rw [<- hI]; exact avs_cells _
      have hbc : b ≤ c := by rw [hc0]; unfold pos; rw [List.length_drop] at hsl; omega
      have hch : c ≤ h := by rw [hc0, hh0]; unfold pos; omega
      obtain ⟨L2, k1, k2, k3, k4⟩ := app_R2 (T := 22) (e := 24) (sz := 5) el22 int22 sz24 zero24 rfl rfl (by decide) room24 (M.set id (RD s h ((d : Int) + 1)) ++ [bx id, zc24, rc K I tk ti]) L K (kE w) tk (hR.k.pre (by simp) (by simpa using hR.gk)) (by simpa using hR.gk) hK5 (by simp [kE]) (by omega)
      have i1 := k4 (hR.i.pre (by simp) (by simpa using hR.gi)) (by simpa using hR.gi) (fun a b e => hR.ne a b e.symm)
      obtain ⟨r6, a6, d6, J6, g6, q6'⟩ := hv m (by omega) (a := h) (d := d + 1) (H := M.set id (RD s h ((d : Int) + 1)) ++ bx id :: zc24 :: rc K I tk ti :: L2) (id := id) (by omega) hh1 hh2 (by rw [hhd]; rw [List.length_drop] at hsl hm; omega) (by simp [hid])
      have rch := reach_rd (s := s) (a := h) (d := (d : Int) + 1) (H := M.set id (RD s h ((d : Int) + 1)) ++ bx id :: zc24 :: rc K I tk ti :: L2) (id := id) (rest := []) rfl (by simp [hid])
      rw [hhd] at q6'
      simp [-aappB, hid] at k1 g6
      simp [-aappB, bx, rc, zc24, kE] at g1 g2 gm k1 g6 rch ⊢
      cases hpv : pV m (d + 1) r1 with
      | error er =>
        rw [hpv] at hsp q6'
        simp only [OUT] at q6'
        subst q6'
        rw [<- hsp]
        simp [-aappB, -appEff, appEff_LX, g1, g2, g5, gm, hid, undv24, fv24_all, fv24_0, fv24_2, k1, g6]
        refine ⟨by kernel_rfl, ?_⟩
        refine lat_deep (.inr (.inl rfl)) hid rfl ?_
        exact ⟨rfl, _, _, ⟨_, rfl⟩, rfl⟩
      | ok vr =>
      obtain ⟨v, r5⟩ := vr
      rw [hpv] at hsp q6'
      obtain ⟨rfl, rfl, rfl, q8⟩ := q6'
      have hvl := (lenP m).v hpv
      simp only at hsp
      obtain ⟨u, hu0⟩ : ∃ u, u = pos s r5 := ⟨_, rfl⟩
      have hu1 : 0 ≤ u := hu0 ▸ pos_ge q8
      have hu2 : u ≤ s.length := hu0 ▸ pos_le _ _
      have hud : s.drop u.toNat = r5 := by rw [hu0]; exact pos_drop q8
      rw [<- hu0] at g6
      obtain ⟨L3, x1, x2, x3, x4⟩ := app_R2 (T := 22) (e := 24) (sz := 5) el22 int22 sz24 zero24 rfl rfl (by decide) room24 (M.set id (RD s u ((d : Int) + 1)) ++ [bx id, zc24, rc K I tk ti]) (L2 ++ J6) I v.av ti ((i1.app2 J6).pre (by simp) (by simpa using hR.gi)) (by simpa using hR.gi) hI5 (by simp [V.av_eq]) (by omega)
      have hti : I ≠ [] -> ti < M.length + 3 + L.length := fun hne => by
        have := (List.getElem?_eq_some_iff.1 (hR.i hne)).1
        simp at this; omega
      have y1 := x4 ((k3.app2 J6).pre (by simp) (by intro _; simp)) (by intro _; simp) (fun hne _ e => by have := hti hne; simp at e; omega)
      rw [V.av_eq] at x1
      simp [-aappB] at x1
      simp [-aappB, bx, rc, zc24] at x1
      obtain ⟨tk', htk'⟩ : ∃ tk', tk' = M.length + 3 + L.length := ⟨_, rfl⟩
      obtain ⟨ti', hti'⟩ : ∃ ti', ti' = M.length + 3 + (L2.length + J6.length) := ⟨_, rfl⟩
      obtain ⟨K', hK'⟩ : ∃ K', K' = K ++ [kE w] := ⟨_, rfl⟩
      obtain ⟨I', hI'⟩ : ∃ I', I' = I ++ [v.av] := ⟨_, rfl⟩
      obtain ⟨r8, a8, d8, J8, g8, rfl, q9⟩ := c275 (s := s) (on := [44]) (en := [93]) (a := u) (d := (d : Int) + 1) (H := M.set id (RD s u ((d : Int) + 1)) ++ bx id :: zc24 :: rc K' I' tk' ti' :: L3) (id := id) hs (by decide) (by simp) (by decide) (by decide) (by decide) hu1 hu2 (by simp [hid])
      rw [hud] at q9
      simp [hid] at g8
      have eK : LX K' tk' = .list (K ++ [.agg [.int .i64 2, .int .i64 0, .str w, .empty, .empty]]) (some (M.length + 3 + L.length)) := by rw [hK', htk']; exact lx_append
      have eI : LX I' ti' = .list (I ++ [.agg [.int .i64 v.kind, .int .i64 v.num, .str v.s, .list (avs v.keys) none, .list (avs v.items) none]]) (some (M.length + 3 + (L2.length + J6.length))) := by rw [hI', hti', <- V.av_eq]; exact lx_append
      simp [-aappB, bx, rc, zc24, eK, eI] at g8
      have R' : Rows2 M (RD s u ((d : Int) + 1)) id zc24 (rc K' I' tk' ti') L3 K' I' tk' ti' := by
        refine ⟨?_, ?_, fun _ => by omega, fun _ => by omega, fun _ _ => by omega⟩
        . rw [hK', htk']; simpa using y1.pre (A' := M.set id (RD s u ((d : Int) + 1)) ++ [bx id, zc24, rc (K ++ [kE w]) I' (M.length + 3 + L.length) ti']) (by simp) (by intro _; simp)
        . rw [hI', hti']; simpa using x3.pre (A' := M.set id (RD s u ((d : Int) + 1)) ++ [bx id, zc24, rc K' (I ++ [v.av]) tk' (M.length + 3 + (L2.length + J6.length))]) (by simp) (by intro _; simp)
      have hne0 : ¬ M.length + 2 = id := by omega
      have hne1 : ¬ M.length = id := by omega
      have drw : drawE ops224 [Eff.quiet, Eff.quiet, Eff.quiet, Eff.quiet, Eff.quiet, Eff.new, Eff.quiet, Eff.quiet, Eff.quiet, Eff.upto [id], Eff.quiet, Eff.new, Eff.quiet, Eff.put (M.length + 2), Eff.quiet, Eff.put (M.length + 2)]
          [none, some (M.length + 2), none, none, none, none, none, some (M.length + 2), some M.length, none, none, none, none, none, none, none] = true := by
        refine drawE_map (fun j => if j = id then 0 else 1) ?_
        simp [mapE, hne0, hne1]
        kernel_rfl
      cases hgo : goesB [44] [93] r5 with
      | error er =>
        rw [hgo] at hsp q9
        simp only [OUT] at q9
        subst q9
        rw [<- hsp]
        simp [-aappB, -appEff, appEff_LX, g1, g2, g5, gm, hid, undv24, fv24_all, fv24_0, fv24_2, k1, g6, rch, V.av_eq, x1, g8]
        refine ⟨drw, ?_⟩
        refine lat_deep (.inr (.inl rfl)) hid rfl ?_
        exact ⟨_, _, ⟨_, rfl⟩, rfl⟩
      | ok br =>
      obtain ⟨bb, r9⟩ := br
      rw [hgo] at hsp q9
      obtain ⟨rfl, rfl, rfl, q10⟩ := q9
      have hgl := goesB_len hgo
      have eK' : eraseL K' = avs ((l ++ [(V.mk 2 0 w [] [], v)]).map Prod.fst) := by
        rw [hK', eraseL_snoc, hK, List.map_append, List.map_cons, List.map_nil, avs_snoc]; rfl
      have eI' : eraseL I' = avs ((l ++ [(V.mk 2 0 w [] [], v)]).map Prod.snd) := by
        rw [hI', eraseL_snoc, <- hI, erase_avs, erase_av, List.map_append, List.map_cons, List.map_nil, avs_snoc]
      have eI2 : avs ((l ++ [(V.mk 2 0 w [] [], v)]).map Prod.snd) = I' := by rw [hI', <- hI, List.map_append, List.map_cons, List.map_nil, avs_snoc]
      cases bb with
      | false =>
        rw [<- hsp]
        simp [-aappB, -appEff, appEff_LX, g1, g2, g5, gm, hid, undv24, fv24_all, fv24_0, fv24_2, k1, g6, rch, V.av_eq, x1, g8]
        refine ⟨drw, ?_⟩
        refine lat_deep (.inr (.inl rfl)) hid rfl ?_
        rw [wd, <- eK, <- eI]
        unfold HAND
        simp
        rw [eK', eI']
        exact ⟨_, _, ⟨_, rfl⟩, rfl, rfl, rfl, q10⟩
      | true =>
        simp only [mapP_app] at hsp
        simp [-aappB, -appEff, appEff_LX, g1, g2, g5, gm, hid, undv24, fv24_all, fv24_0, fv24_2, k1, g6, rch, V.av_eq, x1, g8]
        refine ⟨drw, ?_⟩
        have hp9 : s.drop (pos s r9).toNat = r9 := pos_drop q10
        refine ⟨pos s r9, l ++ [(V.mk 2 0 w [] [], v)], tk', ti', L3, m, K', eK', by rw [hK']; simp [hKl], by rw [hK', List.all_append, hK5]; rfl, by omega, pos_ge q10, pos_le _ _, ?_, ?_, by rw [hp9]; exact hsp, ?_, ?_, ?_⟩
        . rw [List.length_append]; simp only [List.length_cons, List.length_nil]
          have : u ≤ pos s r9 := by rw [hu0]; unfold pos; omega
          have : h < u + 1 := by rw [hu0, hh0]; unfold pos; omega
          have : c + 3 ≤ h := by rw [hc0, hh0]; unfold pos; omega
          omega
        . rw [hp9]; rw [List.length_drop] at hm hsl; simp only [List.length_cons, List.length_nil] at hgl; omega
        . rw [eI2]; exact R'.pre
        . rw [eI2]; simp only [bx, zc24, rc, RD, eK, eI]
        . simp
end Go.Tv
namespace Go.Tv
open Go.Proofs
set_option maxHeartbeats 8000000
def mapPV (n d : Nat) (r : List UInt8) : PR V := match openP d [40] r with
  | .error e => .error e
  | .ok r2 => mapP (fun l => V.mk 5 0 [] (l.map Prod.fst) (l.map Prod.snd)) (pM n (d + 1) r2)
def I225 (M : Heap) (s r2 : List UInt8) (id d n : Nat) (i : Nat) (t : List AV) (H : Heap) : Prop := ∃ b, ∃ (l : List (V × V)), ∃ tk ti L m, i + m = n /\ (0 : Int) ≤ b /\ b ≤ s.length /\ (l.length : Int) ≤ b /\ 3 * (s.drop b.toNat).length + 2 ≤ m /\ mapP (fun x => l ++ x) (pM m (d + 1) (s.drop b.toNat)) = pM n (d + 1) r2 /\
  Rows2 M (RD s b ((d : Int) + 1)) id zc24 (rc (avs (l.map Prod.fst)) (avs (l.map Prod.snd)) tk ti) L (avs (l.map Prod.fst)) (avs (l.map Prod.snd)) tk ti /\ H = M.set id (RD s b ((d : Int) + 1)) ++ bx id :: zc24 :: rc (avs (l.map Prod.fst)) (avs (l.map Prod.snd)) tk ti :: L /\
  Fit (none :: some (.ptr M.length 0) :: some (.ptr (M.length + 1) 0) :: some (.ptr (M.length + 2) 0) :: List.replicate 24 none) t
noncomputable def ops225a : Array Oper := (regions (Tryz.f225.body.getD .skip)).headD #[]
noncomputable def ops225b : Array Oper := ((regions (Tryz.f225.body.getD .skip)).drop 1).headD #[]
theorem c225 {s : List UInt8} {a : Int} {d n : Nat} {H : Heap} {id : Nat} (hs : s.length ≤ 1000000) (hd : d ≤ 20) (h0 : 0 ≤ a) (h1 : a ≤ s.length) (hn : 3 * (s.drop a.toNat).length ≤ n) (hv : ∀ m < n, VALC s m) (hH : H[id]? = some (RD s a d)) :
    ∃ r a' d' J, Call CC 225 [.ptr id 0] H = some (r, H.set id (RD s a' d') ++ J) /\ OUT s d V.av (mapPV n d (s.drop a.toNat)) r a' d' := by
  refine rdcall (f := 225) (rest := []) (P := fun r a' d' _ => OUT s d V.av (mapPV n d (s.drop a.toNat)) r a' d') (fn := Tryz.f225) rfl (by kernel_rfl) rfl rfl rfl rfl hH ?_
  intro M hid
  refine sd_seq rfl ?_
  simp
  refine sd_seq rfl ?_
  obtain ⟨r4, a4, d4, J4, g4, q4⟩ := c272 (s := s) (sign := [40]) (a := a) (d := d) (H := M.set id (RD s a d) ++ [bx id, zc24]) (id := id) hs (by decide) (by decide) hd h0 h1 (by simp [hid])
  obtain ⟨rfl, q4⟩ := q4
  simp only [bx, zc24] at g4
  simp [hid] at g4
  cases ho : openP d [40] (s.drop a.toNat) with
  | error e =>
    rw [ho] at q4
    simp only at q4
    subst q4
    simp [g4]
    exact ⟨_, _, ⟨_, rfl⟩, by simp only [mapPV, ho]; rfl⟩
  | ok r2 =>
  rw [ho] at q4
  obtain ⟨rfl, rfl, rfl, q6⟩ := q4
  have hd20 : d ≠ 20 := by intro h; unfold openP at ho; rw [if_pos h] at ho; cases ho
  have hlen := openP_len ho
  simp only [List.length_cons, List.length_nil] at hlen
  obtain ⟨b, hb⟩ : ∃ b, b = pos s r2 := ⟨_, rfl⟩
  have hb0 : 0 ≤ b := hb ▸ pos_ge q6
  have hb1 : b ≤ s.length := hb ▸ pos_le _ _
  have hbd : s.drop b.toNat = r2 := by rw [hb]; exact pos_drop q6
  rw [<- hb] at g4
  have wd : IntKind.i64.wrap ((d : Int) + 1 - 1) = d := by rw [Int.add_sub_cancel]; exact wrapI (by omega) (by omega)
  have hP : mapPV n d (s.drop a.toNat) = mapP (fun l => V.mk 5 0 [] (l.map Prod.fst) (l.map Prod.snd)) (pM n (d + 1) r2) := by simp only [mapPV, ho]
  rw [hP]
  simp [g4]
  refine sd_defer1 rfl (by simp) ?_
  simp [undv24, fv24_all, fv24_0]
  have hne0 : ¬ M.length + 2 = id := by omega
  have hne1 : ¬ M.length = id := by omega
  refine st_iter (I225 M s r2 id d n) n ?_ ?_
  . refine ⟨b, [], 0, 0, [], n, by omega, hb0, hb1, by simpa using hb0, by rw [hbd]; omega, by rw [hbd]; exact mapP_id _, ⟨fun h => absurd rfl h, fun h => absurd rfl h, fun h => absurd rfl h, fun h => absurd rfl h, fun h => absurd rfl h⟩, ?_, by simp⟩
    simp [bx, zc24, rc, avs, lx_nil]
  . rintro i t H ⟨b, l, tk, ti, L, m, him, hb0, hb1, hlb, hm, hsp, hR, rfl, ht⟩
    obtain ⟨e, rfl⟩ := ht.elim
    clear ht
    refine ⟨by omega, ?_⟩
    generalize hK : avs (l.map Prod.fst) = K at hR ⊢
    generalize hI : avs (l.map Prod.snd) = I at hR ⊢
    have hKl : K.length = l.length := by rw [<- hK, avs_len, List.length_map]
    have hIl : I.length = l.length := by rw [<- hI, avs_len, List.length_map]
    have hK5 : K.all (fun v => decide (v.cells.length = 5)) = true := by rw [<- hK]; exact avs_cells _
    have hI5 : I.all (fun v => decide (v.cells.length = 5)) = true := by rw [<- hI]; exact avs_cells _
    obtain ⟨m, rfl⟩ : ∃ m', m = m' + 1 := ⟨m - 1, by omega⟩
    rw [pM] at hsp
    obtain ⟨r6, a6, d6, J6, g6, q6'⟩ := hv m (by omega) (a := b) (d := d + 1) (H := M.set id (RD s b ((d : Int) + 1)) ++ bx id :: zc24 :: rc K I tk ti :: L) (id := id) (by omega) hb0 hb1 (by omega) (by simp [hid])
    have rch := reach_rd (s := s) (a := b) (d := (d : Int) + 1) (H := M.set id (RD s b ((d : Int) + 1)) ++ bx id :: zc24 :: rc K I tk ti :: L) (id := id) (rest := []) rfl (by simp [hid])
    simp [hid] at g6
    simp [bx, rc, zc24] at g6 rch ⊢
    cases hpv : pV m (d + 1) (s.drop b.toNat) with
    | error er =>
      rw [hpv] at hsp q6'
      simp only [OUT] at q6'
      subst q6'
      rw [<- hsp]
      simp [-aappB, -appEff, g6]
      refine ⟨by kernel_rfl, ?_⟩
      refine lat_deep (.inr (.inr rfl)) hid rfl ?_
      exact ⟨rfl, _, _, ⟨_, rfl⟩, rfl⟩
    | ok vr =>
    obtain ⟨kv, r1⟩ := vr
    rw [hpv] at hsp q6'
    obtain ⟨rfl, rfl, rfl, q7⟩ := q6'
    have hvl := (lenP m).v hpv
    simp only at hsp
    obtain ⟨c, hc0⟩ : ∃ c, c = pos s r1 := ⟨_, rfl⟩
    have hc1 : 0 ≤ c := hc0 ▸ pos_ge q7
    have hc2 : c ≤ s.length := hc0 ▸ pos_le _ _
    have hcd : s.drop c.toNat = r1 := by rw [hc0]; exact pos_drop q7
    rw [<- hc0] at g6
    have hbc : b ≤ c := by rw [hc0]; unfold pos; rw [List.length_drop] at hvl; omega
    obtain ⟨L2, k1, k2, k3, k4⟩ := app_R2 (T := 22) (e := 24) (sz := 5) el22 int22 sz24 zero24 rfl rfl (by decide) room24 (M.set id (RD s c ((d : Int) + 1)) ++ [bx id, zc24, rc K I tk ti]) (L ++ J6) K kv.av tk ((hR.k.app2 J6).pre (by simp) (by simpa using hR.gk)) (by simpa using hR.gk) hK5 (by simp [V.av_eq]) (by omega)
    have i1 := k4 ((hR.i.app2 J6).pre (by simp) (by simpa using hR.gi)) (by simpa using hR.gi) (fun a b e => hR.ne a b e.symm)
    obtain ⟨tk', htk'⟩ : ∃ tk', tk' = M.length + 3 + (L.length + J6.length) := ⟨_, rfl⟩
    obtain ⟨K', hK'⟩ : ∃ K', K' = K ++ [kv.av] := ⟨_, rfl⟩
    have eK : LX K' tk' = .list (K ++ [.agg [.int .i64 kv.kind, .int .i64 kv.num, .str kv.s, .list (avs kv.keys) none, .list (avs kv.items) none]]) (some (M.length + 3 + (L.length + J6.length))) := by rw [hK', htk', <- V.av_eq]; exact lx_append
    have hK5' : K'.all (fun v => decide (v.cells.length = 5)) = true := by rw [hK', List.all_append, hK5]; simp [V.av_eq]
    rw [V.av_eq] at k1
    simp [-aappB] at k1
    simp [-aappB, bx, rc, zc24] at k1
    have drwA : drawE ops225a [Eff.quiet, Eff.quiet, Eff.quiet, Eff.upto [id], Eff.quiet, Eff.new, Eff.quiet, Eff.put (M.length + 2)]
        [none, some (M.length + 2), some M.length, none, none, none, none, none] = true := by
      refine drawE_map (fun j => if j = id then 0 else 1) ?_
      simp [mapE, hne0, hne1]
      kernel_rfl
    obtain ⟨rm, am, dm, Jm, gm, rfl, rfl, qm⟩ := c274 (s := s) (sign := [58, 62]) (a := c) (d := (d : Int) + 1) (H := M.set id (RD s c ((d : Int) + 1)) ++ bx id :: zc24 :: rc K' I tk' ti :: L2) (id := id) hs (by decide) (by decide) hc1 hc2 (by simp [hid])
    rw [hcd] at qm
    simp [hid] at gm
    simp [bx, rc, zc24, eK] at gm
    cases hmu : mustB [58, 62] r1 with
    | error er =>
      rw [hmu] at hsp qm
      simp only at qm
      subst qm
      rw [<- hsp]
      simp [-aappB, -appEff, appEff_LX, g6, rch, V.av_eq, k1, gm]
      refine ⟨drwA, ?_⟩
      refine lat_deep (.inr (.inr rfl)) hid rfl ?_
      exact ⟨_, _, ⟨_, rfl⟩, rfl⟩
    | ok r3 =>
    rw [hmu] at hsp qm
    obtain ⟨rfl, rfl, q8⟩ := qm
    have hml := mustB_len hmu
    simp only [List.length_cons, List.length_nil] at hml
    simp only at hsp
    obtain ⟨h, hh0⟩ : ∃ h, h = pos s r3 := ⟨_, rfl⟩
    have hh1 : 0 ≤ h := hh0 ▸ pos_ge q8
    have hh2 : h ≤ s.length := hh0 ▸ pos_le _ _
    have hhd : s.drop h.toNat = r3 := by rw [hh0]; exact pos_drop q8
    rw [<- hh0] at gm
    have hch : c + 2 ≤ h := by rw [hc0, hh0]; unfold pos; omega
    obtain ⟨r7, a7, d7, J7, g7, q7'⟩ := hv m (by omega) (a := h) (d := d + 1) (H := M.set id (RD s h ((d : Int) + 1)) ++ bx id :: zc24 :: rc K' I tk' ti :: L2) (id := id) (by omega) hh1 hh2 (by rw [hhd]; omega) (by simp [hid])
    have rch2 := reach_rd (s := s) (a := h) (d := (d : Int) + 1) (H := M.set id (RD s h ((d : Int) + 1)) ++ bx id :: zc24 :: rc K' I tk' ti :: L2) (id := id) (rest := []) rfl (by simp [hid])
    rw [hhd] at q7'
    simp [hid] at g7
    simp [bx, rc, zc24, eK] at g7 rch2
    cases hpv2 : pV m (d + 1) r3 with
    | error er =>
      rw [hpv2] at hsp q7'
      simp only [OUT] at q7'
      subst q7'
      rw [<- hsp]
      simp [-aappB, -appEff, appEff_LX, g6, rch, V.av_eq, k1, gm, g7]
      refine ⟨drwA, by kernel_rfl, ?_⟩
      refine lat_deep (.inr (.inr rfl)) hid rfl ?_
      exact ⟨rfl, _, _, ⟨_, rfl⟩, rfl⟩
    | ok vr =>
    obtain ⟨v, r5⟩ := vr
    rw [hpv2] at hsp q7'
    obtain ⟨rfl, rfl, rfl, q9⟩ := q7'
    have hvl2 := (lenP m).v hpv2
    simp only at hsp
    obtain ⟨u, hu0⟩ : ∃ u, u = pos s r5 := ⟨_, rfl⟩
    have hu1 : 0 ≤ u := hu0 ▸ pos_ge q9
    have hu2 : u ≤ s.length := hu0 ▸ pos_le _ _
    have hud : s.drop u.toNat = r5 := by rw [hu0]; exact pos_drop q9
    rw [<- hu0] at g7
    have hti : I ≠ [] -> ti < M.length + 3 + L.length := fun hne => by
      have := (List.getElem?_eq_some_iff.1 (hR.i hne)).1
      simp at this; omega
    obtain ⟨L3, x1, x2, x3, x4⟩ := app_R2 (T := 22) (e := 24) (sz := 5) el22 int22 sz24 zero24 rfl rfl (by decide) room24 (M.set id (RD s u ((d : Int) + 1)) ++ [bx id, zc24, rc K' I tk' ti]) (L2 ++ J7) I v.av ti ((i1.app2 J7).pre (by simp) (by simpa using hR.gi)) (by simpa using hR.gi) hI5 (by simp [V.av_eq]) (by omega)
    have y1 := x4 ((k3.app2 J7).pre (by simp) (by intro _; simp)) (by intro _; simp) (fun hne _ e => by have := hti hne; simp at e; omega)
    rw [V.av_eq] at x1
    simp [-aappB] at x1
    simp [-aappB, bx, rc, zc24, eK] at x1
    obtain ⟨ti', hti'⟩ : ∃ ti', ti' = M.length + 3 + (L2.length + J7.length) := ⟨_, rfl⟩
    obtain ⟨I', hI'⟩ : ∃ I', I' = I ++ [v.av] := ⟨_, rfl⟩
    obtain ⟨r8, a8, d8, J8, g8, rfl, q10⟩ := c275 (s := s) (on := [64, 64]) (en := [41]) (a := u) (d := (d : Int) + 1) (H := M.set id (RD s u ((d : Int) + 1)) ++ bx id :: zc24 :: rc K' I' tk' ti' :: L3) (id := id) hs (by decide) (by simp) (by decide) (by decide) (by decide) hu1 hu2 (by simp [hid])
    rw [hud] at q10
    simp [hid] at g8
    have eI : LX I' ti' = .list (I ++ [.agg [.int .i64 v.kind, .int .i64 v.num, .str v.s, .list (avs v.keys) none, .list (avs v.items) none]]) (some (M.length + 3 + (L2.length + J7.length))) := by rw [hI', hti', <- V.av_eq]; exact lx_append
    simp [-aappB, bx, rc, zc24, eK, eI] at g8
    have hkl2 : L2.length = L.length + J6.length + 1 := by simpa using k2
    have R' : Rows2 M (RD s u ((d : Int) + 1)) id zc24 (rc K' I' tk' ti') L3 K' I' tk' ti' := by
      refine ⟨?_, ?_, fun _ => by omega, fun _ => by omega, fun _ _ => by omega⟩
      . rw [hK', htk']; simpa using y1.pre (A' := M.set id (RD s u ((d : Int) + 1)) ++ [bx id, zc24, rc (K ++ [kv.av]) I' (M.length + 3 + (L.length + J6.length)) ti']) (by simp) (by intro _; simp)
      . rw [hI', hti']; simpa using x3.pre (A' := M.set id (RD s u ((d : Int) + 1)) ++ [bx id, zc24, rc K' (I ++ [v.av]) tk' (M.length + 3 + (L2.length + J7.length))]) (by simp) (by intro _; simp)
    have drwB : drawE ops225b [Eff.quiet, Eff.quiet, Eff.quiet, Eff.upto [id], Eff.quiet, Eff.new, Eff.quiet, Eff.put (M.length + 2)]
        [none, some (M.length + 2), some M.length, none, none, none, none, none] = true := by
      refine drawE_map (fun j => if j = id then 0 else 1) ?_
      simp [mapE, hne0, hne1]
      kernel_rfl
    cases hgo : goesB [64, 64] [41] r5 with
    | error er =>
      rw [hgo] at hsp q10
      simp only [OUT] at q10
      subst q10
      rw [<- hsp]
      simp [-aappB, -appEff, appEff_LX, g6, rch, V.av_eq, k1, gm, g7, rch2, x1, g8]
      refine ⟨drwA, drwB, ?_⟩
      refine lat_deep (.inr (.inr rfl)) hid rfl ?_
      exact ⟨_, _, ⟨_, rfl⟩, rfl⟩
    | ok br =>
    obtain ⟨bb, r9⟩ := br
    rw [hgo] at hsp q10
    obtain ⟨rfl, rfl, rfl, q11⟩ := q10
    have hgl := goesB_len hgo
    have eK2 : avs ((l ++ [(kv, v)]).map Prod.fst) = K' := by rw [hK', <- hK, List.map_append, List.map_cons, List.map_nil, avs_snoc]
    have eI2 : avs ((l ++ [(kv, v)]).map Prod.snd) = I' := by rw [hI', <- hI, List.map_append, List.map_cons, List.map_nil, avs_snoc]
    cases bb with
    | false =>
      rw [<- hsp]
      simp [-aappB, -appEff, appEff_LX, g6, rch, V.av_eq, k1, gm, g7, rch2, x1, g8]
      refine ⟨drwA, drwB, ?_⟩
      refine lat_deep (.inr (.inr rfl)) hid rfl ?_
      rw [wd, <- eK, <- eI]
      unfold HAND
      simp
      rw [<- eK2, <- eI2, erase_avs, erase_avs]
      exact ⟨_, _, ⟨_, rfl⟩, rfl, rfl, rfl, q11⟩
    | true =>
      simp only [mapP_app] at hsp
      simp [-aappB, -appEff, appEff_LX, g6, rch, V.av_eq, k1, gm, g7, rch2, x1, g8]
      refine ⟨drwA, drwB, ?_⟩
      have hp9 : s.drop (pos s r9).toNat = r9 := pos_drop q11
      have hmn : min [64, 64].length [41].length = 1 := rfl
      refine ⟨pos s r9, l ++ [(kv, v)], tk', ti', L3, m, by omega, pos_ge q11, pos_le _ _, ?_, ?_, by rw [hp9]; exact hsp, ?_, ?_, ?_⟩
      . rw [List.length_append]; simp only [List.length_cons, List.length_nil]
        have : u < pos s r9 := by rw [hu0]; unfold pos; omega
        have : h ≤ u := by rw [hu0, hh0]; unfold pos; omega
        omega
      . rw [hp9]; rw [List.length_drop] at hm hvl; omega
      . rw [eI2, eK2]; exact R'.pre
      . rw [eI2, eK2]; simp only [bx, zc24, rc, RD, eK, eI]
      . simp
end Go.Tv
namespace Go.Tv
open Go.Proofs
set_option maxHeartbeats 16000000
def iE (n : Int) : AV := .agg [.int .i64 1, .int .i64 n, .str [], .empty, .empty]
def iEs (i : Nat) : List AV := (List.range i).map fun j => iE ((j + 1 : Nat) : Int)
theorem iEs_len (i : Nat) : (iEs i).length = i := by simp [iEs]
theorem iEs_succ (i : Nat) : iEs (i + 1) = iEs i ++ [iE ((i : Int) + 1)] := by simp [iEs, List.range_succ]
theorem iEs_5 (i : Nat) : (iEs i).all (fun v => decide (v.cells.length = 5)) = true := by simp [iEs, iE]
theorem iEs_erase (i : Nat) : eraseL (iEs i) = avs ((List.range i).map fun j => intV ((j + 1 : Nat) : Int)) := by
  induction i with
  | zero => rfl
  | succ i ih => rw [iEs_succ, eraseL_snoc, ih, List.range_succ, List.map_append, List.map_cons, List.map_nil, avs_snoc]; rfl
theorem iEs_ne {i : Nat} : iEs i ≠ [] ↔ i ≠ 0 := by simp [iEs]
def I151 (M : Heap) (x : AObj) (id : Nat) (J : Heap) (l : List V) (i : Nat) (t : List AV) (H : Heap) : Prop := ∃ tk L, i ≤ l.length /\ TokY 5 (M.set id x ++ zc24 :: (J ++ [AObj.cells [.int .i64 5, .int .i64 0, .str [], LX (iEs i) tk, .list (avs l) none] 24]) ++ L) (iEs i) tk /\ (i ≠ 0 -> M.length + (J.length + 2) ≤ tk) /\
  H = M.set id x ++ zc24 :: (J ++ AObj.cells [.int .i64 5, .int .i64 0, .str [], LX (iEs i) tk, .list (avs l) none] 24 :: L) /\
  Fit (none :: none :: some (.ptr M.length 0) :: none :: some (.ptr (M.length + (J.length + 1)) 0) :: List.replicate 38 none ++ some (.int .i64 l.length) :: some (.int .i64 i) :: List.replicate 52 none) t
theorem pL_cnt {en : List UInt8} (he : 0 < en.length) : ∀ (n d : Nat) {r r' : List UInt8} {l : List V}, pL n d en r = .ok (l, r') -> l.length + r'.length ≤ r.length
  | 0, d, r, r', l, h => by rw [pL] at h; cases h
  | n + 1, d, r, r', l, h => by
    rw [pL] at h
    split at h
    . cases h
    . rename_i v1 r1 h1
      have l1 := (lenP n).v h1
      split at h
      . cases h
      . rename_i r2 h2; injection h with h; injection h with h3 h4; subst h3 h4
        have := goesB_len h2
        have hm : min [44].length en.length = 1 := by simp; omega
        simp; omega
      . rename_i r2 h2
        obtain ⟨l2, h3, rfl⟩ := mapP_ok h
        have := pL_cnt he n d h3
        have := goesB_len h2
        have hm : min [44].length en.length = 1 := by simp; omega
        simp; omega
theorem valsP_cnt {n d : Nat} {sign en r r' : List UInt8} {l : List V} (he : 0 < en.length) (h : valsP n d sign en r = .ok (l, r')) : l.length ≤ r.length := by
  unfold valsP at h
  split at h
  . cases h
  . rename_i r2 h2
    have := openP_len h2
    cases n with
    | zero => rw [pL0] at h; cases h
    | succ n =>
      rw [pL0] at h
      split at h
      . split at h
        . rename_i r3 h3; injection h with h; injection h with h4 h5; subst h4; simp
        . cases h
      . have := pL_cnt he n (d + 1) h; omega
theorem c151 {s : List UInt8} {n : Nat} (hs : s.length ≤ 1000000) (hv : ∀ m < n, VALC s m) : VALC s n := by
  intro a d H id hd h0 h1 hn hH
  obtain ⟨n, rfl⟩ : ∃ m, n = m + 1 := ⟨n - 1, by omega⟩
  refine rdcall (f := 151) (rest := []) (P := fun r a' d' _ => OUT s d V.av (pV (n + 1) d (s.drop a.toNat)) r a' d') (fn := Tryz.f151) rfl (by kernel_rfl) rfl rfl rfl rfl hH ?_
  intro M hid
  refine sd_plain rfl ?_
  have g1 := c152 (s := s) (a := a) (d := d) (H := M.set id (RD s a d) ++ [zc24]) (id := id) hs h0 h1 (by simp [hid])
  have suf : skipB (s.drop a.toNat) <:+ s := (skip_suf _).trans (List.drop_suffix _ _)
  have hsl := skip_len (s.drop a.toNat)
  obtain ⟨b, hb⟩ : ∃ b, b = pos s (skipB (s.drop a.toNat)) := ⟨_, rfl⟩
  have hb0 : 0 ≤ b := hb ▸ pos_ge suf
  have hb1 : b ≤ s.length := hb ▸ pos_le _ _
  have hbd : s.drop b.toNat = skipB (s.drop a.toNat) := by rw [hb]; exact pos_drop suf
  rw [<- hb] at g1
  have g2 := c220 (s := s) (a := b) (d := d) (H := M.set id (RD s b d) ++ [zc24]) (id := id) hb0 (by simp [hid])
  have hP := pV.eq_def (n + 1) d (s.drop a.toNat)
  simp only at hP
  rw [<- hbd] at hP hsl
  generalize hr1 : s.drop b.toNat = r1 at *
  have hd1 : ∀ {c : UInt8}, nowB r1 = c -> c ≠ 0 -> b < s.length /\ r1.drop 1 = s.drop (b + 1).toNat := by
    intro c hc hc0
    refine ⟨nowB_zero hb0 (by rw [hr1, hc]; exact hc0), ?_⟩
    rw [<- hr1, List.drop_drop]; congr 1; omega
  obtain ⟨c, hc⟩ : ∃ c, c = nowB r1 := ⟨_, rfl⟩
  rw [<- hc] at g2 hP
  simp [hid] at g1
  simp [zc24] at g1 g2
  simp [g1, g2]
  by_cases c34 : c = 34
  . rw [if_pos c34] at hP
    obtain ⟨hlt, hdr⟩ := hd1 hc.symm (by rw [c34]; decide)
    rw [hdr] at hP
    obtain ⟨r6, a6, d6, J6, g6, q6⟩ := c221 (s := s) (a := b) (d := d) (H := M.set id (RD s b d) ++ [zc24]) (id := id) hs hb0 hlt (by simp [hid])
    rw [<- hP] at q6
    simp [hid] at g6
    simp [zc24] at g6
    cases ho : pV (n + 1) d (s.drop a.toNat) with
    | error e =>
      rw [ho] at q6
      simp only [OUT] at q6
      subst q6
      simp [c34, g6]
      exact ⟨_, _, ⟨_, rfl⟩, rfl⟩
    | ok vr =>
      obtain ⟨v, r⟩ := vr
      rw [ho] at q6
      obtain ⟨rfl, rfl, rfl, q7⟩ := q6
      simp [c34, g6, V.av_eq]
      exact ⟨_, _, ⟨_, rfl⟩, by rw [<- V.av_eq v], rfl, rfl, q7⟩
  rw [if_neg c34] at hP
  by_cases c45 : c = 45
  . rw [if_pos c45] at hP
    obtain ⟨hlt, hdr⟩ := hd1 hc.symm (by rw [c45]; decide)
    rw [hdr] at hP
    have w := wrapI (i := b + 1) (by omega) (by omega)
    obtain ⟨r6, a6, d6, J6, g6, q6⟩ := c222 (s := s) (a := b + 1) (d := d) (sg := -1) (H := M.set id (RD s (b + 1) d) ++ [zc24]) (id := id) hs (.inr rfl) (by omega) (by omega) (by simp [hid])
    rw [<- hP] at q6
    simp [hid] at g6
    simp [zc24] at g6
    cases ho : pV (n + 1) d (s.drop a.toNat) with
    | error e =>
      rw [ho] at q6
      simp only [OUT] at q6
      subst q6
      simp [c45, hid, w, g6]
      exact ⟨_, _, ⟨_, rfl⟩, rfl⟩
    | ok vr =>
      obtain ⟨v, r⟩ := vr
      rw [ho] at q6
      obtain ⟨rfl, rfl, rfl, q7⟩ := q6
      simp [c45, hid, w, g6, V.av_eq]
      exact ⟨_, _, ⟨_, rfl⟩, by rw [<- V.av_eq v], rfl, rfl, q7⟩
  rw [if_neg c45] at hP
  by_cases c123 : c = 123
  . rw [if_pos c123] at hP
    obtain ⟨r6, a6, d6, J6, g6, q6⟩ := c223 (s := s) (sign := [123]) (en := [125]) (a := b) (d := d) (n := n) (H := M.set id (RD s b d) ++ [zc24]) (id := id) hs (by decide) (by decide) (by simp) (by decide) (by decide) (by simp) hd hb0 hb1 (by rw [hr1]; omega) (fun m hm => hv m (by omega)) (by simp [hid])
    rw [hr1] at q6
    have hQ : pV (n + 1) d (s.drop a.toNat) = mapP (fun l => V.mk 4 0 [] [] l) (valsP n d [123] [125] r1) := by
      rw [hP, valsP]; cases openP d [123] r1 <;> rfl
    rw [hQ]
    simp [hid] at g6
    simp [zc24] at g6
    cases ho : valsP n d [123] [125] r1 with
    | error e =>
      rw [ho] at q6
      simp only [OUT] at q6
      subst q6
      simp [c123, g6]
      exact ⟨_, _, ⟨_, rfl⟩, rfl⟩
    | ok vr =>
      obtain ⟨v, r⟩ := vr
      rw [ho] at q6
      obtain ⟨rfl, rfl, rfl, q7⟩ := q6
      simp [c123, g6, undv24, fv24_all, fv24_0, fv24_4]
      exact ⟨_, _, ⟨_, rfl⟩, rfl, rfl, rfl, q7⟩
  rw [if_neg c123] at hP
  by_cases c60 : c = 60
  . rw [if_pos c60] at hP
    obtain ⟨r6, a6, d6, J6, g6, q6⟩ := c223 (s := s) (sign := [60, 60]) (en := [62, 62]) (a := b) (d := d) (n := n) (H := M.set id (RD s b d) ++ [zc24]) (id := id) hs (by decide) (by decide) (by simp) (by decide) (by decide) (by simp) hd hb0 hb1 (by rw [hr1]; omega) (fun m hm => hv m (by omega)) (by simp [hid])
    rw [hr1] at q6
    have hQ : pV (n + 1) d (s.drop a.toNat) = mapP (fun l => V.mk 5 0 [] ((List.range l.length).map fun i => intV ((i + 1 : Nat) : Int)) l) (valsP n d [60, 60] [62, 62] r1) := by
      rw [hP, valsP]; cases openP d [60, 60] r1 <;> rfl
    rw [hQ]
    simp [hid] at g6
    simp [zc24] at g6
    cases ho : valsP n d [60, 60] [62, 62] r1 with
    | error e =>
      rw [ho] at q6
      simp only [OUT] at q6
      subst q6
      simp [c60, g6]
      exact ⟨_, _, ⟨_, rfl⟩, rfl⟩
    | ok vr =>
      obtain ⟨l, r⟩ := vr
      rw [ho] at q6
      obtain ⟨rfl, rfl, rfl, q7⟩ := q6
      simp [c60, g6, undv24, fv24_all, fv24_0, fv24_4]
      have hll : l.length ≤ 1000000 := by
        have h1 := valsP_cnt (by simp) ho
        rw [<- hr1, List.length_drop] at h1; omega
      refine st_iter (I151 M (RD s (pos s r) d) id J6 l) l.length ?_ ?_
      . exact ⟨0, [], by omega, fun h => absurd rfl h, fun h => absurd rfl h, by simp [zc24, iEs, lx_nil], by simp⟩
      . rintro i t H ⟨tk, L, hi, htok, htk, rfl, ht⟩
        obtain ⟨e, rfl⟩ := ht.elim
        clear ht
        refine ⟨hi, ?_⟩
        by_cases hil : i < l.length
        . have hge : iEs i ≠ [] -> M.length + (J6.length + 2) ≤ tk := fun h => htk (iEs_ne.1 h)
          obtain ⟨L', k1, k2, k3, k4⟩ := app_R2 (T := 22) (e := 24) (sz := 5) el22 int22 sz24 zero24 rfl rfl (by decide) room24 (M.set id (RD s (pos s r) d) ++ zc24 :: (J6 ++ [AObj.cells [.int .i64 5, .int .i64 0, .str [], LX (iEs i) tk, .list (avs l) none] 24])) L (iEs i) (iE ((i : Int) + 1)) tk htok (by simpa [Nat.add_assoc] using hge) (iEs_5 i) (by simp [iE]) (by rw [iEs_len]; omega)
          have w1 := wrapI (i := (i : Int) + 1) (by omega) (by omega)
          simp [-aappB] at k1
          simp [-aappB, zc24, iE] at k1
          simp [-aappB, zc24, hil, w1, undv24, fv24_all, fv24_0, fv24_1, k1]
          refine ⟨M.length + (J6.length + 1 + 1) + L.length, L', by omega, ?_, fun _ => by omega, ?_, ?_⟩
          . rw [iEs_succ]; simpa [Nat.add_assoc] using k3.pre (A' := M.set id (RD s (pos s r) d) ++ zc24 :: (J6 ++ [AObj.cells [.int .i64 5, .int .i64 0, .str [], LX (iEs i ++ [iE ((i : Int) + 1)]) (M.length + (J6.length + 1 + 1) + L.length), .list (avs l) none] 24])) (by simp) (by intro _; simp [Nat.add_assoc])
          . rw [iEs_succ, lx_append]; simp [iE, zc24]
          . simp
        . have hi' : i = l.length := by omega
          subst hi'
          have hK : eraseL (iEs l.length) = avs ((List.range l.length).map fun j : Nat => intV ((j : Int) + 1)) := by rw [iEs_erase]; simp
          have eV : ∀ K, V.av (V.mk 5 0 [] K l) = .agg [.int .i64 5, .int .i64 0, .str [], .list (avs K) none, .list (avs l) none] := fun _ => rfl
          by_cases hk0 : iEs l.length = []
          . rw [hk0] at hK ⊢
            simp [zc24, lx_nil]
            refine ⟨_, _, ⟨_, rfl⟩, ?_, rfl, rfl, q7⟩
            rw [eV, <- hK]; rfl
          . rw [lx_cons hk0]
            simp [zc24]
            refine ⟨_, _, ⟨_, rfl⟩, ?_, rfl, rfl, q7⟩
            rw [eV, <- hK]
  rw [if_neg c60] at hP
  by_cases c91 : c = 91
  . rw [if_pos c91] at hP
    obtain ⟨r6, a6, d6, J6, g6, q6⟩ := c224 (s := s) (a := b) (d := d) (n := n) (H := M.set id (RD s b d) ++ [zc24]) (id := id) hs hd hb0 hb1 (by rw [hr1]; omega) (fun m hm => hv m (by omega)) (by simp [hid])
    rw [hr1] at q6
    have hQ : pV (n + 1) d (s.drop a.toNat) = rcdP n d r1 := by
      rw [hP, rcdP]; cases openP d [91] r1 <;> rfl
    rw [hQ]
    simp [hid] at g6
    simp [zc24] at g6
    cases ho : rcdP n d r1 with
    | error e =>
      rw [ho] at q6
      simp only [OUT] at q6
      subst q6
      simp [c91, g6]
      exact ⟨_, _, ⟨_, rfl⟩, rfl⟩
    | ok vr =>
      obtain ⟨v, r⟩ := vr
      rw [ho] at q6
      obtain ⟨rfl, rfl, rfl, q7⟩ := q6
      simp [c91, g6, V.av_eq]
      exact ⟨_, _, ⟨_, rfl⟩, by rw [<- V.av_eq v], rfl, rfl, q7⟩
  rw [if_neg c91] at hP
  by_cases c40 : c = 40
  . rw [if_pos c40] at hP
    obtain ⟨r6, a6, d6, J6, g6, q6⟩ := c225 (s := s) (a := b) (d := d) (n := n) (H := M.set id (RD s b d) ++ [zc24]) (id := id) hs hd hb0 hb1 (by rw [hr1]; omega) (fun m hm => hv m (by omega)) (by simp [hid])
    rw [hr1] at q6
    have hQ : pV (n + 1) d (s.drop a.toNat) = mapPV n d r1 := by
      rw [hP, mapPV]; cases openP d [40] r1 <;> rfl
    rw [hQ]
    simp [hid] at g6
    simp [zc24] at g6
    cases ho : mapPV n d r1 with
    | error e =>
      rw [ho] at q6
      simp only [OUT] at q6
      subst q6
      simp [c40, g6]
      exact ⟨_, _, ⟨_, rfl⟩, rfl⟩
    | ok vr =>
      obtain ⟨v, r⟩ := vr
      rw [ho] at q6
      obtain ⟨rfl, rfl, rfl, q7⟩ := q6
      simp [c40, g6, V.av_eq]
      exact ⟨_, _, ⟨_, rfl⟩, by rw [<- V.av_eq v], rfl, rfl, q7⟩
  rw [if_neg c40] at hP
  have g3 := c226 (s := s) (a := b) (d := d) (H := M.set id (RD s b d) ++ [zc24]) (id := id) hs hb0 hb1 (by simp [hid])
  rw [hr1] at g3
  simp [zc24] at g3
  cases hin : isNumP r1 with
  | true =>
    rw [hin] at g3
    rw [hin, if_pos rfl] at hP
    obtain ⟨r6, a6, d6, J6, g6, q6⟩ := c222 (s := s) (a := b) (d := d) (sg := 1) (H := M.set id (RD s b d) ++ [zc24]) (id := id) hs (.inl rfl) hb0 hb1 (by simp [hid])
    rw [hr1, <- hP] at q6
    simp [hid] at g6
    simp [zc24] at g6
    cases ho : pV (n + 1) d (s.drop a.toNat) with
    | error e =>
      rw [ho] at q6
      simp only [OUT] at q6
      subst q6
      simp [c34, c45, c123, c60, c91, c40, g3, g6]
      exact ⟨_, _, ⟨_, rfl⟩, rfl⟩
    | ok vr =>
      obtain ⟨v, r⟩ := vr
      rw [ho] at q6
      obtain ⟨rfl, rfl, rfl, q7⟩ := q6
      simp [c34, c45, c123, c60, c91, c40, g3, g6, V.av_eq]
      exact ⟨_, _, ⟨_, rfl⟩, by rw [<- V.av_eq v], rfl, rfl, q7⟩
  | false =>
    rw [hin] at g3
    rw [hin, if_neg (by simp)] at hP
    have g4 := c227 (s := s) (a := b) (d := d) (H := M.set id (RD s b d) ++ [zc24]) (id := id) hs hb0 hb1 (by simp [hid])
    rw [hr1] at g4
    have suf2 : r1.dropWhile partC <:+ s := (dw_suf _ _).trans (by rw [<- hr1]; exact List.drop_suffix _ _)
    obtain ⟨w, hw⟩ : ∃ w, w = r1.takeWhile partC := ⟨_, rfl⟩
    have g5 := fun H => c133 w H (by have := (List.takeWhile_prefix (l := r1) partC).length_le; rw [<- hw, <- hr1, List.length_drop] at this; omega)
    have g7 := c153 (s := s) (a := b) (d := d) (H := M.set id (RD s b d) ++ [zc24]) (id := id) (by simp [hid])
    rw [wordP, <- hw] at hP
    rw [<- hw] at g4
    simp [hid] at g4
    simp [zc24] at g4 g7
    rw [hP]
    by_cases w1 : w = [84, 82, 85, 69]
    . rw [if_pos w1]
      simp [c34, c45, c123, c60, c91, c40, g3, g4, hid, w1, undv24, fv24_all, fv24_0, fv24_1]
      exact ⟨_, _, ⟨_, rfl⟩, rfl, rfl, rfl, suf2⟩
    rw [if_neg w1]
    by_cases w2 : w = [70, 65, 76, 83, 69]
    . rw [if_pos w2]
      simp [c34, c45, c123, c60, c91, c40, g3, g4, hid, w2, undv24, fv24_all, fv24_0]
      exact ⟨_, _, ⟨_, rfl⟩, rfl, rfl, rfl, suf2⟩
    rw [if_neg w2]
    cases hnm : nameB w with
    | true =>
      rw [hnm] at g5
      rw [if_pos rfl]
      simp [c34, c45, c123, c60, c91, c40, g3, g4, g5, hid, w1, w2, undv24, fv24_all, fv24_0, fv24_2]
      exact ⟨_, _, ⟨_, rfl⟩, rfl, rfl, rfl, suf2⟩
    | false =>
      rw [hnm] at g5
      rw [if_neg (by simp)]
      simp [c34, c45, c123, c60, c91, c40, g3, g4, g5, g7, hid, w1, w2]
      refine ⟨_, _, ⟨_, rfl⟩, ?_⟩
      show ARet.panic (wrong b) = .panic (wrong ((s.length : Int) - r1.length))
      rw [<- hr1, left_at hb0 hb1]
theorem valc {s : List UInt8} (hs : s.length ≤ 1000000) (n : Nat) : VALC s n := by
  induction n using Nat.strongRecOn with
  | _ n ih => exact c151 hs ih
end Go.Tv
