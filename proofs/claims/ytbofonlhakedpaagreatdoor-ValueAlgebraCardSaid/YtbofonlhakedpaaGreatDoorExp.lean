/-
  The algebra of values, names there and back, in plain Lean.
-/
import Derived.Test.YtbofonlhakedpaaGreatDoorFunctionsA
import Derived.Test.YtbofonlhakedpaaGreatDoorExn
/- The algebra of sets and functions of values, in plain Lean. -/
namespace Go.Tv
set_option maxHeartbeats 4000000

theorem chk_mk {v : V} (hs : v.small 300 8 = true) (he : errV true v = 0) : chkE v = 0 := by rw [chkE, hs, if_pos rfl, he]
theorem errV_mk {v : V} (h1 : ownE v = 0) (h2 : ordE v = 0) (h3 : errL true v.keys = 0) (h4 : errL true v.items = 0) : errV true v = 0 := by
  have t0 : topE true v = 0 := by rw [topE, if_neg (by simp [h1]), if_pos rfl, h2]
  rw [errV_eq, if_neg (by simp [t0]), if_neg (by simp [h3]), h4]
theorem errL_all {o : Bool} : ∀ {l : List V}, (∀ v ∈ l, errV o v = 0) → errL o l = 0
  | [], _ => rfl
  | a :: r, h => by rw [errL, if_neg (by simp [h a (by simp)]), errL_all fun v hv => h v (by simp [hv])]
theorem deps_le {d : Nat} : ∀ {l : List V}, (∀ v ∈ l, v.dep ≤ d) → deps l ≤ d
  | [], _ => by simp [deps]
  | a :: r, h => by
    have h1 := h a (by simp)
    have h2 := deps_le (l := r) fun v hv => h v (by simp [hv])
    simp only [deps]; omega
theorem asc_true {l : List V} (h : SAsc l) : ascL l = true := (ascL_iff l).2 h
theorem set_own (l : List V) : ownE (setV l) = 0 := (own_iff _).2 (by simp [setV, V.kind, V.num, V.s, V.keys, V.items])
theorem set_err {l : List V} (h : ∀ v ∈ l, errV true v = 0) (ha : SAsc l) : errV true (setV l) = 0 := by
  refine errV_mk (set_own l) ?_ rfl (errL_all h)
  unfold ordE
  rw [if_neg]
  rintro (⟨_, h⟩ | ⟨h, _⟩)
  · have e : (setV l).items = l := rfl
    rw [e, asc_true ha] at h; cases h
  · exact absurd h (by simp [setV, V.kind])
theorem set_eta {a : V} (h : chkE a = 0) (hk : a.kind = 4) : a = setV a.items := by
  have O := chk_own h
  have h1 := O.num (by omega) (by omega)
  have h2 := O.s (by omega) (by omega)
  have h3 := O.keys (by omega)
  cases a with
  | mk k n s ks is =>
    simp only [V.kind, V.num, V.s, V.keys, V.items] at hk h1 h2 h3 ⊢
    subst hk h1 h2 h3; rfl
theorem item_errs {a : V} (h : chkE a = 0) : ∀ v ∈ a.items, errV true v = 0 := errL_mem (errV_zero (chk_small h).2).2.2.2
theorem key_errs {a : V} (h : chkE a = 0) : ∀ v ∈ a.keys, errV true v = 0 := errL_mem (errV_zero (chk_small h).2).2.2.1
theorem setsE_of {a b : V} (ha : chkE a = 0) (hb : chkE b = 0) (ka : a.kind = 4) (kb : b.kind = 4) : setsE a b = 0 := by
  simp [setsE, firstNZ, chkL, tyAll, ha, hb, ka, kb]
theorem combR_of {op : Int} {a b : V} (ho : opB op = true) (ha : chkE a = 0) (hb : chkE b = 0) (ka : a.kind = 4) (kb : b.kind = 4) : combR op a b = resE (combV op a b) 0 := by
  rw [combR, combE, if_pos ho, setsE_of ha hb ka kb, if_neg (by decide)]
theorem resE_of {v : V} (h : v.small 300 8 = true) : resE v 0 = 0 := by simp [resE, h]
theorem resE_two (v : V) : resE v 0 = 0 ∨ resE v 0 = 2 := by
  unfold resE; rw [if_pos rfl]; split
  · exact .inl rfl
  · exact .inr rfl
theorem flt1_mem (A B : List V) (x : V) : x ∈ fltV 1 A B ↔ x ∈ A ∧ x ∈ B := by
  have h := memB_iff B x
  unfold fltV
  rw [List.mem_filter, ← h]
  cases hb : memB B x <;> simp [keepB, hb]
theorem flt2_mem (A B : List V) (x : V) : x ∈ fltV 2 A B ↔ x ∈ A ∧ ¬ x ∈ B := by
  have h := memB_iff B x
  unfold fltV
  rw [List.mem_filter, ← h]
  cases hb : memB B x <;> simp [keepB, hb]
theorem flt_asc {A : List V} (op : Int) (B : List V) (h : SAsc A) : SAsc (fltV op A B) := List.Pairwise.filter _ h
theorem flt_in {op : Int} {A B : List V} {x : V} (h : x ∈ fltV op A B) : x ∈ A := (List.mem_filter.1 h).1
theorem flt_small {A : List V} (op : Int) (B : List V) (h : (setV A).small 300 8 = true) : (setV (fltV op A B)).small 300 8 = true := by
  rw [small_iff, setV_cnt, setV_dep] at h ⊢
  have h1 := flt_cnts op A B
  have h2 : deps (fltV op A B) ≤ deps A := deps_le fun v hv => dep_in (flt_in hv)
  omega

/-! ### sets -/
structure Two (a b : V) : Prop where
  a0 : chkE a = 0
  b0 : chkE b = 0
  a4 : a.kind = 4
  b4 : b.kind = 4
variable {a b : V}
theorem Two.swap (h : Two a b) : Two b a := ⟨h.b0, h.a0, h.b4, h.a4⟩
theorem Two.small (h : Two a b) : (setV a.items).small 300 8 = true := by rw [← set_eta h.a0 h.a4]; exact (chk_small h.a0).1
theorem Two.asc (h : Two a b) : SAsc a.items := asc_of h.a0 h.a4
theorem Two.ferr (h : Two a b) (op : Int) : chkE (setV (fltV op a.items b.items)) = 0 :=
  chk_mk (flt_small op b.items h.small) (set_err (fun v hv => item_errs h.a0 v (flt_in hv)) (flt_asc op _ h.asc))
theorem Two.both (h : Two a b) : combR 1 a b = 0 ∧ combW 1 a b = setV (fltV 1 a.items b.items) := by
  have e : combR 1 a b = 0 := by rw [combR_of rfl h.a0 h.b0 h.a4 h.b4]; exact resE_of (flt_small 1 _ h.small)
  exact ⟨e, by rw [combW, if_pos e]; rfl⟩
theorem Two.wo (h : Two a b) : combR 2 a b = 0 ∧ combW 2 a b = setV (fltV 2 a.items b.items) := by
  have e : combR 2 a b = 0 := by rw [combR_of rfl h.a0 h.b0 h.a4 h.b4]; exact resE_of (flt_small 2 _ h.small)
  exact ⟨e, by rw [combW, if_pos e]; rfl⟩
theorem Two.same (h : Two a b) : combW 1 a b = combW 1 b a := by
  rw [h.both.2, h.swap.both.2, sasc_uniq (flt_asc 1 _ h.asc) (flt_asc 1 _ h.swap.asc) fun x => by rw [flt1_mem, flt1_mem]; exact And.comm]
theorem Two.uni (_h : Two a b) : combV 0 a b = combV 0 b a := by
  show setN _ = setN _
  rw [setN, setN, sasc_uniq (srtU_asc (a.items ++ b.items)) (srtU_asc (b.items ++ a.items)) fun x => by rw [srtU_mem, srtU_mem, List.mem_append, List.mem_append]; exact Or.comm]
theorem Two.unionR (h : Two a b) : combR 0 a b = combR 0 b a := by
  rw [combR_of rfl h.a0 h.b0 h.a4 h.b4, combR_of rfl h.b0 h.a0 h.b4 h.a4, h.uni]
theorem Two.unionW (h : Two a b) : combW 0 a b = combW 0 b a := by rw [combW, combW, h.unionR, h.uni]
theorem Two.union2 (h : Two a b) : combR 0 a b = 0 ∨ combR 0 a b = 2 := by rw [combR_of rfl h.a0 h.b0 h.a4 h.b4]; exact resE_two _
theorem Two.parts (h : Two a b) : Two (combW 1 a b) (combW 2 a b) := by
  refine ⟨?_, ?_, ?_, ?_⟩
  · rw [h.both.2]; exact h.ferr 1
  · rw [h.wo.2]; exact h.ferr 2
  · rw [h.both.2]; rfl
  · rw [h.wo.2]; rfl
theorem Two.whole (h : Two a b) : combR 0 (combW 1 a b) (combW 2 a b) = 0 ∧ combW 0 (combW 1 a b) (combW 2 a b) = a := by
  have e : combV 0 (combW 1 a b) (combW 2 a b) = a := by
    show setN _ = a
    rw [h.both.2, h.wo.2]
    show setN (fltV 1 a.items b.items ++ fltV 2 a.items b.items) = a
    rw [setN, sasc_uniq (srtU_asc _) h.asc fun x => by
      rw [srtU_mem, List.mem_append, flt1_mem, flt2_mem]
      constructor
      · rintro (h | h) <;> exact h.1
      · intro hx
        by_cases hb : x ∈ b.items
        · exact .inl ⟨hx, hb⟩
        · exact .inr ⟨hx, hb⟩]
    exact (set_eta h.a0 h.a4).symm
  have p := h.parts
  have r : combR 0 (combW 1 a b) (combW 2 a b) = 0 := by rw [combR_of rfl p.a0 p.b0 p.a4 p.b4, e]; exact resE_of (chk_small h.a0).1
  exact ⟨r, by rw [combW, if_pos r, e]⟩
theorem Two.sum (h : Two a b) (hr : combR 0 a b = 0) : Two (combW 0 a b) a ∧ (combW 0 a b).items = srtU (a.items ++ b.items) := by
  have e : combW 0 a b = setN (a.items ++ b.items) := by rw [combW, if_pos hr]; rfl
  have hs : (setN (a.items ++ b.items)).small 300 8 = true := by
    rw [combR_of rfl h.a0 h.b0 h.a4 h.b4] at hr
    exact resE_small hr
  rw [e]
  refine ⟨⟨chk_mk hs (set_err (fun v hv => ?_) (srtU_asc _)), h.a0, rfl, h.a4⟩, rfl⟩
  rw [srtU_mem, List.mem_append] at hv
  rcases hv with hv | hv
  · exact item_errs h.a0 v hv
  · exact item_errs h.b0 v hv
theorem Two.again (h : Two a b) (hr : combR 0 a b = 0) : combR 1 (combW 0 a b) a = 0 ∧ combW 1 (combW 0 a b) a = a := by
  obtain ⟨t, hi⟩ := h.sum hr
  refine ⟨t.both.1, ?_⟩
  rw [t.both.2, hi, sasc_uniq (flt_asc 1 _ (srtU_asc _)) h.asc fun x => by
    rw [flt1_mem, srtU_mem, List.mem_append]
    constructor
    · exact fun h => h.2
    · exact fun hx => ⟨.inl hx, hx⟩]
  exact (set_eta h.a0 h.a4).symm

/-! ### functions -/
theorem key_small {f v : V} (h : f.small 300 8 = true) (hm : v ∈ f.keys) : v.small 300 8 = true := by
  have h1 := cnt_mem hm
  have h2 := dep_in hm
  have h3 := f.cnt_eq
  have h4 := f.dep_eq
  simp only [V.small, Bool.and_eq_true, decide_eq_true_eq] at h ⊢
  omega
theorem key_chk {f v : V} (h : chkE f = 0) (hm : v ∈ f.keys) : chkE v = 0 := chk_mk (key_small (chk_small h).1 hm) (key_errs h v hm)
theorem item_chk {f v : V} (h : chkE f = 0) (hm : v ∈ f.items) : chkE v = 0 := chk_mk (item_small (chk_small h).1 hm) (item_errs h v hm)
theorem atU_self {l : List V} (h : SAsc l) (i : Nat) (hi : i < l.length) : atU l[i] l = i := by
  have h1 := atU_iff h l[i] i hi
  have h0 := cmpV_self l[i]
  have h2 : ¬ i < atU l[i] l := fun x => by have := h1.2 x; omega
  rcases Nat.lt_or_eq_of_le (Nat.le_of_not_lt h2) with h3 | h3
  · have h4 : atU l[i] l < l.length := by omega
    have h5 := atU_iff h l[i] (atU l[i] l) h4
    have h6 : cmpV l[atU l[i] l] l[i] < 0 := (List.pairwise_iff_getElem.1 h) _ _ h4 hi h3
    have := h5.1 h6; omega
  · exact h3
theorem errF_of {l : List V} {f : V} (hl : ∀ v ∈ l, chkE v = 0) (hk : f.kind = 5) : errF l f = 0 := by
  have : chkL l = 0 := by
    induction l with
    | nil => rfl
    | cons a r ih => rw [chkL, if_neg (by simp [hl a (by simp)])]; exact ih fun v hv => hl v (by simp [hv])
  simp [errF, firstNZ, this, tyAll, hk]
theorem mem_key {f : V} (i : Nat) (hi : i < f.keys.length) : memB f.keys f.keys[i] = true := (memB_iff _ _).2 (List.getElem_mem hi)
theorem ex_of {f x : V} (hf : chkE f = 0) (hx : chkE x = 0) (hk : f.kind = 5) (i : Nat) (hi : i < f.keys.length) :
    exV f f.keys[i] x = .mk 5 0 [] f.keys (f.items.set i x) ∧ exE f f.keys[i] x = resE (.mk 5 0 [] f.keys (f.items.set i x)) 0 := by
  have O := chk_own hf
  have e : exV f f.keys[i] x = .mk 5 0 [] f.keys (f.items.set i x) := by
    rw [exV, if_pos (mem_key i hi), atU_self (asc_keys hf hk) i hi, hk, O.num (by omega) (by omega), O.s (by omega) (by omega)]
  have e2 : errF [f, f.keys[i], x] f = 0 := errF_of (fun v hv => by
    simp only [List.mem_cons, List.mem_nil_iff, or_false] at hv
    rcases hv with rfl | rfl | rfl
    · exact hf
    · exact key_chk hf (List.getElem_mem hi)
    · exact hx) hk
  refine ⟨e, ?_⟩
  rw [exE, e2, if_neg (by decide), e]
theorem ex_two {f x : V} (hf : chkE f = 0) (hx : chkE x = 0) (hk : f.kind = 5) (i : Nat) (hi : i < f.keys.length) : exE f f.keys[i] x = 0 ∨ exE f f.keys[i] x = 2 := by
  rw [(ex_of hf hx hk i hi).2]; exact resE_two _
theorem ex_chk {f x : V} (hf : chkE f = 0) (hx : chkE x = 0) (hk : f.kind = 5) (i : Nat) (hi : i < f.keys.length) (h0 : exE f f.keys[i] x = 0) :
    exW f f.keys[i] x = .mk 5 0 [] f.keys (f.items.set i x) ∧ chkE (exW f f.keys[i] x) = 0 := by
  obtain ⟨e1, e2⟩ := ex_of hf hx hk i hi
  have e3 : exW f f.keys[i] x = .mk 5 0 [] f.keys (f.items.set i x) := by rw [exW, if_pos h0, e1]
  refine ⟨e3, ?_⟩
  rw [e3]
  rw [e2] at h0
  have O := chk_own hf
  refine chk_mk (resE_small h0) (errV_mk ?_ ?_ (show errL true f.keys = 0 from errL_all (key_errs hf)) (show errL true (f.items.set i x) = 0 from errL_all fun v hv => ?_))
  · refine (own_iff _).2 ?_
    have := O.len hk
    simp [mk_kind, mk_num, mk_s, mk_keys, mk_items, this]
  · unfold ordE
    rw [if_neg]
    rintro (⟨h, _⟩ | ⟨_, h⟩)
    · exact absurd h (by simp [V.kind])
    · have e : (V.mk 5 0 [] f.keys (f.items.set i x)).keys = f.keys := rfl
      rw [e, asc_true (asc_keys hf hk)] at h; cases h
  · rcases List.mem_or_eq_of_mem_set hv with h | h
    · exact item_errs hf v h
    · subst h; exact (chk_small hx).2
theorem ap_of {f x : V} (hf : chkE f = 0) (hx : chkE x = 0) (hk : f.kind = 5) (i : Nat) (hi : i < f.keys.length) (h0 : exE f f.keys[i] x = 0) (k : Nat) (hki : k < f.keys.length) :
    apE (exW f f.keys[i] x) f.keys[k] = 0 ∧ apW (exW f f.keys[i] x) f.keys[k] = if k = i then x else f.items.getD k zeroV := by
  obtain ⟨e1, e2⟩ := ex_chk hf hx hk i hi h0
  rw [e1] at e2 ⊢
  have hl := (chk_own hf).len hk
  have hm : memB (V.mk 5 0 [] f.keys (f.items.set i x)).keys f.keys[k] = true := mem_key k hki
  have e3 : apE (.mk 5 0 [] f.keys (f.items.set i x)) f.keys[k] = 0 := by
    rw [apE, errF_of (fun v hv => by
      simp only [List.mem_cons, List.mem_nil_iff, or_false] at hv
      rcases hv with rfl | rfl
      · exact e2
      · exact key_chk hf (List.getElem_mem hki)) rfl, if_neg (by decide), if_pos hm]
  refine ⟨e3, ?_⟩
  rw [apW, if_pos e3]
  show (f.items.set i x).getD (atU f.keys[k] f.keys) zeroV = _
  rw [atU_self (asc_keys hf hk) k hki, List.getD_eq_getElem?_getD, List.getD_eq_getElem?_getD, List.getElem?_set]
  by_cases h : k = i
  · subst h; rw [if_pos rfl, if_pos rfl, if_pos (by omega)]; rfl
  · rw [if_neg h, if_neg (fun e => h e.symm)]
end Go.Tv

/- Renaming, and back, in plain Lean. -/
namespace Go.Tv
set_option maxHeartbeats 4000000

theorem renS_apart : ∀ (pre l : List Ren), renS pre l = 0 → ∀ p ∈ pre, ∀ q ∈ l, p.2 ≠ q.2
  | _, [], _, p, _, q, hq => by simp at hq
  | pre, x :: r, h, p, hp, q, hq => by
    rw [renS] at h
    split at h
    · exact absurd h (by decide)
    split at h
    · exact absurd h (by decide)
    split at h
    · exact absurd h (by decide)
    rename_i h3
    rcases List.mem_cons.1 hq with e | hq
    · subst e
      intro e
      exact h3 (List.any_eq_true.2 ⟨p, hp, by simpa using e⟩)
    · exact renS_apart _ r h p (List.mem_append_left _ hp) q hq
theorem renS_inj : ∀ (pre l : List Ren), renS pre l = 0 → ∀ p ∈ l, ∀ q ∈ l, p.2 = q.2 → p = q
  | _, [], _, p, hp, _, _, _ => by simp at hp
  | pre, x :: r, h, p, hp, q, hq, e => by
    have h0 := h
    rw [renS] at h
    split at h
    · exact absurd h (by decide)
    split at h
    · exact absurd h (by decide)
    split at h
    · exact absurd h (by decide)
    rcases List.mem_cons.1 hp with ep | hp' <;> rcases List.mem_cons.1 hq with eq | hq'
    · rw [ep, eq]
    · exact absurd e (renS_apart _ r h p (by simp [ep]) q hq')
    · exact absurd e.symm (renS_apart _ r h q (by simp [eq]) p hp')
    · exact renS_inj _ r h p hp' q hq' e
theorem renE_inj {l : List Ren} (h : renE l = 0) : ∀ p ∈ l, ∀ q ∈ l, p.2 = q.2 → p = q := by
  unfold renE at h
  split at h
  · exact absurd h (by decide)
  · exact renS_inj _ _ h
theorem lastM_none {s : List UInt8} : ∀ {l : List Ren} {a : Option (List UInt8)}, lastM s l a = none → ∀ p ∈ l, p.1 ≠ s
  | [], _, _, p, hp => by simp at hp
  | x :: r, a, h, p, hp => by
    rcases List.mem_cons.1 hp with e | hp
    · subst e
      intro e
      rw [lastM, if_pos e] at h
      have key : ∀ (r : List Ren) (b : List UInt8), lastM s r (some b) ≠ none := by
        intro r
        induction r with
        | nil => intro b; simp [lastM]
        | cons y r ih => intro b; rw [lastM]; split <;> exact ih _
      exact key r _ h
    · exact lastM_none (l := r) h p hp
def subN (l : List Ren) (s : List UInt8) : List UInt8 := (lastM s l none).getD s
def swapR (l : List Ren) : List Ren := l.map fun p => (p.2, p.1)
theorem swap_mem {l : List Ren} {a b : List UInt8} : (a, b) ∈ swapR l ↔ (b, a) ∈ l := by
  unfold swapR
  rw [List.mem_map]
  constructor
  · rintro ⟨p, hp, e⟩
    obtain ⟨e1, e2⟩ := Prod.mk.inj e
    have : p = (b, a) := Prod.ext e2 e1
    rwa [← this]
  · intro h; exact ⟨(b, a), h, rfl⟩
theorem sub_back {l : List Ren} (h : renE l = 0) (hs : ∀ p ∈ l, ∃ q ∈ l, q.1 = p.2) (s : List UInt8) : subN (swapR l) (subN l s) = s := by
  cases h1 : lastM s l none with
  | some x =>
    have e1 : subN l s = x := by rw [subN, h1]; rfl
    rw [e1]
    rcases lastM_some h1 with ⟨p, hp, e2, e3⟩ | hh
    · cases h2 : lastM x (swapR l) none with
      | none =>
        have hm : (x, s) ∈ swapR l := swap_mem.2 (by rw [← e2, ← e3]; exact hp)
        exact absurd rfl (lastM_none h2 _ hm)
      | some y =>
        rcases lastM_some h2 with ⟨q, hq, f2, f3⟩ | hh
        · have hq' : (q.2, q.1) ∈ l := swap_mem.1 hq
          have e := renE_inj h p hp (q.2, q.1) hq' (by rw [e3]; exact f2.symm)
          have e4 : subN (swapR l) x = y := by rw [subN, h2]; rfl
          rw [e4, ← f3, ← e2, e]
        · cases hh
    · cases hh
  | none =>
    have e1 : subN l s = s := by rw [subN, h1]; rfl
    rw [e1]
    cases h2 : lastM s (swapR l) none with
    | none => rw [subN, h2]; rfl
    | some y =>
      rcases lastM_some h2 with ⟨q, hq, f2, f3⟩ | hh
      · have hq' : (q.2, q.1) ∈ l := swap_mem.1 hq
        obtain ⟨p, hp, e⟩ := hs _ hq'
        exact absurd (e.trans f2) (lastM_none h1 p hp)
      · cases hh

theorem fnl_asc {l : List (V × V)} (h : KAsc l) : Fnl l := by
  induction l with
  | nil => intro p hp; simp at hp
  | cons a r ih =>
    unfold KAsc SAsc at h
    rw [List.map_cons, List.pairwise_cons] at h
    have nin : ∀ p ∈ r, p.1 ≠ a.1 := fun p hp e => by
      have := h.1 p.1 (List.mem_map.2 ⟨p, hp, rfl⟩); rw [e, cmpV_self] at this; omega
    intro p hp q hq e
    rcases List.mem_cons.1 hp with ep | hp' <;> rcases List.mem_cons.1 hq with eq | hq'
    · rw [ep, eq]
    · rw [ep] at e; exact absurd e.symm (nin q hq')
    · rw [eq] at e; exact absurd e (nin p hp')
    · exact ih h.2 p hp' q hq' e
theorem fnV_some {ks is : List V} (h : Fnl (ks.zip is)) : ∃ r : List (V × V), fnV ks is = some (.mk 5 0 [] (r.map Prod.fst) (r.map Prod.snd)) ∧ KAsc r ∧ ∀ x, x ∈ r ↔ x ∈ ks.zip is := by
  obtain ⟨a1, a2⟩ := fnGo_none (sortBy cmpP (ks.zip is)) (sortBy_srtd ord_P _)
  have hfs : Fnl (sortBy cmpP (ks.zip is)) := by unfold Fnl; simp only [sortBy_mem]; exact h
  unfold fnV
  cases hg : fnGo none (sortBy cmpP (ks.zip is)) with
  | none => exact absurd hfs (a2 hg)
  | some r =>
    obtain ⟨_, f2, f3⟩ := a1 r hg
    exact ⟨r, rfl, f2, fun x => by rw [f3, sortBy_mem]⟩
theorem nrms_of {f g : V → V} : ∀ {l : List V}, (∀ x ∈ l, nrm (g x) = some (f x)) → nrms (l.map g) = some (l.map f)
  | [], _ => rfl
  | a :: r, h => by
    rw [List.map_cons, nrms, h a (by simp), nrms_of (l := r) fun x hx => h x (by simp [hx])]
    rfl
theorem zip_maps (f : V → V) (a b : List V) : (a.map f).zip (b.map f) = (a.zip b).map fun p => (f p.1, f p.2) := by
  induction a generalizing b with
  | nil => rfl
  | cons x r ih =>
    cases b with
    | nil => rfl
    | cons y s => simp only [List.map_cons, List.zip_cons_cons, ih]

/-- Renamed and put in order, and back: the same. -/
theorem back_nrm {l m : List Ren} (hl : ∀ p ∈ l, nameB p.2 = true) (hs : ∀ s, subN m (subN l s) = s) (u : V) : errV true u = 0 → ∃ w, nrm (renV l u) = some w ∧ errV true w = 0 ∧ nrm (renV m w) = some u := by
  refine V.ind (P := fun u => errV true u = 0 → ∃ w, nrm (renV l u) = some w ∧ errV true w = 0 ∧ nrm (renV m w) = some u) (fun u hk hi h => ?_) u
  obtain ⟨h1, h2, h3, h4⟩ := errV_zero h
  have O := own0_of h1
  have ho := h2 rfl
  let f : V → V := fun x => nrmD (renV l x)
  let g : V → V := fun y => nrmD (renV m y)
  have Fk : ∀ x ∈ u.keys, nrm (renV l x) = some (f x) ∧ errV true (f x) = 0 ∧ nrm (renV m (f x)) = some x := fun x hx => by
    obtain ⟨w, a1, a2, a3⟩ := hk x hx (errL_mem h3 x hx)
    have e : f x = w := nrmD_some a1
    rw [e]; exact ⟨a1, a2, a3⟩
  have Fi : ∀ x ∈ u.items, nrm (renV l x) = some (f x) ∧ errV true (f x) = 0 ∧ nrm (renV m (f x)) = some x := fun x hx => by
    obtain ⟨w, a1, a2, a3⟩ := hi x hx (errL_mem h4 x hx)
    have e : f x = w := nrmD_some a1
    rw [e]; exact ⟨a1, a2, a3⟩
  have nk : nrms (renVs l u.keys) = some (u.keys.map f) := by rw [renVs_map]; exact nrms_of fun x hx => (Fk x hx).1
  have ni : nrms (renVs l u.items) = some (u.items.map f) := by rw [renVs_map]; exact nrms_of fun x hx => (Fi x hx).1
  have e0 : nrm (renV l u) = nrmOf (renV l u) (u.keys.map f) (u.items.map f) := by
    rw [nrm_eq, renV_eq]
    simp only [V.keys, V.items] at nk ni ⊢
    rw [nk, ni]
  have hkd : (renV l u).kind = u.kind := by rw [renV_eq]; rfl
  by_cases k4 : u.kind = 4
  · have eu : u = setV u.items := by
      have q1 := O.num (by omega) (by omega)
      have q2 := O.s (by omega) (by omega)
      have q3 := O.keys (by omega)
      rw [← V.eta u, q1, q2, q3, k4]; rfl
    have ha : SAsc u.items := by
      unfold ordE at ho
      split at ho
      · exact absurd ho (by decide)
      · rename_i hno
        refine (ascL_iff _).1 ?_
        cases hx : ascL u.items with
        | true => rfl
        | false => exact absurd (.inl ⟨k4, hx⟩) hno
    rw [e0, nrmOf, hkd, if_pos k4]
    refine ⟨_, rfl, set_err (fun v hv => ?_) (srtU_asc _), ?_⟩
    · rw [srtU_mem, List.mem_map] at hv
      obtain ⟨x, hx, rfl⟩ := hv
      exact (Fi x hx).2.1
    · have nb : nrms (renVs m (srtU (u.items.map f))) = some ((srtU (u.items.map f)).map g) := by
        rw [renVs_map]
        refine nrms_of fun y hy => ?_
        rw [srtU_mem, List.mem_map] at hy
        obtain ⟨x, hx, rfl⟩ := hy
        have := (Fi x hx).2.2
        rw [this]
        show some x = some (nrmD (renV m (f x)))
        rw [nrmD_some this]
      have e5 : renV m (setN (u.items.map f)) = .mk 4 0 [] [] (renVs m (srtU (u.items.map f))) := by rw [renV_eq]; rfl
      rw [e5, nrm_eq]
      show (match nrms [], nrms (renVs m (srtU (u.items.map f))) with | some a, some b => nrmOf _ a b | _, _ => none) = _
      rw [nb]
      show some (setN _) = _
      rw [setN, sasc_uniq (srtU_asc _) ha fun x => ?_]
      · exact congrArg some eu.symm
      · rw [srtU_mem, List.mem_map]
        constructor
        · rintro ⟨y, hy, rfl⟩
          rw [srtU_mem, List.mem_map] at hy
          obtain ⟨x, hx, rfl⟩ := hy
          have : g (f x) = x := nrmD_some (Fi x hx).2.2
          rw [this]; exact hx
        · intro hx
          exact ⟨f x, (srtU_mem _ _).2 (List.mem_map.2 ⟨x, hx, rfl⟩), nrmD_some (Fi x hx).2.2⟩
  · by_cases k5 : u.kind = 5
    · have hlen := O.len k5
      have eu : u = .mk 5 0 [] u.keys u.items := by
        have q1 := O.num (by omega) (by omega)
        have q2 := O.s (by omega) (by omega)
        rw [← V.eta u, q1, q2, k5]; rfl
      have ha : SAsc u.keys := by
        unfold ordE at ho
        split at ho
        · exact absurd ho (by decide)
        · rename_i hno
          refine (ascL_iff _).1 ?_
          cases hx : ascL u.keys with
          | true => rfl
          | false => exact absurd (.inr ⟨k5, hx⟩) hno
      have hka : KAsc (u.keys.zip u.items) := by unfold KAsc; rw [fst_zip hlen]; exact ha
      have hz : (u.keys.map f).zip (u.items.map f) = (u.keys.zip u.items).map fun p => (f p.1, f p.2) := zip_maps f _ _
      have zk : ∀ p ∈ u.keys.zip u.items, p.1 ∈ u.keys ∧ p.2 ∈ u.items := fun p hp => List.of_mem_zip hp
      have hfl : Fnl ((u.keys.map f).zip (u.items.map f)) := by
        rw [hz]
        intro p hp q hq e
        obtain ⟨p0, hp0, rfl⟩ := List.mem_map.1 hp
        obtain ⟨q0, hq0, rfl⟩ := List.mem_map.1 hq
        have e1 := nrmD_some (Fk p0.1 (zk p0 hp0).1).2.2
        have e2 := nrmD_some (Fk q0.1 (zk q0 hq0).1).2.2
        have e3 : p0.1 = q0.1 := by rw [← e1, ← e2]; exact congrArg (fun y => nrmD (renV m y)) e
        exact congrArg f (fnl_asc hka p0 hp0 q0 hq0 e3)
      obtain ⟨r, r1, r2, r3⟩ := fnV_some hfl
      rw [e0, nrmOf, hkd, if_neg k4, if_pos k5, r1]
      have rm : ∀ p ∈ r, ∃ k ∈ u.keys, ∃ i ∈ u.items, p.1 = f k ∧ p.2 = f i := fun p hp => by
        rw [r3, hz, List.mem_map] at hp
        obtain ⟨p0, hp0, rfl⟩ := hp
        exact ⟨p0.1, (zk p0 hp0).1, p0.2, (zk p0 hp0).2, rfl, rfl⟩
      refine ⟨_, rfl, errV_mk ?_ ?_ (errL_all fun v hv => ?_) (errL_all fun v hv => ?_), ?_⟩
      · refine (own_iff _).2 ?_
        simp [V.kind, V.num, V.s, V.keys, V.items]
      · unfold ordE
        rw [if_neg]
        rintro (⟨h, _⟩ | ⟨_, h⟩)
        · exact absurd h (by simp [V.kind])
        · have e : (V.mk 5 0 [] (r.map Prod.fst) (r.map Prod.snd)).keys = r.map Prod.fst := rfl
          rw [e, asc_true r2] at h; cases h
      · have hv' : v ∈ r.map Prod.fst := hv
        obtain ⟨p, hp, rfl⟩ := List.mem_map.1 hv'
        obtain ⟨k, hk1, i, hi1, e1, e2⟩ := rm p hp
        rw [e1]; exact (Fk k hk1).2.1
      · have hv' : v ∈ r.map Prod.snd := hv
        obtain ⟨p, hp, rfl⟩ := List.mem_map.1 hv'
        obtain ⟨k, hk1, i, hi1, e1, e2⟩ := rm p hp
        rw [e2]; exact (Fi i hi1).2.1
      · have n1 : nrms (renVs m (r.map Prod.fst)) = some ((r.map Prod.fst).map g) := by
          rw [renVs_map]
          refine nrms_of fun y hy => ?_
          obtain ⟨p, hp, rfl⟩ := List.mem_map.1 hy
          obtain ⟨k, hk1, i, hi1, e1, e2⟩ := rm p hp
          have := (Fk k hk1).2.2
          rw [e1, this]
          show some k = some (nrmD (renV m (f k)))
          rw [nrmD_some this]
        have n2 : nrms (renVs m (r.map Prod.snd)) = some ((r.map Prod.snd).map g) := by
          rw [renVs_map]
          refine nrms_of fun y hy => ?_
          obtain ⟨p, hp, rfl⟩ := List.mem_map.1 hy
          obtain ⟨k, hk1, i, hi1, e1, e2⟩ := rm p hp
          have := (Fi i hi1).2.2
          rw [e2, this]
          show some i = some (nrmD (renV m (f i)))
          rw [nrmD_some this]
        have e5 : renV m (.mk 5 0 [] (r.map Prod.fst) (r.map Prod.snd)) = .mk 5 0 [] (renVs m (r.map Prod.fst)) (renVs m (r.map Prod.snd)) := by rw [renV_eq]; rfl
        rw [e5, nrm_eq]
        show (match nrms (renVs m (r.map Prod.fst)), nrms (renVs m (r.map Prod.snd)) with | some a, some b => nrmOf _ a b | _, _ => none) = _
        rw [n1, n2]
        show fnV _ _ = _
        have hz2 : ((r.map Prod.fst).map g).zip ((r.map Prod.snd).map g) = r.map fun p => (g p.1, g p.2) := by
          rw [zip_maps]
          have : (r.map Prod.fst).zip (r.map Prod.snd) = r := by
            clear r1 r2 r3 rm n1 n2 e5
            induction r with
            | nil => rfl
            | cons p r ih => simp only [List.map_cons, List.zip_cons_cons, ih]
          rw [this]
        have hmem : ∀ x, x ∈ ((r.map Prod.fst).map g).zip ((r.map Prod.snd).map g) ↔ x ∈ u.keys.zip u.items := fun x => by
          rw [hz2, List.mem_map]
          constructor
          · rintro ⟨p, hp, rfl⟩
            rw [r3, hz, List.mem_map] at hp
            obtain ⟨p0, hp0, rfl⟩ := hp
            have e1 : g (f p0.1) = p0.1 := nrmD_some (Fk p0.1 (zk p0 hp0).1).2.2
            have e2 : g (f p0.2) = p0.2 := nrmD_some (Fi p0.2 (zk p0 hp0).2).2.2
            show (g (f p0.1), g (f p0.2)) ∈ _
            rw [e1, e2]; exact hp0
          · intro hx
            refine ⟨(f x.1, f x.2), ?_, ?_⟩
            · rw [r3, hz, List.mem_map]; exact ⟨x, hx, rfl⟩
            · have e1 : g (f x.1) = x.1 := nrmD_some (Fk x.1 (zk x hx).1).2.2
              have e2 : g (f x.2) = x.2 := nrmD_some (Fi x.2 (zk x hx).2).2.2
              exact Prod.ext e1 e2
        have hfl2 : Fnl (((r.map Prod.fst).map g).zip ((r.map Prod.snd).map g)) := by
          intro p hp q hq e
          exact fnl_asc hka p ((hmem p).1 hp) q ((hmem q).1 hq) e
        obtain ⟨r', s1, s2, s3⟩ := fnV_some hfl2
        have er : r' = u.keys.zip u.items := kasc_uniq s2 hka fun x => by rw [s3, hmem]
        rw [s1, er, fst_zip hlen, snd_zip hlen]
        exact congrArg some eu.symm
    · have q3 := O.keys k5
      have q4 := O.items k4 k5
      have e6 : renV l u = .mk u.kind u.num (renN l u) [] [] := by rw [renV_eq, q3, q4]; rfl
      rw [e0, nrmOf, hkd, if_neg k4, if_neg k5]
      refine ⟨_, rfl, errV_mk (own_ren hl u h1) ?_ ?_ ?_, ?_⟩
      · unfold ordE
        rw [hkd, if_neg]
        rintro (⟨h, _⟩ | ⟨h, _⟩)
        · exact k4 h
        · exact k5 h
      · rw [e6]; rfl
      · rw [e6]; rfl
      · have e7 : renN m (renV l u) = u.s := by
          have hs0 := hs u.s
          have e9 : (renV l u).s = renN l u := by rw [e6]; rfl
          unfold renN
          rw [hkd, e9]
          unfold renN
          by_cases k3 : u.kind = 3
          · rw [if_pos k3, if_pos k3]; exact hs0
          · rw [if_neg k3, if_neg k3]
        have e8 : renV m (renV l u) = u := by
          rw [renV_eq m, e7, e6]
          show V.mk u.kind u.num u.s (renVs m []) (renVs m []) = u
          rw [← V.eta u, q3, q4]; rfl
        rw [e8]; exact nrm_self u h
/-- Renamed, and back. -/
theorem back_all {v : V} {l : List Ren} (hv : chkE v = 0) (hl : renE l = 0) (hb : renE (swapR l) = 0) (hs : ∀ p ∈ l, ∃ q ∈ l, q.1 = p.2) :
    rnE v l = 0 ∧ chkE (rnW v l) = 0 ∧ rnE (rnW v l) (swapR l) = 0 ∧ rnW (rnW v l) (swapR l) = v := by
  obtain ⟨w, h1, h2, h3⟩ := back_nrm (m := swapR l) (fun p hp => (renE_names hl p hp).2) (sub_back hl hs) v (chk_small hv).2
  have e1 : nlE (renV l v) = 0 := by rw [nl_small (ren_err hv hl) (by rw [small_ren]; exact (chk_small hv).1), h1]
  have e2 : rnE v l = 0 := by rw [rnE, if_neg (by simp [hv]), if_neg (by simp [hl]), e1]
  have e3 : rnW v l = w := by rw [rnW, if_pos e2, nrmD_some h1]
  have hw : chkE w = 0 := by
    refine chk_mk ?_ h2
    obtain ⟨c1, c2⟩ := nrm_cnt _ (ren_err hv hl) w h1
    have c3 := (small_iff _ _ _).1 (chk_small hv).1
    rw [cnt_ren] at c1
    rw [dep_ren] at c2
    rw [small_iff]; omega
  have e4 : nlE (renV (swapR l) w) = 0 := by rw [nl_small (ren_err hw hb) (by rw [small_ren]; exact (chk_small hw).1), h3]
  have e5 : rnE w (swapR l) = 0 := by rw [rnE, if_neg (by simp [hw]), if_neg (by simp [hb]), e4]
  rw [e3]
  exact ⟨e2, hw, e5, by rw [rnW, if_pos e5, nrmD_some h3]⟩
end Go.Tv
