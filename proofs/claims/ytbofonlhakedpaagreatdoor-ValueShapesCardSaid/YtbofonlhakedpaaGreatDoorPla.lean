/-
  Values of chapter 8 as trees: their order, names, errors, in plain Lean.
-/
import Derived.Test.YtbofonlhakedpaaGreatDoorTvd
import Derived.Lib.IndexMore
/- The functions without a body that the program calls: strings are compared byte by byte. -/
namespace Go.Tv
/-- -1, 0 or 1 as a text comes before, is, or comes after another one -/
def cmpB : List UInt8 → List UInt8 → Int
  | [], [] => 0
  | [], _ :: _ => -1
  | _ :: _, [] => 1
  | a :: x, b :: y => if a != b then (if a < b then -1 else 1) else cmpB x y

def cmpL (a b : List UInt8) : Int :=
  match (List.range (min a.length b.length)).find? fun i => a.getD i 0 != b.getD i 0 with
  | some i => if a.getD i 0 < b.getD i 0 then -1 else 1
  | none => if a.length < b.length then -1 else if a.length > b.length then 1 else 0

theorem cmpL_eq : ∀ a b, cmpL a b = cmpB a b
  | [], [] => rfl
  | [], _ :: _ => by simp [cmpL, cmpB]
  | _ :: _, [] => by simp [cmpL, cmpB]
  | a :: x, b :: y => by
    have ih := cmpL_eq x y
    simp only [cmpL, cmpB, List.length_cons, Nat.add_min_add_right, List.range_succ_eq_map, List.find?_cons, List.getD_cons_zero] at ih ⊢
    cases h : (a != b) with
    | true => simp
    | false =>
      simp only [List.find?_map, Function.comp_def, List.getD_cons_succ]
      rw [← ih]
      cases (List.range (min x.length y.length)).find? fun i => x.getD i 0 != y.getD i 0 with
      | none => simp
      | some i => simp

theorem ba_get (a : ByteArray) (i : Nat) : a[i]! = a.data.toList.getD i 0 := by
  by_cases h : i < a.size
  · have h' : i < a.data.size := h
    rw [getElem!_pos a i h]
    simp [List.getD_eq_getElem?_getD, Array.getElem?_eq_getElem h']
    rfl
  · have h' : ¬ i < a.data.size := h
    rw [getElem!_neg a i h]
    simp [List.getD_eq_getElem?_getD, Array.getElem?_eq_none (Nat.le_of_not_lt h')]
    rfl

theorem cmp_eq (a b : ByteArray) : Extern.BytealgCompare.cmp a b = cmpB a.data.toList b.data.toList := by
  rw [← cmpL_eq]
  have h1 : a.data.toList.length = a.size := Array.length_toList
  have h2 : b.data.toList.length = b.size := Array.length_toList
  simp only [Extern.BytealgCompare.cmp, cmpL, ba_get, h1, h2]
  cases List.find? (fun i => a.data.toList.getD i 0 != b.data.toList.getD i 0) (List.range (min a.size b.size)) <;> rfl
end Go.Tv

/- Values of chapter 8 as trees. -/
namespace Go.Tv

inductive V where
  | mk (kind n : Int) (s : List UInt8) (keys items : List V)

mutual
def V.av : V → AV
  | .mk k n s ks is => .agg [.int .i64 k, .int .i64 n, .str s, .list (avs ks) none, .list (avs is) none]
def avs : List V → List AV
  | [] => []
  | v :: r => v.av :: avs r
end

mutual
theorem erase_av : ∀ v : V, v.av.erase = v.av
  | .mk k n s ks is => by simp [V.av, AV.erase, eraseL, erase_avs ks, erase_avs is]
theorem erase_avs : ∀ l : List V, eraseL (avs l) = avs l
  | [] => rfl
  | v :: r => by simp [avs, eraseL, erase_av v, erase_avs r]
end
mutual
theorem tree_av : ∀ v : V, v.av.tree = true
  | .mk k n s ks is => by simp [V.av, AV.tree, treeL, tree_avs ks, tree_avs is]
theorem tree_avs : ∀ l : List V, treeL (avs l) = true
  | [] => rfl
  | v :: r => by simp [avs, treeL, tree_av v, tree_avs r]
end
theorem avs_map : ∀ l : List V, avs l = l.map V.av
  | [] => rfl
  | v :: r => by simp [avs, avs_map r]
theorem avs_len (l : List V) : (avs l).length = l.length := by rw [avs_map]; simp
theorem av_cells (v : V) : v.av.cells.length = 5 := by cases v; simp [V.av, AV.cells]
theorem avs_cells (l : List V) : (avs l).all (fun v => decide (v.cells.length = 5)) = true := by
  rw [avs_map]; simp [av_cells]
theorem avs_get (l : List V) (i : Nat) (h : i < l.length) : (avs l).getD i .empty = (l[i]).av := by rw [avs_map]; simp [List.getD_eq_getElem?_getD, h]

theorem idx_nat (k : IntKind) (i n : Nat) : idx (.int k (i : Int)) n = if i < n then some i else none := by
  simp only [idx]
  by_cases h : i < n
  · rw [if_pos (by omega), if_pos h]; simp
  · rw [if_neg (by omega), if_neg h]

theorem wrap_nat {i : Int} (h0 : -9223372036854775808 ≤ i) (h : i ≤ 9223372036854775807) : IntKind.i64.wrap i = i := by rw [IntKind.wrap_i64]; omega
end Go.Tv

/- Values of chapter 8 as trees: projections, induction, how many and how deep. -/
namespace Go.Tv
def V.kind : V → Int | .mk k _ _ _ _ => k
def V.num : V → Int | .mk _ n _ _ _ => n
def V.s : V → List UInt8 | .mk _ _ s _ _ => s
def V.keys : V → List V | .mk _ _ _ ks _ => ks
def V.items : V → List V | .mk _ _ _ _ is => is
theorem V.av_eq (v : V) : v.av = .agg [.int .i64 v.kind, .int .i64 v.num, .str v.s, .list (avs v.keys) none, .list (avs v.items) none] := by cases v; rfl
theorem V.eta (v : V) : V.mk v.kind v.num v.s v.keys v.items = v := by cases v; rfl

mutual
theorem V.ind {P : V → Prop} (h : ∀ v : V, (∀ x ∈ v.keys, P x) → (∀ x ∈ v.items, P x) → P v) : ∀ v : V, P v
  | .mk _k _n _s ks is => h _ (V.inds h ks) (V.inds h is)
theorem V.inds {P : V → Prop} (h : ∀ v : V, (∀ x ∈ v.keys, P x) → (∀ x ∈ v.items, P x) → P v) : ∀ l : List V, ∀ v ∈ l, P v
  | [] => fun v hv => by simp at hv
  | a :: r => fun v hv => by
    rcases List.mem_cons.1 hv with e | hv
    · exact e ▸ V.ind h a
    · exact V.inds h r v hv
end

mutual
def V.cnt : V → Nat
  | .mk _ _ _ ks is => 1 + cnts ks + cnts is
def cnts : List V → Nat
  | [] => 0
  | v :: r => v.cnt + cnts r
end
mutual
def V.dep : V → Nat
  | .mk _ _ _ ks is => 1 + max (deps ks) (deps is)
def deps : List V → Nat
  | [] => 0
  | v :: r => max v.dep (deps r)
end
theorem V.cnt_eq (v : V) : v.cnt = 1 + cnts v.keys + cnts v.items := by cases v; rfl
theorem V.dep_eq (v : V) : v.dep = 1 + max (deps v.keys) (deps v.items) := by cases v; rfl
theorem cnts_append : ∀ (a b : List V), cnts (a ++ b) = cnts a + cnts b
  | [], b => by simp [cnts]
  | v :: r, b => by simp only [List.cons_append, cnts, cnts_append r b]; omega
theorem deps_append : ∀ (a b : List V), deps (a ++ b) = max (deps a) (deps b)
  | [], b => by simp [deps]
  | v :: r, b => by simp only [List.cons_append, deps, deps_append r b]; omega
mutual
theorem dep_cnt : ∀ v : V, v.dep ≤ v.cnt
  | .mk _ _ _ ks is => by have := deps_cnts ks; have := deps_cnts is; simp only [V.dep, V.cnt]; omega
theorem deps_cnts : ∀ l : List V, deps l ≤ cnts l
  | [] => by simp [deps]
  | v :: r => by have := dep_cnt v; have := deps_cnts r; simp only [deps, cnts]; omega
end
theorem cnt_pos (v : V) : 1 ≤ v.cnt := by rw [V.cnt_eq]; omega
theorem dep_pos (v : V) : 1 ≤ v.dep := by rw [V.dep_eq]; omega
theorem len_cnts : ∀ l : List V, l.length ≤ cnts l
  | [] => by simp
  | v :: r => by have := cnt_pos v; have := len_cnts r; simp only [List.length_cons, cnts]; omega
theorem take_succ {α : Type} (l : List α) (i : Nat) (h : i < l.length) : l.take (i + 1) = l.take i ++ [l[i]] := by
  rw [List.take_add_one, List.getElem?_eq_getElem h]; rfl
theorem cnts_take (l : List V) (i : Nat) (h : i < l.length) : cnts (l.take (i + 1)) = cnts (l.take i) + l[i].cnt := by
  rw [take_succ l i h, cnts_append]; simp [cnts]
theorem deps_take (l : List V) (i : Nat) (h : i < l.length) : deps (l.take (i + 1)) = max (deps (l.take i)) l[i].dep := by
  rw [take_succ l i h, deps_append]; simp [deps]
theorem cnts_take_le (l : List V) (i : Nat) : cnts (l.take i) ≤ cnts l := by
  have := cnts_append (l.take i) (l.drop i); rw [List.take_append_drop] at this; omega
theorem deps_take_le (l : List V) (i : Nat) : deps (l.take i) ≤ deps l := by
  have := deps_append (l.take i) (l.drop i); rw [List.take_append_drop] at this; omega
theorem cnt_mem {l : List V} {v : V} (h : v ∈ l) : v.cnt ≤ cnts l := by
  induction l with
  | nil => simp at h
  | cons a r ih => 
    simp only [cnts]
    rcases List.mem_cons.1 h with e | h
    · subst e; omega
    · have := ih h; omega
theorem cnt_keys (v : V) : cnts v.keys < v.cnt := by rw [V.cnt_eq]; omega
theorem cnt_items (v : V) : cnts v.items < v.cnt := by rw [V.cnt_eq]; omega

/-- What Size returns of values that are so many. -/
def szF (c : Nat) (most : Int) : Int := if (c : Int) ≤ most then c else max 0 (most + 1)

mutual
/-- What bounds.fits returns, and what is left. -/
def fitV : V → Int → Int → Bool × Int
  | .mk _ _ _ ks is, d, l => if d < 1 ∨ l - 1 < 0 then (false, l - 1) else if (fitL ks (d - 1) (l - 1)).1 then fitL is (d - 1) (fitL ks (d - 1) (l - 1)).2 else fitL ks (d - 1) (l - 1)
def fitL : List V → Int → Int → Bool × Int
  | [], _d, l => (true, l)
  | v :: r, d, l => if (fitV v d l).1 then fitL r d (fitV v d l).2 else fitV v d l
end
mutual
theorem fitV_rng : ∀ (v : V) (d l : Int), 0 ≤ l → -1 ≤ (fitV v d l).2 ∧ (fitV v d l).2 ≤ l ∧ ((fitV v d l).1 = true → 0 ≤ (fitV v d l).2)
  | .mk _ _ _ ks is, d, l, h => by
    simp only [fitV]
    split
    · simp only []; refine ⟨by omega, by omega, fun h => by cases h⟩
    · rename_i hc
      have h1 := fitL_rng ks (d - 1) (l - 1) (by omega)
      split
      · rename_i e
        have h2 := fitL_rng is (d - 1) (fitL ks (d - 1) (l - 1)).2 (h1.2.2 e)
        exact ⟨h2.1, by omega, h2.2.2⟩
      · exact ⟨h1.1, by omega, h1.2.2⟩
theorem fitL_rng : ∀ (v : List V) (d l : Int), 0 ≤ l → -1 ≤ (fitL v d l).2 ∧ (fitL v d l).2 ≤ l ∧ ((fitL v d l).1 = true → 0 ≤ (fitL v d l).2)
  | [], d, l, h => by simp only [fitL]; exact ⟨by omega, by omega, fun _ => h⟩
  | v :: r, d, l, h => by
    simp only [fitL]
    have h1 := fitV_rng v d l h
    split
    · rename_i e
      have h2 := fitL_rng r d _ (h1.2.2 e)
      exact ⟨h2.1, by omega, h2.2.2⟩
    · exact h1
end
mutual
theorem fitV_iff : ∀ (v : V) (d l : Int), 0 ≤ l → ((fitV v d l).1 = true ↔ (v.cnt : Int) ≤ l ∧ (v.dep : Int) ≤ d) ∧ ((fitV v d l).1 = true → (fitV v d l).2 = l - v.cnt)
  | .mk _ _ _ ks is, d, l, h => by
    simp only [fitV, V.cnt, V.dep]
    split
    · refine ⟨⟨fun h => absurd h (by simp), fun h => ?_⟩, fun h => absurd h (by simp)⟩
      omega
    · rename_i hc
      have h1 := fitL_iff ks (d - 1) (l - 1) (by omega) (by omega)
      split
      · rename_i e
        have h3 := h1.1.1 e; have h4 := h1.2 e
        have h2 := fitL_iff is (d - 1) (fitL ks (d - 1) (l - 1)).2 (by omega) (by omega)
        refine ⟨?_, fun e2 => by have := h2.2 e2; omega⟩
        rw [h2.1]; omega
      · rename_i e
        refine ⟨⟨fun e2 => absurd e2 e, fun e2 => absurd (h1.1.2 (by omega)) e⟩, fun e2 => absurd e2 e⟩
theorem fitL_iff : ∀ (v : List V) (d l : Int), 0 ≤ l → 0 ≤ d → ((fitL v d l).1 = true ↔ (cnts v : Int) ≤ l ∧ (deps v : Int) ≤ d) ∧ ((fitL v d l).1 = true → (fitL v d l).2 = l - cnts v)
  | [], d, l, h, hd => by simp only [fitL, cnts, deps]; exact ⟨⟨fun _ => by omega, fun _ => trivial⟩, fun _ => by omega⟩
  | v :: r, d, l, h, hd => by
    simp only [fitL, cnts, deps]
    have h1 := fitV_iff v d l h
    split
    · rename_i e
      have h3 := h1.1.1 e; have h4 := h1.2 e
      have h2 := fitL_iff r d (fitV v d l).2 (by omega) hd
      refine ⟨?_, fun e2 => by have := h2.2 e2; omega⟩
      rw [h2.1]; omega
    · rename_i e
      refine ⟨⟨fun e2 => absurd e2 e, fun e2 => absurd (h1.1.2 (by omega)) e⟩, fun e2 => absurd e2 e⟩
end
/-- isSmall and IsSmall -/
def V.small (most deep : Nat) (v : V) : Bool := decide (v.cnt ≤ most) && decide (v.dep ≤ deep)
theorem fit_small (v : V) (d l : Nat) : (fitV v d l).1 = v.small l d := by
  have h := (fitV_iff v d l (by omega)).1
  rw [Bool.eq_iff_iff, h]; simp [V.small]
mutual
/-- All strings are no longer than an int. -/
def V.str : V → Prop
  | .mk _ _ s ks is => s.length ≤ 9223372036854775807 ∧ strs' ks ∧ strs' is
def strs' : List V → Prop
  | [] => True
  | v :: r => v.str ∧ strs' r
end
theorem V.str_eq (v : V) : v.str ↔ v.s.length ≤ 9223372036854775807 ∧ strs' v.keys ∧ strs' v.items := by cases v; rfl
theorem str_mem : ∀ {l : List V}, strs' l → ∀ v ∈ l, v.str
  | [], _, v, h => by simp at h
  | a :: r, hl, v, h => by
    rcases List.mem_cons.1 h with e | h
    · subst e; exact hl.1
    · exact str_mem hl.2 v h
end Go.Tv

/- Values of chapter 8: their order, in plain Lean. -/
namespace Go.Tv

def cmpI (a b : Int) : Int := if a < b then -1 else if a = b then 0 else 1

theorem cmpI_eq {a b : Int} : cmpI a b = 0 ↔ a = b := by
  unfold cmpI
  by_cases h : a < b
  · rw [if_pos h]; omega
  · rw [if_neg h]; by_cases h2 : a = b
    · rw [if_pos h2]; omega
    · rw [if_neg h2]; omega
theorem cmpI_neg (a b : Int) : cmpI b a = - cmpI a b := by unfold cmpI; split <;> split <;> (try split) <;> (try split) <;> omega
theorem cmpI_rng (a b : Int) : cmpI a b = -1 ∨ cmpI a b = 0 ∨ cmpI a b = 1 := by 
  unfold cmpI
  by_cases h : a < b
  · simp [h]
  · by_cases h2 : a = b <;> simp [h, h2]
theorem cmpI_lt {a b : Int} : cmpI a b = -1 ↔ a < b := by 
  unfold cmpI
  by_cases h : a < b
  · simp [h]
  · by_cases h2 : a = b
    · rw [if_neg h, if_pos h2]; omega
    · rw [if_neg h, if_neg h2]; omega

theorem u8_lt_or {a b : UInt8} (h : a ≠ b) : a < b ∨ b < a := by
  rcases Nat.lt_or_ge a.toNat b.toNat with h1 | h1
  · exact Or.inl h1
  · refine Or.inr ?_
    have : a.toNat ≠ b.toNat := fun e => h (UInt8.toNat_inj.1 e)
    exact (by omega : b.toNat < a.toNat)

theorem cmpB_eq : ∀ {a b : List UInt8}, cmpB a b = 0 ↔ a = b
  | [], [] => by simp [cmpB]
  | [], _ :: _ => by simp [cmpB]
  | _ :: _, [] => by simp [cmpB]
  | a :: x, b :: y => by
    simp only [cmpB]
    by_cases h : a = b
    · subst h; simp [cmpB_eq]
    · simp [h]; split <;> simp
theorem cmpB_neg : ∀ (a b : List UInt8), cmpB b a = - cmpB a b
  | [], [] => by simp [cmpB]
  | [], _ :: _ => by simp [cmpB]
  | _ :: _, [] => by simp [cmpB]
  | a :: x, b :: y => by
    simp only [cmpB]
    by_cases h : a = b
    · subst h; simp [cmpB_neg x y]
    · have h' : ¬ b = a := fun e => h e.symm
      simp only [bne_iff_ne, ne_eq, h, h', not_false_eq_true, if_true]
      rcases u8_lt_or h with h1 | h1
      · rw [if_pos h1, if_neg (by intro h2; exact absurd (UInt8.lt_asymm h1 h2) (by simp))]; rfl
      · rw [if_pos h1, if_neg (by intro h2; exact absurd (UInt8.lt_asymm h1 h2) (by simp))]
theorem cmpB_rng : ∀ (a b : List UInt8), cmpB a b = -1 ∨ cmpB a b = 0 ∨ cmpB a b = 1
  | [], [] => by simp [cmpB]
  | [], _ :: _ => by simp [cmpB]
  | _ :: _, [] => by simp [cmpB]
  | a :: x, b :: y => by
    simp only [cmpB]
    by_cases h : a = b
    · subst h; simpa using cmpB_rng x y
    · simp only [bne_iff_ne, ne_eq, h, not_false_eq_true, if_true]; split <;> simp
theorem cmpB_lt_trans : ∀ {a b c : List UInt8}, cmpB a b = -1 → cmpB b c = -1 → cmpB a c = -1
  | [], [], c, h, _ => by simp [cmpB] at h
  | [], _ :: _, [], _, h => by simp [cmpB] at h
  | [], _ :: _, _ :: _, _, _ => by simp [cmpB]
  | _ :: _, [], _, h, _ => by simp [cmpB] at h
  | _ :: _, _ :: _, [], _, h => by simp [cmpB] at h
  | a :: x, b :: y, c :: z, h1, h2 => by
    simp only [cmpB] at h1 h2 ⊢
    by_cases e1 : a = b
    · subst e1
      by_cases e2 : a = c
      · subst e2
        simp only [bne_self_eq_false, Bool.false_eq_true, if_false] at h1 h2 ⊢
        exact cmpB_lt_trans h1 h2
      · simp only [bne_iff_ne, ne_eq, e2, not_false_eq_true, if_true] at h2 ⊢; exact h2
    · simp only [bne_iff_ne, ne_eq, e1, not_false_eq_true, if_true] at h1
      have hab : a < b := by by_cases hh : a < b; exact hh; rw [if_neg hh] at h1; cases h1
      by_cases e2 : b = c
      · subst e2
        simp only [bne_iff_ne, ne_eq, e1, not_false_eq_true, if_true, if_pos hab]
      · simp only [bne_iff_ne, ne_eq, e2, not_false_eq_true, if_true] at h2
        have hbc : b < c := by by_cases hh : b < c; exact hh; rw [if_neg hh] at h2; cases h2
        have hac : a < c := UInt8.lt_trans hab hbc
        have e3 : a ≠ c := UInt8.ne_of_lt hac
        simp only [bne_iff_ne, ne_eq, e3, not_false_eq_true, if_true, if_pos hac]

mutual
def cmpV : V → V → Int
  | .mk k n s ks is, .mk k' n' s' ks' is' =>
    if k = k' then if n = n' then if s = s' then (if cmpVs ks ks' = 0 then cmpVs is is' else cmpVs ks ks') else cmpB s s' else cmpI n n' else cmpI k k'
def cmpVs : List V → List V → Int
  | [], [] => 0
  | [], _ :: _ => -1
  | _ :: _, [] => 1
  | a :: x, b :: y => if cmpV a b = 0 then cmpVs x y else cmpV a b
end

mutual
theorem cmpV_eq : ∀ {a b : V}, cmpV a b = 0 ↔ a = b
  | .mk k n s ks is, .mk k' n' s' ks' is' => by
    simp only [cmpV, V.mk.injEq]
    have h1 := @cmpVs_eq ks ks'; have h2 := @cmpVs_eq is is'
    by_cases e1 : k = k' <;> simp only [e1, if_true, if_false, true_and, false_and, iff_false]
    · by_cases e2 : n = n' <;> simp only [e2, if_true, if_false, true_and, false_and, iff_false]
      · by_cases e3 : s = s' <;> simp only [e3, if_true, if_false, true_and, false_and, iff_false]
        · by_cases e4 : cmpVs ks ks' = 0
          · rw [if_pos e4, h2, ← h1]; simp [e4]
          · simp only [e4, if_false, false_iff]; rintro ⟨h, _⟩; exact e4 (h1.2 h)
        · exact fun h => e3 (cmpB_eq.1 h)
      · exact fun h => e2 (cmpI_eq.1 h)
    · exact fun h => e1 (cmpI_eq.1 h)
theorem cmpVs_eq : ∀ {a b : List V}, cmpVs a b = 0 ↔ a = b
  | [], [] => by simp [cmpVs]
  | [], _ :: _ => by simp [cmpVs]
  | _ :: _, [] => by simp [cmpVs]
  | a :: x, b :: y => by
    have h1 := @cmpV_eq a b; have h2 := @cmpVs_eq x y
    simp only [cmpVs, List.cons.injEq]
    by_cases e : cmpV a b = 0
    · rw [if_pos e, h2, ← h1]; simp [e]
    · simp only [e, if_false, false_iff]; rintro ⟨h, _⟩; exact e (h1.2 h)
end
mutual
theorem cmpV_neg : ∀ (a b : V), cmpV b a = - cmpV a b
  | .mk k n s ks is, .mk k' n' s' ks' is' => by
    simp only [cmpV]
    have h1 := cmpVs_neg ks ks'; have h2 := cmpVs_neg is is'
    by_cases e1 : k = k'
    · subst e1
      by_cases e2 : n = n'
      · subst e2
        by_cases e3 : s = s'
        · subst e3
          simp only [if_true]
          by_cases e4 : cmpVs ks ks' = 0
          · rw [if_pos e4, if_pos (by omega), h2]
          · rw [if_neg e4, if_neg (by omega), h1]
        · simp only [if_true, if_neg e3, if_neg (fun e => e3 (Eq.symm e) : ¬ s' = s), cmpB_neg s s']
      · simp only [if_true, if_neg e2, if_neg (fun e => e2 (Eq.symm e) : ¬ n' = n), cmpI_neg n n']
    · simp only [if_neg e1, if_neg (fun e => e1 (Eq.symm e) : ¬ k' = k), cmpI_neg k k']
theorem cmpVs_neg : ∀ (a b : List V), cmpVs b a = - cmpVs a b
  | [], [] => by simp [cmpVs]
  | [], _ :: _ => by simp [cmpVs]
  | _ :: _, [] => by simp [cmpVs]
  | a :: x, b :: y => by
    have h1 := cmpV_neg a b; have h2 := cmpVs_neg x y
    simp only [cmpVs]
    by_cases e : cmpV a b = 0
    · rw [if_pos e, if_pos (by omega), h2]
    · rw [if_neg e, if_neg (by omega), h1]
end
mutual
theorem cmpV_rng : ∀ (a b : V), cmpV a b = -1 ∨ cmpV a b = 0 ∨ cmpV a b = 1
  | .mk k n s ks is, .mk k' n' s' ks' is' => by
    simp only [cmpV]
    have h1 := cmpVs_rng ks ks'; have h2 := cmpVs_rng is is'
    split
    · split
      · split
        · split
          · exact h2
          · exact h1
        · exact cmpB_rng _ _
      · exact cmpI_rng _ _
    · exact cmpI_rng _ _
theorem cmpVs_rng : ∀ (a b : List V), cmpVs a b = -1 ∨ cmpVs a b = 0 ∨ cmpVs a b = 1
  | [], [] => by simp [cmpVs]
  | [], _ :: _ => by simp [cmpVs]
  | _ :: _, [] => by simp [cmpVs]
  | a :: x, b :: y => by
    have h1 := cmpV_rng a b; have h2 := cmpVs_rng x y
    simp only [cmpVs]
    split
    · exact h2
    · exact h1
end
mutual
theorem cmpV_lt : ∀ {a b c : V}, cmpV a b = -1 → cmpV b c = -1 → cmpV a c = -1
  | .mk k n s ks is, .mk k' n' s' ks' is', .mk k2 n2 s2 ks2 is2 => by
    intro h1 h2
    simp only [cmpV] at h1 h2 ⊢
    have q1 := @cmpVs_lt ks ks' ks2; have q2 := @cmpVs_lt is is' is2
    by_cases e1 : k = k'
    · subst e1; simp only [if_true] at h1
      by_cases f1 : k = k2
      · subst f1; simp only [if_true] at h2 ⊢
        by_cases e2 : n = n'
        · subst e2; simp only [if_true] at h1
          by_cases f2 : n = n2
          · subst f2; simp only [if_true] at h2 ⊢
            by_cases e3 : s = s'
            · subst e3; simp only [if_true] at h1
              by_cases f3 : s = s2
              · subst f3; simp only [if_true] at h2 ⊢
                by_cases e4 : cmpVs ks ks' = 0
                · have := cmpVs_eq.1 e4; subst this
                  rw [if_pos e4] at h1
                  by_cases f4 : cmpVs ks ks2 = 0
                  · rw [if_pos f4] at h2 ⊢; exact q2 h1 h2
                  · rw [if_neg f4] at h2 ⊢; exact h2
                · rw [if_neg e4] at h1
                  by_cases f4 : cmpVs ks' ks2 = 0
                  · have := cmpVs_eq.1 f4; subst this
                    rw [if_neg e4]; exact h1
                  · rw [if_neg f4] at h2
                    have := q1 h1 h2
                    rw [if_neg (by omega)]; exact this
              · rw [if_neg f3] at h2 ⊢; exact h2
            · rw [if_neg e3] at h1
              by_cases f3 : s' = s2
              · subst f3; rw [if_neg e3]; exact h1
              · rw [if_neg f3] at h2
                have := cmpB_lt_trans h1 h2
                rw [if_neg (by rintro rfl; rw [cmpB_eq.2 rfl] at this; cases this)]; exact this
          · rw [if_neg f2] at h2 ⊢; exact h2
        · rw [if_neg e2, cmpI_lt] at h1
          by_cases f2 : n' = n2
          · subst f2; rw [if_neg e2, cmpI_lt]; exact h1
          · rw [if_neg f2, cmpI_lt] at h2; rw [if_neg (by omega), cmpI_lt]; omega
      · rw [if_neg f1] at h2 ⊢; exact h2
    · rw [if_neg e1, cmpI_lt] at h1
      by_cases f1 : k' = k2
      · subst f1; rw [if_neg e1, cmpI_lt]; exact h1
      · rw [if_neg f1, cmpI_lt] at h2; rw [if_neg (by omega), cmpI_lt]; omega
theorem cmpVs_lt : ∀ {a b c : List V}, cmpVs a b = -1 → cmpVs b c = -1 → cmpVs a c = -1
  | [], [], c, h, _ => by simp [cmpVs] at h
  | [], _ :: _, [], _, h => by simp [cmpVs] at h
  | [], _ :: _, _ :: _, _, _ => by simp [cmpVs]
  | _ :: _, [], _, h, _ => by simp [cmpVs] at h
  | _ :: _, _ :: _, [], _, h => by simp [cmpVs] at h
  | a :: x, b :: y, c :: z, h1, h2 => by
    simp only [cmpVs] at h1 h2 ⊢
    have q1 := @cmpV_lt a b c; have q2 := @cmpVs_lt x y z
    by_cases e : cmpV a b = 0
    · have := cmpV_eq.1 e; subst this
      rw [if_pos e] at h1
      by_cases f : cmpV a c = 0
      · rw [if_pos f] at h2 ⊢; exact q2 h1 h2
      · rw [if_neg f] at h2 ⊢; exact h2
    · rw [if_neg e] at h1
      by_cases f : cmpV b c = 0
      · have := cmpV_eq.1 f; subst this
        rw [if_neg e]; exact h1
      · rw [if_neg f] at h2
        have := q1 h1 h2
        rw [if_neg (by omega)]; exact this
end
/-- What ValueOrders asks of three values. -/
theorem cmpV_trans (a b x : V) (h1 : cmpV a b ≤ 0) (h2 : cmpV b x ≤ 0) : cmpV a x ≤ 0 := by
  rcases cmpV_rng a b with e | e | e
  · rcases cmpV_rng b x with f | f | f
    · rw [cmpV_lt e f]; decide
    · rw [← cmpV_eq.1 f]; exact h1
    · omega
  · rw [cmpV_eq.1 e]; exact h2
  · omega
theorem less_cmp : ∀ (a b : List UInt8), Op.bytesLess a b = decide (cmpB a b = -1)
  | [], [] => by simp [Op.bytesLess, cmpB]
  | [], _ :: _ => by simp [Op.bytesLess, cmpB]
  | _ :: _, [] => by simp [Op.bytesLess, cmpB]
  | a :: x, b :: y => by
    simp only [Op.bytesLess, cmpB]
    have := less_cmp x y
    by_cases h : a = b
    · subst h; simp [this]
    · rcases u8_lt_or h with h1 | h1
      · simp [h, h1]
      · have h2 : ¬ a < b := fun h2 => absurd (UInt8.lt_asymm h1 h2) (by simp)
        simp [h, h2]
end Go.Tv

/- Names: a word between blanks is found in the text of all words exactly if it is one of them. -/
namespace Go.Tv
open Go

def bodyW : List (List UInt8) → List UInt8
  | [] => []
  | w :: r => w ++ 32 :: bodyW r

theorem contains_cons (b : UInt8) (l sub : List UInt8) : Lib.contains (b :: l) sub = (sub.isPrefixOf (b :: l) || Lib.contains l sub) := by
  unfold Lib.contains
  rw [Lib.index]
  by_cases h : sub.isPrefixOf (b :: l) = true
  · simp [h]
  · simp only [Bool.not_eq_true] at h
    rw [h]
    rcases Lib.index_spec l sub with ⟨h1, _⟩ | ⟨i, h1, _⟩
    · rw [h1]; simp
    · rw [h1]
      have : ((i : Int) == -1) = false := by rw [beq_eq_false_iff_ne]; omega
      simp [this]
      try omega
theorem contains_nil (sub : List UInt8) : Lib.contains [] (32 :: sub) = false := rfl

theorem skip_word : ∀ (w rest x : List UInt8), (∀ c ∈ w, c ≠ 32) → Lib.contains (w ++ rest) (32 :: x) = Lib.contains rest (32 :: x)
  | [], rest, x, _ => rfl
  | a :: w, rest, x, h => by
    have ha : (32 == a) = false := by rw [beq_eq_false_iff_ne]; exact fun e => h a (by simp) e.symm
    rw [List.cons_append, contains_cons, skip_word w rest x fun c hc => h c (by simp [hc])]
    simp [List.isPrefixOf, ha]

theorem pre_word : ∀ (s w rest : List UInt8), (∀ c ∈ s, c ≠ 32) → (∀ c ∈ w, c ≠ 32) → (s ++ [32]).isPrefixOf (w ++ 32 :: rest) = (s == w)
  | [], [], rest, _, _ => by simp [List.isPrefixOf]
  | [], a :: w, rest, _, h => by
    have ha : (32 == a) = false := by rw [beq_eq_false_iff_ne]; exact fun e => h a (by simp) e.symm
    simp [List.isPrefixOf, ha]
  | c :: s, [], rest, h, _ => by
    have hc : (c == 32) = false := by rw [beq_eq_false_iff_ne]; exact h c (by simp)
    simp [List.isPrefixOf, hc]
  | c :: s, a :: w, rest, h, h2 => by
    have := pre_word s w rest (fun x hx => h x (by simp [hx])) (fun x hx => h2 x (by simp [hx]))
    simp only [List.cons_append, List.isPrefixOf, this]
    rfl

theorem words_in : ∀ (ws : List (List UInt8)) (s : List UInt8), (∀ w ∈ ws, ∀ c ∈ w, c ≠ 32) → (∀ c ∈ s, c ≠ 32) → Lib.contains (32 :: bodyW ws) (32 :: (s ++ [32])) = ws.contains s
  | [], s, _, hs => by
    rw [bodyW, contains_cons, contains_nil]
    cases s <;> simp [List.isPrefixOf]
  | w :: r, s, h, hs => by
    have hw := h w (by simp)
    rw [bodyW, contains_cons, skip_word _ _ _ hw, words_in r s (fun x hx => h x (by simp [hx])) hs]
    have := pre_word s w (bodyW r) hs hw
    simp only [List.isPrefixOf, this, List.contains_cons]
    simp
end Go.Tv

/- Values of chapter 8: their errors, in plain Lean. -/
namespace Go.Tv

def letterB (c : Int) : Bool := decide (97 ≤ c) && decide (c ≤ 122) || decide (65 ≤ c) && decide (c ≤ 90)
def digitB (c : Int) : Bool := decide (48 ≤ c) && decide (c ≤ 57)
def partB (c : Int) : Bool := letterB c || digitB c || decide (c = 95)
def u8i (b : UInt8) : Int := (b.toNat : Int)
/-- All characters are from 32 to 126. -/
def shownB (s : List UInt8) : Bool := s.all fun b => decide (32 ≤ u8i b) && decide (u8i b ≤ 126)
def wordsL : List (List UInt8) := ["ASSUME", "ASSUMPTION", "AXIOM", "BY", "CASE", "CHOOSE", "CONSTANT", "CONSTANTS", "DEF", "DEFINE", "DEFS", "DOMAIN", "ELSE", "ENABLED", "EXCEPT", "EXTENDS", "FALSE", "HAVE", "HIDE", "IF", "IN", "INSTANCE", "LAMBDA", "LEMMA", "LET", "LOCAL", "MODULE", "NEW", "OBVIOUS", "OMITTED", "OTHER", "PICK", "PROOF", "PROPOSITION", "PROVE", "QED", "RECURSIVE", "SUBSET", "SUFFICES", "TAKE", "THEN", "THEOREM", "TRUE", "UNCHANGED", "UNION", "USE", "VARIABLE", "VARIABLES", "WITH", "WITNESS"].map fun s => s.toUTF8.data.toList
def nameB (s : List UInt8) : Bool := decide (1 ≤ s.length) && decide (s.length ≤ 24) && !wordsL.contains s && s.all (fun b => partB (u8i b)) && s.any fun b => letterB (u8i b)

def ascL : List V → Bool
  | [] => true
  | a :: r => (match r with | [] => true | b :: _ => decide (cmpV a b < 0)) && ascL r

/-- The error of a value but for those within it. -/
def ownE (v : V) : Int :=
  if ¬(0 ≤ v.kind ∧ v.kind ≤ 5) then 4
  else if (v.kind ≠ 0 ∧ v.kind ≠ 1 ∧ v.num ≠ 0) ∨ (v.kind ≠ 2 ∧ v.kind ≠ 3 ∧ v.s ≠ []) ∨ (v.kind ≠ 4 ∧ v.kind ≠ 5 ∧ v.items ≠ []) ∨ (v.kind ≠ 5 ∧ v.keys ≠ []) ∨ (v.kind = 0 ∧ ¬(0 ≤ v.num ∧ v.num ≤ 1)) then 5
  else if (v.kind = 1 ∧ ¬(-10000 ≤ v.num ∧ v.num ≤ 10000)) ∨ (v.kind = 2 ∧ 40 < v.s.length) then 3
  else if (v.kind = 2 ∧ shownB v.s = false) ∨ (v.kind = 3 ∧ nameB v.s = false) then 7
  else if v.kind = 5 ∧ v.keys.length ≠ v.items.length then 6
  else 0
/-- The error of the order of members, or keys. -/
def ordE (v : V) : Int := if (v.kind = 4 ∧ ascL v.items = false) ∨ (v.kind = 5 ∧ ascL v.keys = false) then 13 else 0
def topE (o : Bool) (v : V) : Int := if ownE v ≠ 0 then ownE v else if o then ordE v else 0
mutual
/-- The first error of the values within a value. -/
def errV (o : Bool) : V → Int
  | .mk k n s ks is => if topE o (.mk k n s ks is) ≠ 0 then topE o (.mk k n s ks is) else if errL o ks ≠ 0 then errL o ks else errL o is
def errL (o : Bool) : List V → Int
  | [] => 0
  | v :: r => if errV o v ≠ 0 then errV o v else errL o r
end
theorem errV_eq (o : Bool) (v : V) : errV o v = if topE o v ≠ 0 then topE o v else if errL o v.keys ≠ 0 then errL o v.keys else errL o v.items := by
  cases v; rw [errV]; rfl
/-- Err of the reference. -/
def chkE (v : V) : Int := if v.small 300 8 then errV true v else 2
end Go.Tv
