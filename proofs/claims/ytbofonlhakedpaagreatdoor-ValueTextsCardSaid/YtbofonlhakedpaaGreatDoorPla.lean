/-
  Values of chapter 8 as trees: their order, names, errors, in plain Lean.
-/
import Derived.Test.YtbofonlhakedpaaGreatDoorTvd
import Derived.Lib.IndexMore
namespace Go.Tv
def cmpB : List UInt8 -> List UInt8 -> Int
  | [], [] => 0
  | [], _ :: _ => -1
  | _ :: _, [] => 1
  | a :: x, b :: y => if a != b then (if a < b then -1 else 1) else cmpB x y
def cmpL (a b : List UInt8) : Int :=
  match (List.range (min a.length b.length)).find? fun i => a.getD i 0 != b.getD i 0 with
  | some i => if a.getD i 0 < b.getD i 0 then -1 else 1
  | none => if a.length < b.length then -1 else if a.length > b.length then 1 else 0
theorem cmpL_eq : ∀ a b, cmpL a b = cmpB a b
  | [], [] => rfl
  | [], _ :: _ => by simp [cmpL, cmpB]
  | _ :: _, [] => by simp [cmpL, cmpB]
  | a :: x, b :: y => by
    have ih := cmpL_eq x y
    simp only [cmpL, cmpB, List.length_cons, Nat.add_min_add_right, List.range_succ_eq_map, List.find?_cons, List.getD_cons_zero] at ih ⊢
    cases h : (a != b) with
    | true => simp
    | false =>
      simp only [List.find?_map, Function.comp_def, List.getD_cons_succ]
      rw [<- ih]
      cases (List.range (min x.length y.length)).find? fun i => x.getD i 0 != y.getD i 0 with
      | none => simp
      | some i => simp
theorem ba_get (a : ByteArray) (i : Nat) : a[i]! = a.data.toList.getD i 0 := by
  by_cases h : i < a.size
  . have h' : i < a.data.size := h
    rw [getElem!_pos a i h]
    simp [List.getD_eq_getElem?_getD, Array.getElem?_eq_getElem h']
    rfl
  . have h' : ¬ i < a.data.size := h
    rw [getElem!_neg a i h]
    simp [List.getD_eq_getElem?_getD, Array.getElem?_eq_none (Nat.le_of_not_lt h')]
    rfl
theorem cmp_eq (a b : ByteArray) : Extern.BytealgCompare.cmp a b = cmpB a.data.toList b.data.toList := by
  rw [<- cmpL_eq]
  have h1 : a.data.toList.length = a.size := Array.length_toList
  have h2 : b.data.toList.length = b.size := Array.length_toList
  simp only [Extern.BytealgCompare.cmp, cmpL, ba_get, h1, h2]
  cases List.find? (fun i => a.data.toList.getD i 0 != b.data.toList.getD i 0) (List.range (min a.size b.size)) <;> rfl
end Go.Tv
namespace Go.Tv
inductive V where
  | mk (kind n : Int) (s : List UInt8) (keys items : List V)
mutual
def V.av : V -> AV
  | .mk k n s ks is => .agg [.int .i64 k, .int .i64 n, .str s, .list (avs ks) none, .list (avs is) none]
def avs : List V -> List AV
  | [] => []
  | v :: r => v.av :: avs r
end
mutual
theorem erase_av : ∀ v : V, v.av.erase = v.av
  | .mk k n s ks is => by simp [V.av, AV.erase, eraseL, erase_avs ks, erase_avs is]
theorem erase_avs : ∀ l : List V, eraseL (avs l) = avs l
  | [] => rfl
  | v :: r => by simp [avs, eraseL, erase_av v, erase_avs r]
end
mutual
theorem tree_av : ∀ v : V, v.av.tree = true
  | .mk k n s ks is => by simp [V.av, AV.tree, treeL, tree_avs ks, tree_avs is]
theorem tree_avs : ∀ l : List V, treeL (avs l) = true
  | [] => rfl
  | v :: r => by simp [avs, treeL, tree_av v, tree_avs r]
end
theorem avs_map : ∀ l : List V, avs l = l.map V.av
  | [] => rfl
  | v :: r => by simp [avs, avs_map r]
theorem avs_len (l : List V) : (avs l).length = l.length := by rw [avs_map]; simp
theorem av_cells (v : V) : v.av.cells.length = 5 := by cases v; simp [V.av, AV.cells]
theorem avs_cells (l : List V) : (avs l).all (fun v => decide (v.cells.length = 5)) = true := by
  rw [avs_map]; simp [av_cells]
theorem idx_nat (k : IntKind) (i n : Nat) : idx (.int k (i : Int)) n = if i < n then some i else none := by
  simp only [idx]
  by_cases h : i < n
  . rw [if_pos (by omega), if_pos h]; simp
  . rw [if_neg (by omega), if_neg h]
theorem wrap_nat {i : Int} (h0 : -9223372036854775808 ≤ i) (h : i ≤ 9223372036854775807) : IntKind.i64.wrap i = i := by rw [IntKind.wrap_i64]; omega
end Go.Tv
namespace Go.Tv
def V.kind : V -> Int | .mk k _ _ _ _ => k
def V.num : V -> Int | .mk _ n _ _ _ => n
def V.s : V -> List UInt8 | .mk _ _ s _ _ => s
def V.keys : V -> List V | .mk _ _ _ ks _ => ks
def V.items : V -> List V | .mk _ _ _ _ is => is
theorem V.av_eq (v : V) : v.av = .agg [.int .i64 v.kind, .int .i64 v.num, .str v.s, .list (avs v.keys) none, .list (avs v.items) none] := by cases v; rfl
theorem V.eta (v : V) : V.mk v.kind v.num v.s v.keys v.items = v := by cases v; rfl
mutual
theorem V.ind {P : V -> Prop} (h : ∀ v : V, (∀ x ∈ v.keys, P x) -> (∀ x ∈ v.items, P x) -> P v) : ∀ v : V, P v
  | .mk _k _n _s ks is => h _ (V.inds h ks) (V.inds h is)
theorem V.inds {P : V -> Prop} (h : ∀ v : V, (∀ x ∈ v.keys, P x) -> (∀ x ∈ v.items, P x) -> P v) : ∀ l : List V, ∀ v ∈ l, P v
  | [] => fun v hv => by simp at hv
  | a :: r => fun v hv => by
    rcases List.mem_cons.1 hv with e | hv
    . exact e ▸ V.ind h a
    . exact V.inds h r v hv
end
mutual
def V.cnt : V -> Nat
  | .mk _ _ _ ks is => 1 + cnts ks + cnts is
def cnts : List V -> Nat
  | [] => 0
  | v :: r => v.cnt + cnts r
end
mutual
def V.dep : V -> Nat
  | .mk _ _ _ ks is => 1 + max (deps ks) (deps is)
def deps : List V -> Nat
  | [] => 0
  | v :: r => max v.dep (deps r)
end
theorem V.cnt_eq (v : V) : v.cnt = 1 + cnts v.keys + cnts v.items := by cases v; rfl
theorem V.dep_eq (v : V) : v.dep = 1 + max (deps v.keys) (deps v.items) := by cases v; rfl
theorem cnts_append : ∀ (a b : List V), cnts (a ++ b) = cnts a + cnts b
  | [], b => by simp [cnts]
  | v :: r, b => by simp only [List.cons_append, cnts, cnts_append r b]; omega
theorem deps_append : ∀ (a b : List V), deps (a ++ b) = max (deps a) (deps b)
  | [], b => by simp [deps]
  | v :: r, b => by simp only [List.cons_append, deps, deps_append r b]; omega
mutual
theorem dep_cnt : ∀ v : V, v.dep ≤ v.cnt
  | .mk _ _ _ ks is => by have := deps_cnts ks; have := deps_cnts is; simp only [V.dep, V.cnt]; omega
theorem deps_cnts : ∀ l : List V, deps l ≤ cnts l
  | [] => by simp [deps]
  | v :: r => by have := dep_cnt v; have := deps_cnts r; simp only [deps, cnts]; omega
end
theorem cnt_pos (v : V) : 1 ≤ v.cnt := by rw [V.cnt_eq]; omega
theorem len_cnts : ∀ l : List V, l.length ≤ cnts l
  | [] => by simp
  | v :: r => by have := cnt_pos v; have := len_cnts r; simp only [List.length_cons, cnts]; omega
theorem take_succ {α : Type} (l : List α) (i : Nat) (h : i < l.length) : l.take (i + 1) = l.take i ++ [l[i]] := by
  rw [List.take_add_one, List.getElem?_eq_getElem h]; rfl
theorem cnts_take (l : List V) (i : Nat) (h : i < l.length) : cnts (l.take (i + 1)) = cnts (l.take i) + l[i].cnt := by
  rw [take_succ l i h, cnts_append]; simp [cnts]
theorem deps_take (l : List V) (i : Nat) (h : i < l.length) : deps (l.take (i + 1)) = max (deps (l.take i)) l[i].dep := by
  rw [take_succ l i h, deps_append]; simp [deps]
theorem cnts_take_le (l : List V) (i : Nat) : cnts (l.take i) ≤ cnts l := by
  have := cnts_append (l.take i) (l.drop i); rw [List.take_append_drop] at this; omega
theorem cnt_mem {l : List V} {v : V} (h : v ∈ l) : v.cnt ≤ cnts l := by
  induction l with
  | nil => simp at h
  | cons a r ih =>
    simp only [cnts]
    rcases List.mem_cons.1 h with e | h
    . subst e; omega
    . have := ih h; omega
theorem cnt_keys (v : V) : cnts v.keys < v.cnt := by rw [V.cnt_eq]; omega
theorem cnt_items (v : V) : cnts v.items < v.cnt := by rw [V.cnt_eq]; omega
def szF (c : Nat) (most : Int) : Int := if (c : Int) ≤ most then c else max 0 (most + 1)
mutual
def fitV : V -> Int -> Int -> Bool × Int
  | .mk _ _ _ ks is, d, l => if d < 1 \/ l - 1 < 0 then (false, l - 1) else if (fitL ks (d - 1) (l - 1)).1 then fitL is (d - 1) (fitL ks (d - 1) (l - 1)).2 else fitL ks (d - 1) (l - 1)
def fitL : List V -> Int -> Int -> Bool × Int
  | [], _d, l => (true, l)
  | v :: r, d, l => if (fitV v d l).1 then fitL r d (fitV v d l).2 else fitV v d l
end
mutual
theorem fitV_rng : ∀ (v : V) (d l : Int), 0 ≤ l -> -1 ≤ (fitV v d l).2 /\ (fitV v d l).2 ≤ l /\ ((fitV v d l).1 = true -> 0 ≤ (fitV v d l).2)
  | .mk _ _ _ ks is, d, l, h => by
    simp only [fitV]
    split
    . simp only []; refine ⟨by omega, by omega, fun h => by cases h⟩
    . rename_i hc
      have h1 := fitL_rng ks (d - 1) (l - 1) (by omega)
      split
      . rename_i e
        have h2 := fitL_rng is (d - 1) (fitL ks (d - 1) (l - 1)).2 (h1.2.2 e)
        exact ⟨h2.1, by omega, h2.2.2⟩
      . exact ⟨h1.1, by omega, h1.2.2⟩
theorem fitL_rng : ∀ (v : List V) (d l : Int), 0 ≤ l -> -1 ≤ (fitL v d l).2 /\ (fitL v d l).2 ≤ l /\ ((fitL v d l).1 = true -> 0 ≤ (fitL v d l).2)
  | [], d, l, h => by simp only [fitL]; exact ⟨by omega, by omega, fun _ => h⟩
  | v :: r, d, l, h => by
    simp only [fitL]
    have h1 := fitV_rng v d l h
    split
    . rename_i e
      have h2 := fitL_rng r d _ (h1.2.2 e)
      exact ⟨h2.1, by omega, h2.2.2⟩
    . exact h1
end
mutual
theorem fitV_iff : ∀ (v : V) (d l : Int), 0 ≤ l -> ((fitV v d l).1 = true ↔ (v.cnt : Int) ≤ l /\ (v.dep : Int) ≤ d) /\ ((fitV v d l).1 = true -> (fitV v d l).2 = l - v.cnt)
  | .mk _ _ _ ks is, d, l, h => by
    simp only [fitV, V.cnt, V.dep]
    split
    . refine ⟨⟨fun h => absurd h (by simp), fun h => ?_⟩, fun h => absurd h (by simp)⟩
      omega
    . rename_i hc
      have h1 := fitL_iff ks (d - 1) (l - 1) (by omega) (by omega)
      split
      . rename_i e
        have h3 := h1.1.1 e; have h4 := h1.2 e
        have h2 := fitL_iff is (d - 1) (fitL ks (d - 1) (l - 1)).2 (by omega) (by omega)
        refine ⟨?_, fun e2 => by have := h2.2 e2; omega⟩
        rw [h2.1]; omega
      . rename_i e
        refine ⟨⟨fun e2 => absurd e2 e, fun e2 => absurd (h1.1.2 (by omega)) e⟩, fun e2 => absurd e2 e⟩
theorem fitL_iff : ∀ (v : List V) (d l : Int), 0 ≤ l -> 0 ≤ d -> ((fitL v d l).1 = true ↔ (cnts v : Int) ≤ l /\ (deps v : Int) ≤ d) /\ ((fitL v d l).1 = true -> (fitL v d l).2 = l - cnts v)
  | [], d, l, h, hd => by simp only [fitL, cnts, deps]; exact ⟨⟨fun _ => by omega, fun _ => trivial⟩, fun _ => by omega⟩
  | v :: r, d, l, h, hd => by
    simp only [fitL, cnts, deps]
    have h1 := fitV_iff v d l h
    split
    . rename_i e
      have h3 := h1.1.1 e; have h4 := h1.2 e
      have h2 := fitL_iff r d (fitV v d l).2 (by omega) hd
      refine ⟨?_, fun e2 => by have := h2.2 e2; omega⟩
      rw [h2.1]; omega
    . rename_i e
      refine ⟨⟨fun e2 => absurd e2 e, fun e2 => absurd (h1.1.2 (by omega)) e⟩, fun e2 => absurd e2 e⟩
end
def V.small (most deep : Nat) (v : V) : Bool := decide (v.cnt ≤ most) && decide (v.dep ≤ deep)
theorem fit_small (v : V) (d l : Nat) : (fitV v d l).1 = v.small l d := by
  have h := (fitV_iff v d l (by omega)).1
  rw [Bool.eq_iff_iff, h]; simp [V.small]
mutual
def V.str : V -> Prop
  | .mk _ _ s ks is => s.length ≤ 9223372036854775807 /\ strs' ks /\ strs' is
def strs' : List V -> Prop
  | [] => True
  | v :: r => v.str /\ strs' r
end
theorem V.str_eq (v : V) : v.str ↔ v.s.length ≤ 9223372036854775807 /\ strs' v.keys /\ strs' v.items := by cases v; rfl
theorem str_mem : ∀ {l : List V}, strs' l -> ∀ v ∈ l, v.str
  | [], _, v, h => by simp at h
  | a :: r, hl, v, h => by
    rcases List.mem_cons.1 h with e | h
    . subst e; exact hl.1
    . exact str_mem hl.2 v h
end Go.Tv
namespace Go.Tv
def cmpI (a b : Int) : Int := if a < b then -1 else if a = b then 0 else 1
theorem cmpI_eq {a b : Int} : cmpI a b = 0 ↔ a = b := by
  unfold cmpI
  by_cases h : a < b
  . rw [if_pos h]; omega
  . rw [if_neg h]; by_cases h2 : a = b
    . rw [if_pos h2]; omega
    . rw [if_neg h2]; omega
theorem cmpI_neg (a b : Int) : cmpI b a = - cmpI a b := by unfold cmpI; split <;> split <;> (try split) <;> (try split) <;> omega
theorem cmpI_rng (a b : Int) : cmpI a b = -1 \/ cmpI a b = 0 \/ cmpI a b = 1 := by
  unfold cmpI
  by_cases h : a < b
  . simp [h]
  . by_cases h2 : a = b <;> simp [h, h2]
theorem cmpI_lt {a b : Int} : cmpI a b = -1 ↔ a < b := by
  unfold cmpI
  by_cases h : a < b
  . simp [h]
  . by_cases h2 : a = b
    . rw [if_neg h, if_pos h2]; omega
    . rw [if_neg h, if_neg h2]; omega
theorem u8_lt_or {a b : UInt8} (h : a ≠ b) : a < b \/ b < a := by
  rcases Nat.lt_or_ge a.toNat b.toNat with h1 | h1
  . exact Or.inl h1
  . refine Or.inr ?_
    have : a.toNat ≠ b.toNat := fun e => h (UInt8.toNat_inj.1 e)
    exact (by omega : b.toNat < a.toNat)
theorem cmpB_eq : ∀ {a b : List UInt8}, cmpB a b = 0 ↔ a = b
  | [], [] => by simp [cmpB]
  | [], _ :: _ => by simp [cmpB]
  | _ :: _, [] => by simp [cmpB]
  | a :: x, b :: y => by
    simp only [cmpB]
    by_cases h : a = b
    . subst h; simp [cmpB_eq]
    . simp [h]; split <;> simp
theorem cmpB_neg : ∀ (a b : List UInt8), cmpB b a = - cmpB a b
  | [], [] => by simp [cmpB]
  | [], _ :: _ => by simp [cmpB]
  | _ :: _, [] => by simp [cmpB]
  | a :: x, b :: y => by
    simp only [cmpB]
    by_cases h : a = b
    . subst h; simp [cmpB_neg x y]
    . have h' : ¬ b = a := fun e => h e.symm
      simp only [bne_iff_ne, ne_eq, h, h', not_false_eq_true, if_true]
      rcases u8_lt_or h with h1 | h1
      . rw [if_pos h1, if_neg (by intro h2; exact absurd (UInt8.lt_asymm h1 h2) (by simp))]; rfl
      . rw [if_pos h1, if_neg (by intro h2; exact absurd (UInt8.lt_asymm h1 h2) (by simp))]
theorem cmpB_rng : ∀ (a b : List UInt8), cmpB a b = -1 \/ cmpB a b = 0 \/ cmpB a b = 1
  | [], [] => by simp [cmpB]
  | [], _ :: _ => by simp [cmpB]
  | _ :: _, [] => by simp [cmpB]
  | a :: x, b :: y => by
    simp only [cmpB]
    by_cases h : a = b
    . subst h; simpa using cmpB_rng x y
    . simp only [bne_iff_ne, ne_eq, h, not_false_eq_true, if_true]; split <;> simp
theorem cmpB_lt_trans : ∀ {a b c : List UInt8}, cmpB a b = -1 -> cmpB b c = -1 -> cmpB a c = -1
  | [], [], c, h, _ => by simp [cmpB] at h
  | [], _ :: _, [], _, h => by simp [cmpB] at h
  | [], _ :: _, _ :: _, _, _ => by simp [cmpB]
  | _ :: _, [], _, h, _ => by simp [cmpB] at h
  | _ :: _, _ :: _, [], _, h => by simp [cmpB] at h
  | a :: x, b :: y, c :: z, h1, h2 => by
    simp only [cmpB] at h1 h2 ⊢
    by_cases e1 : a = b
    . subst e1
      by_cases e2 : a = c
      . subst e2
        simp only [bne_self_eq_false, Bool.false_eq_true, if_false] at h1 h2 ⊢
        exact cmpB_lt_trans h1 h2
      . simp only [bne_iff_ne, ne_eq, e2, not_false_eq_true, if_true] at h2 ⊢; exact h2
    . simp only [bne_iff_ne, ne_eq, e1, not_false_eq_true, if_true] at h1
      have hab : a < b := by by_cases hh : a < b; exact hh; rw [if_neg hh] at h1; cases h1
      by_cases e2 : b = c
      . subst e2
        simp only [bne_iff_ne, ne_eq, e1, not_false_eq_true, if_true, if_pos hab]
      . simp only [bne_iff_ne, ne_eq, e2, not_false_eq_true, if_true] at h2
        have hbc : b < c := by by_cases hh : b < c; exact hh; rw [if_neg hh] at h2; cases h2
        have hac : a < c := UInt8.lt_trans hab hbc
        have e3 : a ≠ c := UInt8.ne_of_lt hac
        simp only [bne_iff_ne, ne_eq, e3, not_false_eq_true, if_true, if_pos hac]
mutual
def cmpV : V -> V -> Int
  | .mk k n s ks is, .mk k' n' s' ks' is' =>
    if k = k' then if n = n' then if s = s' then (if cmpVs ks ks' = 0 then cmpVs is is' else cmpVs ks ks') else cmpB s s' else cmpI n n' else cmpI k k'
def cmpVs : List V -> List V -> Int
  | [], [] => 0
  | [], _ :: _ => -1
  | _ :: _, [] => 1
  | a :: x, b :: y => if cmpV a b = 0 then cmpVs x y else cmpV a b
end
mutual
theorem cmpV_eq : ∀ {a b : V}, cmpV a b = 0 ↔ a = b
  | .mk k n s ks is, .mk k' n' s' ks' is' => by
    simp only [cmpV, V.mk.injEq]
    have h1 := @cmpVs_eq ks ks'; have h2 := @cmpVs_eq is is'
    by_cases e1 : k = k' <;> simp only [e1, if_true, if_false, true_and, false_and, iff_false]
    . by_cases e2 : n = n' <;> simp only [e2, if_true, if_false, true_and, false_and, iff_false]
      . by_cases e3 : s = s' <;> simp only [e3, if_true, if_false, true_and, false_and, iff_false]
        . by_cases e4 : cmpVs ks ks' = 0
          . rw [if_pos e4, h2, <- h1]; simp [e4]
          . simp only [e4, if_false, false_iff]; rintro ⟨h, _⟩; exact e4 (h1.2 h)
        . exact fun h => e3 (cmpB_eq.1 h)
      . exact fun h => e2 (cmpI_eq.1 h)
    . exact fun h => e1 (cmpI_eq.1 h)
theorem cmpVs_eq : ∀ {a b : List V}, cmpVs a b = 0 ↔ a = b
  | [], [] => by simp [cmpVs]
  | [], _ :: _ => by simp [cmpVs]
  | _ :: _, [] => by simp [cmpVs]
  | a :: x, b :: y => by
    have h1 := @cmpV_eq a b; have h2 := @cmpVs_eq x y
    simp only [cmpVs, List.cons.injEq]
    by_cases e : cmpV a b = 0
    . rw [if_pos e, h2, <- h1]; simp [e]
    . simp only [e, if_false, false_iff]; rintro ⟨h, _⟩; exact e (h1.2 h)
end
mutual
theorem cmpV_neg : ∀ (a b : V), cmpV b a = - cmpV a b
  | .mk k n s ks is, .mk k' n' s' ks' is' => by
    simp only [cmpV]
    have h1 := cmpVs_neg ks ks'; have h2 := cmpVs_neg is is'
    by_cases e1 : k = k'
    . subst e1
      by_cases e2 : n = n'
      . subst e2
        by_cases e3 : s = s'
        . subst e3
          simp only [if_true]
          by_cases e4 : cmpVs ks ks' = 0
          . rw [if_pos e4, if_pos (by omega), h2]
          . rw [if_neg e4, if_neg (by omega), h1]
        . simp only [if_true, if_neg e3, if_neg (fun e => e3 (Eq.symm e) : ¬ s' = s), cmpB_neg s s']
      . simp only [if_true, if_neg e2, if_neg (fun e => e2 (Eq.symm e) : ¬ n' = n), cmpI_neg n n']
    . simp only [if_neg e1, if_neg (fun e => e1 (Eq.symm e) : ¬ k' = k), cmpI_neg k k']
theorem cmpVs_neg : ∀ (a b : List V), cmpVs b a = - cmpVs a b
  | [], [] => by simp [cmpVs]
  | [], _ :: _ => by simp [cmpVs]
  | _ :: _, [] => by simp [cmpVs]
  | a :: x, b :: y => by
    have h1 := cmpV_neg a b; have h2 := cmpVs_neg x y
    simp only [cmpVs]
    by_cases e : cmpV a b = 0
    . rw [if_pos e, if_pos (by omega), h2]
    . rw [if_neg e, if_neg (by omega), h1]
end
mutual
theorem cmpV_rng : ∀ (a b : V), cmpV a b = -1 \/ cmpV a b = 0 \/ cmpV a b = 1
  | .mk k n s ks is, .mk k' n' s' ks' is' => by
    simp only [cmpV]
    have h1 := cmpVs_rng ks ks'; have h2 := cmpVs_rng is is'
    split
    . split
      . split
        . split
          . exact h2
          . exact h1
        . exact cmpB_rng _ _
      . exact cmpI_rng _ _
    . exact cmpI_rng _ _
theorem cmpVs_rng : ∀ (a b : List V), cmpVs a b = -1 \/ cmpVs a b = 0 \/ cmpVs a b = 1
  | [], [] => by simp [cmpVs]
  | [], _ :: _ => by simp [cmpVs]
  | _ :: _, [] => by simp [cmpVs]
  | a :: x, b :: y => by
    have h1 := cmpV_rng a b; have h2 := cmpVs_rng x y
    simp only [cmpVs]
    split
    . exact h2
    . exact h1
end
mutual
theorem cmpV_lt : ∀ {a b c : V}, cmpV a b = -1 -> cmpV b c = -1 -> cmpV a c = -1
  | .mk k n s ks is, .mk k' n' s' ks' is', .mk k2 n2 s2 ks2 is2 => by
    intro h1 h2
    simp only [cmpV] at h1 h2 ⊢
    have q1 := @cmpVs_lt ks ks' ks2; have q2 := @cmpVs_lt is is' is2
    by_cases e1 : k = k'
    . subst e1; simp only [if_true] at h1
      by_cases f1 : k = k2
      . subst f1; simp only [if_true] at h2 ⊢
        by_cases e2 : n = n'
        . subst e2; simp only [if_true] at h1
          by_cases f2 : n = n2
          . subst f2; simp only [if_true] at h2 ⊢
            by_cases e3 : s = s'
            . subst e3; simp only [if_true] at h1
              by_cases f3 : s = s2
              . subst f3; simp only [if_true] at h2 ⊢
                by_cases e4 : cmpVs ks ks' = 0
                . have := cmpVs_eq.1 e4; subst this
                  rw [if_pos e4] at h1
                  by_cases f4 : cmpVs ks ks2 = 0
                  . rw [if_pos f4] at h2 ⊢; exact q2 h1 h2
                  . rw [if_neg f4] at h2 ⊢; exact h2
                . rw [if_neg e4] at h1
                  by_cases f4 : cmpVs ks' ks2 = 0
                  . have := cmpVs_eq.1 f4; subst this
                    rw [if_neg e4]; exact h1
                  . rw [if_neg f4] at h2
                    have := q1 h1 h2
                    rw [if_neg (by omega)]; exact this
              . rw [if_neg f3] at h2 ⊢; exact h2
            . rw [if_neg e3] at h1
              by_cases f3 : s' = s2
              . subst f3; rw [if_neg e3]; exact h1
              . rw [if_neg f3] at h2
                have := cmpB_lt_trans h1 h2
                rw [if_neg (by rintro rfl; rw [cmpB_eq.2 rfl] at this; cases this)]; exact this
          . rw [if_neg f2] at h2 ⊢; exact h2
        . rw [if_neg e2, cmpI_lt] at h1
          by_cases f2 : n' = n2
          . subst f2; rw [if_neg e2, cmpI_lt]; exact h1
          . rw [if_neg f2, cmpI_lt] at h2; rw [if_neg (by omega), cmpI_lt]; omega
      . rw [if_neg f1] at h2 ⊢; exact h2
    . rw [if_neg e1, cmpI_lt] at h1
      by_cases f1 : k' = k2
      . subst f1; rw [if_neg e1, cmpI_lt]; exact h1
      . rw [if_neg f1, cmpI_lt] at h2; rw [if_neg (by omega), cmpI_lt]; omega
theorem cmpVs_lt : ∀ {a b c : List V}, cmpVs a b = -1 -> cmpVs b c = -1 -> cmpVs a c = -1
  | [], [], c, h, _ => by simp [cmpVs] at h
  | [], _ :: _, [], _, h => by simp [cmpVs] at h
  | [], _ :: _, _ :: _, _, _ => by simp [cmpVs]
  | _ :: _, [], _, h, _ => by simp [cmpVs] at h
  | _ :: _, _ :: _, [], _, h => by simp [cmpVs] at h
  | a :: x, b :: y, c :: z, h1, h2 => by
    simp only [cmpVs] at h1 h2 ⊢
    have q1 := @cmpV_lt a b c; have q2 := @cmpVs_lt x y z
    by_cases e : cmpV a b = 0
    . have := cmpV_eq.1 e; subst this
      rw [if_pos e] at h1
      by_cases f : cmpV a c = 0
      . rw [if_pos f] at h2 ⊢; exact q2 h1 h2
      . rw [if_neg f] at h2 ⊢; exact h2
    . rw [if_neg e] at h1
      by_cases f : cmpV b c = 0
      . have := cmpV_eq.1 f; subst this
        rw [if_neg e]; exact h1
      . rw [if_neg f] at h2
        have := q1 h1 h2
        rw [if_neg (by omega)]; exact this
end
theorem cmpV_trans (a b x : V) (h1 : cmpV a b ≤ 0) (h2 : cmpV b x ≤ 0) : cmpV a x ≤ 0 := by
  rcases cmpV_rng a b with e | e | e
  . rcases cmpV_rng b x with f | f | f
    . rw [cmpV_lt e f]; decide
    . rw [<- cmpV_eq.1 f]; exact h1
    . omega
  . rw [cmpV_eq.1 e]; exact h2
  . omega
theorem less_cmp : ∀ (a b : List UInt8), Op.bytesLess a b = decide (cmpB a b = -1)
  | [], [] => by simp [Op.bytesLess, cmpB]
  | [], _ :: _ => by simp [Op.bytesLess, cmpB]
  | _ :: _, [] => by simp [Op.bytesLess, cmpB]
  | a :: x, b :: y => by
    simp only [Op.bytesLess, cmpB]
    have := less_cmp x y
    by_cases h : a = b
    . subst h; simp [this]
    . rcases u8_lt_or h with h1 | h1
      . simp [h, h1]
      . have h2 : ¬ a < b := fun h2 => absurd (UInt8.lt_asymm h1 h2) (by simp)
        simp [h, h2]
end Go.Tv
namespace Go.Tv
open Go
def bodyW : List (List UInt8) -> List UInt8
  | [] => []
  | w :: r => w ++ 32 :: bodyW r
theorem contains_cons (b : UInt8) (l sub : List UInt8) : Lib.contains (b :: l) sub = (sub.isPrefixOf (b :: l) || Lib.contains l sub) := by
  unfold Lib.contains
  rw [Lib.index]
  by_cases h : sub.isPrefixOf (b :: l) = true
  . simp [h]
  . simp only [Bool.not_eq_true] at h
    rw [h]
    rcases Lib.index_spec l sub with ⟨h1, _⟩ | ⟨i, h1, _⟩
    . rw [h1]; simp
    . rw [h1]
      have : ((i : Int) == -1) = false := by rw [beq_eq_false_iff_ne]; omega
      simp [this]
      try omega
theorem contains_nil (sub : List UInt8) : Lib.contains [] (32 :: sub) = false := rfl
theorem skip_word : ∀ (w rest x : List UInt8), (∀ c ∈ w, c ≠ 32) -> Lib.contains (w ++ rest) (32 :: x) = Lib.contains rest (32 :: x)
  | [], rest, x, _ => rfl
  | a :: w, rest, x, h => by
    have ha : (32 == a) = false := by rw [beq_eq_false_iff_ne]; exact fun e => h a (by simp) e.symm
    rw [List.cons_append, contains_cons, skip_word w rest x fun c hc => h c (by simp [hc])]
    simp [List.isPrefixOf, ha]
theorem pre_word : ∀ (s w rest : List UInt8), (∀ c ∈ s, c ≠ 32) -> (∀ c ∈ w, c ≠ 32) -> (s ++ [32]).isPrefixOf (w ++ 32 :: rest) = (s == w)
  | [], [], rest, _, _ => by simp [List.isPrefixOf]
  | [], a :: w, rest, _, h => by
    have ha : (32 == a) = false := by rw [beq_eq_false_iff_ne]; exact fun e => h a (by simp) e.symm
    simp [List.isPrefixOf, ha]
  | c :: s, [], rest, h, _ => by
    have hc : (c == 32) = false := by rw [beq_eq_false_iff_ne]; exact h c (by simp)
    simp [List.isPrefixOf, hc]
  | c :: s, a :: w, rest, h, h2 => by
    have := pre_word s w rest (fun x hx => h x (by simp [hx])) (fun x hx => h2 x (by simp [hx]))
    simp only [List.cons_append, List.isPrefixOf, this]
    rfl
theorem words_in : ∀ (ws : List (List UInt8)) (s : List UInt8), (∀ w ∈ ws, ∀ c ∈ w, c ≠ 32) -> (∀ c ∈ s, c ≠ 32) -> Lib.contains (32 :: bodyW ws) (32 :: (s ++ [32])) = ws.contains s
  | [], s, _, hs => by
    rw [bodyW, contains_cons, contains_nil]
    cases s <;> simp [List.isPrefixOf]
  | w :: r, s, h, hs => by
    have hw := h w (by simp)
    rw [bodyW, contains_cons, skip_word _ _ _ hw, words_in r s (fun x hx => h x (by simp [hx])) hs]
    have := pre_word s w (bodyW r) hs hw
    simp only [List.isPrefixOf, this, List.contains_cons]
    simp
end Go.Tv
namespace Go.Tv
def letterB (c : Int) : Bool := decide (97 ≤ c) && decide (c ≤ 122) || decide (65 ≤ c) && decide (c ≤ 90)
def digitB (c : Int) : Bool := decide (48 ≤ c) && decide (c ≤ 57)
def partB (c : Int) : Bool := letterB c || digitB c || decide (c = 95)
def u8i (b : UInt8) : Int := (b.toNat : Int)
def shownB (s : List UInt8) : Bool := s.all fun b => decide (32 ≤ u8i b) && decide (u8i b ≤ 126)
def wordsL : List (List UInt8) := ["ASSUME", "ASSUMPTION", "AXIOM", "BY", "CASE", "CHOOSE", "CONSTANT", "CONSTANTS", "DEF", "DEFINE", "DEFS", "DOMAIN", "ELSE", "ENABLED", "EXCEPT", "EXTENDS", "FALSE", "HAVE", "HIDE", "IF", "IN", "INSTANCE", "LAMBDA", "LEMMA", "LET", "LOCAL", "MODULE", "NEW", "OBVIOUS", "OMITTED", "OTHER", "PICK", "PROOF", "PROPOSITION", "PROVE", "QED", "RECURSIVE", "SUBSET", "SUFFICES", "TAKE", "THEN", "THEOREM", "TRUE", "UNCHANGED", "UNION", "USE", "VARIABLE", "VARIABLES", "WITH", "WITNESS"].map fun s => s.toUTF8.data.toList
def nameB (s : List UInt8) : Bool := decide (1 ≤ s.length) && decide (s.length ≤ 24) && !wordsL.contains s && s.all (fun b => partB (u8i b)) && s.any fun b => letterB (u8i b)
def ascL : List V -> Bool
  | [] => true
  | a :: r => (match r with | [] => true | b :: _ => decide (cmpV a b < 0)) && ascL r
def ownE (v : V) : Int :=
  if ¬(0 ≤ v.kind /\ v.kind ≤ 5) then 4
  else if (v.kind ≠ 0 /\ v.kind ≠ 1 /\ v.num ≠ 0) \/ (v.kind ≠ 2 /\ v.kind ≠ 3 /\ v.s ≠ []) \/ (v.kind ≠ 4 /\ v.kind ≠ 5 /\ v.items ≠ []) \/ (v.kind ≠ 5 /\ v.keys ≠ []) \/ (v.kind = 0 /\ ¬(0 ≤ v.num /\ v.num ≤ 1)) then 5
  else if (v.kind = 1 /\ ¬(-10000 ≤ v.num /\ v.num ≤ 10000)) \/ (v.kind = 2 /\ 40 < v.s.length) then 3
  else if (v.kind = 2 /\ shownB v.s = false) \/ (v.kind = 3 /\ nameB v.s = false) then 7
  else if v.kind = 5 /\ v.keys.length ≠ v.items.length then 6
  else 0
def ordE (v : V) : Int := if (v.kind = 4 /\ ascL v.items = false) \/ (v.kind = 5 /\ ascL v.keys = false) then 13 else 0
def topE (o : Bool) (v : V) : Int := if ownE v ≠ 0 then ownE v else if o then ordE v else 0
mutual
def errV (o : Bool) : V -> Int
  | .mk k n s ks is => if topE o (.mk k n s ks is) ≠ 0 then topE o (.mk k n s ks is) else if errL o ks ≠ 0 then errL o ks else errL o is
def errL (o : Bool) : List V -> Int
  | [] => 0
  | v :: r => if errV o v ≠ 0 then errV o v else errL o r
end
theorem errV_eq (o : Bool) (v : V) : errV o v = if topE o v ≠ 0 then topE o v else if errL o v.keys ≠ 0 then errL o v.keys else errL o v.items := by
  cases v; rw [errV]; rfl
def chkE (v : V) : Int := if v.small 300 8 then errV true v else 2
end Go.Tv
namespace Go.Tv
section
variable {α : Type}
def insBy (c : α -> α -> Int) (v : α) : List α -> List α
  | [] => [v]
  | x :: r => if c v x ≤ 0 then v :: x :: r else x :: insBy c v r
def sortBy (c : α -> α -> Int) : List α -> List α
  | [] => []
  | v :: r => insBy c v (sortBy c r)
theorem insBy_perm (c : α -> α -> Int) (v : α) : ∀ l, (insBy c v l).Perm (v :: l)
  | [] => .refl _
  | x :: r => by
    simp only [insBy]
    split
    . exact .refl _
    . exact ((insBy_perm c v r).cons x).trans (.swap _ _ _)
theorem sortBy_perm (c : α -> α -> Int) : ∀ l, (sortBy c l).Perm l
  | [] => .refl _
  | v :: r => (insBy_perm c v _).trans ((sortBy_perm c r).cons v)
structure Ord3 (c : α -> α -> Int) : Prop where
  neg : ∀ a b, c b a = - c a b
  trans : ∀ a b x, c a b ≤ 0 -> c b x ≤ 0 -> c a x ≤ 0
  eq : ∀ a b, c a b = 0 -> a = b
def Srtd (c : α -> α -> Int) (l : List α) : Prop := l.Pairwise fun a b => c a b ≤ 0
theorem insBy_srtd {c : α -> α -> Int} (hc : Ord3 c) (v : α) : ∀ l, Srtd c l -> Srtd c (insBy c v l)
  | [], _ => by simp [Srtd, insBy]
  | x :: r, h => by
    simp only [insBy]
    have h' := h
    unfold Srtd at h'
    rw [List.pairwise_cons] at h'
    split
    . rename_i hv
      refine List.pairwise_cons.2 ⟨fun y hy => ?_, h⟩
      rcases List.mem_cons.1 hy with rfl | hy
      . exact hv
      . exact hc.trans _ _ _ hv (h'.1 y hy)
    . rename_i hv
      refine List.pairwise_cons.2 ⟨fun y hy => ?_, insBy_srtd hc v r h'.2⟩
      rcases List.mem_cons.1 ((insBy_perm c v r).subset hy) with rfl | hy
      . have := hc.neg y x; omega
      . exact h'.1 y hy
theorem sortBy_srtd {c : α -> α -> Int} (hc : Ord3 c) : ∀ l, Srtd c (sortBy c l)
  | [] => .nil
  | v :: r => insBy_srtd hc v _ (sortBy_srtd hc r)
theorem srtd_uniq {c : α -> α -> Int} (hc : Ord3 c) {l m : List α} (h1 : Srtd c l) (h2 : Srtd c m) (h : l.Perm m) : l = m :=
  List.Perm.eq_of_pairwise (fun a b _ _ h1 h2 => hc.eq a b (by have := hc.neg a b; omega)) h1 h2 h
theorem sortBy_uniq {c : α -> α -> Int} (hc : Ord3 c) {l m : List α} (h1 : Srtd c m) (h : m.Perm l) : m = sortBy c l :=
  srtd_uniq hc h1 (sortBy_srtd hc l) (h.trans (sortBy_perm c l).symm)
theorem sortBy_len (c : α -> α -> Int) (l : List α) : (sortBy c l).length = l.length := (sortBy_perm c l).length_eq
theorem sortBy_mem (c : α -> α -> Int) (l : List α) (x : α) : x ∈ sortBy c l ↔ x ∈ l := (sortBy_perm c l).mem_iff
end
theorem ord_V : Ord3 cmpV := ⟨cmpV_neg, cmpV_trans, fun _ _ h => cmpV_eq.1 h⟩
def cmpP (a b : V × V) : Int := if cmpV a.1 b.1 = 0 then cmpV a.2 b.2 else cmpV a.1 b.1
theorem ord_P : Ord3 cmpP where
  neg a b := by
    unfold cmpP
    have h1 := cmpV_neg a.1 b.1; have h2 := cmpV_neg a.2 b.2
    split <;> split <;> omega
  trans a b x h1 h2 := by
    unfold cmpP at *
    by_cases e1 : cmpV a.1 b.1 = 0
    . have := cmpV_eq.1 e1
      rw [if_pos e1] at h1
      rw [this]
      by_cases e2 : cmpV b.1 x.1 = 0
      . rw [if_pos e2] at h2 ⊢; exact cmpV_trans _ _ _ h1 h2
      . rw [if_neg e2] at h2 ⊢; exact h2
    . rw [if_neg e1] at h1
      by_cases e2 : cmpV b.1 x.1 = 0
      . rw [<- cmpV_eq.1 e2, if_neg e1]; exact h1
      . rw [if_neg e2] at h2
        have h3 := cmpV_trans _ _ _ h1 h2
        split
        . rename_i e3
          have e4 := cmpV_eq.1 e3
          rw [<- e4, cmpV_neg a.1 b.1] at h2
          omega
        . exact h3
  eq a b h := by
    unfold cmpP at h
    split at h
    . rename_i e; exact Prod.ext (cmpV_eq.1 e) (cmpV_eq.1 h)
    . rename_i e; exact absurd h e
mutual
def unV : AV -> Option V
  | .agg [.int .i64 k, .int .i64 n, .str s, .list ks none, .list is none] => match unVs ks, unVs is with | some a, some b => some (.mk k n s a b) | _, _ => none
  | _ => none
def unVs : List AV -> Option (List V)
  | [] => some []
  | v :: r => match unV v, unVs r with | some a, some l => some (a :: l) | _, _ => none
end
mutual
theorem unV_av : ∀ v : V, unV v.av = some v
  | .mk k n s ks is => by simp only [V.av, unV, unVs_avs ks, unVs_avs is]
theorem unVs_avs : ∀ l : List V, unVs (avs l) = some l
  | [] => rfl
  | v :: r => by simp only [avs, unVs, unV_av v, unVs_avs r]
end
mutual
theorem unV_inv (a : AV) (v : V) (h : unV a = some v) : a = v.av := by
  unfold unV at h
  split at h
  . rename_i k n s ks is
    split at h <;> try (cases h; done)
    rename_i x y h1 h2
    injection h with h; subst h
    simp only [V.av, <- unVs_inv ks x h1, <- unVs_inv is y h2]
  . cases h
termination_by SizeOf.sizeOf a
theorem unVs_inv (l : List AV) (m : List V) (h : unVs l = some m) : l = avs m := by
  cases l with
  | nil => simp only [unVs] at h; injection h with h; subst h; rfl
  | cons a r =>
    simp only [unVs] at h
    split at h <;> try (cases h; done)
    rename_i x y h1 h2
    injection h with h; subst h
    simp only [avs, <- unV_inv a x h1, <- unVs_inv r y h2]
termination_by SizeOf.sizeOf l
end
def unP : AV -> Option (V × V)
  | .agg (a :: b :: c :: d :: e :: r) => match unV (.agg [a, b, c, d, e]), unV (.agg r) with | some x, some y => some (x, y) | _, _ => none
  | _ => none
def P2.cells (p : V × V) : List AV := p.1.av.cells ++ p.2.av.cells
theorem unP_inv (a : AV) (p : V × V) (h : unP a = some p) : a = .agg (P2.cells p) := by
  unfold unP at h
  split at h
  . rename_i a b c d e r
    split at h <;> try (cases h; done)
    rename_i x y h1 h2
    injection h with h; subst h
    have q1 := unV_inv _ _ h1; have q2 := unV_inv _ _ h2
    simp only [P2.cells, <- q1, <- q2, AV.cells]
    rfl
  . cases h
theorem unP_pair (x y : V) : unP (.agg (P2.cells (x, y))) = some (x, y) := by
  cases x with
  | mk k n s ks is =>
    have h1 := unV_av (.mk k n s ks is)
    have h2 := unV_av y
    cases y with
    | mk k' n' s' ks' is' =>
      simp only [V.av] at h1 h2
      simp only [P2.cells, V.av, AV.cells, List.cons_append, List.nil_append, unP, h1, h2]
def decs {α : Type} (dec : AV -> Option α) : List AV -> Option (List α)
  | [] => some []
  | v :: r => match dec v, decs dec r with | some a, some l => some (a :: l) | _, _ => none
theorem decs_inv {α : Type} {dec : AV -> Option α} {enc : α -> List AV} (hd : ∀ a x, dec a = some x -> a = .agg (enc x)) : ∀ {l : List AV} {m : List α}, decs dec l = some m -> l = m.map fun x => .agg (enc x)
  | [], m, h => by simp only [decs] at h; injection h with h; subst h; rfl
  | a :: r, m, h => by
    simp only [decs] at h
    split at h <;> try (cases h; done)
    rename_i x y h1 h2
    injection h with h; subst h
    simp only [List.map_cons, <- hd _ _ h1, <- decs_inv hd h2]
theorem decs_of {α : Type} {dec : AV -> Option α} {f : α -> AV} (hd : ∀ x, dec (f x) = some x) : ∀ l : List α, decs dec (l.map f) = some l
  | [] => rfl
  | a :: r => by simp only [List.map_cons, decs, hd, decs_of hd r]
def sortG {α : Type} (k : Nat) (g : FuncId) (dec : AV -> Option α) (enc : α -> List AV) (c : α -> α -> Int) (ok : α -> Bool) : List AV -> Heap -> Option Heap
  | [.slc id off n sz ag, .fn (.func g') [] []], H =>
    if g' = g /\ ag = true /\ sz = k /\ n < 4611686018427387904 then
      match H[id]? with
      | some (.cells cs T0) =>
        if off + n * k ≤ cs.length then
          match group true k n (cs.drop off) with
          | some els => match decs dec els with
            | some l => if l.all ok then some (H.set id (.cells (splice cs off ((sortBy c l).flatMap enc)) T0)) else none
            | none => none
          | none => none
        else none
      | _ => none
    else none
  | _, _ => none
def sortH {α : Type} (k : Nat) (g : FuncId) (dec : AV -> Option α) (enc : α -> List AV) (c : α -> α -> Int) (ok : α -> Bool) (args : List AV) (H : Heap) : Option (AV × Heap) :=
  match sortG k g dec enc c ok args H with | some H' => some (.tup [], H') | none => none
theorem sortH_inv {α : Type} {k : Nat} {g : FuncId} {dec : AV -> Option α} {enc : α -> List AV} {c : α -> α -> Int} {ok : α -> Bool} {args : List AV} {H H' : Heap} {v : AV} (h : sortH k g dec enc c ok args H = some (v, H')) : v = .tup [] /\ sortG k g dec enc c ok args H = some H' := by
  unfold sortH at h
  split at h
  . rename_i H1 h1; injection h with h; injection h with e1 e2; subst e1 e2; exact ⟨rfl, h1⟩
  . cases h
def quoS (s : List UInt8) : List UInt8 := s.flatMap fun c => if c = 34 \/ c = 92 then [92, c] else [c]
theorem reach_acc (H : Heap) : ∀ (n : Nat) (l acc : List Nat) (i : Nat), i ∈ acc -> i ∈ reach H n l acc
  | 0, l, acc, i, h => by cases l <;> exact h
  | n + 1, [], acc, i, h => h
  | n + 1, j :: r, acc, i, h => by
    simp only [reach]
    split
    . exact reach_acc H n r acc i h
    . split
      . exact reach_acc H n _ _ i (List.mem_cons_of_mem _ h)
      . exact reach_acc H n r acc i h
theorem reach_first {H : Heap} {i : Nat} {r : List Nat} {o : AObj} (ho : H[i]? = some o) : i ∈ reach H 100000 (i :: r) [] := by
  rw [show (100000 : Nat) = 99999 + 1 from rfl]
  simp only [reach, ho]
  exact reach_acc H _ _ _ i (List.mem_cons_self)
theorem sortG_frame {α : Type} {k : Nat} {g : FuncId} {dec : AV -> Option α} {enc : α -> List AV} {c : α -> α -> Int} {ok : α -> Bool} {args : List AV} {H H' : Heap} (h : sortG k g dec enc c ok args H = some H') :
    H.length ≤ H'.length /\ ∀ id, id < H.length -> (reachL H args).contains id = false -> H'[id]? = H[id]? := by
  unfold sortG at h
  split at h <;> try (cases h; done)
  rename_i id off n sz ag g'
  split at h <;> try (cases h; done)
  split at h <;> try (cases h; done)
  rename_i cs T0 hi
  split at h <;> try (cases h; done)
  split at h <;> try (cases h; done)
  split at h <;> try (cases h; done)
  split at h <;> try (cases h; done)
  injection h with h; subst h
  refine ⟨by simp, fun j hj hR => ?_⟩
  by_cases e : id = j
  . subst e
    have : id ∈ reachL H [.slc id off n sz ag, .fn (.func g') [] []] := reach_first hi
    rw [List.contains_iff_mem.2 this] at hR; cases hR
  . rw [List.getElem?_set_ne e]
end Go.Tv
namespace Go.Tv
def SAsc (l : List V) : Prop := l.Pairwise fun a b => cmpV a b < 0
theorem cmpV_self (a : V) : cmpV a a = 0 := cmpV_eq.2 rfl
theorem cmpV_lt_trans {a b x : V} (h1 : cmpV a b < 0) (h2 : cmpV b x < 0) : cmpV a x < 0 := by
  have h3 := cmpV_trans a b x (by omega) (by omega)
  rcases Int.lt_or_eq_of_le h3 with h | h
  . exact h
  . have := cmpV_eq.1 h; subst this
    have := cmpV_neg a b; omega
theorem sasc_uniq : ∀ {l m : List V}, SAsc l -> SAsc m -> (∀ x, x ∈ l ↔ x ∈ m) -> l = m
  | [], [], _, _, _ => rfl
  | [], b :: m, _, _, h => by have := (h b).2 (by simp); simp at this
  | a :: l, [], _, _, h => by have := (h a).1 (by simp); simp at this
  | a :: l, b :: m, h1, h2, h => by
    unfold SAsc at h1 h2
    rw [List.pairwise_cons] at h1 h2
    have e : a = b := by
      rcases List.mem_cons.1 ((h a).1 (by simp)) with e | e
      . exact e
      rcases List.mem_cons.1 ((h b).2 (by simp)) with f | f
      . exact f.symm
      have q1 := h2.1 a e; have q2 := h1.1 b f
      have := cmpV_neg a b; omega
    subst e
    have key : ∀ x, x ∈ l ↔ x ∈ m := fun x => by
      constructor
      . intro hx
        rcases List.mem_cons.1 ((h x).1 (by simp [hx])) with e | e
        . subst e; have := h1.1 x hx; have := cmpV_self x; omega
        . exact e
      . intro hx
        rcases List.mem_cons.1 ((h x).2 (by simp [hx])) with e | e
        . subst e; have := h2.1 x hx; have := cmpV_self x; omega
        . exact e
    rw [sasc_uniq h1.2 h2.2 key]
theorem ascL_iff : ∀ l : List V, ascL l = true ↔ SAsc l
  | [] => by simp [ascL, SAsc]
  | [a] => by simp [ascL, SAsc]
  | a :: b :: r => by
    have ih := ascL_iff (b :: r)
    rw [ascL, Bool.and_eq_true, ih]
    simp only [decide_eq_true_eq]
    unfold SAsc
    rw [List.pairwise_cons (a := a)]
    constructor
    . rintro ⟨h1, h2⟩
      refine ⟨fun x hx => ?_, h2⟩
      rcases List.mem_cons.1 hx with rfl | hx
      . exact h1
      . exact cmpV_lt_trans h1 ((List.pairwise_cons.1 h2).1 x hx)
    . rintro ⟨h1, h2⟩; exact ⟨h1 b (by simp), h2⟩
def ddp : List V -> List V
  | [] => []
  | a :: r => match r with
    | [] => [a]
    | b :: _ => if cmpV b a = 0 then ddp r else a :: ddp r
theorem ddp_mem : ∀ (l : List V) (x : V), x ∈ ddp l ↔ x ∈ l
  | [], x => by simp [ddp]
  | [a], x => by simp [ddp]
  | a :: b :: r, x => by
    have ih := ddp_mem (b :: r) x
    rw [ddp]
    split
    . rename_i h
      rw [ih]
      have := cmpV_eq.1 h; subst this; simp
    . rw [List.mem_cons, ih, List.mem_cons (b := a)]
theorem ddp_asc : ∀ (l : List V), Srtd cmpV l -> SAsc (ddp l)
  | [], _ => by simp [ddp, SAsc]
  | [a], _ => by simp [ddp, SAsc]
  | a :: b :: r, h => by
    unfold Srtd at h
    rw [List.pairwise_cons] at h
    have ih := ddp_asc (b :: r) h.2
    rw [ddp]
    split
    . exact ih
    . rename_i hne
      refine List.pairwise_cons.2 ⟨fun x hx => ?_, ih⟩
      rw [ddp_mem] at hx
      have h1 := h.1 x hx
      rcases Int.lt_or_eq_of_le h1 with q | q
      . exact q
      . exfalso
        have e := cmpV_eq.1 q; subst e
        have h2 := h.1 b (by simp)
        rcases List.mem_cons.1 hx with e | hx
        . subst e; exact hne q
        . have h3 := (List.pairwise_cons.1 h.2).1 a hx
          have := cmpV_neg a b; omega
def insU (v : V) : List V -> List V
  | [] => [v]
  | x :: r => if cmpV x v < 0 then x :: insU v r else if cmpV x v = 0 then x :: r else v :: x :: r
def srtU (l : List V) : List V := l.foldl (fun out v => insU v out) []
theorem insU_mem (v : V) : ∀ (l : List V) (x : V), x ∈ insU v l ↔ x = v \/ x ∈ l
  | [], x => by simp [insU]
  | a :: r, x => by
    rw [insU]
    split
    . rw [List.mem_cons, insU_mem v r x, List.mem_cons]
      constructor
      . rintro (h | h | h) <;> simp [h]
      . rintro (h | h | h) <;> simp [h]
    . split
      . rename_i h
        have := cmpV_eq.1 h; subst this; simp
      . simp
theorem insU_asc (v : V) : ∀ (l : List V), SAsc l -> SAsc (insU v l)
  | [], _ => by simp [insU, SAsc]
  | a :: r, h => by
    have h' := h
    unfold SAsc at h'
    rw [List.pairwise_cons] at h'
    rw [insU]
    split
    . rename_i hlt
      refine List.pairwise_cons.2 ⟨fun x hx => ?_, insU_asc v r h'.2⟩
      rcases (insU_mem v r x).1 hx with rfl | hx
      . exact hlt
      . exact h'.1 x hx
    . rename_i h1
      split
      . exact h
      . rename_i h2
        have h3 : cmpV v a < 0 := by have := cmpV_neg a v; omega
        refine List.pairwise_cons.2 ⟨fun x hx => ?_, h⟩
        rcases List.mem_cons.1 hx with rfl | hx
        . exact h3
        . exact cmpV_lt_trans h3 (h'.1 x hx)
theorem fold_insU (l : List V) : ∀ out, SAsc out -> SAsc (l.foldl (fun out v => insU v out) out) /\ ∀ x, x ∈ l.foldl (fun out v => insU v out) out ↔ x ∈ out \/ x ∈ l := by
  induction l with
  | nil => intro out h; simp [h]
  | cons a r ih =>
    intro out h
    obtain ⟨h1, h2⟩ := ih (insU a out) (insU_asc a out h)
    refine ⟨h1, fun x => ?_⟩
    rw [List.foldl_cons, h2, insU_mem, List.mem_cons]
    constructor
    . rintro ((h | h) | h) <;> simp [h]
    . rintro (h | h | h) <;> simp [h]
theorem srtU_asc (l : List V) : SAsc (srtU l) := (fold_insU l [] .nil).1
theorem srtU_mem (l : List V) (x : V) : x ∈ srtU l ↔ x ∈ l := by have := (fold_insU l [] .nil).2 x; simpa [srtU] using this
theorem srtU_eq (l : List V) : ddp (sortBy cmpV l) = srtU l :=
  sasc_uniq (ddp_asc _ (sortBy_srtd ord_V l)) (srtU_asc l) fun x => by rw [ddp_mem, sortBy_mem, srtU_mem]
theorem srtU_self {l : List V} (h : SAsc l) : srtU l = l := sasc_uniq (srtU_asc l) h (srtU_mem l)
def fnGo : Option (V × V) -> List (V × V) -> Option (List (V × V))
  | _, [] => some []
  | none, x :: r => match fnGo (some x) r with | some l => some (x :: l) | none => none
  | some p, x :: r => if cmpV p.1 x.1 = 0 then (if cmpV p.2 x.2 = 0 then fnGo (some x) r else none) else match fnGo (some x) r with | some l => some (x :: l) | none => none
def fnV (keys items : List V) : Option V :=
  match fnGo none (sortBy cmpP (keys.zip items)) with | some l => some (.mk 5 0 [] (l.map Prod.fst) (l.map Prod.snd)) | none => none
def Fnl (l : List (V × V)) : Prop := ∀ p ∈ l, ∀ q ∈ l, p.1 = q.1 -> p.2 = q.2
def KAsc (l : List (V × V)) : Prop := SAsc (l.map Prod.fst)
theorem kasc_uniq {l m : List (V × V)} (h1 : KAsc l) (h2 : KAsc m) (h : ∀ x, x ∈ l ↔ x ∈ m) : l = m := by
  have hk : l.map Prod.fst = m.map Prod.fst := sasc_uniq h1 h2 fun x => by
    simp only [List.mem_map]
    constructor
    . rintro ⟨p, hp, rfl⟩; exact ⟨p, (h p).1 hp, rfl⟩
    . rintro ⟨p, hp, rfl⟩; exact ⟨p, (h p).2 hp, rfl⟩
  induction l generalizing m with
  | nil =>
    cases m with
    | nil => rfl
    | cons b m => simp at hk
  | cons a l ih =>
    cases m with
    | nil => simp at hk
    | cons b m =>
      simp only [List.map_cons, List.cons.injEq] at hk
      unfold KAsc SAsc at h1 h2
      rw [List.map_cons, List.pairwise_cons] at h1 h2
      have nin : ∀ {c : V × V} {k : List (V × V)}, (∀ x ∈ k.map Prod.fst, cmpV c.1 x < 0) -> ∀ p ∈ k, p.1 ≠ c.1 := fun hc p hp e => by
        have := hc p.1 (List.mem_map.2 ⟨p, hp, rfl⟩); rw [e, cmpV_self] at this; omega
      have e : a = b := by
        rcases List.mem_cons.1 ((h a).1 (by simp)) with e | e
        . exact e
        . exact absurd hk.1 (nin h2.1 a e)
      subst e
      rw [ih h1.2 h2.2 (fun x => ?_) hk.2]
      constructor
      . intro hx
        rcases List.mem_cons.1 ((h x).1 (by simp [hx])) with e | e
        . subst e; exact absurd rfl (nin h1.1 x hx)
        . exact e
      . intro hx
        rcases List.mem_cons.1 ((h x).2 (by simp [hx])) with e | e
        . subst e; exact absurd rfl (nin h2.1 x hx)
        . exact e
theorem fnGo_spec : ∀ (l : List (V × V)) (p : V × V), Srtd cmpP (p :: l) ->
    (∀ r, fnGo (some p) l = some r -> Fnl (p :: l) /\ KAsc (p :: r) /\ ∀ x, x ∈ p :: r ↔ x ∈ p :: l) /\ (fnGo (some p) l = none -> ¬ Fnl (p :: l))
  | [], p, _ => by
    refine ⟨fun r hr => ?_, fun h => by simp [fnGo] at h⟩
    simp only [fnGo] at hr; injection hr with hr; subst hr
    refine ⟨fun a ha b hb _ => by simp at ha hb; rw [ha, hb], by simp [KAsc, SAsc], fun x => Iff.rfl⟩
  | x :: l, p, h => by
    unfold Srtd at h
    rw [List.pairwise_cons] at h
    obtain ⟨ih1, ih2⟩ := fnGo_spec l x h.2
    have hpx := h.1 x (by simp)
    rw [fnGo]
    by_cases e1 : cmpV p.1 x.1 = 0
    . rw [if_pos e1]
      have k1 := cmpV_eq.1 e1
      by_cases e2 : cmpV p.2 x.2 = 0
      . rw [if_pos e2]
        have hpe : p = x := Prod.ext k1 (cmpV_eq.1 e2)
        subst hpe
        refine ⟨fun r hr => ?_, fun hn hf => ih2 hn fun a ha b hb => hf a (by simp at ha ⊢; rcases ha with h | h <;> simp [h]) b (by simp at hb ⊢; rcases hb with h | h <;> simp [h])⟩
        obtain ⟨g1, g2, g3⟩ := ih1 r hr
        refine ⟨fun a ha b hb => g1 a (by simp at ha ⊢; exact ha) b (by simp at hb ⊢; exact hb), g2, fun y => ?_⟩
        rw [g3]; simp
      . rw [if_neg e2]
        exact ⟨fun r hr => (by cases hr), fun _ hf => e2 (cmpV_eq.2 (hf p (by simp) x (by simp) k1))⟩
    . rw [if_neg e1]
      have hlt : cmpV p.1 x.1 < 0 := by
        unfold cmpP at hpx; rw [if_neg e1] at hpx; omega
      have hall : ∀ y ∈ x :: l, cmpV p.1 y.1 < 0 := fun y hy => by
        rcases List.mem_cons.1 hy with rfl | hy
        . exact hlt
        . have := (List.pairwise_cons.1 h.2).1 y hy
          have h2 : cmpV x.1 y.1 ≤ 0 := by unfold cmpP at this; split at this <;> omega
          rcases Int.lt_or_eq_of_le h2 with q | q
          . exact cmpV_lt_trans hlt q
          . rw [<- cmpV_eq.1 q]; exact hlt
      cases hg : fnGo (some x) l with
      | none =>
        refine ⟨fun r hr => (by cases hr), fun _ hf => ih2 hg fun a ha b hb => hf a (List.mem_cons_of_mem _ ha) b (List.mem_cons_of_mem _ hb)⟩
      | some r0 =>
        refine ⟨fun r hr => ?_, fun hn => (by cases hn)⟩
        injection hr with hr; subst hr
        obtain ⟨g1, g2, g3⟩ := ih1 r0 hg
        refine ⟨fun a ha b hb e => ?_, ?_, fun y => ?_⟩
        . rcases List.mem_cons.1 ha with ea | ha' <;> rcases List.mem_cons.1 hb with eb | hb'
          . rw [ea, eb]
          . have := hall b hb'; rw [<- ea, e, cmpV_self] at this; omega
          . have := hall a ha'; rw [<- eb, <- e, cmpV_self] at this; omega
          . exact g1 a ha' b hb' e
        . refine List.pairwise_cons.2 ⟨fun k hk => ?_, g2⟩
          obtain ⟨q, hq, rfl⟩ := List.mem_map.1 hk
          exact hall q ((g3 q).1 hq)
        . rw [List.mem_cons, g3, <- List.mem_cons]
theorem fnGo_none : ∀ (l : List (V × V)), Srtd cmpP l -> (∀ r, fnGo none l = some r -> Fnl l /\ KAsc r /\ ∀ x, x ∈ r ↔ x ∈ l) /\ (fnGo none l = none -> ¬ Fnl l)
  | [], _ => by
    refine ⟨fun r hr => ?_, fun h => by simp [fnGo] at h⟩
    simp only [fnGo] at hr; injection hr with hr; subst hr
    exact ⟨fun a ha => by simp at ha, by simp [KAsc, SAsc], fun x => Iff.rfl⟩
  | x :: l, h => by
    obtain ⟨h1, h2⟩ := fnGo_spec l x h
    rw [fnGo]
    cases hg : fnGo (some x) l with
    | none => exact ⟨fun r hr => (by cases hr), fun _ => h2 hg⟩
    | some r0 =>
      refine ⟨fun r hr => ?_, fun hn => (by cases hn)⟩
      injection hr with hr; subst hr
      exact h1 r0 hg
end Go.Tv
namespace Go.Tv
def refItem (K : V) : List (V × V) -> Option V -> Option (Option V)
  | [], o => some o
  | p :: r, none => if cmpV p.1 K = 0 then refItem K r (some p.2) else refItem K r none
  | p :: r, some x => if cmpV p.1 K = 0 then (if cmpV p.2 x = 0 then refItem K r (some x) else none) else refItem K r (some x)
def refFn (ps : List (V × V)) : List V -> Option (List V)
  | [] => some []
  | K :: r => match refItem K ps none with
    | none => none
    | some none => refFn ps r
    | some (some x) => match refFn ps r with | some l => some (x :: l) | none => none
def refFnV (keys items : List V) : Option V :=
  match refFn (keys.zip items) (srtU keys) with | some l => some (.mk 5 0 [] (srtU keys) l) | none => none
theorem refItem_some (K x : V) : ∀ ps : List (V × V), (∀ o, refItem K ps (some x) = some o -> o = some x /\ ∀ p ∈ ps, p.1 = K -> p.2 = x) /\ (refItem K ps (some x) = none -> ∃ p ∈ ps, p.1 = K /\ p.2 ≠ x)
  | [] => ⟨fun o h => by simp only [refItem] at h; injection h with h; exact ⟨h.symm, by simp⟩, fun h => by simp [refItem] at h⟩
  | p :: r => by
    obtain ⟨h1, h2⟩ := refItem_some K x r
    rw [refItem]
    by_cases e : cmpV p.1 K = 0
    . rw [if_pos e]
      have ek := cmpV_eq.1 e
      by_cases e2 : cmpV p.2 x = 0
      . rw [if_pos e2]
        have ex := cmpV_eq.1 e2
        refine ⟨fun o h => ?_, fun h => ?_⟩
        . obtain ⟨q1, q2⟩ := h1 o h
          exact ⟨q1, fun q hq hk => by rcases List.mem_cons.1 hq with rfl | hq; exact ex; exact q2 q hq hk⟩
        . obtain ⟨q, hq, hk⟩ := h2 h; exact ⟨q, List.mem_cons_of_mem _ hq, hk⟩
      . rw [if_neg e2]
        exact ⟨fun o h => (by cases h), fun _ => ⟨p, by simp, ek, fun hx => e2 (cmpV_eq.2 hx)⟩⟩
    . rw [if_neg e]
      refine ⟨fun o h => ?_, fun h => ?_⟩
      . obtain ⟨q1, q2⟩ := h1 o h
        exact ⟨q1, fun q hq hk => by rcases List.mem_cons.1 hq with rfl | hq; exact absurd (cmpV_eq.2 hk) e; exact q2 q hq hk⟩
      . obtain ⟨q, hq, hk⟩ := h2 h; exact ⟨q, List.mem_cons_of_mem _ hq, hk⟩
theorem refItem_none (K : V) : ∀ ps : List (V × V), (refItem K ps none = some none -> ∀ p ∈ ps, p.1 ≠ K) /\ (∀ x, refItem K ps none = some (some x) -> (K, x) ∈ ps /\ ∀ p ∈ ps, p.1 = K -> p.2 = x) /\
    (refItem K ps none = none -> ∃ p ∈ ps, ∃ q ∈ ps, p.1 = K /\ q.1 = K /\ p.2 ≠ q.2)
  | [] => ⟨fun _ => by simp, fun x h => by simp [refItem] at h, fun h => by simp [refItem] at h⟩
  | p :: r => by
    obtain ⟨h1, h2, h3⟩ := refItem_none K r
    rw [refItem]
    by_cases e : cmpV p.1 K = 0
    . rw [if_pos e]
      have ek := cmpV_eq.1 e
      obtain ⟨g1, g2⟩ := refItem_some K p.2 r
      refine ⟨fun h => ?_, fun x h => ?_, fun h => ?_⟩
      . obtain ⟨q1, _⟩ := g1 _ h; cases q1
      . obtain ⟨q1, q2⟩ := g1 _ h
        injection q1 with q1; subst q1
        refine ⟨by rw [<- ek]; simp, fun q hq hk => ?_⟩
        rcases List.mem_cons.1 hq with rfl | hq
        . rfl
        . exact q2 q hq hk
      . obtain ⟨q, hq, hk, hx⟩ := g2 h
        exact ⟨q, List.mem_cons_of_mem _ hq, p, by simp, hk, ek, hx⟩
    . rw [if_neg e]
      refine ⟨fun h q hq hk => ?_, fun x h => ?_, fun h => ?_⟩
      . rcases List.mem_cons.1 hq with rfl | hq
        . exact e (cmpV_eq.2 hk)
        . exact h1 h q hq hk
      . obtain ⟨q1, q2⟩ := h2 x h
        refine ⟨List.mem_cons_of_mem _ q1, fun q hq hk => ?_⟩
        rcases List.mem_cons.1 hq with rfl | hq
        . exact absurd (cmpV_eq.2 hk) e
        . exact q2 q hq hk
      . obtain ⟨q, hq, q', hq', hk⟩ := h3 h
        exact ⟨q, List.mem_cons_of_mem _ hq, q', List.mem_cons_of_mem _ hq', hk⟩
theorem refFn_spec (ps : List (V × V)) : ∀ ks : List V, (∀ K ∈ ks, ∃ p ∈ ps, p.1 = K) -> (∀ l, refFn ps ks = some l -> l.length = ks.length /\ (∀ x ∈ ks.zip l, x ∈ ps) /\ ∀ p ∈ ps, ∀ q ∈ ps, p.1 ∈ ks -> p.1 = q.1 -> p.2 = q.2) /\
    (refFn ps ks = none -> ¬ Fnl ps)
  | [], _ => ⟨fun l h => by simp only [refFn] at h; injection h with h; subst h; simp, fun h => by simp [refFn] at h⟩
  | K :: r, hK => by
    obtain ⟨h1, h2⟩ := refFn_spec ps r fun k hk => hK k (List.mem_cons_of_mem _ hk)
    obtain ⟨g1, g2, g3⟩ := refItem_none K ps
    obtain ⟨p0, hp0, hk0⟩ := hK K (by simp)
    rw [refFn]
    cases hi : refItem K ps none with
    | none =>
      refine ⟨fun l h => (by cases h), fun _ hf => ?_⟩
      obtain ⟨p, hp, q, hq, k1, k2, k3⟩ := g3 hi
      exact k3 (hf p hp q hq (k1.trans k2.symm))
    | some o =>
      cases o with
      | none => exact absurd hk0 (g1 hi p0 hp0)
      | some x =>
        obtain ⟨f1, f2⟩ := g2 x hi
        cases hr : refFn ps r with
        | none => exact ⟨fun l h => (by cases h), fun _ => h2 hr⟩
        | some l0 =>
          refine ⟨fun l h => ?_, fun h => (by cases h)⟩
          injection h with h; subst h
          obtain ⟨q1, q2, q3⟩ := h1 l0 hr
          refine ⟨by simp [q1], fun y hy => ?_, fun p hp q hq hk e => ?_⟩
          . rw [List.zip_cons_cons, List.mem_cons] at hy
            rcases hy with rfl | hy
            . exact f1
            . exact q2 y hy
          . rcases List.mem_cons.1 hk with hk | hk
            . rw [f2 p hp hk, f2 q hq (e ▸ hk)]
            . exact q3 p hp q hq hk e
theorem fst_zip {a b : List V} (h : a.length = b.length) : (a.zip b).map Prod.fst = a := List.map_fst_zip (by omega)
theorem snd_zip {a b : List V} (h : a.length = b.length) : (a.zip b).map Prod.snd = b := List.map_snd_zip (by omega)
theorem fnV_eq (keys items : List V) (hl : keys.length = items.length) : fnV keys items = refFnV keys items := by
  have hks : ∀ K, K ∈ keys ↔ ∃ p ∈ keys.zip items, p.1 = K := fun K => by
    rw [<- fst_zip hl, List.mem_map, fst_zip hl]
  obtain ⟨a1, a2⟩ := fnGo_none (sortBy cmpP (keys.zip items)) (sortBy_srtd ord_P _)
  obtain ⟨b1, b2⟩ := refFn_spec (keys.zip items) (srtU keys) fun K hK => (hks K).1 ((srtU_mem _ _).1 hK)
  have hfs : Fnl (sortBy cmpP (keys.zip items)) ↔ Fnl (keys.zip items) := by
    unfold Fnl; simp only [sortBy_mem]
  unfold fnV refFnV
  cases hg : fnGo none (sortBy cmpP (keys.zip items)) with
  | none =>
    cases hr : refFn (keys.zip items) (srtU keys) with
    | none => rfl
    | some l =>
      exfalso
      obtain ⟨_, _, q3⟩ := b1 l hr
      exact a2 hg (hfs.2 fun p hp q hq e => q3 p hp q hq ((srtU_mem _ _).2 ((hks _).2 ⟨p, hp, rfl⟩)) e)
  | some r =>
    obtain ⟨f1, f2, f3⟩ := a1 r hg
    cases hr : refFn (keys.zip items) (srtU keys) with
    | none => exact absurd (hfs.1 f1) (b2 hr)
    | some l =>
      obtain ⟨q1, q2, q3⟩ := b1 l hr
      have hka : KAsc ((srtU keys).zip l) := by unfold KAsc; rw [fst_zip q1.symm]; exact srtU_asc _
      have e : r = (srtU keys).zip l := kasc_uniq f2 hka fun x => by
        rw [f3, sortBy_mem]
        constructor
        . intro hx
          have hk : x.1 ∈ srtU keys := (srtU_mem _ _).2 ((hks _).2 ⟨x, hx, rfl⟩)
          rw [<- fst_zip (a := srtU keys) (b := l) q1.symm, List.mem_map] at hk
          obtain ⟨y, hy, hyx⟩ := hk
          have := (hfs.1 f1) y (q2 y hy) x hx hyx
          have hxy : y = x := Prod.ext hyx this
          rw [<- hxy]; exact hy
        . exact q2 x
      simp only
      rw [e, fst_zip q1.symm, snd_zip q1.symm]
theorem cnts_perm {l m : List V} (h : l.Perm m) : cnts l = cnts m := by
  induction h with
  | nil => rfl
  | cons x _ ih => simp only [cnts, ih]
  | swap x y l => simp only [cnts]; omega
  | trans _ _ h1 h2 => exact h1.trans h2
theorem deps_perm {l m : List V} (h : l.Perm m) : deps l = deps m := by
  induction h with
  | nil => rfl
  | cons x _ ih => simp only [deps, ih]
  | swap x y l => simp only [deps]; omega
  | trans _ _ h1 h2 => exact h1.trans h2
theorem cnts_ddp : ∀ l : List V, cnts (ddp l) ≤ cnts l
  | [] => by simp [ddp]
  | [a] => by simp [ddp]
  | a :: b :: r => by
    have ih := cnts_ddp (b :: r)
    rw [ddp]
    split
    . simp only [cnts] at ih ⊢; omega
    . simp only [cnts] at ih ⊢; omega
theorem deps_ddp : ∀ l : List V, deps (ddp l) ≤ deps l
  | [] => by simp [ddp]
  | [a] => by simp [ddp]
  | a :: b :: r => by
    have ih := deps_ddp (b :: r)
    rw [ddp]
    split
    . simp only [deps] at ih ⊢; omega
    . simp only [deps] at ih ⊢; omega
theorem cnts_srtU (l : List V) : cnts (srtU l) ≤ cnts l := by
  rw [<- srtU_eq]; exact Nat.le_trans (cnts_ddp _) (Nat.le_of_eq (cnts_perm (sortBy_perm _ _)))
theorem deps_srtU (l : List V) : deps (srtU l) ≤ deps l := by
  rw [<- srtU_eq]; exact Nat.le_trans (deps_ddp _) (Nat.le_of_eq (deps_perm (sortBy_perm _ _)))
def pcnts : List (V × V) -> Nat
  | [] => 0
  | p :: r => p.1.cnt + p.2.cnt + pcnts r
def pdeps : List (V × V) -> Nat
  | [] => 0
  | p :: r => max (max p.1.dep p.2.dep) (pdeps r)
theorem pcnts_perm {l m : List (V × V)} (h : l.Perm m) : pcnts l = pcnts m := by
  induction h with
  | nil => rfl
  | cons x _ ih => simp only [pcnts, ih]
  | swap x y l => simp only [pcnts]; omega
  | trans _ _ h1 h2 => exact h1.trans h2
theorem pdeps_perm {l m : List (V × V)} (h : l.Perm m) : pdeps l = pdeps m := by
  induction h with
  | nil => rfl
  | cons x _ ih => simp only [pdeps, ih]
  | swap x y l => simp only [pdeps]; omega
  | trans _ _ h1 h2 => exact h1.trans h2
theorem pcnts_split : ∀ l : List (V × V), pcnts l = cnts (l.map Prod.fst) + cnts (l.map Prod.snd)
  | [] => rfl
  | p :: r => by simp only [pcnts, List.map_cons, cnts, pcnts_split r]; omega
theorem pdeps_split : ∀ l : List (V × V), pdeps l = max (deps (l.map Prod.fst)) (deps (l.map Prod.snd))
  | [] => rfl
  | p :: r => by simp only [pdeps, List.map_cons, deps, pdeps_split r]; omega
theorem fnGo_cnt : ∀ (l : List (V × V)) (o : Option (V × V)) (r : List (V × V)), fnGo o l = some r -> pcnts r ≤ pcnts l /\ pdeps r ≤ pdeps l
  | [], o, r, h => by
    cases o <;> (simp only [fnGo] at h; injection h with h; subst h; exact ⟨Nat.le_refl _, Nat.le_refl _⟩)
  | x :: l, o, r, h => by
    have ih := fnGo_cnt l (some x)
    have key : ∀ r, (match fnGo (some x) l with | some l => some (x :: l) | none => none) = some r -> pcnts r ≤ pcnts (x :: l) /\ pdeps r ≤ pdeps (x :: l) := fun r h => by
      split at h <;> try (cases h; done)
      rename_i l0 hl; injection h with h; subst h
      have := ih l0 hl
      simp only [pcnts, pdeps]; omega
    cases o with
    | none => rw [fnGo] at h; exact key r h
    | some p =>
      rw [fnGo] at h
      split at h
      . split at h <;> try (cases h; done)
        have := ih r h
        simp only [pcnts, pdeps]; omega
      . exact key r h
theorem fnV_cnt {keys items : List V} (hl : keys.length = items.length) {v : V} (h : fnV keys items = some v) : v.cnt ≤ 1 + cnts keys + cnts items /\ v.dep ≤ 1 + max (deps keys) (deps items) := by
  unfold fnV at h
  split at h <;> try (cases h; done)
  rename_i l hg; injection h with h; subst h
  obtain ⟨h1, h2⟩ := fnGo_cnt _ _ _ hg
  rw [pcnts_perm (sortBy_perm _ _), pcnts_split, pcnts_split, fst_zip hl, snd_zip hl] at h1
  rw [pdeps_perm (sortBy_perm _ _), pdeps_split, pdeps_split, fst_zip hl, snd_zip hl] at h2
  rw [V.cnt_eq, V.dep_eq]
  simp only [V.keys, V.items]
  omega
def setN (l : List V) : V := .mk 4 0 [] [] (srtU l)
def nrmOf (v : V) (ks is : List V) : Option V := if v.kind = 4 then some (setN is) else if v.kind = 5 then fnV ks is else some v
mutual
def nrm : V -> Option V
  | .mk k n s ks is => match nrms ks, nrms is with | some a, some b => nrmOf (.mk k n s ks is) a b | _, _ => none
def nrms : List V -> Option (List V)
  | [] => some []
  | v :: r => match nrm v, nrms r with | some a, some l => some (a :: l) | _, _ => none
end
theorem nrm_eq (v : V) : nrm v = match nrms v.keys, nrms v.items with | some a, some b => nrmOf v a b | _, _ => none := by cases v; rw [nrm]; rfl
end Go.Tv
namespace Go.Tv
theorem nrms_len : ∀ (l m : List V), nrms l = some m -> m.length = l.length
  | [], m, h => by simp only [nrms] at h; injection h with h; subst h; rfl
  | v :: r, m, h => by
    simp only [nrms] at h
    split at h <;> try (cases h; done)
    rename_i a l0 h1 h2; injection h with h; subst h
    simp [nrms_len r l0 h2]
structure Own0 (v : V) : Prop where
  kind : 0 ≤ v.kind /\ v.kind ≤ 5
  num : v.kind ≠ 0 -> v.kind ≠ 1 -> v.num = 0
  s : v.kind ≠ 2 -> v.kind ≠ 3 -> v.s = []
  items : v.kind ≠ 4 -> v.kind ≠ 5 -> v.items = []
  keys : v.kind ≠ 5 -> v.keys = []
  len : v.kind = 5 -> v.keys.length = v.items.length
theorem own0_of {v : V} (h : ownE v = 0) : Own0 v := by
  unfold ownE at h
  split at h
  . exact absurd h (by decide)
  rename_i h1
  split at h
  . exact absurd h (by decide)
  rename_i h2
  split at h
  . exact absurd h (by decide)
  split at h
  . exact absurd h (by decide)
  split at h
  . exact absurd h (by decide)
  rename_i h5
  refine ⟨Classical.not_not.1 h1, fun a b => ?_, fun a b => ?_, fun a b => ?_, fun a => ?_, fun a => ?_⟩
  . exact Classical.byContradiction fun hx => h2 (.inl ⟨a, b, hx⟩)
  . exact Classical.byContradiction fun hx => h2 (.inr (.inl ⟨a, b, hx⟩))
  . exact Classical.byContradiction fun hx => h2 (.inr (.inr (.inl ⟨a, b, hx⟩)))
  . exact Classical.byContradiction fun hx => h2 (.inr (.inr (.inr (.inl ⟨a, hx⟩))))
  . exact Classical.byContradiction fun hx => h5 ⟨a, hx⟩
theorem errV_zero {o : Bool} {v : V} (h : errV o v = 0) : ownE v = 0 /\ (o = true -> ordE v = 0) /\ errL o v.keys = 0 /\ errL o v.items = 0 := by
  rw [errV_eq] at h
  split at h
  . rename_i h1; exact absurd h h1
  rename_i h1
  split at h
  . rename_i h2; exact absurd h h2
  rename_i h2
  have ht : topE o v = 0 := Classical.not_not.1 h1
  unfold topE at ht
  split at ht
  . rename_i h3; exact absurd ht h3
  rename_i h3
  refine ⟨Classical.not_not.1 h3, fun ho => ?_, Classical.not_not.1 h2, h⟩
  subst ho; simpa using ht
theorem errL_mem {o : Bool} : ∀ {l : List V}, errL o l = 0 -> ∀ v ∈ l, errV o v = 0
  | [], _, v, hv => by simp at hv
  | a :: r, h, v, hv => by
    rw [errL] at h
    split at h
    . rename_i h1; exact absurd h h1
    rename_i h1
    rcases List.mem_cons.1 hv with rfl | hv
    . exact Classical.not_not.1 h1
    . exact errL_mem h v hv
theorem nrmOf_cnt {v w : V} {a b : List V} (hl : v.kind = 5 -> a.length = b.length) (ha : cnts a ≤ cnts v.keys) (hb : cnts b ≤ cnts v.items) (da : deps a ≤ deps v.keys) (db : deps b ≤ deps v.items) (h : nrmOf v a b = some w) : w.cnt ≤ v.cnt /\ w.dep ≤ v.dep := by
  unfold nrmOf at h
  rw [V.cnt_eq v, V.dep_eq v]
  split at h
  . injection h with h; subst h
    have := cnts_srtU b; have := deps_srtU b
    simp only [setN, V.cnt, V.dep, cnts, deps]; omega
  . split at h
    . rename_i e5
      have := fnV_cnt (hl e5) h; omega
    . injection h with h; subst h
      rw [<- V.cnt_eq, <- V.dep_eq]; exact ⟨Nat.le_refl _, Nat.le_refl _⟩
theorem nrms_cnt_of {l : List V} (h : ∀ v ∈ l, ∀ w, nrm v = some w -> w.cnt ≤ v.cnt /\ w.dep ≤ v.dep) : ∀ m, nrms l = some m -> cnts m ≤ cnts l /\ deps m ≤ deps l := by
  induction l with
  | nil => intro m hm; simp only [nrms] at hm; injection hm with hm; subst hm; exact ⟨Nat.le_refl _, Nat.le_refl _⟩
  | cons a r ih =>
    intro m hm
    rw [nrms] at hm
    split at hm <;> try (cases hm; done)
    rename_i x l0 h1 h2; injection hm with hm; subst hm
    have q1 := h a (by simp) x h1
    have q2 := ih (fun v hv => h v (by simp [hv])) l0 h2
    simp only [cnts, deps]; omega
theorem nrm_cnt : ∀ v : V, errV false v = 0 -> ∀ w, nrm v = some w -> w.cnt ≤ v.cnt /\ w.dep ≤ v.dep := by
  refine V.ind (P := fun v => errV false v = 0 -> ∀ w, nrm v = some w -> w.cnt ≤ v.cnt /\ w.dep ≤ v.dep) fun v hk hi h w hw => ?_
  obtain ⟨h1, _, h3, h4⟩ := errV_zero h
  have O := own0_of h1
  rw [nrm_eq] at hw
  split at hw <;> try (cases hw; done)
  rename_i a b ha hb
  have q1 := nrms_cnt_of (fun x hx => hk x hx (errL_mem h3 x hx)) a ha
  have q2 := nrms_cnt_of (fun x hx => hi x hx (errL_mem h4 x hx)) b hb
  exact nrmOf_cnt (fun e5 => by rw [nrms_len _ _ ha, nrms_len _ _ hb, O.len e5]) q1.1 q2.1 q1.2 q2.2 hw
theorem fnV_self {keys items : List V} (hl : keys.length = items.length) (h : SAsc keys) : fnV keys items = some (.mk 5 0 [] keys items) := by
  have hka : KAsc (keys.zip items) := by unfold KAsc; rw [fst_zip hl]; exact h
  have hf : Fnl (keys.zip items) := by
    clear h hl
    generalize keys.zip items = l at hka
    induction l with
    | nil => intro p hp; simp at hp
    | cons a r ih =>
      unfold KAsc SAsc at hka
      rw [List.map_cons, List.pairwise_cons] at hka
      have nin : ∀ p ∈ r, p.1 ≠ a.1 := fun p hp e => by
        have := hka.1 p.1 (List.mem_map.2 ⟨p, hp, rfl⟩); rw [e, cmpV_self] at this; omega
      intro p hp q hq e
      rcases List.mem_cons.1 hp with ep | hp' <;> rcases List.mem_cons.1 hq with eq | hq'
      . rw [ep, eq]
      . rw [ep] at e; exact absurd e.symm (nin q hq')
      . rw [eq] at e; exact absurd e (nin p hp')
      . exact ih hka.2 p hp' q hq' e
  obtain ⟨a1, a2⟩ := fnGo_none (sortBy cmpP (keys.zip items)) (sortBy_srtd ord_P _)
  have hfs : Fnl (sortBy cmpP (keys.zip items)) := by unfold Fnl; simp only [sortBy_mem]; exact hf
  unfold fnV
  cases hg : fnGo none (sortBy cmpP (keys.zip items)) with
  | none => exact absurd hfs (a2 hg)
  | some r =>
    obtain ⟨_, f2, f3⟩ := a1 r hg
    have e := kasc_uniq f2 hka fun x => by rw [f3, sortBy_mem]
    simp only
    rw [e, fst_zip hl, snd_zip hl]
theorem nrms_self_of {l : List V} (h : ∀ v ∈ l, nrm v = some v) : nrms l = some l := by
  induction l with
  | nil => rfl
  | cons a r ih => rw [nrms, h a (by simp), ih fun v hv => h v (by simp [hv])]
theorem nrm_self : ∀ v : V, errV true v = 0 -> nrm v = some v := by
  refine V.ind (P := fun v => errV true v = 0 -> nrm v = some v) fun v hk hi h => ?_
  obtain ⟨h1, h2, h3, h4⟩ := errV_zero h
  have O := own0_of h1
  have ho := h2 rfl
  unfold ordE at ho
  split at ho
  . exact absurd ho (by decide)
  rename_i hno
  rw [nrm_eq, nrms_self_of fun x hx => hk x hx (errL_mem h3 x hx), nrms_self_of fun x hx => hi x hx (errL_mem h4 x hx)]
  simp only
  unfold nrmOf
  by_cases e4 : v.kind = 4
  . rw [if_pos e4]
    have ha : SAsc v.items := (ascL_iff _).1 (by cases hx : ascL v.items with | true => rfl | false => exact absurd (.inl ⟨e4, hx⟩) hno)
    rw [setN, srtU_self ha]
    congr 1
    rw [<- V.eta v, O.num (by omega) (by omega), O.s (by omega) (by omega), O.keys (by omega), e4]
    rfl
  . rw [if_neg e4]
    by_cases e5 : v.kind = 5
    . rw [if_pos e5]
      have ha : SAsc v.keys := (ascL_iff _).1 (by cases hx : ascL v.keys with | true => rfl | false => exact absurd (.inr ⟨e5, hx⟩) hno)
      rw [fnV_self (O.len e5) ha]
      congr 1
      have q1 := O.num (by omega) (by omega); have q2 := O.s (by omega) (by omega)
      rw [<- V.eta v, q1, q2, e5]
      rfl
    . rw [if_neg e5]
theorem err_imp {v : V} : errV true v = 0 -> errV false v = 0 := by
  refine V.ind (P := fun v => errV true v = 0 -> errV false v = 0) (fun v hk hi h => ?_) v
  obtain ⟨h1, h2, h3, h4⟩ := errV_zero h
  have key : ∀ l : List V, (∀ x ∈ l, errV false x = 0) -> errL false l = 0 := fun l hl => by
    induction l with
    | nil => rfl
    | cons a r ih => rw [errL, if_neg (by simp [hl a (by simp)]), ih fun x hx => hl x (by simp [hx])]
  rw [errV_eq, if_neg (by simp [topE, h1]), if_neg (by simp [key _ fun x hx => hk x hx (errL_mem h3 x hx)]), key _ fun x hx => hi x hx (errL_mem h4 x hx)]
end Go.Tv
namespace Go.Tv
set_option maxHeartbeats 4000000
abbrev Ren := List UInt8 × List UInt8
theorem mk_kind (k n : Int) (s : List UInt8) (ks is : List V) : (V.mk k n s ks is).kind = k := rfl
theorem mk_num (k n : Int) (s : List UInt8) (ks is : List V) : (V.mk k n s ks is).num = n := rfl
theorem mk_s (k n : Int) (s : List UInt8) (ks is : List V) : (V.mk k n s ks is).s = s := rfl
theorem mk_keys (k n : Int) (s : List UInt8) (ks is : List V) : (V.mk k n s ks is).keys = ks := rfl
theorem mk_items (k n : Int) (s : List UInt8) (ks is : List V) : (V.mk k n s ks is).items = is := rfl
theorem own_iff (v : V) : ownE v = 0 ↔ (0 ≤ v.kind /\ v.kind ≤ 5) /\
    ¬((v.kind ≠ 0 /\ v.kind ≠ 1 /\ v.num ≠ 0) \/ (v.kind ≠ 2 /\ v.kind ≠ 3 /\ v.s ≠ []) \/ (v.kind ≠ 4 /\ v.kind ≠ 5 /\ v.items ≠ []) \/ (v.kind ≠ 5 /\ v.keys ≠ []) \/ (v.kind = 0 /\ ¬(0 ≤ v.num /\ v.num ≤ 1))) /\
    ¬((v.kind = 1 /\ ¬(-10000 ≤ v.num /\ v.num ≤ 10000)) \/ (v.kind = 2 /\ 40 < v.s.length)) /\
    ¬((v.kind = 2 /\ shownB v.s = false) \/ (v.kind = 3 /\ nameB v.s = false)) /\ ¬(v.kind = 5 /\ v.keys.length ≠ v.items.length) := by
  unfold ownE
  split
  . rename_i h1; exact ⟨fun h => absurd h (by decide), fun h => absurd h.1 h1⟩
  rename_i h1
  split
  . rename_i h2; exact ⟨fun h => absurd h (by decide), fun h => absurd h2 h.2.1⟩
  rename_i h2
  split
  . rename_i h3; exact ⟨fun h => absurd h (by decide), fun h => absurd h3 h.2.2.1⟩
  rename_i h3
  split
  . rename_i h4; exact ⟨fun h => absurd h (by decide), fun h => absurd h4 h.2.2.2.1⟩
  rename_i h4
  split
  . rename_i h5; exact ⟨fun h => absurd h (by decide), fun h => absurd h5 h.2.2.2.2⟩
  rename_i h5
  exact ⟨fun _ => ⟨Classical.not_not.1 h1, h2, h3, h4, h5⟩, fun _ => rfl⟩
end Go.Tv
