/-
  The evaluator of trees, its third part (draws in any order, deferred calls).
-/
import Derived.Test.YtbofonlhakedpaaGreatDoorTvb
import Derived.LoopN
import Derived.Defers
import Derived.Recover
namespace Go.Tv
theorem put_comm (t : List AV) {x y : Option Tmp} (v u : AV) (h : ∀ d, x = some d -> y ≠ some d) : put (put t x v) y u = put (put t y u) x v := by
  cases x with
  | none => rfl
  | some d =>
    cases y with
    | none => rfl
    | some e =>
      have hne : d ≠ e := fun he => h d rfl (he ▸ rfl)
      exact List.set_comm _ _ hne
theorem put_get_ne {t : List AV} {x : Option Tmp} {v : AV} {d : Nat} (h : x ≠ some d) : (put t x v)[d]? = t[d]? := by
  cases x with
  | none => rfl
  | some e => exact List.getElem?_set_ne (fun he => h (congrArg some he))
theorem put_get_congr {t u : List AV} {x : Option Tmp} {v : AV} {d : Nat} (h : t[d]? = u[d]?) (hl : t.length = u.length) : (put t x v)[d]? = (put u x v)[d]? := by
  cases x with
  | none => exact h
  | some e =>
    show (t.set e v)[d]? = (u.set e v)[d]?
    rw [List.getElem?_set, List.getElem?_set, h, hl]
theorem put_length (t : List AV) (x : Option Tmp) (v : AV) : (put t x v).length = t.length := by cases x <;> simp [put]
theorem ev_congr {C : Cfg} {t u : List AV} {x : Operand} (h : ∀ d, x = .tmp d -> t[d]? = u[d]?) : ev C t x = ev C u x := by
  cases x <;> try rfl
  rename_i d
  simp only [ev, List.getD_eq_getElem?_getD, h d rfl]
theorem evs_congr {C : Cfg} {t u : List AV} : ∀ {xs : List Operand}, (∀ x ∈ xs, ev C t x = ev C u x) -> evs C t xs = evs C u xs
  | [], _ => rfl
  | x :: xs, h => by simp only [evs, h x List.mem_cons_self, evs_congr (xs := xs) fun y hy => h y (List.mem_cons_of_mem _ hy)]
theorem evParts_congr {C : Cfg} {t u : List AV} : ∀ {xs : List (Nat × Operand)}, (∀ x ∈ xs, ev C t x.2 = ev C u x.2) -> evParts C t xs = evParts C u xs
  | [], _ => rfl
  | (i, x) :: xs, h => by simp only [evParts, h (i, x) List.mem_cons_self, evParts_congr (xs := xs) fun y hy => h y (List.mem_cons_of_mem _ hy)]
theorem map_congr_opt {C : Cfg} {t u : List AV} {x : Option Operand} (h : ∀ y, x = some y -> ev C t y = ev C u y) : x.map (ev C t) = x.map (ev C u) := by
  cases x with
  | none => rfl
  | some y => simp [h y rfl]
set_option maxHeartbeats 2000000 in
theorem adoOp_congr {C : Cfg} {call : Caller} {t u : List AV} {H : Heap} {o : Oper} (h : ∀ x ∈ o.op.operands, ev C t x = ev C u x) : adoOp C call o t H = adoOp C call o u H := by
  obtain ⟨dst, op, type, pos, after, guard⟩ := o
  simp only at h
  cases op <;> (try simp only [Op.operands] at h) <;> (try simp only [adoOp, aop, aval])
  case call c =>
    have ha : evs C t c.args.toList = evs C u c.args.toList := evs_congr fun x hx => h x (by simp [Call.operands]; right; simpa using hx)
    rw [ha]
    cases hc : c.callee with
    | value f => have hf := h f (by simp [Call.operands, hc]); simp only [hf]
    | builtin b => rfl
    | invoke r m => rfl
  case makeMap T r => cases r <;> rfl
  case lookup T m k ok =>
    have e1 := h m (by simp); have e2 := h k (by simp)
    cases ok <;> simp only [e1, e2]
  case next it st =>
    have e1 := h it (by simp)
    cases st <;> simp only [e1]
  case build T ps => rw [evParts_congr fun x hx => h x.2 (by simp; exact ⟨x.1, by simpa using hx⟩)]
  case buildSlice T n ps => rw [evParts_congr fun x hx => h x.2 (by simp; exact ⟨x.1, by simpa using hx⟩)]
  case makeFunc f a b => rw [evs_congr (xs := a.toList) fun x hx => h x (by simp; left; simpa using hx), evs_congr (xs := b.toList) fun x hx => h x (by simp; right; simpa using hx)]
  case slice T x lo hi mx =>
    have e1 := h x (by simp)
    have e2 : lo.map (ev C t) = lo.map (ev C u) := map_congr_opt fun y hy => h y (by subst hy; simp)
    have e3 : hi.map (ev C t) = hi.map (ev C u) := map_congr_opt fun y hy => h y (by subst hy; simp)
    have e4 : mx.map (ev C t) = mx.map (ev C u) := map_congr_opt fun y hy => h y (by subst hy; simp)
    simp only [e1, e2, e3, e4]
  case pick c a b =>
    have e1 := h c (by simp); have e2 := h a (by simp); have e3 := h b (by simp)
    rw [e1]
    cases hc : ev C u c with
    | none => rfl
    | some v =>
      cases v <;> try rfl
      case bool d =>
        have e4 : ev C t (if d = true then a else b) = ev C u (if d = true then a else b) := by cases d <;> assumption
        have e5 : ev C t (if d = true then b else a) = ev C u (if d = true then b else a) := by cases d <;> assumption
        show (match (match ev C t (if d = true then a else b), ev C t (if d = true then b else a) with | some v, some _ => some v | _, _ => none) with | some v => some (v, H) | none => none : Option (AV × Heap)) |> fun r => (match r with | some (v, H') => some (ARet.ok v, H') | none => none) = _
        rw [e4, e5]
        rfl
  all_goals first | rfl | (simp_all; done) | skip
theorem wanted_congr {ops : Array Oper} {t u : List AV} {o : Oper} (h : ∀ g w d, o.guard = some (g, w) -> (ops[g]?).bind (·.dst) = some d -> t[d]? = u[d]?) : Region.wanted o (ayielded ops t) = Region.wanted o (ayielded ops u) := by
  unfold Region.wanted
  split
  . rfl
  . rename_i g w hg
    have : ayielded ops t g = ayielded ops u g := by
      unfold ayielded
      cases hd : (ops[g]?).bind (·.dst) with
      | none => rfl
      | some d => simp only [Option.bind_some, h g w d hg hd]
    rw [this]
end Go.Tv
namespace Go.Tv
theorem eff_keeps {C : Cfg} {call : Caller} {o : Oper} {t : List AV} {H H' : Heap} {r : ARet} (hp : CallPure C call) (h : adoOp C call o t H = some (r, H')) {e : Eff} (he : effOf C o t H = e) {id : Nat} (hc : commutes (some id) e = true) (hid : id < H.length) (hq : e ≠ .quiet) :
    H.length ≤ H'.length /\ ∀ l T, H[id]? = some (.cells l T) ↔ H'[id]? = some (.cells l T) := by
  obtain ⟨dst, op, type, pos, after, guard⟩ := o
  have app : ∀ {x : AObj}, H' = H ++ [x] -> H.length ≤ H'.length /\ ∀ l T, H[id]? = some (.cells l T) ↔ H'[id]? = some (.cells l T) := by
    rintro x rfl
    refine ⟨by simp, fun l T => ?_⟩
    rw [List.getElem?_append_left hid]
  cases op
  case alloc T =>
    simp only [adoOp, aop] at h
    split at h <;> try (cases h; done)
    rename_i v H1 hv; injection h with h; injection h with e1 e2; subst e1 e2
    split at hv <;> try (cases hv; done)
    injection hv with hv; injection hv with e1 e2
    exact app e2.symm
  case box T x =>
    simp only [adoOp, aop] at h
    split at h <;> try (cases h; done)
    rename_i v H1 hv; injection h with h; injection h with e1 e2; subst e1 e2
    split at hv <;> try (cases hv; done)
    injection hv with hv; injection hv with e1 e2
    exact app e2.symm
  case makeSlice T l c =>
    simp only [adoOp, aop] at h
    split at h <;> try (cases h; done)
    rename_i v H1 hv; injection h with h; injection h with e1 e2; subst e1 e2
    split at hv <;> try (cases hv; done)
    split at hv <;> try (cases hv; done)
    split at hv
    . injection hv with hv; injection hv with e1 e2
      exact app e2.symm
    split at hv <;> try (cases hv; done)
    injection hv with hv; injection hv with e1 e2
    exact app e2.symm
  case convert s d x =>
    simp only [effOf] at he
    split at he
    . subst he; simp [commutes] at hc
    . exact absurd he.symm hq
  case buildSlice T len parts =>
    simp only [effOf] at he
    by_cases hl : C.lit = true
    . simp only [adoOp, aop, hl, if_true] at h
      split at h <;> try (cases h; done)
      rename_i v H1 hv; injection h with h; injection h with e1 e2; subst e1 e2
      split at hv <;> try (cases hv; done)
      split at hv <;> try (cases hv; done)
      split at hv <;> try (cases hv; done)
      injection hv with hv; injection hv with e1 e2
      exact app e2.symm
    . rw [if_neg hl] at he
      exact absurd he.symm hq
  case store T x y =>
    simp only [adoOp, aop] at h
    split at h <;> try (cases h; done)
    rename_i v H1 hv; injection h with h; injection h with e1 e2; subst e1 e2
    split at hv <;> try (cases hv; done)
    rename_i k off u hx hy
    split at hv <;> try (cases hv; done)
    rename_i cs T0 n hk hn
    split at hv <;> try (cases hv; done)
    injection hv with hv; injection hv with e1 e2; subst e2
    simp only [effOf, hx] at he
    subst he
    simp only [commutes, bne_iff_ne, ne_eq] at hc
    exact ⟨by simp, fun l T => by rw [List.getElem?_set_ne (fun e => hc e.symm)]⟩
  case panic x => simp only [effOf] at he; subst he; simp [commutes] at hc
  case call c =>
    simp only [adoOp] at h
    split at h <;> try (cases h; done)
    rename_i args ha
    simp only [effOf] at he
    split at h
    . rename_i f hf
      rw [hf] at he
      split at h <;> try (cases h; done)
      rename_i g first cap hg
      simp only [hg, ha] at he
      split at he
      . exact absurd he.symm hq
      . rename_i hne
        subst he
        simp only [commutes, Bool.not_eq_true'] at hc
        split at h
        . rename_i hx hex
          rw [hex] at hne; simp at hne
        . rename_i hex
          rw [hex] at hne
          simp only [Option.isSome_none, Bool.false_or, Bool.and_eq_true, Bool.not_eq_true'] at hne
          obtain ⟨g1, g2⟩ := hp.frame _ _ _ _ _ hne h
          exact ⟨g1, fun l T => by rw [g2 id hid hc]⟩
    . rename_i b hb
      rw [hb] at he
      split at h <;> try (cases h; done)
      rename_i v H1 hv; injection h with h; injection h with e1 e2; subst e1 e2
      cases b <;> simp only [abuiltin] at hv he <;> try (cases hv; done)
      case len => exact absurd he.symm hq
      case max => exact absurd he.symm hq
      case cap => exact absurd he.symm hq
      case min => exact absurd he.symm hq
      case clear => subst he; simp [commutes] at hc
      case copy => subst he; simp [commutes] at hc
      case append =>
        rw [ha] at he
        unfold aappB at hv
        split at hv <;> try (cases hv; done)
        . unfold aappZ at hv
          split at hv <;> try (cases hv; done)
          split at hv <;> try (cases hv; done)
          split at hv <;> try (cases hv; done)
          injection hv with hv; injection hv with e1 e2; exact app e2.symm
        unfold aappend at hv
        split at hv <;> try (cases hv; done)
        split at hv <;> try (cases hv; done)
        split at hv <;> try (cases hv; done)
        split at hv
        . split at hv
          . injection hv with hv; injection hv with e1 e2; subst e2; exact ⟨Nat.le_refl _, fun _ _ => Iff.rfl⟩
          . split at hv <;> try (cases hv; done)
            split at hv
            . split at hv <;> try (cases hv; done)
              injection hv with hv; injection hv with e1 e2; exact app e2.symm
            . injection hv with hv; injection hv with e1 e2; exact app e2.symm
        . split at hv
          . injection hv with hv; injection hv with e1 e2; subst e2; exact ⟨Nat.le_refl _, fun _ _ => Iff.rfl⟩
          . split at hv <;> try (cases hv; done)
            rename_i k _
            split at hv <;> try (cases hv; done)
            rename_i m s hk
            split at hv <;> try (cases hv; done)
            injection hv with hv; injection hv with e1 e2; subst e2
            refine ⟨by simp, fun l T => ?_⟩
            rw [List.getElem?_append_left (by simpa using hid)]
            by_cases hkid : k = id
            . subst hkid
              rw [hk, List.getElem?_set_self hid]
              constructor <;> intro h <;> cases h
            . rw [List.getElem?_set_ne hkid]
        . rename_i k _ _ _ _ _
          simp only [appEff] at he
          subst he
          simp only [commutes, bne_iff_ne, ne_eq] at hc
          split at hv
          . injection hv with hv; injection hv with e1 e2; subst e2; exact ⟨Nat.le_refl _, fun _ _ => Iff.rfl⟩
          . split at hv <;> try (cases hv; done)
            split at hv <;> try (cases hv; done)
            injection hv with hv; injection hv with e1 e2; subst e2
            refine ⟨by simp, fun l T => ?_⟩
            rw [List.getElem?_append_left (by simpa using hid), List.getElem?_set_ne (fun e => hc e.symm)]
        . cases hv
    . cases h
  all_goals (simp only [effOf] at he; first | exact absurd he.symm hq | (subst he; simp [commutes] at hc))
end Go.Tv
namespace Go.Tv
structure Draw (C : Cfg) (call : Caller) (ops : Array Oper) (tr : Trace) (t' : List AV) (H' : Heap) (t : List AV) (H : Heap) (p : Nat) : Prop where
  le : p ≤ ops.size
  len : tr.length = p
  step : ∀ k, k < p -> StepAt C call ops tr t' H' k k
  t0 : ttOf tr t' 0 = t
  h0 : hhOf tr H' 0 = H
  back : Back ops
  pairs : ∀ j, j < p -> ∀ i, i < j -> ((masksOf ops.toList []).getD j 0).testBit i = true \/ pairOk C ops tr i j = true
  pure : CallPure C call
def dstOf (ops : Array Oper) (i : Nat) : Option Tmp := (ops[i]?).bind (·.dst)
def tS (ops : Array Oper) (tr : Trace) (t : List AV) (S : Nat -> Bool) : Nat -> List AV
  | 0 => t
  | i + 1 => if S i then put (tS ops tr t S i) (dstOf ops i) (vvOf tr i) else tS ops tr t S i
def hS (C : Cfg) (ops : Array Oper) (tr : Trace) (H' H : Heap) (S : Nat -> Bool) : Nat -> Heap
  | 0 => H
  | i + 1 => if S i = true /\ effAt C ops tr i ≠ .quiet then hhOf tr H' (i + 1) else hS C ops tr H' H S i
def add (S : Nat -> Bool) (j : Nat) : Nat -> Bool := fun i => if i = j then true else S i
def leftN (S : Nat -> Bool) : Nat -> Nat
  | 0 => 0
  | n + 1 => leftN S n + (if S n then 0 else 1)
theorem leftN_add {S : Nat -> Bool} {j : Nat} (hj : S j = false) : ∀ n, (j < n -> leftN (add S j) n + 1 = leftN S n) /\ (n ≤ j -> leftN (add S j) n = leftN S n)
  | 0 => ⟨fun h => by omega, fun _ => rfl⟩
  | n + 1 => by
    obtain ⟨h1, h2⟩ := leftN_add hj n
    refine ⟨fun h => ?_, fun h => ?_⟩
    . simp only [leftN]
      by_cases hn : n = j
      . subst hn; rw [h2 (Nat.le_refl _)]; simp [add, hj]
      . have := h1 (by omega)
        have ha : add S j n = S n := by simp [add, hn]
        rw [ha]; omega
    . have := h2 (by omega)
      have ha : add S j n = S n := by simp [add]; omega
      simp only [leftN, ha]; omega
theorem leftN_zero {S : Nat -> Bool} : ∀ {n}, leftN S n = 0 -> ∀ i, i < n -> S i = true
  | 0, _, i, hi => by omega
  | n + 1, h, i, hi => by
    simp only [leftN] at h
    by_cases hin : i = n
    . subst hin; cases hs : S i with
      | true => rfl
      | false => rw [hs] at h; simp at h
    . exact leftN_zero (n := n) (by omega) i (by omega)
theorem leftN_pos {S : Nat -> Bool} : ∀ {n}, 0 < leftN S n -> ∃ i, i < n /\ S i = false /\ ∀ k, k < i -> S k = true
  | 0, h => by simp [leftN] at h
  | n + 1, h => by
    by_cases h0 : 0 < leftN S n
    . obtain ⟨i, h1, h2, h3⟩ := leftN_pos h0; exact ⟨i, by omega, h2, h3⟩
    . have hz : leftN S n = 0 := by omega
      refine ⟨n, by omega, ?_, leftN_zero hz⟩
      simp only [leftN, hz] at h
      cases hs : S n with
      | false => rfl
      | true => rw [hs] at h; simp at h
section
variable {C : Cfg} {call : Caller} {ops : Array Oper} {tr : Trace} {t' t : List AV} {H' H : Heap} {S : Nat -> Bool} {p : Nat}
theorem Draw.tr_at (D : Draw C call ops tr t' H' t H p) {k : Nat} (hk : k < p) : tr[k]? = some (ttOf tr t' k, hhOf tr H' k, vvOf tr k) := by
  have : k < tr.length := by rw [D.len]; exact hk
  simp only [ttOf, hhOf, vvOf, List.getElem?_eq_getElem this]
theorem Draw.eff_of (D : Draw C call ops tr t' H' t H p) {k : Nat} (hk : k < p) {o : Oper} (ho : ops[k]? = some o) :
    effAt C ops tr k = if Region.wanted o (ayielded ops (ttOf tr t' k)) then effOf C o (ttOf tr t' k) (hhOf tr H' k) else .quiet := by
  unfold effAt; rw [ho, D.tr_at hk]
theorem Draw.read_of (D : Draw C call ops tr t' H' t H p) {k : Nat} (hk : k < p) {o : Oper} (ho : ops[k]? = some o) : readAt C ops tr k = readOf C o (ttOf tr t' k) := by
  unfold readAt; rw [ho, D.tr_at hk]
theorem Draw.quiet_step (D : Draw C call ops tr t' H' t H p) {k : Nat} (hk : k < p) (hq : effAt C ops tr k = .quiet) : hhOf tr H' (k + 1) = hhOf tr H' k := by
  obtain ⟨o, ho, _, h⟩ := D.step k hk
  rcases h with ⟨hw, hv⟩ | ⟨_, _, h⟩
  . have := D.eff_of hk ho
    rw [hw, if_pos rfl, hq] at this
    exact (quiet_op D.pure this.symm hv).1
  . exact h
theorem Draw.apart (D : Draw C call ops tr t' H' t H p) {i j : Nat} (hi : i < p) (hj : j < p) (hne : i ≠ j) {a b : Oper} (ha : ops[i]? = some a) (hb : ops[j]? = some b)
    (h1 : ((masksOf ops.toList []).getD j 0).testBit i ≠ true) (h2 : ((masksOf ops.toList []).getD i 0).testBit j ≠ true) :
    (∀ d, a.dst = some d -> d ∉ b.looksAt ops /\ b.dst ≠ some d) /\ (∀ d, b.dst = some d -> d ∉ a.looksAt ops /\ a.dst ≠ some d) /\
    (effAt C ops tr i = .quiet -> effAt C ops tr j ≠ .quiet -> commutes (readAt C ops tr i) (effAt C ops tr j) = true) /\
    (effAt C ops tr j = .quiet -> effAt C ops tr i ≠ .quiet -> commutes (readAt C ops tr j) (effAt C ops tr i) = true) /\
    (effAt C ops tr i = .quiet \/ effAt C ops tr j = .quiet) := by
  have key : ∀ {i j : Nat} {a b : Oper}, ops[i]? = some a -> ops[j]? = some b -> pairOk C ops tr i j = true ->
      (∀ d, a.dst = some d -> d ∉ b.looksAt ops /\ b.dst ≠ some d) /\ (∀ d, b.dst = some d -> d ∉ a.looksAt ops /\ a.dst ≠ some d) /\
      (effAt C ops tr i = .quiet -> effAt C ops tr j ≠ .quiet -> commutes (readAt C ops tr i) (effAt C ops tr j) = true) /\
      (effAt C ops tr j = .quiet -> effAt C ops tr i ≠ .quiet -> commutes (readAt C ops tr j) (effAt C ops tr i) = true) /\
      (effAt C ops tr i = .quiet \/ effAt C ops tr j = .quiet) := by
    intro i j a b ha hb hp
    unfold pairOk at hp
    rw [ha, hb] at hp
    simp only [Bool.and_eq_true] at hp
    obtain ⟨h1, h2⟩ := hp
    obtain ⟨k1, k2, k3⟩ := Oper.apart_spec h1
    refine ⟨fun d hd => ⟨k1 d hd, k2 d hd⟩, fun d hd => ⟨k3 d hd, fun e => k2 d e hd⟩, ?_, ?_, ?_⟩
    . intro hq hn
      rw [hq] at h2
      cases he : effAt C ops tr j with
      | quiet => exact absurd he hn
      | new => rw [he] at h2; exact h2
      | put k => rw [he] at h2; exact h2
      | upto R => rw [he] at h2; exact h2
      | all => rw [he] at h2; exact h2
    . intro hq hn
      rw [hq] at h2
      cases he : effAt C ops tr i with
      | quiet => exact absurd he hn
      | new => rw [he] at h2; exact h2
      | put k => rw [he] at h2; exact h2
      | upto R => rw [he] at h2; exact h2
      | all => rw [he] at h2; exact h2
    . cases he : effAt C ops tr i with
      | quiet => exact .inl rfl
      | _ =>
        cases hf : effAt C ops tr j with
        | quiet => exact .inr rfl
        | _ => rw [he, hf] at h2; cases h2
  rcases Nat.lt_or_gt_of_ne hne with h | h
  . rcases D.pairs j hj i h with hp | hp
    . exact absurd hp h1
    . exact key ha hb hp
  . rcases D.pairs i hi j h with hp | hp
    . exact absurd hp h2
    . obtain ⟨k1, k2, k3, k4, k5⟩ := key hb ha hp
      exact ⟨k2, k1, k4, k3, k5.symm⟩
theorem tS_length : ∀ n, (tS ops tr t S n).length = t.length
  | 0 => rfl
  | n + 1 => by simp only [tS]; split <;> simp [put_length, tS_length n]
theorem Draw.tt_length (D : Draw C call ops tr t' H' t H p) : ∀ k, k ≤ p -> (ttOf tr t' k).length = t.length
  | 0, _ => by rw [D.t0]
  | k + 1, hk => by
    obtain ⟨o, _, h, _⟩ := D.step k (by omega)
    rw [h, put_length, D.tt_length k (by omega)]
theorem Draw.slot_before (D : Draw C call ops tr t' H' t H p) {d : Nat} : ∀ n, n ≤ p -> (∀ i, i < n -> dstOf ops i = some d -> S i = true) -> (tS ops tr t S n)[d]? = (ttOf tr t' n)[d]?
  | 0, _, _ => by rw [D.t0]; rfl
  | n + 1, hn, h => by
    have ih := D.slot_before n (by omega) fun i hi hd => h i (by omega) hd
    obtain ⟨o, ho, hstep, _⟩ := D.step n (by omega)
    have hdst : dstOf ops n = o.dst := by simp [dstOf, ho]
    rw [hstep]
    simp only [tS]
    split
    . rw [hdst]; exact put_get_congr ih (by rw [tS_length, D.tt_length n (by omega)])
    . rename_i hs
      have : o.dst ≠ some d := fun e => hs (h n (by omega) (by rw [hdst]; exact e))
      rw [put_get_ne this]; exact ih
theorem slot_after {d m : Nat} : ∀ n, m ≤ n -> (∀ i, m ≤ i -> i < n -> S i = true -> dstOf ops i ≠ some d) -> (tS ops tr t S n)[d]? = (tS ops tr t S m)[d]?
  | 0, h, _ => by have : m = 0 := by omega
                  subst this; rfl
  | n + 1, h, hh => by
    by_cases hm : m = n + 1
    . subst hm; rfl
    . have ih := slot_after n (by omega) fun i h1 h2 => hh i h1 (by omega)
      simp only [tS]
      split
      . rename_i hs; rw [put_get_ne (hh n (by omega) (by omega) hs)]; exact ih
      . exact ih
theorem tS_add {j : Nat} (hj : S j = false) : ∀ n, (n ≤ j -> tS ops tr t (add S j) n = tS ops tr t S n) /\
    (j < n -> (∀ i, j < i -> i < n -> S i = true -> ∀ d, dstOf ops j = some d -> dstOf ops i ≠ some d) -> tS ops tr t (add S j) n = put (tS ops tr t S n) (dstOf ops j) (vvOf tr j))
  | 0 => ⟨fun _ => rfl, fun h => by omega⟩
  | n + 1 => by
    obtain ⟨h1, h2⟩ := tS_add hj n
    refine ⟨fun h => ?_, fun h hh => ?_⟩
    . have ha : add S j n = S n := by simp [add]; omega
      simp only [tS, ha, h1 (show n ≤ j by omega)]
    . by_cases hn : n = j
      . subst hn
        have ha : add S n n = true := by simp [add]
        simp only [tS, hj, ha, Bool.false_eq_true, if_false, if_true, h1 (Nat.le_refl _)]
      . have ih := h2 (by omega) fun i a b => hh i a (by omega)
        have ha : add S j n = S n := by simp [add, hn]
        simp only [tS, ha, ih]
        split
        . rename_i hs
          exact put_comm _ _ _ fun d hd => hh n (by omega) (by omega) hs d hd
        . rfl
theorem Draw.heap_at (D : Draw C call ops tr t' H' t H p) (hord : ∀ i, i < p -> S i = true -> effAt C ops tr i ≠ .quiet -> ∀ k, k < i -> effAt C ops tr k ≠ .quiet -> S k = true) : ∀ n, n ≤ p ->
    ∃ m, m ≤ n /\ hS C ops tr H' H S n = hhOf tr H' m /\ (∀ i, i < m -> effAt C ops tr i ≠ .quiet -> S i = true) /\ (∀ i, m ≤ i -> i < n -> effAt C ops tr i ≠ .quiet -> S i = false)
  | 0, _ => ⟨0, Nat.le_refl _, D.h0.symm, fun i hi => by omega, fun i h1 h2 => by omega⟩
  | n + 1, hn => by
    obtain ⟨m, h1, h2, h3, h4⟩ := D.heap_at hord n (by omega)
    simp only [hS]
    split
    . rename_i hc
      refine ⟨n + 1, Nat.le_refl _, rfl, fun i hi he => ?_, fun i a b => by omega⟩
      by_cases hin : i = n
      . subst hin; exact hc.1
      . exact hord n (by omega) hc.1 hc.2 i (by omega) he
    . rename_i hc
      refine ⟨m, by omega, h2, h3, fun i a b he => ?_⟩
      by_cases hin : i = n
      . subst hin
        cases hs : S i with
        | false => rfl
        | true => exact absurd ⟨hs, he⟩ hc
      . exact h4 i a (by omega) he
theorem hS_add {j : Nat} (hj : S j = false) : ∀ n, (n ≤ j -> hS C ops tr H' H (add S j) n = hS C ops tr H' H S n) /\
    (j < n -> effAt C ops tr j = .quiet -> hS C ops tr H' H (add S j) n = hS C ops tr H' H S n) /\
    (j < n -> effAt C ops tr j ≠ .quiet -> (∀ i, j < i -> i < n -> S i = true -> effAt C ops tr i = .quiet) -> hS C ops tr H' H (add S j) n = hhOf tr H' (j + 1))
  | 0 => ⟨fun _ => rfl, fun h => by omega, fun h => by omega⟩
  | n + 1 => by
    obtain ⟨h1, h2, h3⟩ := hS_add hj n
    refine ⟨fun h => ?_, fun h hq => ?_, fun h hq hh => ?_⟩
    . have ha : add S j n = S n := by simp [add]; omega
      simp only [hS, ha, h1 (show n ≤ j by omega)]
    . by_cases hn : n = j
      . subst hn
        simp only [hS]
        rw [if_neg (fun hc => hc.2 hq), if_neg (fun hc => hc.2 hq), h1 (Nat.le_refl _)]
      . have ha : add S j n = S n := by simp [add, hn]
        simp only [hS, ha, h2 (show j < n by omega) hq]
    . by_cases hn : n = j
      . subst hn
        simp only [hS]
        rw [if_pos ⟨by simp [add], hq⟩]
      . have ha : add S j n = S n := by simp [add, hn]
        simp only [hS, ha]
        rw [if_neg (fun hc => hc.2 (hh n (by omega) (by omega) hc.1))]
        exact h3 (by omega) hq fun i a b => hh i a (by omega)
theorem Draw.span (D : Draw C call ops tr t' H' t H p) {id a : Nat} (hid : id < (hhOf tr H' a).length) : ∀ b, a ≤ b -> b ≤ p -> (∀ i, a ≤ i -> i < b -> effAt C ops tr i ≠ .quiet -> commutes (some id) (effAt C ops tr i) = true) ->
    id < (hhOf tr H' b).length /\ ∀ l T, (hhOf tr H' a)[id]? = some (.cells l T) ↔ (hhOf tr H' b)[id]? = some (.cells l T)
  | 0, h, _, _ => by have : a = 0 := by omega
                     subst this; exact ⟨hid, fun _ _ => Iff.rfl⟩
  | b + 1, h, hb, hh => by
    by_cases hab : a = b + 1
    . subst hab; exact ⟨hid, fun _ _ => Iff.rfl⟩
    . obtain ⟨h1, h2⟩ := D.span hid b (by omega) (by omega) fun i p q => hh i p (by omega)
      by_cases hq : effAt C ops tr b = .quiet
      . rw [D.quiet_step (by omega) hq]; exact ⟨h1, h2⟩
      . obtain ⟨o, ho, _, hs⟩ := D.step b (by omega)
        have he := D.eff_of (k := b) (by omega) ho
        rcases hs with ⟨hw, hv⟩ | ⟨hw, _, hv⟩
        . rw [hw, if_pos rfl] at he
          obtain ⟨k1, k2⟩ := eff_keeps D.pure hv he.symm (hh b (by omega) (by omega) hq) h1 hq
          exact ⟨Nat.lt_of_lt_of_le h1 k1, fun l T => (h2 l T).trans (k2 l T)⟩
        . rw [hw] at he; simp at he; exact absurd he hq
end
end Go.Tv
namespace Go.Tv
theorem mask_lt {ops : Array Oper} (hback : Back ops) : ∀ (j : Nat) (o : Oper), ops[j]? = some o -> ∀ i, ((masksOf ops.toList []).getD j 0).testBit i = true -> i < j := by
  intro j
  induction j using Nat.strongRecOn with
  | _ j ih =>
    intro o ho i hb
    rw [mask_at ho, maskOf_bit] at hb
    obtain ⟨e, he, hbe, h⟩ := hb
    have hlt := hback j o ho e he hbe
    rcases h with rfl | h
    . exact hlt
    . have e1 : ((masksOf ops.toList []).take j).getD e.on 0 = (masksOf ops.toList []).getD e.on 0 := by
        simp only [List.getD_eq_getElem?_getD]; rw [List.getElem?_take, if_pos hlt]
      rw [e1] at h
      have hej : e.on < ops.size := Nat.lt_trans hlt (Array.getElem?_eq_some_iff.1 ho).1
      have := ih e.on hlt _ (Array.getElem?_eq_getElem hej) i h
      omega
def sOf (listed : Array Bool) : Nat -> Bool := fun i => listed.getD i false
theorem mem_ready {ops : Array Oper} {listed : Array Bool} (hs : listed.size = ops.size) {i : Nat} :
    i ∈ Region.ready .any ops listed ↔ ∃ o, ops[i]? = some o /\ sOf listed i = false /\ ∀ e ∈ o.after.toList, Region.binds .any e = true -> sOf listed e.on = true := by
  unfold Region.ready
  rw [List.mem_filter]
  constructor
  . rintro ⟨hi, h⟩
    have hlt : i < ops.size := by simpa using hi
    refine ⟨ops[i], Array.getElem?_eq_getElem hlt, ?_, ?_⟩
    . simp only [Bool.and_eq_true, Bool.not_eq_true'] at h
      have h1 := h.1
      have hl : i < listed.size := by omega
      simp only [sOf, Array.getD_eq_getD_getElem?, Array.getElem?_eq_getElem hl, Option.getD_some] at h1 ⊢; exact h1
    . intro e he hb
      simp only [Bool.and_eq_true, Array.getElem?_eq_getElem hlt, Option.map_some, Option.getD_some, Array.all_eq_true_iff_forall_mem] at h
      have := h.2 e (by simpa using he)
      simp only [hb, Bool.not_true, Bool.false_or] at this; exact this
  . rintro ⟨o, ho, h1, h2⟩
    have hlt := (Array.getElem?_eq_some_iff.1 ho).1
    have hl : i < listed.size := by omega
    refine ⟨by simpa using hlt, ?_⟩
    simp only [sOf, Array.getD_eq_getD_getElem?, Array.getElem?_eq_getElem hl, Option.getD_some] at h1
    simp only [Bool.and_eq_true, Bool.not_eq_true', ho, Option.map_some, Option.getD_some, Array.all_eq_true_iff_forall_mem]
    refine ⟨by simp only [Array.getD_eq_getD_getElem?, Array.getElem?_eq_getElem hl, Option.getD_some]; exact h1, fun e he => ?_⟩
    by_cases hb : Region.binds .any e = true
    . have := h2 e (by simpa using he) hb
      simp only [hb, Bool.not_true, Bool.false_or]; exact this
    . simp [hb]
theorem sOf_add {listed : Array Bool} {j : Nat} (hj : j < listed.size) : sOf (listed.setIfInBounds j true) = add (sOf listed) j := by
  funext i
  simp only [sOf, add, Array.getD_eq_getD_getElem?]
  by_cases h : i = j
  . subst h; simp [hj]
  . rw [Array.getElem?_setIfInBounds_ne (Ne.symm h), if_neg h]
theorem looks_tmp {ops : Array Oper} {o : Oper} {d : Nat} (h : Operand.tmp d ∈ o.op.operands) : d ∈ o.looksAt ops := by
  unfold Oper.looksAt
  exact List.mem_append_left _ (List.mem_filterMap.2 ⟨.tmp d, by simpa using h, rfl⟩)
theorem looks_guard {ops : Array Oper} {o : Oper} {g : Nat} {w : Bool} {d : Nat} (h : o.guard = some (g, w)) (hd : (ops[g]?).bind (·.dst) = some d) : d ∈ o.looksAt ops := by
  unfold Oper.looksAt
  refine List.mem_append_right _ ?_
  rw [h]; simp only [hd]; simp
section
variable {C : Cfg} {call : Caller} {ops : Array Oper} {tr : Trace} {t' t : List AV} {H' H : Heap}
theorem Draw.all_done {p : Nat} (D : Draw C call ops tr t' H' t H p) {S : Nat -> Bool} (h : ∀ i, i < p -> S i = true) : tS ops tr t S p = t' /\ hS C ops tr H' H S p = H' := by
  have e1 : ttOf tr t' p = t' := by unfold ttOf; rw [List.getElem?_eq_none (by rw [D.len]; exact Nat.le_refl _)]
  have e2 : hhOf tr H' p = H' := by unfold hhOf; rw [List.getElem?_eq_none (by rw [D.len]; exact Nat.le_refl _)]
  have k1 : ∀ n, n ≤ p -> tS ops tr t S n = ttOf tr t' n := by
    intro n
    induction n with
    | zero => intro _; exact D.t0.symm
    | succ n ih =>
      intro hn
      obtain ⟨o, ho, hst, _⟩ := D.step n (by omega)
      simp only [tS]
      rw [h n (by omega), if_pos rfl, ih (by omega), hst]
      simp [dstOf, ho]
  have k2 : ∀ n, n ≤ p -> hS C ops tr H' H S n = hhOf tr H' n := by
    intro n
    induction n with
    | zero => intro _; exact D.h0.symm
    | succ n ih =>
      intro hn
      simp only [hS]
      split
      . rfl
      . rename_i hc
        have hq : effAt C ops tr n = .quiet := by
          cases he : effAt C ops tr n <;> first | rfl | exact absurd ⟨h n (by omega), by rw [he]; simp⟩ hc
        rw [ih (by omega), D.quiet_step (by omega) hq]
  exact ⟨(k1 _ (Nat.le_refl _)).trans e1, (k2 _ (Nat.le_refl _)).trans e2⟩
theorem draw_any (hC : CfgOk C) (hcall : CallOk C call) (D : Draw C call ops tr t' H' t H ops.size) {ds : List Deferred} {E0 : Env} {w0 : World} : ∀ (fuel : Nat) (listed : Array Bool) (E : Env) (w : World) (a : Act), listed.size = ops.size -> leftN (sOf listed) ops.size ≤ fuel -> Closed ops (sOf listed) ->
    Ext E0 w0 E w -> GlobOk C E -> Holds E (hS C ops tr H' H (sOf listed) ops.size) w -> RepL E (tS ops tr t (sOf listed) ops.size) a.tmps -> a.defers = ds ->
    wpAny C.P .any ops (Post ds E0 w0 .normal t' H') fuel listed a w := by
  have fin : ∀ (listed : Array Bool) (E : Env) (w : World) (a : Act), listed.size = ops.size -> leftN (sOf listed) ops.size = 0 -> Ext E0 w0 E w -> Holds E (hS C ops tr H' H (sOf listed) ops.size) w -> RepL E (tS ops tr t (sOf listed) ops.size) a.tmps -> a.defers = ds -> Post ds E0 w0 .normal t' H' .normal a w := by
    intro listed E w a hs h0 hE hH ht hd
    obtain ⟨e1, e2⟩ := D.all_done (leftN_zero h0)
    rw [e1] at ht; rw [e2] at hH
    exact ⟨E, hE, hH, fun _ => ht, hd, trivial⟩
  have ready_ne : ∀ (listed : Array Bool), listed.size = ops.size -> Region.ready .any ops listed = [] -> leftN (sOf listed) ops.size = 0 := by
    intro listed hs hr
    rcases Nat.eq_zero_or_pos (leftN (sOf listed) ops.size) with h | h
    . exact h
    . obtain ⟨i, h1, h2, h3⟩ := leftN_pos h
      have : i ∈ Region.ready .any ops listed := (mem_ready hs).2 ⟨ops[i], Array.getElem?_eq_getElem h1, h2, fun e he hb => h3 _ (D.back i _ (Array.getElem?_eq_getElem h1) e he hb)⟩
      rw [hr] at this; cases this
  have ready_nil : ∀ (listed : Array Bool), listed.size = ops.size -> leftN (sOf listed) ops.size = 0 -> Region.ready .any ops listed = [] := by
    intro listed hs h0
    cases hr : Region.ready .any ops listed with
    | nil => rfl
    | cons x xs =>
      have hx : x ∈ Region.ready .any ops listed := by rw [hr]; exact List.mem_cons_self
      obtain ⟨o, ho, h1, _⟩ := (mem_ready hs).1 hx
      have := leftN_zero h0 x (Array.getElem?_eq_some_iff.1 ho).1
      rw [h1] at this; cases this
  intro fuel
  induction fuel with
  | zero =>
    intro listed E w a hs hl hcl hE hg hH ht hd
    exact ⟨ready_nil listed hs (by omega), fin listed E w a hs (by omega) hE hH ht hd⟩
  | succ fuel ih =>
    intro listed E w a hs hl hcl hE hg hH ht hd
    refine ⟨fun hr => fin listed E w a hs (ready_ne listed hs hr) hE hH ht hd, fun j hj => ?_⟩
    obtain ⟨o, ho, hSj, hpre⟩ := (mem_ready hs).1 hj
    have hjn : j < ops.size := (Array.getElem?_eq_some_iff.1 ho).1
    generalize hSS : sOf listed = S at *
    have hadd : sOf (listed.setIfInBounds j true) = add S j := by rw [sOf_add (by omega), hSS]
    have ord1 : ∀ i, i < ops.size -> S i = true -> ((masksOf ops.toList []).getD i 0).testBit j ≠ true := fun i hi hSi hb => by
      have := before_done D.back hcl i ops[i] (Array.getElem?_eq_getElem hi) (hcl i _ (Array.getElem?_eq_getElem hi) hSi) j hb
      rw [hSj] at this; cases this
    have ord2 : ∀ i, S i = false -> ((masksOf ops.toList []).getD j 0).testBit i ≠ true := fun i hSi hb => by
      have := before_done D.back hcl j o ho hpre i hb
      rw [hSi] at this; cases this
    have lt1 : ∀ i k, i < ops.size -> ((masksOf ops.toList []).getD i 0).testBit k = true -> k < i := fun i k hi => mask_lt D.back i ops[i] (Array.getElem?_eq_getElem hi) k
    have apt : ∀ i (hi : i < ops.size), i ≠ j -> (S i = true -> j < i) -> (S i = false -> i < j) ->
        ((∀ d, ops[i].dst = some d -> d ∉ o.looksAt ops /\ o.dst ≠ some d) /\ (∀ d, o.dst = some d -> d ∉ ops[i].looksAt ops /\ ops[i].dst ≠ some d) /\
        (effAt C ops tr i = .quiet -> effAt C ops tr j ≠ .quiet -> commutes (readAt C ops tr i) (effAt C ops tr j) = true) /\
        (effAt C ops tr j = .quiet -> effAt C ops tr i ≠ .quiet -> commutes (readAt C ops tr j) (effAt C ops tr i) = true) /\
        (effAt C ops tr i = .quiet \/ effAt C ops tr j = .quiet)) := fun i hi hne h1 h2 =>
      D.apart (i := i) (j := j) hi hjn hne (Array.getElem?_eq_getElem hi) ho
        (by cases hSi : S i with
            | true => intro hb; have := lt1 j i hjn hb; have := h1 hSi; omega
            | false => exact ord2 i hSi)
        (by cases hSi : S i with
            | true => exact ord1 i hi hSi
            | false => intro hb; have := lt1 i j hi hb; have := h2 hSi; omega)
    have hdstj : dstOf ops j = o.dst := by simp [dstOf, ho]
    have hdst : ∀ i (hi : i < ops.size), dstOf ops i = ops[i].dst := fun i hi => by simp [dstOf, hi]
    have hlook : ∀ d, d ∈ o.looksAt ops -> (tS ops tr t S ops.size)[d]? = (ttOf tr t' j)[d]? := by
      intro d hdl
      rw [slot_after (m := j) ops.size (by omega) fun i h1 h2 hSi hdi => ?_]
      . refine D.slot_before j (by omega) fun i hi hdi => ?_
        cases hSi : S i with
        | true => rfl
        | false =>
          have := apt i (by omega) (by omega) (by rw [hSi]; intro h; cases h) (fun _ => hi)
          exact absurd hdl (this.1 d (by rw [<- hdst i (by omega)]; exact hdi)).1
      . have hij : i ≠ j := fun e => by subst e; rw [hSj] at hSi; cases hSi
        have := apt i h2 hij (fun _ => by omega) (by rw [hSi]; intro h; cases h)
        exact (this.1 d (by rw [<- hdst i h2]; exact hdi)).1 hdl
    have hev : ∀ x ∈ o.op.operands, ev C (tS ops tr t S ops.size) x = ev C (ttOf tr t' j) x := fun x hx => ev_congr fun d hxd => hlook d (looks_tmp (by rw [<- hxd]; exact hx))
    have hwant : Region.wanted o (ayielded ops (tS ops tr t S ops.size)) = Region.wanted o (ayielded ops (ttOf tr t' j)) := wanted_congr fun g w' d hg' hd' => hlook d (looks_guard hg' hd')
    have htadd : tS ops tr t (add S j) ops.size = put (tS ops tr t S ops.size) o.dst (vvOf tr j) := by
      rw [<- hdstj]
      refine (tS_add hSj ops.size).2 hjn fun i h1 h2 hSi d hd' hd2 => ?_
      have := apt i h2 (by omega) (fun _ => h1) (by rw [hSi]; intro h; cases h)
      rw [hdstj] at hd'
      exact (this.2.1 d hd').2 (by rw [<- hdst i h2]; exact hd2)
    have next : ∀ (E' : Env) (w' : World) (a' : Act), Ext E w E' w' -> Holds E' (hS C ops tr H' H (add S j) ops.size) w' -> RepL E' (put (tS ops tr t S ops.size) o.dst (vvOf tr j)) a'.tmps -> a'.defers = ds ->
        wpAny C.P .any ops (Post ds E0 w0 .normal t' H') fuel (listed.setIfInBounds j true) a' w' := by
      intro E' w' a' g1 g2 g3 g4
      refine ih (listed.setIfInBounds j true) E' w' a' (by simpa using hs) ?_ ?_ (hE.trans g1) (hg.mono g1.le) ?_ ?_ g4
      . rw [hadd]; have := (leftN_add hSj ops.size).1 hjn; omega
      . rw [hadd]
        intro i oi hoi hSi e he hb
        by_cases hij : i = j
        . subst hij; rw [ho] at hoi; injection hoi with hoi; subst hoi
          have := hpre e he hb
          simp only [add]; split
          . rfl
          . exact this
        . have hSi' : S i = true := by simpa [add, hij] using hSi
          have := hcl i oi hoi hSi' e he hb
          simp only [add]; split
          . rfl
          . exact this
      . rw [hadd]; exact g2
      . rw [hadd, htadd]; exact g3
    have hord : ∀ i, i < ops.size -> S i = true -> effAt C ops tr i ≠ .quiet -> ∀ k, k < i -> effAt C ops tr k ≠ .quiet -> S k = true := by
      intro i hi hSi hei k hk hek
      rcases D.pairs i hi k hk with hp | hp
      . exact before_done D.back hcl i ops[i] (Array.getElem?_eq_getElem hi) (hcl i _ (Array.getElem?_eq_getElem hi) hSi) k hp
      . exfalso
        unfold pairOk at hp
        simp only [Bool.and_eq_true] at hp
        have h2 := hp.2
        cases h3 : effAt C ops tr k <;> cases h4 : effAt C ops tr i <;> rw [h3, h4] at h2 <;> first | (cases h2; done) | exact hek h3 | exact hei h4
    obtain ⟨m, hm1, hm2, hm3, hm4⟩ := D.heap_at hord ops.size (Nat.le_refl _)
    unfold wpOp
    simp only [ho]
    rw [wanted_eq ht, hwant]
    obtain ⟨o', ho', hst, hcase⟩ := D.step j hjn
    rw [ho] at ho'; injection ho' with ho'; subst ho'
    have heff := D.eff_of hjn ho
    rcases hcase with ⟨hw, hv⟩ | ⟨hw, hvv, hhh⟩
    . rw [if_pos hw]
      rw [hw, if_pos rfl] at heff
      refine .inl ?_
      have hrun : ∃ H2, adoOp C call o (tS ops tr t S ops.size) (hS C ops tr H' H S ops.size) = some (.ok (vvOf tr j), H2) /\ hS C ops tr H' H (add S j) ops.size = H2 := by
        by_cases hq : effAt C ops tr j = .quiet
        . refine ⟨_, ?_, ((hS_add hSj ops.size).2.1 hjn hq)⟩
          rw [adoOp_congr hev]
          refine (quiet_op D.pure (heff.symm.trans hq) hv).2 _ fun id l T hid hl => ?_
          rw [hm2]
          have hread : readAt C ops tr j = some id := (D.read_of hjn ho).trans hid
          have hidlt : id < (hhOf tr H' m).length := by
            rw [<- hm2]
            have : ∃ off x, Rep E (.ptr id off) x := by
              unfold readOf at hid
              split at hid <;> try (cases hid; done)
              rename_i T' x hop
              split at hid <;> try (cases hid; done)
              rename_i id' off hx; injection hid with hid; subst hid
              have hx' : ev C (tS ops tr t S ops.size) x = some (.ptr id' off) := by rw [hev x (by rw [hop]; simp [Op.operands])]; exact hx
              exact ⟨off, _, ev_rep ht hg hx'⟩
            obtain ⟨off, x, hr⟩ := this
            obtain ⟨b, nc, sz, hf, _⟩ := hr.inv_ptr
            exact (hH.dom _ _ hf).1
          by_cases hmj : m ≤ j
          . obtain ⟨_, h2⟩ := D.span hidlt j hmj (by omega) fun i h1 h2 he => by
              have hSi := hm4 i h1 (by omega) he
              have := (apt i (by omega) (by omega) (by rw [hSi]; intro h; cases h) (fun _ => h2)).2.2.2.1 hq he
              rw [hread] at this; exact this
            exact (h2 l T).2 hl
          . have hjl : id < (hhOf tr H' j).length := (List.getElem?_eq_some_iff.1 hl).1
            obtain ⟨_, h2⟩ := D.span hjl m (by omega) hm1 fun i h1 h2 he => by
              have hSi := hm3 i h2 he
              have hij : i ≠ j := fun e => by subst e; exact he hq
              have := (apt i (by omega) hij (fun _ => by omega) (by rw [hSi]; intro h; cases h)).2.2.2.1 hq he
              rw [hread] at this; exact this
            exact (h2 l T).1 hl
        . have heq : hS C ops tr H' H S ops.size = hhOf tr H' j := by
            have hmj : m ≤ j := by
              rcases Nat.lt_or_ge j m with h | h
              . have := hm3 j h hq; rw [hSj] at this; cases this
              . exact h
            rw [hm2]
            have : ∀ k, m ≤ k -> k ≤ j -> hhOf tr H' m = hhOf tr H' k := by
              intro k
              induction k with
              | zero => intro h _; have : m = 0 := by omega
                        rw [this]
              | succ k ihk =>
                intro h1 h2
                by_cases hmk : m = k + 1
                . rw [hmk]
                . rw [ihk (by omega) (by omega)]
                  have hqk : effAt C ops tr k = .quiet := by
                    cases hek : effAt C ops tr k with
                    | quiet => rfl
                    | _ =>
                      exfalso
                      have hne : effAt C ops tr k ≠ .quiet := by rw [hek]; simp
                      have hSk := hm4 k (by omega) (by omega) hne
                      rcases (apt k (by omega) (by omega) (by rw [hSk]; intro h; cases h) (fun _ => by omega)).2.2.2.2 with h5 | h5
                      . exact hne h5
                      . exact hq h5
                  exact (D.quiet_step (by omega) hqk).symm
            exact this j hmj (Nat.le_refl _)
          refine ⟨hhOf tr H' (j + 1), ?_, (hS_add hSj ops.size).2.2 hjn hq fun i h1 h2 hSi => ?_⟩
          . rw [adoOp_congr hev, heq]; exact hv
          . cases hei : effAt C ops tr i with
            | quiet => rfl
            | _ =>
              exfalso
              have hne : effAt C ops tr i ≠ .quiet := by rw [hei]; simp
              rcases (apt i h2 (by omega) (fun _ => h1) (by rw [hSi]; intro h; cases h)).2.2.2.2 with h5 | h5
              . exact hne h5
              . exact hq h5
      obtain ⟨H2, hrun, hH2⟩ := hrun
      refine adoOp_wp hC hcall ht hd hg hH hrun ?_ ?_
      . rintro v' E' w' a' e h2 h3 h4 h5
        injection e with e; subst e
        exact next E' w' a' h2 (by rw [hH2]; exact h3) h4 h5
      . rintro v' E' w' c e; cases e
    . rw [if_neg (by rw [hw]; simp)]
      rw [hw] at heff
      simp only [Bool.false_eq_true, if_false] at heff
      refine next E w _ (Ext.refl _ _) ?_ ?_ (by cases hod : o.dst <;> simp [Act.put, hd])
      . rw [(hS_add hSj ops.size).2.1 hjn heff]; exact hH
      . rw [hvv]; exact ht.put rep_undef o.dst
def XOf (C : Cfg) (ops : Array Oper) (p : Nat) (t' : List AV) (d : Nat) : Prop := ∃ j o, p < j /\ ops[j]? = some o /\ harm C ops p t' o = true /\ o.dst = some d
theorem harm_spec {p : Nat} {o : Oper} (h : harm C ops p t' o = true) : ∃ T s f d, o.op = .fieldAddr T (.tmp s) f /\ o.dst = some d /\ o.guard = none /\ (aval C (.fieldAddr T (.tmp s) f) t').isSome = true /\
    (∀ (i : Nat) (a : Oper), ops[i]? = some a -> a.dst ≠ some s) /\ (∀ (i : Nat), i ≤ p -> ∀ (a : Oper), ops[i]? = some a -> d ∉ a.looksAt ops) := by
  unfold harm at h
  split at h <;> try (cases h; done)
  rename_i T s f d h1 h2 h3
  simp only [Bool.and_eq_true, List.all_eq_true, decide_eq_true_eq] at h
  obtain ⟨⟨h4, h5⟩, h6⟩ := h
  refine ⟨T, s, f, d, h1, h2, h3, h4, fun i a ha => h5 a (by
    have := Array.mem_of_getElem? ha
    simpa using this), fun i hi a ha hd => ?_⟩
  have := h6 i (by simp; omega)
  rw [ha] at this
  simp only [Bool.and_eq_true, Bool.not_eq_true', List.contains_eq_mem, decide_eq_false_iff_not] at this
  exact this.1 hd
theorem draw_pan (hC : CfgOk C) (hcall : CallOk C call) {p : Nat} (D : Draw C call ops tr t' H' t H p) {ds : List Deferred} {E0 : Env} {w0 : World} {op : Oper} (hop : ops[p]? = some op) (hwp : Region.wanted op (ayielded ops t') = true) {v0 : AV} {H0 : Heap} (hvp : adoOp C call op t' H' = some (.panic v0, H0))
    (hA : ∀ j, p < j -> j < ops.size -> ((masksOf ops.toList []).getD j 0).testBit p = true \/ ∃ o, ops[j]? = some o /\ harm C ops p t' o = true) (hB : ∀ i, i < p -> ((masksOf ops.toList []).getD p 0).testBit i = true \/ (effAt C ops tr i = .quiet /\ ∀ a, ops[i]? = some a -> ∀ d, a.dst = some d -> d ∉ op.looksAt ops)) {tX : List AV} :
    ∀ (fuel : Nat) (listed : Array Bool) (E : Env) (w : World) (a : Act) (u : List AV), listed.size = ops.size -> leftN (sOf listed) ops.size ≤ fuel -> sOf listed p = false -> Closed ops (sOf listed) ->
    Ext E0 w0 E w -> GlobOk C E -> Holds E (hS C ops tr H' H (sOf listed) p) w -> RepL E u a.tmps -> u.length = t.length -> (∀ d, ¬ XOf C ops p t' d -> u[d]? = (tS ops tr t (sOf listed) p)[d]?) -> a.defers = ds ->
    wpAny C.P .any ops (Post ds E0 w0 (.pan v0) tX H0) fuel listed a w := by
  have hle := D.le
  have hpn : p < ops.size := (Array.getElem?_eq_some_iff.1 hop).1
  intro fuel
  induction fuel with
  | zero => intro listed E w a u hs hl hout; have := leftN_zero (n := ops.size) (by omega : leftN (sOf listed) ops.size = 0) p hpn; rw [hout] at this; cases this
  | succ fuel ih =>
    intro listed E w a u hs hl hout hcl hE hg hH ht hul hag hd
    refine ⟨fun hr => ?_, fun j hj => ?_⟩
    . exfalso
      have : ∃ i, i ≤ p /\ sOf listed i = false /\ ∀ k, k < i -> sOf listed k = true := by
        obtain ⟨i, h1, h2, h3⟩ := leftN_pos (S := sOf listed) (n := p + 1) (by simp only [leftN, hout]; simp)
        exact ⟨i, by omega, h2, h3⟩
      obtain ⟨i, h1, h2, h3⟩ := this
      have hi : i < ops.size := by omega
      have : i ∈ Region.ready .any ops listed := (mem_ready hs).2 ⟨ops[i], Array.getElem?_eq_getElem hi, h2, fun e he hb => h3 _ (D.back i _ (Array.getElem?_eq_getElem hi) e he hb)⟩
      rw [hr] at this; cases this
    obtain ⟨o, ho, hSj, hpre⟩ := (mem_ready hs).1 hj
    have hjs : j < ops.size := (Array.getElem?_eq_some_iff.1 ho).1
    by_cases hjp : ¬ j ≤ p
    . have hharm : harm C ops p t' o = true := by
        rcases hA j (by omega) hjs with h | ⟨o', ho', h⟩
        . have := before_done D.back hcl j o ho hpre p h
          rw [hout] at this; cases this
        . rw [ho] at ho'; injection ho' with ho'; subst ho'; exact h
      obtain ⟨T, s, f, d, ho1, ho2, ho3, hva, hs1, hd1⟩ := harm_spec hharm
      have hXs : ¬ XOf C ops p t' s := by
        rintro ⟨k, ok, _, hk, _, hkd⟩
        exact hs1 k ok hk hkd
      have hus : u[s]? = t'[s]? := by
        rw [hag s hXs]
        have e1 : (tS ops tr t (sOf listed) p)[s]? = t[s]? := slot_after (m := 0) p (Nat.zero_le _) fun i _ hi _ hdi => by
          have hii : i < ops.size := by omega
          exact hs1 i ops[i] (Array.getElem?_eq_getElem hii) (by simpa [dstOf, hii] using hdi)
        have e2 : (tS ops tr t (fun _ => true) p)[s]? = t[s]? := slot_after (m := 0) p (Nat.zero_le _) fun i _ hi _ hdi => by
          have hii : i < ops.size := by omega
          exact hs1 i ops[i] (Array.getElem?_eq_getElem hii) (by simpa [dstOf, hii] using hdi)
        rw [e1, <- e2, (D.all_done (S := fun _ => true) fun _ _ => rfl).1]
      obtain ⟨v, hv⟩ := Option.isSome_iff_exists.1 hva
      have hev : ∀ x ∈ o.op.operands, ev C u x = ev C t' x := by
        intro x hx
        rw [ho1] at hx
        have : x = .tmp s := by simpa [Op.operands] using hx
        subst this
        exact ev_congr fun d hd => by injection hd with hd; subst hd; exact hus
      have hrun : adoOp C call o u (hS C ops tr H' H (sOf listed) p) = some (.ok v, hS C ops tr H' H (sOf listed) p) := by
        rw [adoOp_congr hev]
        unfold adoOp
        rw [ho1]
        simp only [aop, hv]
      have hadd : sOf (listed.setIfInBounds j true) = add (sOf listed) j := sOf_add (by omega)
      have hX : XOf C ops p t' d := ⟨j, o, by omega, ho, hharm, ho2⟩
      unfold wpOp
      simp only [ho]
      rw [if_pos (by unfold Region.wanted; rw [ho3])]
      refine .inl ?_
      refine adoOp_wp hC hcall ht hd hg hH hrun ?_ ?_
      . rintro v' E' w' a' e h2 h3 h4 h5
        injection e with e; subst e
        refine ih (listed.setIfInBounds j true) E' w' a' (put u o.dst v) (by simpa using hs) ?_ ?_ ?_ (hE.trans h2) (hg.mono h2.le) ?_ h4 (by rw [put_length]; exact hul) ?_ h5
        . rw [hadd]; have := (leftN_add hSj ops.size).1 hjs; omega
        . rw [hadd]; simp only [add]; rw [if_neg (by omega)]; exact hout
        . rw [hadd]
          intro i oi hoi hSi e he hb
          by_cases hij : i = j
          . subst hij; rw [ho] at hoi; injection hoi with hoi; subst hoi
            have := hpre e he hb
            simp only [add]; split
            . rfl
            . exact this
          . have hSi' : sOf listed i = true := by simpa [add, hij] using hSi
            have := hcl i oi hoi hSi' e he hb
            simp only [add]; split
            . rfl
            . exact this
        . rw [hadd, (hS_add hSj p).1 (by omega)]; exact h3
        . rw [hadd, (tS_add hSj p).1 (by omega)]
          intro d' hd'
          rw [ho2, put_get_ne (fun e => by injection e with e; subst e; exact hd' hX)]
          exact hag d' hd'
      . rintro v' E' w' c e; cases e
    have hjp : j ≤ p := by omega
    have hXl : ∀ i, i ≤ p -> ∀ a, ops[i]? = some a -> ∀ d, d ∈ a.looksAt ops -> ¬ XOf C ops p t' d := by
      rintro i hi a ha d hdl ⟨k, ok, _, hk, hh, hkd⟩
      obtain ⟨T, s, f, d', _, h2, _, _, _, h6⟩ := harm_spec hh
      rw [hkd] at h2; injection h2 with h2; subst h2
      exact h6 i hi a ha hdl
    by_cases hjeq : j = p
    . subst hjeq
      rw [hop] at ho; injection ho with ho; subst ho
      generalize hSS : sOf listed = S at *
      have undone : ∀ i, i < j -> S i = false -> effAt C ops tr i = .quiet /\ ∀ a, ops[i]? = some a -> ∀ d, a.dst = some d -> d ∉ op.looksAt ops := fun i hi hSi => by
        rcases hB i hi with h | h
        . have := before_done D.back hcl j op hop hpre i h
          rw [hSi] at this; cases this
        . exact h
      have etp : ttOf tr t' j = t' := by unfold ttOf; rw [List.getElem?_eq_none (by rw [D.len]; exact Nat.le_refl _)]
      have ehp : hhOf tr H' j = H' := by unfold hhOf; rw [List.getElem?_eq_none (by rw [D.len]; exact Nat.le_refl _)]
      have hlook : ∀ d, d ∈ op.looksAt ops -> u[d]? = t'[d]? := by
        intro d hdl
        rw [hag d (hXl j (Nat.le_refl _) op hop d hdl), <- etp]
        refine D.slot_before j (Nat.le_refl _) fun i hi hdi => ?_
        cases hSi : S i with
        | true => rfl
        | false =>
          have hii : i < ops.size := by omega
          exact absurd hdl ((undone i hi hSi).2 ops[i] (Array.getElem?_eq_getElem hii) d (by simpa [dstOf, hii] using hdi))
      have hev : ∀ x ∈ op.op.operands, ev C u x = ev C t' x := fun x hx => ev_congr fun d hxd => hlook d (looks_tmp (by rw [<- hxd]; exact hx))
      have hwant : Region.wanted op (ayielded ops u) = Region.wanted op (ayielded ops t') := wanted_congr fun g w' d hg' hd' => hlook d (looks_guard hg' hd')
      have hheap : hS C ops tr H' H S j = H' := by
        have : ∀ n, n ≤ j -> hS C ops tr H' H S n = hhOf tr H' n := by
          intro n
          induction n with
          | zero => intro _; exact D.h0.symm
          | succ n ihn =>
            intro hn
            simp only [hS]
            split
            . rfl
            . rename_i hc
              have hq : effAt C ops tr n = .quiet := by
                cases hSn : S n with
                | false => exact (undone n (by omega) hSn).1
                | true => cases he : effAt C ops tr n <;> first | rfl | exact absurd ⟨hSn, by rw [he]; simp⟩ hc
              rw [ihn (by omega), D.quiet_step (by omega) hq]
        rw [this j (Nat.le_refl _), ehp]
      unfold wpOp
      simp only [hop]
      rw [wanted_eq ht, hwant, if_pos hwp]
      refine .inl ?_
      have hrun : adoOp C call op u (hS C ops tr H' H S j) = some (.panic v0, H0) := by rw [adoOp_congr hev, hheap]; exact hvp
      refine adoOp_wp hC hcall ht hd hg hH hrun ?_ ?_
      . rintro v' E' w' a' e; cases e
      . rintro v' E' w' c e h2 h3 h4
        injection e with e; subst e
        exact ⟨E', hE.trans h2, h3, (fun hk => by cases hk), hd, c, rfl, h4⟩
    have hjn : j < p := by omega
    generalize hSS : sOf listed = S at *
    have hadd : sOf (listed.setIfInBounds j true) = add S j := by rw [sOf_add (by omega), hSS]
    have ord1 : ∀ i, i < p -> S i = true -> ((masksOf ops.toList []).getD i 0).testBit j ≠ true := fun i hi hSi hb => by
      have := before_done D.back hcl i ops[i] (Array.getElem?_eq_getElem (Nat.lt_of_lt_of_le hi hle)) (hcl i _ (Array.getElem?_eq_getElem (Nat.lt_of_lt_of_le hi hle)) hSi) j hb
      rw [hSj] at this; cases this
    have ord2 : ∀ i, S i = false -> ((masksOf ops.toList []).getD j 0).testBit i ≠ true := fun i hSi hb => by
      have := before_done D.back hcl j o ho hpre i hb
      rw [hSi] at this; cases this
    have lt1 : ∀ i k, i < p -> ((masksOf ops.toList []).getD i 0).testBit k = true -> k < i := fun i k hi => mask_lt D.back i ops[i] (Array.getElem?_eq_getElem (Nat.lt_of_lt_of_le hi hle)) k
    have apt : ∀ i (hi : i < p), i ≠ j -> (S i = true -> j < i) -> (S i = false -> i < j) ->
        ((∀ d, ops[i].dst = some d -> d ∉ o.looksAt ops /\ o.dst ≠ some d) /\ (∀ d, o.dst = some d -> d ∉ ops[i].looksAt ops /\ ops[i].dst ≠ some d) /\
        (effAt C ops tr i = .quiet -> effAt C ops tr j ≠ .quiet -> commutes (readAt C ops tr i) (effAt C ops tr j) = true) /\
        (effAt C ops tr j = .quiet -> effAt C ops tr i ≠ .quiet -> commutes (readAt C ops tr j) (effAt C ops tr i) = true) /\
        (effAt C ops tr i = .quiet \/ effAt C ops tr j = .quiet)) := fun i hi hne h1 h2 =>
      D.apart (i := i) (j := j) hi hjn hne (Array.getElem?_eq_getElem (Nat.lt_of_lt_of_le hi hle)) ho
        (by cases hSi : S i with
            | true => intro hb; have := lt1 j i hjn hb; have := h1 hSi; omega
            | false => exact ord2 i hSi)
        (by cases hSi : S i with
            | true => exact ord1 i hi hSi
            | false => intro hb; have := lt1 i j hi hb; have := h2 hSi; omega)
    have hdstj : dstOf ops j = o.dst := by simp [dstOf, ho]
    have hdst : ∀ i (hi : i < p), dstOf ops i = ops[i].dst := fun i hi => by simp [dstOf, Nat.lt_of_lt_of_le hi hle]
    have hlook : ∀ d, d ∈ o.looksAt ops -> u[d]? = (ttOf tr t' j)[d]? := by
      intro d hdl
      rw [hag d (hXl j hjp o ho d hdl), slot_after (m := j) p (by omega) fun i h1 h2 hSi hdi => ?_]
      . refine D.slot_before j (by omega) fun i hi hdi => ?_
        cases hSi : S i with
        | true => rfl
        | false =>
          have := apt i (by omega) (by omega) (by rw [hSi]; intro h; cases h) (fun _ => hi)
          exact absurd hdl (this.1 d (by rw [<- hdst i (by omega)]; exact hdi)).1
      . have hij : i ≠ j := fun e => by subst e; rw [hSj] at hSi; cases hSi
        have := apt i h2 hij (fun _ => by omega) (by rw [hSi]; intro h; cases h)
        exact (this.1 d (by rw [<- hdst i h2]; exact hdi)).1 hdl
    have hev : ∀ x ∈ o.op.operands, ev C u x = ev C (ttOf tr t' j) x := fun x hx => ev_congr fun d hxd => hlook d (looks_tmp (by rw [<- hxd]; exact hx))
    have hwant : Region.wanted o (ayielded ops u) = Region.wanted o (ayielded ops (ttOf tr t' j)) := wanted_congr fun g w' d hg' hd' => hlook d (looks_guard hg' hd')
    have htadd : tS ops tr t (add S j) p = put (tS ops tr t S p) o.dst (vvOf tr j) := by
      rw [<- hdstj]
      refine (tS_add hSj p).2 hjn fun i h1 h2 hSi d hd' hd2 => ?_
      have := apt i h2 (by omega) (fun _ => h1) (by rw [hSi]; intro h; cases h)
      rw [hdstj] at hd'
      exact (this.2.1 d hd').2 (by rw [<- hdst i h2]; exact hd2)
    have next : ∀ (E' : Env) (w' : World) (a' : Act), Ext E w E' w' -> Holds E' (hS C ops tr H' H (add S j) p) w' -> RepL E' (put u o.dst (vvOf tr j)) a'.tmps -> a'.defers = ds ->
        wpAny C.P .any ops (Post ds E0 w0 (.pan v0) tX H0) fuel (listed.setIfInBounds j true) a' w' := by
      intro E' w' a' g1 g2 g3 g4
      refine ih (listed.setIfInBounds j true) E' w' a' (put u o.dst (vvOf tr j)) (by simpa using hs) ?_ ?_ ?_ (hE.trans g1) (hg.mono g1.le) ?_ g3 (by rw [put_length]; exact hul) ?_ g4
      . rw [hadd]; have := (leftN_add hSj ops.size).1 hjs; omega
      . rw [hadd]; simp only [add]; rw [if_neg (by omega)]; exact hout
      . rw [hadd]
        intro i oi hoi hSi e he hb
        by_cases hij : i = j
        . subst hij; rw [ho] at hoi; injection hoi with hoi; subst hoi
          have := hpre e he hb
          simp only [add]; split
          . rfl
          . exact this
        . have hSi' : S i = true := by simpa [add, hij] using hSi
          have := hcl i oi hoi hSi' e he hb
          simp only [add]; split
          . rfl
          . exact this
      . rw [hadd]; exact g2
      . rw [hadd, htadd]; intro d hd'; exact put_get_congr (hag d hd') (by rw [hul, tS_length])
    have hord : ∀ i, i < p -> S i = true -> effAt C ops tr i ≠ .quiet -> ∀ k, k < i -> effAt C ops tr k ≠ .quiet -> S k = true := by
      intro i hi hSi hei k hk hek
      rcases D.pairs i hi k hk with hp | hp
      . exact before_done D.back hcl i ops[i] (Array.getElem?_eq_getElem (Nat.lt_of_lt_of_le hi hle)) (hcl i _ (Array.getElem?_eq_getElem (Nat.lt_of_lt_of_le hi hle)) hSi) k hp
      . exfalso
        unfold pairOk at hp
        simp only [Bool.and_eq_true] at hp
        have h2 := hp.2
        cases h3 : effAt C ops tr k <;> cases h4 : effAt C ops tr i <;> rw [h3, h4] at h2 <;> first | (cases h2; done) | exact hek h3 | exact hei h4
    obtain ⟨m, hm1, hm2, hm3, hm4⟩ := D.heap_at hord p (Nat.le_refl _)
    unfold wpOp
    simp only [ho]
    rw [wanted_eq ht, hwant]
    obtain ⟨o', ho', hst, hcase⟩ := D.step j hjn
    rw [ho] at ho'; injection ho' with ho'; subst ho'
    have heff := D.eff_of hjn ho
    rcases hcase with ⟨hw, hv⟩ | ⟨hw, hvv, hhh⟩
    . rw [if_pos hw]
      rw [hw, if_pos rfl] at heff
      refine .inl ?_
      have hrun : ∃ H2, adoOp C call o u (hS C ops tr H' H S p) = some (.ok (vvOf tr j), H2) /\ hS C ops tr H' H (add S j) p = H2 := by
        by_cases hq : effAt C ops tr j = .quiet
        . refine ⟨_, ?_, ((hS_add hSj p).2.1 hjn hq)⟩
          rw [adoOp_congr hev]
          refine (quiet_op D.pure (heff.symm.trans hq) hv).2 _ fun id l T hid hl => ?_
          rw [hm2]
          have hread : readAt C ops tr j = some id := (D.read_of hjn ho).trans hid
          have hidlt : id < (hhOf tr H' m).length := by
            rw [<- hm2]
            have : ∃ off x, Rep E (.ptr id off) x := by
              unfold readOf at hid
              split at hid <;> try (cases hid; done)
              rename_i T' x hop
              split at hid <;> try (cases hid; done)
              rename_i id' off hx; injection hid with hid; subst hid
              have hx' : ev C u x = some (.ptr id' off) := by rw [hev x (by rw [hop]; simp [Op.operands])]; exact hx
              exact ⟨off, _, ev_rep ht hg hx'⟩
            obtain ⟨off, x, hr⟩ := this
            obtain ⟨b, nc, sz, hf, _⟩ := hr.inv_ptr
            exact (hH.dom _ _ hf).1
          by_cases hmj : m ≤ j
          . obtain ⟨_, h2⟩ := D.span hidlt j hmj (by omega) fun i h1 h2 he => by
              have hSi := hm4 i h1 (by omega) he
              have := (apt i (by omega) (by omega) (by rw [hSi]; intro h; cases h) (fun _ => h2)).2.2.2.1 hq he
              rw [hread] at this; exact this
            exact (h2 l T).2 hl
          . have hjl : id < (hhOf tr H' j).length := (List.getElem?_eq_some_iff.1 hl).1
            obtain ⟨_, h2⟩ := D.span hjl m (by omega) hm1 fun i h1 h2 he => by
              have hSi := hm3 i h2 he
              have hij : i ≠ j := fun e => by subst e; exact he hq
              have := (apt i (by omega) hij (fun _ => by omega) (by rw [hSi]; intro h; cases h)).2.2.2.1 hq he
              rw [hread] at this; exact this
            exact (h2 l T).1 hl
        . have heq : hS C ops tr H' H S p = hhOf tr H' j := by
            have hmj : m ≤ j := by
              rcases Nat.lt_or_ge j m with h | h
              . have := hm3 j h hq; rw [hSj] at this; cases this
              . exact h
            rw [hm2]
            have : ∀ k, m ≤ k -> k ≤ j -> hhOf tr H' m = hhOf tr H' k := by
              intro k
              induction k with
              | zero => intro h _; have : m = 0 := by omega
                        rw [this]
              | succ k ihk =>
                intro h1 h2
                by_cases hmk : m = k + 1
                . rw [hmk]
                . rw [ihk (by omega) (by omega)]
                  have hqk : effAt C ops tr k = .quiet := by
                    cases hek : effAt C ops tr k with
                    | quiet => rfl
                    | _ =>
                      exfalso
                      have hne : effAt C ops tr k ≠ .quiet := by rw [hek]; simp
                      have hSk := hm4 k (by omega) (by omega) hne
                      rcases (apt k (by omega) (by omega) (by rw [hSk]; intro h; cases h) (fun _ => by omega)).2.2.2.2 with h5 | h5
                      . exact hne h5
                      . exact hq h5
                  exact (D.quiet_step (by omega) hqk).symm
            exact this j hmj (Nat.le_refl _)
          refine ⟨hhOf tr H' (j + 1), ?_, (hS_add hSj p).2.2 hjn hq fun i h1 h2 hSi => ?_⟩
          . rw [adoOp_congr hev, heq]; exact hv
          . cases hei : effAt C ops tr i with
            | quiet => rfl
            | _ =>
              exfalso
              have hne : effAt C ops tr i ≠ .quiet := by rw [hei]; simp
              rcases (apt i h2 (by omega) (fun _ => h1) (by rw [hSi]; intro h; cases h)).2.2.2.2 with h5 | h5
              . exact hne h5
              . exact hq h5
      obtain ⟨H2, hrun, hH2⟩ := hrun
      refine adoOp_wp hC hcall ht hd hg hH hrun ?_ ?_
      . rintro v' E' w' a' e h2 h3 h4 h5
        injection e with e; subst e
        exact next E' w' a' h2 (by rw [hH2]; exact h3) h4 h5
      . rintro v' E' w' c e; cases e
    . rw [if_neg (by rw [hw]; simp)]
      rw [hw] at heff
      simp only [Bool.false_eq_true, if_false] at heff
      refine next E w _ (Ext.refl _ _) ?_ ?_ (by cases hod : o.dst <;> simp [Act.put, hd])
      . rw [(hS_add hSj p).2.1 hjn heff]; exact hH
      . rw [hvv]; exact ht.put rep_undef o.dst
theorem draw_ok (hC : CfgOk C) (hm : C.P.follows .mixedOrders = true) (hcall : CallOk C call) (hp : CallPure C call) {id : Nat} (h : atrace C call ops (List.range ops.size) t H = some (tr, t', H')) (hok : drawOk C ops tr = true)
    {E : Env} {w : World} {a : Act} (ht : RepL E t a.tmps) {ds : List Deferred} (hd : a.defers = ds) (hg : GlobOk C E) (hH : Holds E H w) : (Code.region id ops true).wp C.P (Post ds E w .normal t' H') a w := by
  obtain ⟨g1, g2, g3, g4⟩ := atrace_spec h
  unfold drawOk at hok
  simp only [Bool.and_eq_true, List.all_eq_true] at hok
  obtain ⟨k1, k2⟩ := hok
  have D : Draw C call ops tr t' H' t H ops.size := by
    refine ⟨Nat.le_refl _, by simpa using g1, fun k hk => by have := g4 k (by simpa using hk); simpa using this, g2, g3, ?_, ?_, hp⟩
    . intro j o ho e he hb
      have hj := (Array.getElem?_eq_some_iff.1 ho).1
      have := k1 (o, j) (by
        rw [List.mem_zipIdx_iff_getElem?]
        simpa using ho)
      simp only at this
      have := this e he
      simp only [hb, Bool.not_true, Bool.false_or, decide_eq_true_eq] at this; exact this
    . intro j hj i hi
      have := k2 j (by simpa using hj) i (by simpa using hi)
      simpa [Bool.or_eq_true] using this
  refine wp_region_any hm ?_
  have hS0 : sOf (Array.replicate ops.size false) = fun _ => false := by
    funext i; simp only [sOf, Array.getD_eq_getD_getElem?]
    by_cases hi : i < ops.size
    . simp [hi]
    . simp [hi]
  have ht0 : ∀ n, tS ops tr t (fun _ => false) n = t := by intro n; induction n with | zero => rfl | succ n ih => simp [tS, ih]
  have hh0 : ∀ n, hS C ops tr H' H (fun _ => false) n = H := by intro n; induction n with | zero => rfl | succ n ih => simp [hS, ih]
  have hl : ∀ n, leftN (fun _ => false) n = n := by intro n; induction n with | zero => rfl | succ n ih => simp [leftN, ih]
  refine draw_any hC hcall D ops.size (Array.replicate ops.size false) E w.drew a (by simp) (by rw [hS0, hl]; exact Nat.le_refl _) ?_ (Ext.drew w) hg ?_ ?_ hd
  . rw [hS0]; intro j o ho h; cases h
  . rw [hS0, hh0]; exact hH.drew
  . rw [hS0, ht0]; exact ht
end
end Go.Tv
namespace Go.Tv
open Go.RowKit (Below)
section
variable {C : Cfg}
theorem Post.trans {ds : List Deferred} {E E1 : Env} {w w1 : World} (h : Ext E w E1 w1) {x : AExit} {t' : List AV} {H' : Heap} {e : Exit} {a' : Act} {w' : World} (k : Post ds E1 w1 x t' H' e a' w') : Post ds E w x t' H' e a' w' := by
  obtain ⟨E', h1, h2⟩ := k; exact ⟨E', h.trans h1, h2⟩
theorem atraceP_spec {C : Cfg} {call : Caller} {ops : Array Oper} : ∀ {l : List Nat} {t : List AV} {H : Heap} {tr : Trace} {t' : List AV} {H' : Heap} {v : AV} {H0 : Heap}, atraceP C call ops l t H = some (tr, t', H', v, H0) ->
    ttOf tr t' 0 = t /\ hhOf tr H' 0 = H /\ ∃ hl : tr.length < l.length, (∃ op, ops[l[tr.length]]? = some op /\ Region.wanted op (ayielded ops t') = true /\ adoOp C call op t' H' = some (.panic v, H0)) /\
    ∀ k (hk : k < tr.length), StepAt C call ops tr t' H' l[k] k
  | [], t, H, tr, t', H', v, H0, h => by simp [atraceP] at h
  | i :: rest, t, H, tr, t', H', v, H0, h => by
    simp only [atraceP] at h
    split at h <;> try (cases h; done)
    rename_i o ho
    have shift : ∀ {x : List AV × Heap × AV} {tr2 : Trace} {k : Nat}, ttOf (x :: tr2) t' (k + 1) = ttOf tr2 t' k /\ hhOf (x :: tr2) H' (k + 1) = hhOf tr2 H' k /\ vvOf (x :: tr2) (k + 1) = vvOf tr2 k := by
      intro x tr2 k; simp [ttOf, hhOf, vvOf]
    split at h
    . rename_i hw
      split at h
      . rename_i v1 H1 hv
        split at h <;> try (cases h; done)
        rename_i tr2 r hr; injection h with h; injection h with h1 h2; subst h1; subst h2
        obtain ⟨g1, g2, g3, ⟨op, q1, q2, q3⟩, g4⟩ := atraceP_spec hr
        refine ⟨rfl, rfl, by simpa using g3, ⟨op, by simpa using q1, q2, q3⟩, fun k hk => ?_⟩
        cases k with
        | zero =>
          refine ⟨o, by simpa using ho, ?_, .inl ⟨hw, ?_⟩⟩
          . rw [shift.1, g1]; rfl
          . rw [shift.2.1, g2]; exact hv
        | succ k =>
          obtain ⟨o', q1, q2, q3⟩ := g4 k (by simpa using hk)
          refine ⟨o', by simpa using q1, ?_, ?_⟩
          . rw [shift.1, shift.1, shift.2.2]; exact q2
          . rw [shift.1, shift.2.1, shift.2.1, shift.2.2]; exact q3
      . rename_i v1 H1 hv
        injection h with h; injection h with h1 h2; injection h2 with h2 h3; injection h3 with h3 h4; injection h4 with h4 h5; subst h1 h2 h3 h4 h5
        exact ⟨rfl, rfl, by simp, ⟨o, by simpa using ho, hw, hv⟩, fun k hk => by simp at hk⟩
      . cases h
    . rename_i hw
      split at h <;> try (cases h; done)
      rename_i tr2 r hr; injection h with h; injection h with h1 h2; subst h1; subst h2
      obtain ⟨g1, g2, g3, ⟨op, q1, q2, q3⟩, g4⟩ := atraceP_spec hr
      refine ⟨rfl, rfl, by simpa using g3, ⟨op, by simpa using q1, q2, q3⟩, fun k hk => ?_⟩
      cases k with
      | zero =>
        refine ⟨o, by simpa using ho, ?_, .inr ⟨(Bool.not_eq_true _).mp hw, rfl, ?_⟩⟩
        . rw [shift.1, g1]; rfl
        . rw [shift.2.1, g2]; rfl
      | succ k =>
        obtain ⟨o', q1, q2, q3⟩ := g4 k (by simpa using hk)
        refine ⟨o', by simpa using q1, ?_, ?_⟩
        . rw [shift.1, shift.1, shift.2.2]; exact q2
        . rw [shift.1, shift.2.1, shift.2.1, shift.2.2]; exact q3
theorem isQ_eq {e : Eff} (h : isQ e = true) : e = .quiet := by
  cases e with
  | quiet => rfl
  | _ => cases h
theorem drawP_ok {call : Caller} {ops : Array Oper} {tr : Trace} {t' t : List AV} {H' H H0 : Heap} {v : AV} (hC : CfgOk C) (hm : C.P.follows .mixedOrders = true) (hcall : CallOk C call) (hp : CallPure C call) {id : Nat} (h : atraceP C call ops (List.range ops.size) t H = some (tr, t', H', v, H0)) (hok : panOk C ops tr t' = true)
    {E : Env} {w : World} {a : Act} (ht : RepL E t a.tmps) {ds : List Deferred} (hd : a.defers = ds) (hg : GlobOk C E) (hH : Holds E H w) {tX : List AV} : (Code.region id ops true).wp C.P (Post ds E w (.pan v) tX H0) a w := by
  obtain ⟨g2, g3, g1, ⟨op, q1, q2, q3⟩, g4⟩ := atraceP_spec h
  have hlt : tr.length < ops.size := by simpa using g1
  have q1' : ops[tr.length]? = some op := by simpa using q1
  unfold panOk at hok
  simp only [Bool.and_eq_true, List.all_eq_true] at hok
  obtain ⟨⟨⟨k1, k2⟩, k3⟩, k4⟩ := hok
  have D : Draw C call ops tr t' H' t H tr.length := by
    refine ⟨Nat.le_of_lt hlt, rfl, fun k hk => by have := g4 k hk; simpa using this, g2, g3, ?_, ?_, hp⟩
    . intro j o ho e he hb
      have := k1 (o, j) (by
        rw [List.mem_zipIdx_iff_getElem?]
        simpa using ho)
      simp only at this
      have := this e he
      simp only [hb, Bool.not_true, Bool.false_or, decide_eq_true_eq] at this; exact this
    . intro j hj i hi
      have := k2 j (by simpa using hj) i (by simpa using hi)
      simpa [Bool.or_eq_true] using this
  have hA : ∀ j, tr.length < j -> j < ops.size -> ((masksOf ops.toList []).getD j 0).testBit tr.length = true \/ ∃ o, ops[j]? = some o /\ harm C ops tr.length t' o = true := by
    intro j h1 h2
    have := k3 j (by simpa using h2)
    simp only [Bool.or_eq_true, decide_eq_true_eq] at this
    rcases this with (h | h) | h
    . omega
    . exact .inl h
    . split at h
      . rename_i o ho; exact .inr ⟨o, ho, h⟩
      . cases h
  have hB : ∀ i, i < tr.length -> ((masksOf ops.toList []).getD tr.length 0).testBit i = true \/ (effAt C ops tr i = .quiet /\ ∀ a, ops[i]? = some a -> ∀ d, a.dst = some d -> d ∉ op.looksAt ops) := by
    intro i hi
    have := k4 i (by simpa using hi)
    simp only [Bool.or_eq_true, Bool.and_eq_true] at this
    rcases this with h | ⟨h, h'⟩
    . exact .inl h
    . refine .inr ⟨isQ_eq h, fun a ha d hd => ?_⟩
      rw [ha, q1'] at h'
      exact ((Oper.apart_spec h').1 d hd)
  refine wp_region_any hm ?_
  have hS0 : sOf (Array.replicate ops.size false) = fun _ => false := by
    funext i; simp only [sOf, Array.getD_eq_getD_getElem?]
    by_cases hi : i < ops.size
    . simp [hi]
    . simp [hi]
  have ht0 : ∀ n, tS ops tr t (fun _ => false) n = t := by intro n; induction n with | zero => rfl | succ n ih => simp [tS, ih]
  have hh0 : ∀ n, hS C ops tr H' H (fun _ => false) n = H := by intro n; induction n with | zero => rfl | succ n ih => simp [hS, ih]
  have hl : ∀ n, leftN (fun _ => false) n = n := by intro n; induction n with | zero => rfl | succ n ih => simp [leftN, ih]
  refine draw_pan hC hcall D q1' q2 q3 hA hB ops.size (Array.replicate ops.size false) E w.drew a t (by simp) (by rw [hS0, hl]; exact Nat.le_refl _) (by rw [hS0]) ?_ (Ext.drew w) hg ?_ ht rfl ?_ hd
  . rw [hS0]; intro j o ho h; cases h
  . rw [hS0, hh0]; exact hH.drew
  . rw [hS0, ht0]; intro d _; rfl
theorem rounds_mono {P : Program} {c : Code} {Q Q' : Exit -> Act -> World -> Prop} (h : ∀ e a w, Q e a w -> Q' e a w) : ∀ (n : Nat) (a : Act) (w : World), Code.rounds P c Q n a w -> Code.rounds P c Q' n a w
  | 0, _, _, hr => hr.elim
  | n + 1, a, w, hr => by
    rw [rounds_succ] at hr ⊢
    refine wp_mono hr ?_
    intro e a w hp
    cases e <;> first | exact rounds_mono h n a w hp | exact h _ _ _ hp
theorem iter_ok {call : Caller} {k : Nat} {c : Code} (ih : ∀ {t H x t' H'}, arun C call k c t H = some (x, t', H') -> CodeOk C c t H x t' H') : ∀ (n : Nat) {t H x t' H'}, iter (arun C call k c) n t H = some (x, t', H') ->
    ∀ (ds : List Deferred) (E : Env) (w : World) (a : Act), RepL E t a.tmps -> a.defers = ds -> GlobOk C E -> Holds E H w -> Code.rounds C.P c (Post ds E w x t' H') n a w
  | 0, t, H, x, t', H', h => by simp [iter] at h
  | n + 1, t, H, x, t', H', h => by
    intro ds E w a ht hd hg hH
    simp only [iter] at h
    rw [rounds_succ]
    split at h
    . rename_i t1 H1 h1
      refine wp_mono (ih h1 ds E w a ht hd hg hH) ?_
      rintro e a' w' ⟨E', g1, g2, g3, g4, g5⟩
      cases e <;> try (exact g5.elim)
      exact rounds_mono (fun e a w hp => hp.trans g1) n a' w' (iter_ok ih n h ds E' w' a' (g3 rfl) g4 (hg.mono g1.le) g2)
    . rename_i hne
      refine wp_mono (ih h ds E w a ht hd hg hH) ?_
      rintro e a' w' hp
      cases e
      case normal =>
        obtain ⟨E', g1, g2, g3, g4, g5⟩ := hp
        cases x <;> try (exact g5.elim)
        exact absurd h (hne t' H')
      all_goals exact hp
theorem arun_ok (hC : CfgOk C) {call : Caller} (hcall : CallOk C call) (hp : CallPure C call) (k : Nat) : ∀ (c : Code) {t H x t' H'}, arun C call k c t H = some (x, t', H') -> CodeOk C c t H x t' H' := by
  intro c
  induction c with
  | skip => intro t H x t' H' h ds E w a ht hd hg hH; simp only [arun] at h; injection h with h; injection h with h1 h2; injection h2 with h2 h3; subst h1 h2 h3; exact wp_skip ⟨E, Ext.refl _ _, hH, fun _ => ht, hd, trivial⟩
  | label l => intro t H x t' H' h ds E w a ht hd hg hH; simp only [arun] at h; injection h with h; injection h with h1 h2; injection h2 with h2 h3; subst h1 h2 h3; exact wp_label ⟨E, Ext.refl _ _, hH, fun _ => ht, hd, trivial⟩
  | exit id => intro t H x t' H' h ds E w a ht hd hg hH; simp only [arun] at h; injection h with h; injection h with h1 h2; injection h2 with h2 h3; subst h1 h2 h3; exact wp_exit ⟨E, Ext.refl _ _, hH, fun _ => ht, hd, rfl⟩
  | ret => intro t H x t' H' h ds E w a ht hd hg hH; simp only [arun] at h; injection h with h; injection h with h1 h2; injection h2 with h2 h3; subst h1 h2 h3; exact wp_ret ⟨E, Ext.refl _ _, hH, fun _ => ht, hd, trivial⟩
  | goto l => intro t H x t' H' h; simp [arun] at h
  | scope c _ => intro t H x t' H' h; simp [arun] at h
  | rangeFunc f ps c d _ _ => intro t H x t' H' h; simp [arun] at h
  | refuse s => intro t H x t' H' h; simp [arun] at h
  | region id ops draw =>
    intro t H x t' H' h ds E w a ht hd hg hH
    simp only [arun] at h
    split at h
    . rename_i hdr
      subst hdr
      split at h
      . rename_i tr t1 H1 htr
        split at h <;> try (cases h; done)
        rename_i hok; injection h with h; injection h with h1 h2; injection h2 with h2 h3; subst h1 h2 h3
        exact draw_ok hC hC.mixed hcall hp htr hok ht hd hg hH
      . split at h <;> try (cases h; done)
        rename_i tr t1 H1 v H2 htr
        split at h <;> try (cases h; done)
        rename_i hok; injection h with h; injection h with h1 h2; injection h2 with h2 h3; subst h1 h2 h3
        exact drawP_ok hC hC.mixed hcall hp htr hok ht hd hg hH
    . rename_i hdr
      have : draw = false := by simpa using hdr
      subst this
      exact wp_region (aops_wp hC hcall _ h ht hd hg hH (Ext.refl _ _))
  | seq x y ih1 ih2 =>
    intro t H xx t' H' h ds E w a ht hd hg hH
    simp only [arun] at h
    refine wp_seq ?_
    split at h
    . rename_i t1 H1 h1
      refine wp_mono (ih1 h1 ds E w a ht hd hg hH) ?_
      rintro e a' w' ⟨E', g1, g2, g3, g4, g5⟩
      cases e <;> try (exact g5.elim)
      exact wp_mono (ih2 h ds E' w' a' (g3 rfl) g4 (hg.mono g1.le) g2) fun e a w hp => hp.trans g1
    . rename_i hne
      refine wp_mono (ih1 h ds E w a ht hd hg hH) ?_
      rintro e a' w' hp
      cases e
      case normal =>
        obtain ⟨E', g1, g2, g3, g4, g5⟩ := hp
        cases xx <;> try (exact g5.elim)
        exact absurd h (hne t' H')
      all_goals exact hp
  | cond c x y ih1 ih2 =>
    intro t H xx t' H' h ds E w a ht hd hg hH
    simp only [arun] at h
    split at h <;> try (cases h; done)
    rename_i b hb
    have hc := (ev_rep ht hg hb).inv_bool
    refine wp_cond hc ?_
    cases b
    . exact ih2 (by simpa using h) ds E w a ht hd hg hH
    . exact ih1 (by simpa using h) ds E w a ht hd hg hH
  | block id c ih =>
    intro t H x t' H' h ds E w a ht hd hg hH
    simp only [arun] at h
    refine wp_block ?_
    split at h
    . rename_i j t1 H1 h1
      refine wp_mono (ih h1 ds E w a ht hd hg hH) ?_
      rintro e a' w' ⟨E', g1, g2, g3, g4, g5⟩
      cases e <;> try (exact g5.elim)
      rename_i j'
      have hjj : j = j' := g5
      subst hjj
      split at h
      . rename_i hj
        injection h with h; injection h with h1 h2; injection h2 with h2 h3; subst h1 h2 h3
        simp only [Exit.inBlock, hj, if_true]
        exact ⟨E', g1, g2, fun _ => g3 rfl, g4, trivial⟩
      . rename_i hj
        injection h with h; injection h with h1 h2; injection h2 with h2 h3; subst h1 h2 h3
        simp only [Exit.inBlock, hj, if_false]
        exact ⟨E', g1, g2, fun _ => g3 rfl, g4, rfl⟩
    . rename_i hne
      refine wp_mono (ih h ds E w a ht hd hg hH) ?_
      rintro e a' w' hp
      cases e
      case exit j =>
        obtain ⟨E', g1, g2, g3, g4, g5⟩ := hp
        cases x <;> try (exact g5.elim)
        exact absurd h (hne _ t' H')
      all_goals exact hp
  | loop c ih =>
    intro t H x t' H' h ds E w a ht hd hg hH
    simp only [arun] at h
    exact wp_loop_rounds k (iter_ok (fun {_ _ _ _ _} => ih) k h ds E w a ht hd hg hH)
def resOne (tc : Array Value) : ResultVar -> Sem Value
  | .tmp t => pure (tc.getD t undef)
  | .cell a T => do loadVar T (<- asAddr (tc.getD a undef))
theorem result_run {E : Env} {H : Heap} {w : World} {t : List AV} {tc : Array Value} (ht : RepL E t tc) (hH : Holds E H w) {r : ResultVar} {v : AV} (h : aresult C t H r = some v) :
    ∃ c, (resOne tc r).run C.P w = .ok c w /\ Rep E v c := by
  cases r with
  | tmp i => simp only [aresult] at h; injection h with h; subst h; exact ⟨_, rfl, ht.getU i⟩
  | cell i T =>
    simp only [aresult] at h
    split at h <;> try (cases h; done)
    rename_i cs hcs
    obtain ⟨ad, e, hc⟩ := cellsAt_sound hH (ht.getU i) hcs
    obtain ⟨c, hl, hr⟩ := ldCells_sound hc h
    exact ⟨c, by simp only [resOne, e, asAddr, Sem.run_bind, Sem.run_pure, Result.andThen_ok]; exact hl, hr⟩
theorem results_run {E : Env} {H : Heap} {w : World} {t : List AV} {tc : Array Value} (ht : RepL E t tc) (hH : Holds E H w) : ∀ {rs : List ResultVar} {l : List AV}, aresults C t H rs = some l ->
    ∃ vs : List Value, (rs.mapM (resOne tc)).run C.P w = .ok vs w /\ RepL E l vs.toArray
  | [], l, h => by simp [aresults] at h; subst h; exact ⟨[], rfl, rfl, fun i hi => by simp at hi⟩
  | r :: rs, l, h => by
    simp only [aresults] at h
    split at h <;> try (cases h; done)
    rename_i v l' h1 h2; injection h with h; subst h
    obtain ⟨c, hc, hr⟩ := result_run ht hH h1
    obtain ⟨vs, hv, hrr⟩ := results_run ht hH h2
    refine ⟨c :: vs, ?_, ?_⟩
    . rw [List.mapM_cons]
      simp only [Sem.run_bind, Sem.run_pure, hc, Result.andThen_ok, hv]
    . have := RepL.append (E := E) (a := [v]) (b := l') (x := [c]) (y := vs) ⟨rfl, fun i hi => by simp at hi; subst hi; simpa using hr⟩ hrr
      simpa using this
theorem Value.results_eq (fn : Func) (tmps : Array Value) (w : World) (P : Program) {vs : List Value}
    (h : (fn.results.toList.mapM (resOne tmps)).run P w = .ok vs w) :
    (results fn tmps).run P w = .ok (if h : vs.toArray.size = 1 then vs.toArray[0] else .tuple vs.toArray) w := by
  have e : results fn tmps = (do let vs <- fn.results.mapM (resOne tmps); pure (if h : vs.size = 1 then vs[0] else .tuple vs)) := rfl
  rw [e, Array.mapM_eq_mapM_toList]
  simp only [Sem.run_bind, Sem.run_map, h, Result.andThen_ok, Sem.run_pure]
end
end Go.Tv
namespace Go.Tv
section
variable {C : Cfg}
theorem repL_nil {E : Env} : RepL E [] ([] : List Value).toArray := ⟨rfl, fun i hi => by simp at hi⟩
theorem repL_cons {E : Env} {x : AV} {r : List AV} {c : Value} {vs : List Value} : RepL E (x :: r) (c :: vs).toArray ↔ Rep E x c /\ RepL E r vs.toArray := by
  constructor
  . intro h
    have hs := h.size
    simp at hs
    refine ⟨by simpa using h.get 0 (by simp), by simp [hs], fun i hi => ?_⟩
    have := h.get (i + 1) (by simpa using hi)
    simpa [List.getD_eq_getElem?_getD, Array.getD_eq_getD_getElem?] using this
  . rintro ⟨h, k⟩
    have hs := k.size
    simp at hs
    refine ⟨by simp [hs], fun i hi => ?_⟩
    cases i with
    | zero => simpa using h
    | succ i =>
      have := k.get i (by simpa using hi)
      simpa [List.getD_eq_getElem?_getD, Array.getD_eq_getD_getElem?] using this
theorem Holds.freeze {E : Env} {H : Heap} {w : World} (h : Holds E H w) {id : Nat} {cs : List AV} {T : TypeId} (hi : H[id]? = some (.cells cs T)) {b nc sz : Nat} (hf : E.f id = some (b, nc, sz)) :
    ∃ vs, RepP E cs vs /\ ∃ E', Ext E w E' w /\ Holds E' (H.set id .dead) w /\ ∀ k, k < cs.length -> E'.st b k = some (vs.getD k undef) := by
  obtain ⟨b', nc', sz', hf', hO⟩ := h.obj _ _ hi (by simp)
  rw [hf] at hf'; injection hf' with hf'; injection hf' with e1 e2; injection e2 with e2 e3; subst e1 e2 e3
  obtain ⟨vs, hv, hn, hR, hS⟩ := hO
  have hsz := hR.size
  have hle : E.le (E.addSt b 0 (vs.toList.take cs.length)) := Env.le_addSt fun o _ _ => hS o
  have hk := h.kill id
  refine ⟨vs, hR, _, ⟨hle, rfl, rfl, rfl, Nat.le_refl _, fun _ _ _ => rfl, fun i p hp => .inl hp, fun b' o v hv' => ?_, fun _ => Nat.le_refl _⟩, ⟨fun b' o v hv' => ?_, hk.dom, fun i o hi' hd => ?_, hk.inj, hk.len, hk.blk⟩, fun k hk => ?_⟩
  . simp only [Env.addSt] at hv'
    split at hv'
    . rename_i e; exact .inr (.inr ⟨id, _, hf, e.1.symm⟩)
    . exact .inl hv'
  . simp only [Env.addSt] at hv'
    split at hv'
    . rename_i e; obtain ⟨rfl, _, h2⟩ := e
      rw [cell_of hv]
      simp only [Nat.sub_zero] at hv'
      rw [List.getElem?_take] at hv'
      split at hv'
      . simpa using hv'
      . cases hv'
    . exact h.st _ _ _ hv'
  . obtain ⟨b2, nc2, sz2, g1, g2⟩ := hk.obj i o hi' hd
    refine ⟨b2, nc2, sz2, g1, g2.mono_env hle fun o => ?_⟩
    have hid : i ≠ id := fun e => by
      subst e
      rw [List.getElem?_set_self (h.dom _ _ hf).1] at hi'
      injection hi' with hi'; exact hd hi'.symm
    have hne : b2 ≠ b := fun e => by
      rcases h.inj i id _ _ g1 hf e with hh | hh | hh
      . exact hid hh
      . rw [List.getElem?_set_ne (Ne.symm hid)] at hi'; rw [hi'] at hh; injection hh with hh; exact hd hh
      . rw [hi] at hh; cases hh
    simp only [Env.addSt]
    rw [if_neg (fun e => hne e.1)]
  . simp only [Env.addSt]
    rw [if_pos (by refine ⟨trivial, by omega, ?_⟩; simp; omega)]
    simp only [Nat.sub_zero]
    rw [List.getElem?_take, if_pos hk]
    simp [Array.getD_eq_getD_getElem?, show k < vs.size by omega]
theorem frzC_ok {w : World} : ∀ {cs : List AV} {H : Heap} {cs' : List AV} {H' : Heap}, frzC cs H = some (cs', H') -> ∀ {E : Env} {vs : List Value}, Holds E H w -> RepL E cs vs.toArray ->
    ∃ E', Ext E w E' w /\ Holds E' H' w /\ RepL E' cs' vs.toArray
  | [], H, cs', H', h, E, vs, hH, hr => by
    simp only [frzC] at h; injection h with h; injection h with h1 h2; subst h1 h2
    exact ⟨E, Ext.refl _ _, hH, hr⟩
  | v :: r, H, cs', H', h, E, vs, hH, hr => by
    have hs := hr.size
    match vs, hs with
    | c :: vs, hs1 =>
    obtain ⟨hv, hr'⟩ := repL_cons.1 hr
    have plain : ∀ {r' H'}, frzC r H = some (r', H') -> ∃ E', Ext E w E' w /\ Holds E' H' w /\ RepL E' (v :: r') (c :: vs).toArray := fun hx => by
      obtain ⟨E', g1, g2, g3⟩ := frzC_ok hx hH hr'
      exact ⟨E', g1, g2, repL_cons.2 ⟨hv.mono g1.le, g3⟩⟩
    cases v
    case slc id off n sz ag =>
      simp only [frzC] at h
      split at h <;> try (cases h; done)
      rename_i cs T hi
      split at h <;> try (cases h; done)
      rename_i hle
      split at h <;> try (cases h; done)
      rename_i l hg
      split at h <;> try (cases h; done)
      rename_i r' H2 hrest; injection h with h; injection h with h1 h2; subst h1 h2
      obtain ⟨b, nc, s, cap, o, hf, hcap, ho, rfl⟩ := hv.inv_slc
      obtain ⟨vs0, hR, E1, g1, g2, g3⟩ := hH.freeze hi hf
      obtain ⟨E2, k1, k2, k3⟩ := frzC_ok hrest g2 (hr'.mono g1.le)
      refine ⟨E2, g1.trans k1, k2, repL_cons.2 ⟨Rep.mono k1.le ?_, k3⟩⟩
      obtain ⟨q1, q2, q3⟩ := group_flat hg
      subst q1
      refine ListRep.rep ⟨⟨sz, q2⟩, fun k hk => ?_, fun _ => rfl, hcap, trivial⟩ rfl
      have hlen := flat_len q2
      have hpos : 0 < l.length := by
        cases l with
        | nil => simp [flat] at hk
        | cons _ _ => simp
      have := ho hpos; subst this
      rw [hlen] at hk
      have hok : o + k < cs.length := by omega
      refine ⟨_, vs0.getD (o + k) undef, rfl, rfl, g3 (o + k) hok, ?_⟩
      have e : (flat l).getD k .empty = cs.getD (o + k) .empty := by
        rw [q3]
        simp only [List.getD_eq_getElem?_getD]
        rw [List.getElem?_take, if_pos hk, List.getElem?_drop]
      rw [e]
      exact (hR.get _ (by omega)).mono g1.le
    all_goals
      simp only [frzC] at h
      split at h <;> try (cases h; done)
      rename_i r' H2 hrest; injection h with h; injection h with h1 h2; subst h1 h2
      exact plain hrest
theorem frzL_ok {w : World} : ∀ {cs : List AV} {H : Heap} {cs' : List AV} {H' : Heap}, frzL cs H = some (cs', H') -> ∀ {E : Env} {vs : List Value}, Holds E H w -> RepL E cs vs.toArray ->
    ∃ E', Ext E w E' w /\ Holds E' H' w /\ RepL E' cs' vs.toArray
  | [], H, cs', H', h, E, vs, hH, hr => by
    simp only [frzL] at h; injection h with h; injection h with h1 h2; subst h1 h2
    exact ⟨E, Ext.refl _ _, hH, hr⟩
  | v :: r, H, cs', H', h, E, vs, hH, hr => by
    have hs := hr.size
    match vs, hs with
    | c :: vs, hs1 =>
    obtain ⟨hv, hr'⟩ := repL_cons.1 hr
    cases v
    case agg cs =>
      simp only [frzL] at h
      split at h <;> try (cases h; done)
      rename_i cs1 H1 h1
      split at h <;> try (cases h; done)
      rename_i r' H2 h2; injection h with h; injection h with e1 e2; subst e1 e2
      obtain ⟨vs1, rfl, h3⟩ := hv.inv_agg
      obtain ⟨E1, g1, g2, g3⟩ := frzC_ok (vs := vs1.toList) h1 hH (by simpa using h3)
      obtain ⟨E2, k1, k2, k3⟩ := frzL_ok h2 g2 (hr'.mono g1.le)
      exact ⟨E2, g1.trans k1, k2, repL_cons.2 ⟨Rep.mono k1.le (.agg _ _ (by simpa using g3.size) (by simpa using g3.get)), k3⟩⟩
    all_goals
      simp only [frzL] at h
      split at h <;> try (cases h; done)
      rename_i v1 H1 h1
      split at h <;> try (cases h; done)
      rename_i r' H2 h2; injection h with h; injection h with e1 e2; subst e1 e2
      obtain ⟨E1, g1, g2, g3⟩ := frzC_ok (vs := [c]) h1 hH (repL_cons.2 ⟨hv, repL_nil⟩)
      obtain ⟨E2, k1, k2, k3⟩ := frzL_ok h2 g2 (hr'.mono g1.le)
      exact ⟨E2, g1.trans k1, k2, repL_cons.2 ⟨((repL_cons.1 g3).1).mono k1.le, k3⟩⟩
end
end Go.Tv
namespace Go.Tv
section
variable {C : Cfg} {call : Caller}
def DPost (E : Env) (w : World) : DOut -> Exit -> Act -> World -> Prop
  | .plain x t' H', e, a', w' => Post [] E w x t' H' e a' w'
  | .later g d x t' H', e, a', w' => ∃ E', Ext E w E' w' /\ Holds E' H' w' /\ (x.known = true -> RepL E' t' a'.tmps) /\ ExitRel E' x e /\
      ∃ dv cap, a'.defers = [{ target := .fn (.func g) cap, args := dv }] /\ RepL E' d (dv ++ cap)
theorem DPost.trans {E E1 : Env} {w w1 : World} (h : Ext E w E1 w1) {o : DOut} {e : Exit} {a' : Act} {w' : World} (k : DPost E1 w1 o e a' w') : DPost E w o e a' w' := by
  cases o with
  | plain x t H => exact Post.trans h k
  | later g d x t H => obtain ⟨E', h1, h2⟩ := k; exact ⟨E', h.trans h1, h2⟩
theorem adefer_run {E : Env} {w : World} {t : List AV} {a : Act} {o : Oper} {g : FuncId} {d : List AV} (ht : RepL E t a.tmps) (hg : GlobOk C E) (h : adefer C o t = some (g, d)) :
    ∃ dv cap, (execOp a.eval o).run C.P w = .ok (.defer { target := .fn (.func g) cap, args := dv }) w /\ RepL E d (dv ++ cap) := by
  unfold adefer at h
  split at h <;> try (cases h; done)
  rename_i c hop
  split at h <;> try (cases h; done)
  rename_i f args hcal hargs
  split at h <;> try (cases h; done)
  rename_i g' first cap hf
  injection h with h; injection h with h1 h2; subst h1 h2
  have hra := evs_repL ht hg hargs
  obtain ⟨fs, cs, ef, r1, r2⟩ := (ev_rep ht hg hf).inv_fn
  refine ⟨fs ++ c.args.map a.eval, cs, ?_, (r1.app hra).app r2⟩
  simp only [execOp, hop, resolve, hcal, ef, Deferred.ofValue, Sem.run_bind, Sem.run_pure, Result.andThen_ok]
theorem aopsD_wp (hC : CfgOk C) (hcall : CallOk C call) {ops : Array Oper} {E0 : Env} {w0 : World} {out : DOut} : ∀ (l : List Nat) {E : Env} {w : World} {t : List AV} {H : Heap} {a : Act},
    aopsD C call ops l t H = some out -> RepL E t a.tmps -> a.defers = [] -> GlobOk C E -> Holds E H w -> Ext E0 w0 E w -> wpOps C.P ops (DPost E0 w0 out) l a w
  | [], E, w, t, H, a, h, ht, hd, hg, hH, hE => by
    simp only [aopsD] at h; injection h with h; subst h
    exact ⟨E, hE, hH, fun _ => ht, hd, trivial⟩
  | i :: rest, E, w, t, H, a, h, ht, hd, hg, hH, hE => by
    simp only [aopsD] at h
    split at h
    . cases h
    . rename_i o ho
      simp only [wpOps, ho]
      rw [wanted_eq ht]
      split at h
      . rename_i hw
        rw [if_pos hw]
        refine .inl ?_
        split at h
        . split at h <;> try (cases h; done)
          rename_i g d hdef
          injection h with h; subst h
          obtain ⟨dv, cap, hx, hr⟩ := adefer_run (w := w) ht hg hdef
          unfold Oper.wp
          rw [hx, Oper.upon_defer]
          refine ⟨E, hE, hH, fun _ => ?_, trivial, dv, cap, ?_, hr⟩
          . exact RepL.put (a := { a with defers := { target := .fn (.func g) cap, args := dv } :: a.defers }) ht rep_undef o.dst
          . cases hod : o.dst <;> simp [Act.put, hd]
        . split at h
          . rename_i v H2 hv
            refine adoOp_wp hC hcall ht hd hg hH hv ?_ ?_
            . rintro v' E' w' a' e h2 h3 h4 h5
              injection e with e; subst e
              exact aopsD_wp hC hcall rest h h4 h5 (hg.mono h2.le) h3 (hE.trans h2)
            . rintro v' E' w' c e; cases e
          . rename_i v H2 hv; injection h with h; subst h
            refine adoOp_wp hC hcall ht hd hg hH hv ?_ ?_
            . rintro v' E' w' a' e; cases e
            . rintro v' E' w' c e h2 h3 h4
              injection e with e; subst e
              exact ⟨E', hE.trans h2, h3, fun _ => ht.mono h2.le, hd, c, rfl, h4⟩
          . cases h
      . rename_i hw
        rw [if_neg hw]
        exact aopsD_wp hC hcall rest h (ht.put rep_undef o.dst) (by cases hod : o.dst <;> simp [Act.put, hd]) hg hH hE
theorem arunD_ok (hC : CfgOk C) (hcall : CallOk C call) (hp : CallPure C call) (k : Nat) : ∀ (c : Code) {t : List AV} {H : Heap} {out : DOut}, arunD C call k c t H = some out ->
    ∀ {E : Env} {w : World} {a : Act}, RepL E t a.tmps -> a.defers = [] -> GlobOk C E -> Holds E H w -> c.wp C.P (DPost E w out) a w := by
  have other : ∀ (c : Code) {t : List AV} {H : Heap} {x : AExit} {t' : List AV} {H' : Heap}, arun C call k c t H = some (x, t', H') ->
      ∀ {E : Env} {w : World} {a : Act}, RepL E t a.tmps -> a.defers = [] -> GlobOk C E -> Holds E H w -> c.wp C.P (DPost E w (.plain x t' H')) a w := by
    intro c t H x t' H' hr E w a ht hd hg hH
    exact arun_ok hC hcall hp k c hr [] E w a ht hd hg hH
  intro c
  induction c with
  | seq x y ih1 ih2 =>
    intro t H out h E w a ht hd hg hH
    simp only [arunD] at h
    refine wp_seq ?_
    split at h
    . rename_i t1 H1 h1
      refine wp_mono (ih1 h1 ht hd hg hH) ?_
      rintro e a' w' ⟨E', g1, g2, g3, g4, g5⟩
      cases e <;> try (exact g5.elim)
      exact wp_mono (ih2 h (g3 rfl) g4 (hg.mono g1.le) g2) fun e a w hp => hp.trans g1
    . rename_i g d t1 H1 h1
      split at h <;> try (cases h; done)
      rename_i x2 t2 H2 h2; injection h with h; subst h
      refine wp_mono (ih1 h1 ht hd hg hH) ?_
      rintro e a' w' ⟨E', g1, g2, g3, g4, dv, cap, g5, g6⟩
      cases e <;> try (exact g4.elim)
      refine wp_mono (arun_ok hC hcall hp k y h2 _ E' w' a' (g3 rfl) g5 (hg.mono g1.le) g2) ?_
      rintro e a2 w2 ⟨E2, k1, k2, k3, k4, k5⟩
      exact ⟨E2, g1.trans k1, k2, k3, k5, dv, cap, k4, g6.mono k1.le⟩
    . rename_i r hn1 hn2
      refine wp_mono (ih1 h ht hd hg hH) ?_
      rintro e a' w' hq
      cases e
      case normal =>
        cases out with
        | plain x t2 H2 =>
          obtain ⟨E', g1, g2, g3, g4, g5⟩ := hq
          cases x <;> try (exact g5.elim)
          exact absurd h (hn1 t2 H2)
        | later g d x t2 H2 =>
          obtain ⟨E', g1, g2, g3, g4, g5⟩ := hq
          cases x <;> try (exact g4.elim)
          exact absurd h (hn2 g d t2 H2)
      all_goals exact hq
  | region id ops draw =>
    intro t H out h E w a ht hd hg hH
    simp only [arunD] at h
    split at h
    . rename_i hc
      obtain ⟨rfl, _⟩ := hc
      exact wp_region (aopsD_wp hC hcall _ h ht hd hg hH (Ext.refl _ _))
    . split at h <;> try (cases h; done)
      rename_i x t' H' hr; injection h with h; subst h
      exact other _ hr ht hd hg hH
  | _ =>
    intro t H out h E w a ht hd hg hH
    simp only [arunD] at h
    split at h <;> try (cases h; done)
    rename_i x t' H' hr; injection h with h; subst h
    exact other _ hr ht hd hg hH
theorem upon_monoS {P : Program} {o : Oper} {a : Act} {K K' : Act -> World -> Prop} {Q Q' : Exit -> Act -> World -> Prop} (hk : ∀ a w, K a w -> K' a w) (hq : ∀ e a w, Q e a w -> Q' e a w) {r : Result Next} (h : o.upon P a K Q r) : o.upon P a K' Q' r := by
  unfold Oper.upon at h ⊢
  split at h
  . exact hk _ _ h
  . exact hk _ _ h
  . exact hk _ _ h
  . refine h.mono ?_
    intro e w' hh
    cases e with
    | returned v => exact hk _ _ hh
    | panicked ch => exact hq _ _ _ hh
    | outgrown => obtain ⟨a0, w0, h0⟩ := hh; exact ⟨a0, w0, hq _ _ _ h0⟩
  . exact Rows.mono h fun v w' hh => hk _ _ hh
  . exact hq _ _ _ h
  . exact h.elim
theorem wpOpsS_of_wpOps {P : Program} {ops : Array Oper} {Q : Exit -> Act -> World -> Prop} (hQ : ∀ a w, ¬ Q .outgrown a w) {cs : List Frame} : ∀ (l : List Nat) {a : Act} {w : World}, wpOps P ops Q l a w ->
    wpOpsS P ops (fun e a' cs' w' => cs' = cs /\ Q e a' w') l a cs w
  | [], a, w, h => ⟨rfl, h⟩
  | i :: rest, a, w, h => by
    simp only [wpOps] at h
    simp only [wpOpsS]
    split
    . rename_i ho; simp only [ho] at h; exact wpOpsS_of_wpOps hQ rest h
    . rename_i o ho
      simp only [ho] at h
      split
      . rename_i hw
        rw [if_pos hw] at h
        rcases h with h | ⟨_, a0, w0, h0⟩
        . unfold Oper.wp at h
          split
          . rename_i w' hr; rw [hr] at h; exact h.elim
          . exact upon_monoS (fun a w hk => wpOpsS_of_wpOps hQ rest hk) (fun e a w hk => ⟨by trivial, hk⟩) h
        . exact absurd h0 (hQ _ _)
      . rename_i hw
        rw [if_neg hw] at h
        exact wpOpsS_of_wpOps hQ rest h
end
end Go.Tv
namespace Go.Tv
section
variable {C : Cfg} {call : Caller}
def Recs (cv : Value) (cs cs' : List Frame) : Prop := recoverD cs = some (cv, cs') \/ (recoverD cs = none /\ cs' = cs /\ cv = .nilIface)
theorem isRecover_run {o : Oper} (h : isRecover o = true) (ρ : Operand -> Value) (w : World) (f : Nat -> Option Bool) : Region.wanted o f = true /\ (execOp ρ o).run C.P w = .ok .recover w := by
  obtain ⟨dst, op, type, pos, after, guard⟩ := o
  unfold isRecover at h
  split at h <;> try (cases h; done)
  rename_i c hop hgd
  simp only at hop hgd
  subst hop hgd
  split at h <;> try (cases h; done)
  rename_i hcal
  refine ⟨by simp [Region.wanted], ?_⟩
  simp only [execOp, resolve, hcal, Sem.run_bind, Sem.run_pure, Result.andThen_ok, invoke]
  rfl
theorem post_notOut {ds : List Deferred} {E : Env} {w : World} {x : AExit} {t' : List AV} {H' : Heap} (a : Act) (w' : World) : ¬ Post ds E w x t' H' .outgrown a w' := by
  rintro ⟨E', _, _, _, _, h⟩
  cases x <;> exact h
theorem arunR_ok (hC : CfgOk C) (hcall : CallOk C call) (hp : CallPure C call) (k : Nat) {v : AV} : ∀ (c : Code) {t : List AV} {H : Heap} {x : AExit} {t' : List AV} {H' : Heap}, arunR C call k v c t H = some (x, t', H') ->
    ∀ {E : Env} {w : World} {a : Act} {cv : Value} {cs cs' : List Frame}, RepL E t a.tmps -> a.defers = [] -> GlobOk C E -> Holds E H w -> Rep E v cv -> Recs cv cs cs' ->
    c.wpS C.P (fun e a' cs2 w' => cs2 = cs' /\ Post [] E w x t' H' e a' w') a cs w := by
  intro c
  induction c with
  | seq x y ih1 ih2 =>
    intro t H xx t' H' h E w a cv cs cs' ht hd hg hH hv hr
    simp only [arunR] at h
    refine wpS_seq ?_
    split at h
    . rename_i t1 H1 h1
      have := ih1 h1 ht hd hg hH hv hr
      intro b kk hb hro
      obtain ⟨e, a', cs2, w', ⟨rfl, hq⟩, harr⟩ := this b kk hb hro
      refine ⟨e, a', cs2, w', ?_, harr⟩
      obtain ⟨E', g1, g2, g3, g4, g5⟩ := hq
      cases e <;> try (exact g5.elim)
      exact wpS_of_wp (wp_mono (arun_ok hC hcall hp k y h [] E' w' a' (g3 rfl) g4 (hg.mono g1.le) g2) fun e a w hp => ⟨rfl, hp.trans g1⟩)
    . rename_i hne
      have := ih1 h ht hd hg hH hv hr
      intro b kk hb hro
      obtain ⟨e, a', cs2, w', ⟨rfl, hq⟩, harr⟩ := this b kk hb hro
      refine ⟨e, a', cs2, w', ?_, harr⟩
      cases e
      case normal =>
        obtain ⟨E', g1, g2, g3, g4, g5⟩ := hq
        cases xx <;> try (exact g5.elim)
        exact absurd h (hne t' H')
      all_goals exact ⟨rfl, hq⟩
  | region id ops draw =>
    intro t H xx t' H' h E w a cv cs cs' ht hd hg hH hv hr
    simp only [arunR] at h
    split at h <;> try (cases h; done)
    rename_i i rest o hl ho
    split at h <;> try (cases h; done)
    rename_i hrec
    have hi : i = 0 := by
      cases hn : ops.size with
      | zero => rw [hn] at hl; simp at hl
      | succ n => rw [hn, List.range_succ_eq_map] at hl; injection hl with hl; exact hl.symm
    subst hi
    refine wpS_region ?_
    rw [hl]
    simp only [wpOpsS, ho]
    obtain ⟨q1, q2⟩ := isRecover_run (C := C) hrec a.eval w (yielded ops a.tmps)
    rw [if_pos q1, q2]
    simp only
    have fin : ∀ cs', wpOpsS C.P ops (fun e a' cs2 w' => cs2 = cs' /\ Post [] E w xx t' H' e a' w') rest (a.put o.dst cv) cs' w := fun cs' =>
      wpOpsS_of_wpOps post_notOut rest (aops_wp hC hcall rest h (ht.put hv o.dst) (by cases hod : o.dst <;> simp [Act.put, hd]) hg hH (Ext.refl _ _))
    rcases hr with hr | ⟨hr, rfl, rfl⟩
    . rw [hr]; exact fin cs'
    . rw [hr]; exact fin _
  | _ => intro t H x t' H' h; simp [arunR] at h
inductive ModeRel (E : Env) : Option AV -> FrameMode -> Prop where
  | ret : ModeRel E none .returning
  | panic (v : AV) (c : Value) (h : Rep E v c) : ModeRel E (some v) (.panicking [{ v := c, recovered := false }])
theorem frame_rep {E : Env} {fn : Func} {d : List AV} {dv : Array Value} (hr : RepL E d dv) : RepL E (frame fn d) (dv ++ Array.replicate (fn.ntmps - dv.size) undef) := by
  have hs := hr.size
  unfold frame
  refine hr.app ⟨by simp [hs], fun i hi => ?_⟩
  simp at hi
  have e1 : (List.replicate (fn.ntmps - d.length) AV.undef).getD i .empty = .undef := by simp [List.getD_eq_getElem?_getD, hi]
  have e2 : (Array.replicate (fn.ntmps - dv.size) undef).getD i undef = undef := by
    rw [Array.getD_eq_getD_getElem?]
    by_cases hlt : i < fn.ntmps - dv.size
    . simp [hlt]
    . simp [hlt]
  rw [e1, e2]; exact rep_undef
theorem results_none {fn : Func} (h : fn.results.size = 0) (tmps : Array Value) (w : World) : (results fn tmps).run C.P w = .ok (.tuple #[]) w := by
  have he : fn.results.toList = [] := by
    apply List.eq_nil_of_length_eq_zero; simpa using h
  have := Value.results_eq fn tmps w C.P (vs := []) (by rw [he]; rfl)
  simpa using this
theorem alater_ok (hC : CfgOk C) (hcall : CallOk C call) (hp : CallPure C call) {k : Nat} {g : FuncId} {d : List AV} {p q : Option AV} {H H' : Heap} (h : alater C call k g d p H = some (q, H')) {E : Env} {w : World} {dv : Array Value}
    (hr : RepL E d dv) (hg : GlobOk C E) (hH : Holds E H w) {u : FrameMode} (hm : ModeRel E p u) :
    (∃ fn c, C.P.funcs[g]? = some fn /\ fn.body = some c) /\
    CallsD C.P g dv u w fun e u' w' => (∃ v, e = .returned v) /\ ∃ E', Ext E w E' w' /\ Holds E' H' w' /\ ((q = none /\ settle u' = .returning) \/ (q = p /\ settle u' = u)) := by
  unfold alater at h
  split at h <;> try (cases h; done)
  rename_i fn hfn
  split at h <;> try (cases h; done)
  rename_i c hb
  refine ⟨⟨fn, c, hfn, hb⟩, ?_⟩
  split at h <;> try (cases h; done)
  rename_i hres
  have hsettle : settle u = u := by cases hm <;> rfl
  split at h
  . -- it recovers
    have key : ∀ x t', arunR C call k (p.getD .nilIface) c (frame fn d) H = some (x, t', H') -> (x = .normal \/ x = .ret) -> q = none ->
        CallsD C.P g dv u w fun e u' w' => (∃ v, e = .returned v) /\ ∃ E', Ext E w E' w' /\ Holds E' H' w' /\ ((q = none /\ settle u' = .returning) \/ (q = p /\ settle u' = u)) := by
      rintro x t' hrun hx rfl
      refine callsD_of_wpS hfn hb fun c0 cs hc0 => ?_
      obtain ⟨cv, u2, hrv, hrec, hset⟩ : ∃ cv u2, Rep E (p.getD .nilIface) cv /\ Recs cv (c0 :: cs) ({ c0 with mode := u2 } :: cs) /\ settle u2 = .returning := by
        cases hm with
        | ret =>
          refine ⟨.nilIface, .returning, .nilIface, .inr ⟨?_, ?_, rfl⟩, rfl⟩
          . simp only [recoverD, hc0]
          . rw [<- hc0]
        | panic v cc hcc =>
          refine ⟨cc, .panicking [{ v := cc, recovered := true }], hcc, .inl ?_, rfl⟩
          simp only [recoverD, hc0]
      have := arunR_ok hC hcall hp k c hrun (a := { tmps := dv ++ Array.replicate (fn.ntmps - dv.size) undef, defers := [] }) (frame_rep hr) rfl hg hH hrv hrec
      intro b kk hb hro
      obtain ⟨e, a', cs2, w', ⟨rfl, E', g1, g2, g3, g4, g5⟩, harr⟩ := this b kk hb hro
      refine ⟨e, a', _, w', ?_, harr⟩
      have hR : a'.defers = [] /\ ∃ u', ({ c0 with mode := u2 } :: cs : List Frame) = { c0 with mode := u' } :: cs /\ ∃ v, (results fn a'.tmps).run C.P w' = .ok v w' /\
          ((∃ v', Ending.returned v = .returned v') /\ ∃ E', Ext E w E' w' /\ Holds E' H' w' /\ (((none : Option AV) = none /\ settle u' = .returning) \/ ((none : Option AV) = p /\ settle u' = u))) :=
        ⟨g4, u2, rfl, _, results_none hres _ _, ⟨_, rfl⟩, E', g1, g2, .inl ⟨rfl, hset⟩⟩
      rcases hx with rfl | rfl
      . cases e <;> first | exact g5.elim | exact hR
      . cases e <;> first | exact g5.elim | exact hR
    split at h <;> try (cases h; done)
    . rename_i t' H1 hrun; injection h with h; injection h with h1 h2; subst h2
      exact key _ _ hrun (.inl rfl) h1.symm
    . rename_i t' H1 hrun; injection h with h; injection h with h1 h2; subst h2
      exact key _ _ hrun (.inr rfl) h1.symm
  . have key : ∀ x t', arun C call k c (frame fn d) H = some (x, t', H') -> (x = .normal \/ x = .ret) -> q = p ->
        CallsD C.P g dv u w fun e u' w' => (∃ v, e = .returned v) /\ ∃ E', Ext E w E' w' /\ Holds E' H' w' /\ ((q = none /\ settle u' = .returning) \/ (q = p /\ settle u' = u)) := by
      rintro x t' hrun hx rfl
      refine (callsD_of_wp (R := fun e w' => (∃ v, e = .returned v) /\ ∃ E', Ext E w E' w' /\ Holds E' H' w') hfn hb ?_).mono ?_
      . refine wp_mono (arun_ok hC hcall hp k c hrun [] E w { tmps := dv ++ Array.replicate (fn.ntmps - dv.size) undef, defers := [] } (frame_rep hr) rfl hg hH) ?_
        rintro e a' w' ⟨E', g1, g2, g3, g4, g5⟩
        have hR : a'.defers = [] /\ ∃ v, (results fn a'.tmps).run C.P w' = .ok v w' /\ ((∃ v', Ending.returned v = .returned v') /\ ∃ E', Ext E w E' w' /\ Holds E' H' w') :=
          ⟨g4, _, results_none hres _ _, ⟨_, rfl⟩, E', g1, g2⟩
        rcases hx with rfl | rfl
        . cases e <;> first | exact g5.elim | exact hR
        . cases e <;> first | exact g5.elim | exact hR
      . rintro e u' w' ⟨rfl, h1, E', h2, h3⟩
        exact ⟨h1, E', h2, h3, .inr ⟨rfl, hsettle⟩⟩
    split at h <;> try (cases h; done)
    . rename_i t' H1 hrun; injection h with h; injection h with h1 h2; subst h2
      exact key _ _ hrun (.inl rfl) h1.symm
    . rename_i t' H1 hrun; injection h with h; injection h with h1 h2; subst h2
      exact key _ _ hrun (.inr rfl) h1.symm
end
end Go.Tv
