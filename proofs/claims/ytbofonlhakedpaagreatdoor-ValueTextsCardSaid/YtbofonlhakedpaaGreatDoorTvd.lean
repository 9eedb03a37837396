/-
  The evaluator of trees, its fourth part: a call that the evaluator answers, the program answers so; what comes in; conditions for symbolic execution.
-/
import Derived.Test.YtbofonlhakedpaaGreatDoorTvc
namespace Go.Tv
section
variable {C : Cfg}
def Env.only (E : Env) (R : List Nat) : Env := ⟨E.st, fun i => if R.contains i then E.f i else none, E.n, E.d, E.k⟩
theorem idsL_get {R : List Nat} {l : List AV} (h : ∀ i ∈ idsL l, R.contains i = true) {k : Nat} (hk : k < l.length) : ∀ i ∈ (l.getD k .empty).ids, R.contains i = true := by
  induction l generalizing k with
  | nil => simp at hk
  | cons a r ih =>
    simp only [idsL, List.mem_append] at h
    cases k with
    | zero => intro i hi; exact h i (.inl (by simpa using hi))
    | succ k => exact ih (fun i hi => h i (.inr hi)) (by simpa using hk)
theorem idsL_append {a b : List AV} : idsL (a ++ b) = idsL a ++ idsL b := by
  induction a with
  | nil => simp [idsL]
  | cons x r ih => simp [idsL, ih]
theorem idsL_flat {R : List Nat} {l : List AV} (h : ∀ i ∈ idsL l, R.contains i = true) : ∀ i ∈ idsL (flat l), R.contains i = true := by
  induction l with
  | nil => intro i hi; simp [flat, idsL] at hi
  | cons a r ih =>
    simp only [idsL, List.mem_append] at h
    rw [flat_cons, idsL_append]
    intro i hi
    rcases List.mem_append.1 hi with hi | hi
    . refine h i (.inl ?_)
      cases a <;> first | (simp [AV.cells, AV.ids, idsL] at hi; done) | (simpa [AV.cells, AV.ids, idsL] using hi; done) | (simpa [AV.cells, AV.ids] using hi)
    . exact ih (fun i hi => h i (.inr hi)) i hi
theorem Rep.only {E : Env} {v : AV} {x : Value} (h : Rep E v x) (R : List Nat) : (∀ i ∈ v.ids, R.contains i = true) -> Rep (E.only R) v x := by
  induction h with
  | bool b => intro _; exact .bool b
  | int k n => intro _; exact .int k n
  | str s => intro _; exact .str s
  | nilFn => intro _; exact .nilFn
  | nilIface => intro _; exact .nilIface
  | nilPtr => intro _; exact .nilPtr
  | nilMap => intro _; exact .nilMap
  | mapr id b nc sz hf => intro ht; exact .mapr id b nc sz (by simp only [Env.only]; rw [if_pos (ht id (by simp [AV.ids]))]; exact hf)
  | nilS cap => intro _; exact .nilS cap
  | someS a cap => intro _; exact .someS a cap
  | slc id off n sz ag b nc s cap o hf hc ho hz => intro ht; exact .slc id off n sz ag b nc s cap o (by simp only [Env.only]; rw [if_pos (ht id (by simp [AV.ids]))]; exact hf) hc ho hz
  | agg cs vs hn _ ih => intro ht; simp only [AV.ids] at ht; exact .agg cs vs hn fun i hi => ih i hi (idsL_get ht hi)
  | tup cs vs hn _ ih => intro ht; simp only [AV.ids] at ht; exact .tup cs vs hn fun i hi => ih i hi (idsL_get ht hi)
  | list els tok base cap vs hu hs _ hb hc ht ih =>
    intro h0
    simp only [AV.ids, List.mem_append] at h0
    refine .list els tok base cap vs hu hs (fun k hk => ih k hk (idsL_get (idsL_flat fun i hi => h0 i (.inr hi)) hk)) hb hc ?_
    cases tok with
    | none => trivial
    | some id =>
      obtain ⟨b, nc, sz, h1, h2⟩ := ht
      exact ⟨b, nc, sz, by simp only [Env.only]; rw [if_pos (h0 id (.inl (by simp)))]; exact h1, h2⟩
  | empty base => intro _; exact .empty base
  | tptr cs a vs ha hs _ ih => intro ht; simp only [AV.ids] at ht; exact .tptr cs a vs ha hs fun k hk => ih k hk (idsL_get ht hk)
  | ptr id off b nc sz hf => intro ht; exact .ptr id off b nc sz (by simp only [Env.only]; rw [if_pos (ht id (by simp [AV.ids]))]; exact hf)
  | fn f first cap fs cs hf _ hc _ i1 i2 =>
    intro ht; simp only [AV.ids, List.mem_append] at ht
    exact .fn f first cap fs cs hf (fun i hi => i1 i hi (idsL_get (fun j hj => ht j (.inl hj)) hi)) hc fun i hi => i2 i hi (idsL_get (fun j hj => ht j (.inr hj)) hi)
  | iface t v x _ ih => intro ht; simp only [AV.ids] at ht; exact .iface t v x (ih ht)
theorem RepL.only {E : Env} {l : List AV} {vs : Array Value} (h : RepL E l vs) {R : List Nat} (ht : ∀ i ∈ idsL l, R.contains i = true) : RepL (E.only R) l vs :=
  ⟨h.size, fun i hi => (h.get i hi).only R (idsL_get ht hi)⟩
theorem MsRel.only {E : Env} {R : List Nat} : ∀ {es : List (List UInt8 × AV)} {ms : List MapEntry}, MsRel E es ms -> (∀ j ∈ idsL (es.map Prod.snd), R.contains j = true) -> MsRel (E.only R) es ms
  | [], [], _, _ => trivial
  | e :: r, m :: s, ⟨⟨a, b, c⟩, d⟩, hi => by
    simp only [List.map_cons, idsL, List.mem_append] at hi
    exact ⟨⟨a, b.only R fun j hj => hi j (.inl hj), c⟩, d.only fun j hj => hi j (.inr hj)⟩
  | [], _ :: _, k, _ => k.elim
  | _ :: _, [], k, _ => k.elim
theorem mask_len (R : List Nat) : ∀ (k : Nat) (H : Heap), (mask R k H).length = H.length
  | _, [] => rfl
  | k, o :: r => by simp [mask, mask_len R (k + 1) r]
theorem mask_get (R : List Nat) : ∀ (k : Nat) (H : Heap) (i : Nat), (mask R k H)[i]? = if R.contains (k + i) then H[i]? else (H[i]?).map fun _ => .dead
  | k, [], i => by simp [mask]
  | k, o :: r, 0 => by simp only [mask, List.getElem?_cons_zero, Nat.add_zero]; split <;> simp
  | k, o :: r, i + 1 => by
    simp only [mask, List.getElem?_cons_succ]
    rw [mask_get R (k + 1) r i, show k + 1 + i = k + (i + 1) by omega]
theorem unmask_len (R : List Nat) : ∀ (k : Nat) (H H1 : Heap), (unmask R k H H1).length = H1.length
  | _, [], H1 => by simp [unmask]
  | _, _ :: _, [] => by simp [unmask]
  | k, o :: r, o1 :: r1 => by simp [unmask, unmask_len R (k + 1) r r1]
theorem unmask_get (R : List Nat) : ∀ (k : Nat) (H H1 : Heap) (i : Nat), H.length ≤ H1.length -> (unmask R k H H1)[i]? = if i < H.length /\ R.contains (k + i) = false then H[i]? else H1[i]?
  | k, [], H1, i, _ => by simp [unmask]
  | k, o :: r, [], i, h => by simp at h
  | k, o :: r, o1 :: r1, 0, h => by
    simp only [unmask, List.getElem?_cons_zero, Nat.add_zero, List.length_cons, Nat.zero_lt_succ, true_and]
    cases R.contains k <;> simp
  | k, o :: r, o1 :: r1, i + 1, h => by
    simp only [unmask, List.getElem?_cons_succ, List.length_cons, Nat.add_lt_add_iff_right]
    rw [unmask_get R (k + 1) r r1 i (by simpa using h), show k + 1 + i = k + (i + 1) by omega]
theorem closed_get {H : Heap} {R : List Nat} (h : closed H R = true) {i : Nat} (hi : R.contains i = true) : ∃ o, H[i]? = some o /\ o ≠ .dead /\ ∀ j ∈ o.ids, R.contains j = true := by
  unfold closed at h
  rw [List.all_eq_true] at h
  have := h i (by simpa using hi)
  split at this
  . cases this
  . rename_i o hne ho
    exact ⟨o, ho, hne, by simpa using this⟩
  . cases this
theorem ObjRel.only {E : Env} {w : World} {b nc sz : Nat} {o : AObj} {R : List Nat} (h : ObjRel E w b nc sz o) (hi : ∀ j ∈ o.ids, R.contains j = true) : ObjRel (E.only R) w b nc sz o := by
  cases o with
  | cells cs T => obtain ⟨vs, h1, h2, h3, h4⟩ := h; exact ⟨vs, h1, h2, ⟨h3.size, fun i k => (h3.get i k).only R (idsL_get hi k)⟩, h4⟩
  | tail n s => exact h
  | amap es => obtain ⟨ms, c, h1, h2, h3⟩ := h; exact ⟨ms, c, h1, h2.only hi, h3⟩
  | siter s pos => exact h
  | dead => trivial
theorem Holds.only {E : Env} {H : Heap} {w : World} (h : Holds E H w) {R : List Nat} (hc : closed H R = true) : Holds (E.only R) (mask R 0 H) w := by
  have hf : ∀ {i p}, (E.only R).f i = some p -> R.contains i = true /\ E.f i = some p := fun {i p} hx => by
    simp only [Env.only] at hx; split at hx
    . rename_i e; exact ⟨e, hx⟩
    . cases hx
  have hg : ∀ i, R.contains i = true -> (mask R 0 H)[i]? = H[i]? := fun i hi => by rw [mask_get]; simp only [Nat.zero_add]; rw [if_pos hi]
  refine ⟨h.st, fun i p hp => by rw [mask_len]; exact h.dom i p (hf hp).2, fun i o hi hd => ?_, fun i j p q hp hq e => ?_, by rw [mask_len]; exact h.len, fun b o hb => ⟨(h.blk b o hb).1, fun i p hp => (h.blk b o hb).2 i p (hf hp).2⟩⟩
  . rw [mask_get] at hi
    simp only [Nat.zero_add] at hi
    split at hi
    . rename_i hR
      obtain ⟨o', ho', _, hids⟩ := closed_get hc hR
      rw [hi] at ho'; injection ho' with ho'; subst ho'
      obtain ⟨b, nc, sz, g1, g2⟩ := h.obj i o hi hd
      exact ⟨b, nc, sz, by simp only [Env.only]; rw [if_pos hR]; exact g1, g2.only hids⟩
    . cases hH : H[i]? with
      | none => rw [hH] at hi; cases hi
      | some x => rw [hH] at hi; simp at hi; exact absurd hi.symm hd
  . obtain ⟨r1, p1⟩ := hf hp
    obtain ⟨r2, p2⟩ := hf hq
    rw [hg i r1, hg j r2]
    exact h.inj i j p q p1 p2 e
theorem Holds.unonly {E E1 : Env} {H H1 : Heap} {w w1 : World} (h : Holds E H w) {R : List Nat} (hc : closed H R = true) (hx : Ext (E.only R) w E1 w1) (h1 : Holds E1 H1 w1) :
    ∃ E', E1.le E' /\ Ext E w E' w1 /\ Holds E' (unmask R 0 H H1) w1 := by
  have hf : ∀ {i p}, (E.only R).f i = some p -> R.contains i = true /\ E.f i = some p := fun {i p} hx => by
    simp only [Env.only] at hx; split at hx
    . rename_i e; exact ⟨e, hx⟩
    . cases hx
  have hlen : H.length ≤ H1.length := by rw [<- h.len, <- h1.len]; exact hx.le.n
  let m : Nat -> Bool := fun i => decide (i < H.length) && !R.contains i
  have hm : ∀ i, m i = true ↔ i < H.length /\ R.contains i = false := fun i => by simp [m]
  have hget : ∀ i, (unmask R 0 H H1)[i]? = if m i = true then H[i]? else H1[i]? := fun i => by
    rw [unmask_get R 0 H H1 i hlen, Nat.zero_add]
    by_cases hmi : m i = true
    . rw [if_pos hmi, if_pos ((hm i).1 hmi)]
    . rw [if_neg hmi, if_neg (fun e => hmi ((hm i).2 e))]
  have hblk : ∀ {i p o}, m i = true -> E.f i = some p -> H[i]? = some o -> o ≠ .dead -> ∀ j q, (E.only R).f j = some q -> q.1 ≠ p.1 := fun {i p o} hmi hp ho hd j q hq e => by
    obtain ⟨r, hq'⟩ := hf hq
    obtain ⟨oj, hoj, hdj, _⟩ := closed_get hc r
    rcases h.inj i j p q hp hq' e.symm with hh | hh | hh
    . subst hh; rw [((hm i).1 hmi).2] at r; cases r
    . rw [ho] at hh; injection hh with hh; exact hd hh
    . rw [hoj] at hh; injection hh with hh; exact hdj hh
  have hnom : ∀ {i p}, m i = true -> E1.f i ≠ some p := fun {i p} hmi hp => by
    rcases hx.newf i p hp with hh | ⟨hh, _⟩
    . obtain ⟨r, _⟩ := hf hh; rw [((hm i).1 hmi).2] at r; cases r
    . have := ((hm i).1 hmi).1; have := h.len; simp only [Env.only] at hh; omega
  have hle1 : E1.le ⟨E1.st, fun i => if m i = true then E.f i else E1.f i, E1.n, E1.d, E1.k⟩ := ⟨fun _ _ _ h => h, fun i p hp => by
    show (if m i = true then E.f i else E1.f i) = some p
    rw [if_neg (fun e => hnom e hp)]; exact hp, Nat.le_refl _, rfl, rfl⟩
  have hle : E.le ⟨E1.st, fun i => if m i = true then E.f i else E1.f i, E1.n, E1.d, E1.k⟩ := ⟨hx.le.st, fun i p hp => by
    show (if m i = true then E.f i else E1.f i) = some p
    by_cases hmi : m i = true
    . rw [if_pos hmi]; exact hp
    . rw [if_neg hmi]
      refine hx.le.f i p ?_
      have hi := (h.dom i p hp).1
      have : R.contains i = true := by
        cases hr : R.contains i with
        | true => rfl
        | false => exact absurd ((hm i).2 ⟨hi, hr⟩) hmi
      simp only [Env.only]; rw [if_pos this]; exact hp, hx.le.n, hx.le.d, hx.le.k⟩
  have hkeep : ∀ {i p o}, m i = true -> E.f i = some p -> H[i]? = some o -> o ≠ .dead -> w1.heap[p.1]? = w.heap[p.1]? := fun {i p o} hmi hp ho hd =>
    hx.keep p.1 (h.dom i p hp).2 (hblk hmi hp ho hd)
  refine ⟨_, hle1, ⟨hle, hx.os, hx.tape, hx.output, hx.size, fun b hb hn => hx.keep b hb fun i p hp => hn i p (hf hp).2, fun i p hp => ?_, fun b o v hv => ?_, hx.drawn⟩, ⟨h1.st, fun i p hp => ?_, fun i o hi hd => ?_, fun i j p q hp hq e => ?_, ?_, fun b o hb => ⟨(h1.blk b o hb).1, fun i p hp => ?_⟩⟩⟩
  rotate_right
  . have hp' : (if m i = true then E.f i else E1.f i) = some p := hp
    split at hp'
    . have hbk : E.k b = some o := by rw [<- show E1.k = E.k from hx.le.k]; exact hb
      exact (h.blk b o hbk).2 i p hp'
    . exact (h1.blk b o hb).2 i p hp'
  . have hp' : (if m i = true then E.f i else E1.f i) = some p := hp
    split at hp'
    . exact .inl hp'
    . rcases hx.newf i p hp' with hh | ⟨hh, h2⟩
      . exact .inl (hf hh).2
      . refine .inr ⟨hh, ?_⟩
        rcases h2 with h2 | ⟨j, q, h2, h3⟩
        . exact .inl h2
        . exact .inr ⟨j, q, (hf h2).2, h3⟩
  . rcases hx.newst b o v hv with hh | hh | ⟨j, q, h2, h3⟩
    . exact .inl hh
    . exact .inr (.inl hh)
    . exact .inr (.inr ⟨j, q, (hf h2).2, h3⟩)
  . have hp' : (if m i = true then E.f i else E1.f i) = some p := hp
    rw [unmask_len]
    split at hp'
    . have := h.dom i p hp'; exact ⟨Nat.lt_of_lt_of_le this.1 hlen, Nat.lt_of_lt_of_le this.2 hx.size⟩
    . exact h1.dom i p hp'
  . rw [hget] at hi
    split at hi
    . rename_i hmi
      obtain ⟨b, nc, sz, g1, g2⟩ := h.obj i o hi hd
      refine ⟨b, nc, sz, by show (if m i = true then E.f i else E1.f i) = _; rw [if_pos hmi]; exact g1, ?_⟩
      have hb := hkeep hmi g1 hi hd
      have hbl := hblk hmi g1 hi hd
      have hlt := (h.dom _ _ g1).2
      refine (g2.mono_world hb).mono_env hle fun k => ?_
      show E1.st b k = E.st b k
      cases hs : E1.st b k with
      | none =>
        cases hs2 : E.st b k with
        | none => rfl
        | some v => rw [hx.le.st b k v hs2] at hs; cases hs
      | some v =>
        rcases hx.newst b k v hs with hh | hh | ⟨j, q, h2, h3⟩
        . exact hh.symm
        . simp only at hlt; omega
        . exact absurd h3 (hbl j q h2)
    . rename_i hmi
      obtain ⟨b, nc, sz, g1, g2⟩ := h1.obj i o hi hd
      exact ⟨b, nc, sz, by show (if m i = true then E.f i else E1.f i) = _; rw [if_neg hmi]; exact g1, g2.mono_env hle1 fun _ => rfl⟩
  . have hp' : (if m i = true then E.f i else E1.f i) = some p := hp
    have hq' : (if m j = true then E.f j else E1.f j) = some q := hq
    rw [hget, hget]
    have mixed : ∀ {i j p q}, m i = true -> ¬ m j = true -> E.f i = some p -> E1.f j = some q -> p.1 = q.1 -> H[i]? = some .dead := by
      intro i j p q hmi hmj hp hq e
      have hi := (h.dom i p hp).1
      obtain ⟨o, ho⟩ : ∃ o, H[i]? = some o := ⟨_, List.getElem?_eq_getElem hi⟩
      by_cases hd : o = .dead
      . rw [ho, hd]
      . exfalso
        have hbl := hblk hmi hp ho hd
        rcases hx.newf j q hq with hh | ⟨_, hh | ⟨j2, q2, h2, h3⟩⟩
        . exact hbl j q hh e.symm
        . have := (h.dom i p hp).2; omega
        . exact hbl j2 q2 h2 (h3.trans e.symm)
    split at hp' <;> split at hq'
    . rename_i m1 m2; rw [if_pos m1, if_pos m2]; exact h.inj i j p q hp' hq' e
    . rename_i m1 m2; rw [if_pos m1]; exact .inr (.inl (mixed m1 m2 hp' hq' e))
    . rename_i m1 m2; rw [if_pos m2]; exact .inr (.inr (mixed m2 m1 hq' hp' e.symm))
    . rename_i m1 m2; rw [if_neg m1, if_neg m2]; exact h1.inj i j p q hp' hq' e
  . rw [unmask_len]; exact h1.len
end
end Go.Tv
namespace Go.Tv
open Go.RowKit (Below)
section
variable {C : Cfg}
theorem ahand_ok {_call : Caller} {fz : Bool} {fn : Func} {t : List AV} {H H' : Heap} {r : ARet} (h : ahand C fz fn t H = some (r, H')) {E : Env} {w : World} {tmps : Array Value} (ht : RepL E t tmps) (hH : Holds E H w)
    {E0 : Env} {w0 : World} (hE : Ext E0 w0 E w) : ∃ v, (results fn tmps).run C.P w = .ok v w /\ CallPost E0 w0 r H' (.returned v) w := by
  unfold ahand at h
  split at h <;> try (cases h; done)
  rename_i l0 hl
  obtain ⟨vs, hv, hrr⟩ := results_run ht hH hl
  have hrun := Value.results_eq fn tmps w C.P hv
  have hfz : ∀ {l H1}, (if fz then frzL l0 H else some (l0, H)) = some (l, H1) -> ∃ E', Ext E w E' w /\ Holds E' H1 w /\ RepL E' l vs.toArray := by
    intro l H1 hx
    cases fz with
    | true => exact frzL_ok (by simpa using hx) hH hrr
    | false => simp at hx; obtain ⟨rfl, rfl⟩ := hx; exact ⟨E, Ext.refl _ _, hH, hrr⟩
  split at h <;> try (cases h; done)
  . rename_i v H1 hx; injection h with h; injection h with h1 h2; subst h1 h2
    obtain ⟨E', g1, g2, g3⟩ := hfz hx
    have hs := g3.size
    match vs, hs with
    | [c], _ =>
      refine ⟨_, hrun, E', hE.trans g1, g2, ?_⟩
      exact (repL_cons.1 g3).1.erase
  . rename_i l H1 hne hx; injection h with h; injection h with h1 h2; subst h1 h2
    obtain ⟨E', g1, g2, g3⟩ := hfz hx
    have hs := g3.size
    refine ⟨_, hrun, E', hE.trans g1, g2, ?_⟩
    have hn1 : ¬ vs.toArray.size = 1 := by
      intro h1
      match l, hs, hne with
      | [v], _, hne => exact hne v rfl
      | [], hs, _ => simp at hs h1; omega
      | _ :: _ :: _, hs, _ => simp at hs h1; omega
    rw [dif_neg hn1]
    exact .tup _ _ g3.erase.size g3.erase.get
theorem leaves_later {E0 : Env} {w0 : World} (hC : CfgOk C) {call : Caller} (hcall : CallOk C call) (hp : CallPure C call) {k : Nat} {fz : Bool} {fn : Func} {g : FuncId} {d t : List AV} {p q : Option AV} {H H2 H' : Heap} {r : ARet} (h : alater C call k g d p H = some (q, H2))
    {E : Env} {w : World} {dv cap tmps : Array Value} {u : FrameMode} (hr : RepL E d (dv ++ cap)) (hg : GlobOk C E) (hH : Holds E H w) (ht : q = none -> RepL E t tmps) (hm : ModeRel E p u) (hE : Ext E0 w0 E w)
    (hq : (q = none /\ ahand C fz fn t H2 = some (r, H')) \/ (∃ v, q = some v /\ p = some v /\ r = .panic v.erase /\ H' = H2)) :
    Leaves C.P fn tmps (CallPost E0 w0 r H') [{ target := .fn (.func g) cap, args := dv }] u w := by
  obtain ⟨⟨gf, gc, hgf, hgb⟩, hcd⟩ := alater_ok hC hcall hp h hr hg hH hm
  refine leaves_cons (by cases hm <;> simp) (f := g) (args := dv ++ cap) ?_ (hcd.mono ?_)
  . simp only [invoke, callFunc, Sem.run_bind, run_program, Result.andThen_ok, hgf, hC.names _ _ hgf, Bool.false_eq_true, if_false, hgb, Option.isNone_some, Sem.run_pure]
  . rintro e u' w' ⟨⟨v, rfl⟩, E', g1, g2, g3⟩
    have handed : ∀ {r}, q = none -> ahand C fz fn t H2 = some (r, H') -> ∃ v, (results fn tmps).run C.P w' = .ok v w' /\ CallPost E0 w0 r H' (.returned v) w' := fun hqn hx =>
      ahand_ok (_call := call) hx ((ht hqn).mono g1.le) g2 (hE.trans g1)
    rcases hq with ⟨rfl, hx⟩ | ⟨v, rfl, rfl, rfl, rfl⟩
    . rcases g3 with ⟨_, h3⟩ | ⟨hpn, h3⟩
      . simp only [h3]; exact handed rfl hx
      . subst hpn
        cases hm
        simp only [h3]; exact handed rfl hx
    . rcases g3 with ⟨h2, _⟩ | ⟨_, h3⟩
      . cases h2
      . cases hm with
        | panic _ c hc =>
          simp only [h3]
          exact ⟨E', hE.trans g1, g2, c, rfl, (hc.mono g1.le).erase⟩
theorem afn_ok (hC : CfgOk C) {call : Caller} (hcall : CallOk C call) (hp : CallPure C call) {k : Nat} {fz : Bool} {f : FuncId} {fn : Func} {args : List AV} {H H' : Heap} {r : ARet} (hf : C.P.funcs[f]? = some fn) (h : afn C call k fz fn args H = some (r, H'))
    {E : Env} {w : World} {vs : Array Value} (hr : RepL E args vs) (hg : GlobOk C E) (hH : Holds E H w) : Calls C.P f vs w (CallPost E w r H') := by
  unfold afn at h
  split at h
  . cases h
  . rename_i c hb
    refine calls_of_wp_defers hf hb ?_
    have hrun := fun {out} (ho : arunD C call k c (frame fn args) H = some out) => arunD_ok hC hcall hp k c ho (a := { tmps := vs ++ Array.replicate (fn.ntmps - vs.size) undef, defers := [] }) (frame_rep hr) rfl hg hH
    split at h <;> try (cases h; done)
    . rename_i t' H1 ho
      refine wp_mono (hrun ho) ?_
      rintro e a' w' ⟨E', g1, g2, g3, g4, g5⟩
      cases e <;> try (exact g5.elim)
      obtain ⟨v, q1, q2⟩ := ahand_ok (_call := call) h (g3 rfl) g2 g1
      simp only [bodyPostD, g4, Leaves]; exact ⟨v, q1, q2⟩
    . rename_i t' H1 ho
      refine wp_mono (hrun ho) ?_
      rintro e a' w' ⟨E', g1, g2, g3, g4, g5⟩
      cases e <;> try (exact g5.elim)
      obtain ⟨v, q1, q2⟩ := ahand_ok (_call := call) h (g3 rfl) g2 g1
      simp only [bodyPostD, g4, Leaves]; exact ⟨v, q1, q2⟩
    . rename_i v t' H1 ho; injection h with h; injection h with h1 h2; subst h1 h2
      refine wp_mono (hrun ho) ?_
      rintro e a' w' ⟨E', g1, g2, g3, g4, g5⟩
      cases e <;> try (exact g5.elim)
      obtain ⟨cc, rfl, hrc⟩ := g5
      simp only [bodyPostD, g4, Leaves]; exact ⟨E', g1, g2, cc, rfl, hrc.erase⟩
    . rename_i v t' H1 ho; injection h with h; injection h with h1 h2; subst h1 h2
      refine wp_mono (hrun ho) ?_
      rintro e a' w' ⟨E', g1, g2, g3, g4, g5⟩
      cases e <;> try (exact g5.elim)
      obtain ⟨cc, rfl, hrc⟩ := g5
      simp only [bodyPostD, g4, Leaves]; exact ⟨E', g1, g2, cc, rfl, hrc.erase⟩
    . rename_i g d t' H1 ho
      split at h <;> try (cases h; done)
      rename_i q H2 hl
      refine wp_mono (hrun ho) ?_
      rintro e a' w' ⟨E', g1, g2, g3, g4, dv, cap, g5, g6⟩
      cases e <;> try (exact g4.elim)
      simp only [bodyPostD, g5]
      have hq : q = none := by
        obtain ⟨_, hcd⟩ := alater_ok hC hcall hp hl g6 (hg.mono g1.le) g2 .ret
        obtain ⟨e, u', w2, fr, ⟨_, E2, _, _, h3⟩, _⟩ := hcd { (default : Frame) with mode := .returning } [] rfl
        rcases h3 with ⟨h3, _⟩ | ⟨h3, _⟩ <;> exact h3
      exact leaves_later hC hcall hp hl g6 (hg.mono g1.le) g2 (fun _ => g3 rfl) .ret g1 (.inl ⟨hq, h⟩)
    . rename_i g d t' H1 ho
      split at h <;> try (cases h; done)
      rename_i q H2 hl
      refine wp_mono (hrun ho) ?_
      rintro e a' w' ⟨E', g1, g2, g3, g4, dv, cap, g5, g6⟩
      cases e <;> try (exact g4.elim)
      simp only [bodyPostD, g5]
      have hq : q = none := by
        obtain ⟨_, hcd⟩ := alater_ok hC hcall hp hl g6 (hg.mono g1.le) g2 .ret
        obtain ⟨e, u', w2, fr, ⟨_, E2, _, _, h3⟩, _⟩ := hcd { (default : Frame) with mode := .returning } [] rfl
        rcases h3 with ⟨h3, _⟩ | ⟨h3, _⟩ <;> exact h3
      exact leaves_later hC hcall hp hl g6 (hg.mono g1.le) g2 (fun _ => g3 rfl) .ret g1 (.inl ⟨hq, h⟩)
    . rename_i g d v t' H1 ho
      split at h <;> try (cases h; done)
      . rename_i H2 hl
        refine wp_mono (hrun ho) ?_
        rintro e a' w' ⟨E', g1, g2, g3, g4, dv, cap, g5, g6⟩
        cases e <;> try (exact g4.elim)
        obtain ⟨cc, rfl, hrc⟩ := g4
        simp only [bodyPostD, g5]
        exact leaves_later hC hcall hp hl g6 (hg.mono g1.le) g2 (fun _ => g3 rfl) (.panic _ _ hrc) g1 (.inl ⟨rfl, h⟩)
      . rename_i v2 H2 hl; injection h with h; injection h with h1 h2; subst h1 h2
        refine wp_mono (hrun ho) ?_
        rintro e a' w' ⟨E', g1, g2, g3, g4, dv, cap, g5, g6⟩
        cases e <;> try (exact g4.elim)
        obtain ⟨cc, rfl, hrc⟩ := g4
        simp only [bodyPostD, g5]
        have hq : v2 = v := by
          obtain ⟨_, hcd⟩ := alater_ok hC hcall hp hl g6 (hg.mono g1.le) g2 (.panic _ _ hrc)
          obtain ⟨e, u', w2, fr, ⟨_, E2, _, _, h3⟩, _⟩ := hcd { (default : Frame) with mode := .panicking [{ v := cc, recovered := false }] } [] rfl
          rcases h3 with ⟨h3, _⟩ | ⟨h3, _⟩
          . cases h3
          . injection h3
        subst hq
        exact leaves_later (fz := fz) hC hcall hp hl g6 (hg.mono g1.le) g2 (fun _ => g3 rfl) (.panic _ _ hrc) g1 (.inr ⟨_, rfl, rfl, rfl, rfl⟩)
    . rename_i g d v t' H1 ho
      split at h <;> try (cases h; done)
      rename_i v2 H2 hl; injection h with h; injection h with h1 h2; subst h1 h2
      refine wp_mono (hrun ho) ?_
      rintro e a' w' ⟨E', g1, g2, g3, g4, dv, cap, g5, g6⟩
      cases e <;> try (exact g4.elim)
      obtain ⟨cc, rfl, hrc⟩ := g4
      simp only [bodyPostD, g5]
      have hq : v2 = v := by
        obtain ⟨_, hcd⟩ := alater_ok hC hcall hp hl g6 (hg.mono g1.le) g2 (.panic _ _ hrc)
        obtain ⟨e, u', w2, fr, ⟨_, E2, _, _, h3⟩, _⟩ := hcd { (default : Frame) with mode := .panicking [{ v := cc, recovered := false }] } [] rfl
        rcases h3 with ⟨h3, _⟩ | ⟨h3, _⟩
        . cases h3
        . injection h3
      subst hq
      exact leaves_later (fz := fz) (t := t') hC hcall hp hl g6 (hg.mono g1.le) g2 (fun hx => by cases hx) (.panic _ _ hrc) g1 (.inr ⟨_, rfl, rfl, rfl, rfl⟩)
theorem CfgOk.atF (h : CfgOk C) (f : FuncId) : CfgOk (C.at f) :=
  { names := h.names, mixed := h.mixed, ext := h.ext, body := h.body, prim := fun f p hp args v hv E w vs hr hg => h.prim f p hp args v hv E w vs hr ⟨hg.glob, hg.ints, hg.d, hg.tab⟩,
    alias := h.vary f, vary := h.vary, hbody := h.hbody, hprim := fun f p hp args H v H' hv => let ⟨a, b⟩ := h.hprim f p hp args H v H' hv; ⟨a, fun E w vs hr hg hH => b E w vs hr ⟨hg.glob, hg.ints, hg.d, hg.tab⟩ hH⟩ }
theorem CallOk.atF {call : Caller} (h : CallOk C call) (f : FuncId) : CallOk (C.at f) call := ⟨h.body, fun f args H r H' hc E w vs hr hg => h.run f args H r H' hc E w vs hr ⟨hg.glob, hg.ints, hg.d, hg.tab⟩⟩
theorem CallPure.atF {call : Caller} (h : CallPure C call) (f : FuncId) : CallPure (C.at f) call := ⟨h.pure, h.frame⟩
theorem Holds.pure {E : Env} {H : Heap} {w : World} (h : Holds E H w) : Holds E.pure [] w :=
  ⟨h.st, fun i p hp => by simp [Env.pure] at hp, fun i o hi => by simp at hi, fun i j p q hp => by simp [Env.pure] at hp, rfl, fun b o hb => ⟨(h.blk b o hb).1, fun i p hp => by simp [Env.pure] at hp⟩⟩
theorem Holds.below {E : Env} {H : Heap} {w w' : World} (h : Holds E H w) (hb : Below w.heap.size w w') (hdr : E.d -> w.drawn ≤ w'.drawn) : Ext E w E w' /\ Holds E H w' := by
  have hk : ∀ b, b < w.heap.size -> w'.heap[b]? = w.heap[b]? := fun b hb' => hb.block b hb'
  refine ⟨⟨E.le_refl, hb.os, hb.tape, hb.output, hb.size, fun b hb' _ => hk b hb', fun _ _ h => .inl h, fun _ _ _ h => .inl h, hdr⟩, ⟨fun b o v hv => ?_, fun i p hp => ?_, fun i o hi hd => ?_, h.inj, h.len, fun b o hbk => ⟨(hk b (Array.getElem?_eq_some_iff.1 (h.blk b o hbk).1).1).trans (h.blk b o hbk).1, (h.blk b o hbk).2⟩⟩⟩
  . have hc := h.st b o v hv
    have hlt := w.block_lt_of_cell? _ hc
    simp only [World.cell?] at hc ⊢
    rw [hk b hlt]; exact hc
  . have := h.dom i p hp; exact ⟨this.1, Nat.lt_of_lt_of_le this.2 hb.size⟩
  . obtain ⟨b, nc, sz, g1, g2⟩ := h.obj i o hi hd
    exact ⟨b, nc, sz, g1, g2.mono_world (hk b (h.dom _ _ g1).2)⟩
theorem Holds.unpure {E E1 : Env} {H H1 : Heap} {w w1 : World} (h : Holds E H w) (hx : Ext E.pure w E1 w1) (h1 : Holds E1 H1 w1) : Ext E w ⟨E1.st, E.f, E.n, E.d, E.k⟩ w1 /\ Holds ⟨E1.st, E.f, E.n, E.d, E.k⟩ H w1 := by
  have hle : E.le ⟨E1.st, E.f, E.n, E.d, E.k⟩ := ⟨hx.le.st, fun _ _ h => h, Nat.le_refl _, rfl, rfl⟩
  have hkeep : ∀ b, b < w.heap.size -> w1.heap[b]? = w.heap[b]? := fun b hb => hx.keep b hb fun i p hp => by simp [Env.pure] at hp
  have hnst : ∀ b o v, E1.st b o = some v -> E.st b o = some v \/ w.heap.size ≤ b := fun b o v hv => by
    rcases hx.newst b o v hv with h | h | ⟨j, q, hq, _⟩
    . exact .inl h
    . exact .inr h
    . simp [Env.pure] at hq
  refine ⟨⟨hle, hx.os, hx.tape, hx.output, hx.size, fun b hb _ => hkeep b hb, fun i p hp => .inl hp, fun b o v hv => (hnst b o v hv).imp id .inl, hx.drawn⟩, ⟨h1.st, fun i p hp => ?_, fun i o hi hd => ?_, h.inj, h.len, fun b o hbk => ⟨(hkeep b (Array.getElem?_eq_some_iff.1 (h.blk b o hbk).1).1).trans (h.blk b o hbk).1, (h.blk b o hbk).2⟩⟩⟩
  . have := h.dom i p hp; exact ⟨this.1, Nat.lt_of_lt_of_le this.2 hx.size⟩
  . obtain ⟨b, nc, sz, g1, g2⟩ := h.obj i o hi hd
    have hb := (h.dom _ _ g1).2
    have k2 := g2.mono_world (hkeep b hb)
    have hb' := hb
    refine ⟨b, nc, sz, g1, ?_⟩
    cases o with
    | cells cs T =>
      obtain ⟨vs, q1, q2, q3, q4⟩ := k2
      exact ⟨vs, q1, q2, q3.mono hle, fun o => by
        cases hs : E1.st b o with
        | none => rfl
        | some v => rcases hnst b o v hs with h5 | h5
                    . rw [q4 o] at h5; cases h5
                    . simp at hb'; omega⟩
    | tail n s =>
      obtain ⟨q0, vs, T, q1, q2, q3⟩ := k2
      exact ⟨q0, vs, T, q1, q2, fun o ho => by
        cases hs : E1.st b o with
        | none => rfl
        | some v => rcases hnst b o v hs with h5 | h5
                    . rw [q3 o ho] at h5; cases h5
                    . simp at hb'; omega⟩
    | amap es =>
      obtain ⟨ms, c, q1, q2, q4⟩ := k2
      exact ⟨ms, c, q1, q2.mono hle, fun o => by
        cases hs : E1.st b o with
        | none => rfl
        | some v => rcases hnst b o v hs with h5 | h5
                    . rw [q4 o] at h5; cases h5
                    . simp at hb'; omega⟩
    | siter s p =>
      obtain ⟨q1, q4⟩ := k2
      exact ⟨q1, fun o => by
        cases hs : E1.st b o with
        | none => rfl
        | some v => rcases hnst b o v hs with h5 | h5
                    . rw [q4 o] at h5; cases h5
                    . simp at hb'; omega⟩
    | dead => trivial
theorem frzC_frame : ∀ {cs : List AV} {H : Heap} {cs' : List AV} {H' : Heap}, frzC cs H = some (cs', H') -> H'.length = H.length /\ ∀ id, id ∉ idsL cs -> H'[id]? = H[id]?
  | [], H, cs', H', h => by simp only [frzC] at h; injection h with h; injection h with h1 h2; subst h2; exact ⟨rfl, fun _ _ => rfl⟩
  | v :: r, H, cs', H', h => by
    have plain : ∀ {r' H'}, frzC r H = some (r', H') -> H'.length = H.length /\ ∀ id, id ∉ idsL (v :: r) -> H'[id]? = H[id]? := fun hx => by
      obtain ⟨q1, q2⟩ := frzC_frame hx
      exact ⟨q1, fun id hid => q2 id fun hm => hid (by simp only [idsL, List.mem_append]; exact .inr hm)⟩
    cases v
    case slc id off n sz ag =>
      simp only [frzC] at h
      split at h <;> try (cases h; done)
      split at h <;> try (cases h; done)
      split at h <;> try (cases h; done)
      split at h <;> try (cases h; done)
      rename_i r' H2 hrest; injection h with h; injection h with h1 h2; subst h1 h2
      obtain ⟨q1, q2⟩ := frzC_frame hrest
      refine ⟨by rw [q1]; simp, fun j hj => ?_⟩
      simp only [idsL, AV.ids, List.mem_append, List.mem_singleton, not_or] at hj
      rw [q2 j hj.2, List.getElem?_set_ne (fun e => hj.1 e.symm)]
    all_goals
      simp only [frzC] at h
      split at h <;> try (cases h; done)
      rename_i r' H2 hrest; injection h with h; injection h with h1 h2; subst h1 h2
      exact plain hrest
theorem frzL_frame : ∀ {cs : List AV} {H : Heap} {cs' : List AV} {H' : Heap}, frzL cs H = some (cs', H') -> H'.length = H.length /\ ∀ id, id ∉ idsL cs -> H'[id]? = H[id]?
  | [], H, cs', H', h => by simp only [frzL] at h; injection h with h; injection h with h1 h2; subst h2; exact ⟨rfl, fun _ _ => rfl⟩
  | v :: r, H, cs', H', h => by
    cases v
    case agg cs =>
      simp only [frzL] at h
      split at h <;> try (cases h; done)
      rename_i cs1 H1 h1
      split at h <;> try (cases h; done)
      rename_i r' H2 h2; injection h with h; injection h with e1 e2; subst e1 e2
      obtain ⟨q1, q2⟩ := frzC_frame h1
      obtain ⟨p1, p2⟩ := frzL_frame h2
      refine ⟨p1.trans q1, fun id hid => ?_⟩
      simp only [idsL, AV.ids, List.mem_append, not_or] at hid
      rw [p2 id hid.2, q2 id hid.1]
    all_goals
      simp only [frzL] at h
      split at h <;> try (cases h; done)
      rename_i v1 H1 h1
      split at h <;> try (cases h; done)
      rename_i r' H2 h2; injection h with h; injection h with e1 e2; subst e1 e2
      obtain ⟨q1, q2⟩ := frzC_frame h1
      obtain ⟨p1, p2⟩ := frzL_frame h2
      refine ⟨p1.trans q1, fun id hid => ?_⟩
      rw [idsL, List.mem_append, not_or] at hid
      rw [p2 id hid.2, q2 id (by rw [idsL, idsL, List.append_nil]; exact hid.1)]
def HpOk (C : Cfg) : Prop := ∀ f h, C.hprim f = some h -> ∀ args H v H', h args H = some (v, H') -> H.length ≤ H'.length /\ ∀ id, id < H.length -> (reachL H args).contains id = false -> H'[id]? = H[id]?
theorem CfgOk.hp (h : CfgOk C) : HpOk C := fun f p hf args H v H' hv => (h.hprim f p hf args H v H' hv).1
theorem acall_pure (hC : HpOk C) : ∀ n, CallPure C (acall C n)
  | 0 => ⟨fun g args H r H' _ _ h => by simp [acall] at h, fun g args H r H' _ h => by simp [acall] at h⟩
  | n + 1 => ⟨fun g args H r H' h1 h2 h => by
      simp only [acall] at h ⊢
      split at h
      . split at h <;> try (cases h; done)
        rename_i v hv
        split at h <;> try (cases h; done)
        rename_i hvt; injection h with h; injection h with e1 e2; subst e1 e2
        refine ⟨rfl, fun H2 => ?_⟩
        try simp only [hvt, if_true]
      simp only [h1, if_true] at h ⊢
      split at h <;> try (cases h; done)
      split at h
      . rename_i hcl
        split at h <;> try (cases h; done)
        rename_i q1 q2
        split at h <;> try (cases h; done)
        rename_i q3; injection h with h; injection h with e1 e2; subst e1 e2
        refine ⟨rfl, fun H2 => ?_⟩
        try simp only [hcl, if_true, q3]
      rename_i hcl
      simp only [hcl, if_false, Bool.false_eq_true] at h ⊢
      simp only [h2, Bool.not_false, Bool.not_true, Bool.and_false, Bool.false_eq_true, if_false, Bool.and_self, if_true] at h ⊢
      split at h <;> try (cases h; done)
      rename_i r1 H1 hrun
      split at h <;> try (cases h; done)
      rename_i hrt; injection h with h; injection h with e1 e2; subst e1 e2
      refine ⟨rfl, fun H2 => ?_⟩
      try simp only [hrt, if_true], fun g args H r H' hne h => by
      simp only [acall] at h
      split at h
      . split at h <;> try (cases h; done)
        rename_i v hv
        split at h <;> try (cases h; done)
        injection h with h; injection h with e1 e2; subst e1 e2
        exact ⟨Nat.le_refl _, fun _ _ _ => rfl⟩
      split at h
      . rename_i hh hp0
        split at h <;> try (cases h; done)
        rename_i v1 H1 hh1; injection h with h; injection h with e1 e2; subst e1 e2
        split at hp0
        . cases hp0
        . exact hC _ _ hp0 _ _ _ _ hh1
      split at h <;> try (cases h; done)
      split at h
      . split at h <;> try (cases h; done)
        split at h <;> try (cases h; done)
        injection h with h; injection h with e1 e2; subst e1 e2
        exact ⟨Nat.le_refl _, fun _ _ _ => rfl⟩
      split at h
      . split at h <;> try (cases h; done)
        rename_i args' H1 hfz
        split at h <;> try (cases h; done)
        rename_i hck
        split at h <;> try (cases h; done)
        split at h <;> try (cases h; done)
        injection h with h; injection h with e1 e2; subst e1 e2
        obtain ⟨q1, q2⟩ := frzL_frame hfz
        simp only [Bool.and_eq_true, List.all_eq_true] at hck
        refine ⟨Nat.le_of_eq q1.symm, fun id _ hR => q2 id fun hm => ?_⟩
        rw [hck.2 id hm] at hR; cases hR
      split at h
      . rename_i htree
        simp only [Bool.and_eq_true, Bool.not_eq_true'] at htree
        exact absurd htree hne
      . split at h <;> try (cases h; done)
        split at h <;> try (cases h; done)
        split at h <;> try (cases h; done)
        rename_i hl; injection h with h; injection h with e1 e2; subst e1 e2
        refine ⟨by rw [unmask_len]; exact hl, fun id hid hR => ?_⟩
        rw [unmask_get _ _ _ _ _ hl, Nat.zero_add, if_pos ⟨hid, hR⟩]⟩
theorem acall_ok (hC : CfgOk C) : ∀ n, CallOk C (acall C n)
  | 0 => ⟨fun f args H r h => by simp [acall] at h, fun f args H r H' h => by simp [acall] at h⟩
  | n + 1 => by
    have ih := acall_ok hC n
    refine ⟨fun f args H r h => ?_, fun f args H r H' h => ?_⟩
    . simp only [acall] at h
      split at h
      . rename_i hx hpr; exact hC.body _ _ hpr
      split at h
      . rename_i hh hp0
        split at hp0
        . cases hp0
        . exact hC.hbody _ _ hp0
      split at h <;> try (cases h; done)
      rename_i fn hfn
      cases hb : fn.body with
      | some c => exact ⟨fn, c, hfn, hb⟩
      | none =>
        have : ∀ C' fz args H, afn C' (acall C n) n fz fn args H = none := fun C' fz args H => by unfold afn; rw [hb]
        simp only [this] at h
        split at h <;> simp at h
        obtain ⟨_, h⟩ := h
        split at h <;> cases h
    . intro E w vs hr hg hH
      simp only [acall] at h
      split at h
      . rename_i hx hpr
        split at h <;> try (cases h; done)
        rename_i v hv
        split at h <;> try (cases h; done)
        injection h with h; injection h with e1 e2; subst e1 e2
        refine (hC.prim _ _ hpr _ _ hv E w vs hr hg hH.st fun b o hb => (hH.blk b o hb).1).mono ?_
        rintro e w' ⟨c, rfl, hb, hbd, hrc⟩
        obtain ⟨k1, k2⟩ := hH.below hb fun hd => hbd (hg.d hd)
        exact ⟨E, k1, k2, hrc⟩
      split at h
      . rename_i hh hp0
        split at h <;> try (cases h; done)
        rename_i v1 H1 hh1; injection h with h; injection h with e1 e2; subst e1 e2
        split at hp0
        . cases hp0
        . exact (hC.hprim _ _ hp0 _ _ _ _ hh1).2 E w vs hr hg hH
      split at h <;> try (cases h; done)
      rename_i fn hfn
      split at h
      . rename_i hcl
        simp only [Bool.and_eq_true] at hcl
        obtain ⟨_, hea⟩ := hcl
        split at h <;> try (cases h; done)
        rename_i r1 K1 r2 K2 q1 q2
        split at h <;> try (cases h; done)
        rename_i q3; injection h with h; injection h with h1 h2; subst h1 h2
        simp only [Bool.and_eq_true] at q3
        have hgp : GlobOk C E.pure := ⟨fun g cs hc => hg.glob g cs hc, hg.ints, hg.d, hg.tab⟩
        have key : ∀ {v r K}, RepL E.pure [v] vs -> afn (C.at f) (acall C n) n (C.frz f) fn [v] [] = some (r, K) -> isEmptyRet r = true -> Calls C.P (C.real f) vs w (CallPost E w (.ok (.list [] none)) H) := by
          intro v r K hv hrun he
          refine (afn_ok (hC.atF f) (ih.atF _) ((acall_pure hC.hp n).atF _) hfn hrun hv ⟨hgp.glob, hgp.ints, hgp.d, hgp.tab⟩ hH.pure).mono ?_
          rintro e w' ⟨E1, g1, g2, g3⟩
          obtain ⟨k1, k2⟩ := hH.unpure g1 g2
          refine ⟨_, k1, k2, ?_⟩
          unfold isEmptyRet at he
          split at he <;> try (cases he; done)
          cases e <;> first | exact g3.treeAt _ _ rfl | exact g3.elim
        unfold isEmptyArg at hea
        split at hea <;> try (cases hea; done)
        rename_i tok
        have hs := hr.size
        match vs, hs with
        | ⟨[c]⟩, _ =>
          have h0 := hr.get 0 (by simp)
          simp at h0
          obtain ⟨base, cap, rfl, hL⟩ := h0.inv_list
          cases base with
          | none => exact key (repL_cons.2 ⟨.nilS cap, repL_nil⟩) q1 q3.1
          | some a => exact key (repL_cons.2 ⟨.someS a cap, repL_nil⟩) q2 q3.2
      split at h
      . split at h <;> try (cases h; done)
        rename_i args' H1 hfz
        split at h <;> try (cases h; done)
        rename_i hck
        simp only [Bool.and_eq_true] at hck
        split at h <;> try (cases h; done)
        rename_i r1 K1 hrun
        split at h <;> try (cases h; done)
        rename_i hrt; injection h with h; injection h with h1 h2; subst h1 h2
        obtain ⟨E0, f1, f2, f3⟩ := frzL_ok (vs := vs.toList) hfz hH (by simpa using hr)
        rw [Array.toArray_toList] at f3
        have hg0 := hg.mono f1.le
        have hgp : GlobOk C E0.pure := ⟨fun g cs hc => hg0.glob g cs hc, hg0.ints, hg0.d, hg0.tab⟩
        refine (afn_ok (hC.atF f) (ih.atF _) ((acall_pure hC.hp n).atF _) hfn hrun (f3.treeAt _ _ hck.1) ⟨hgp.glob, hgp.ints, hgp.d, hgp.tab⟩ f2.pure).mono ?_
        rintro e w' ⟨E1, g1, g2, g3⟩
        obtain ⟨k1, k2⟩ := f2.unpure g1 g2
        refine ⟨_, f1.trans k1, k2, ?_⟩
        cases r1 with
        | ok v => cases e <;> first | exact g3.treeAt _ _ hrt | exact g3.elim
        | panic v => cases e <;> first | exact g3.elim | (obtain ⟨c, rfl, hrc⟩ := g3; exact ⟨c, rfl, hrc.treeAt _ _ hrt⟩)
      split at h
      . rename_i htree
        simp only [Bool.and_eq_true] at htree
        split at h <;> try (cases h; done)
        rename_i r1 H1 hrun
        split at h <;> try (cases h; done)
        rename_i hrt; injection h with h; injection h with h1 h2; subst h1 h2
        have hgp : GlobOk C E.pure := ⟨fun g cs hc => hg.glob g cs hc, hg.ints, hg.d, hg.tab⟩
        refine (afn_ok (hC.atF f) (ih.atF _) ((acall_pure hC.hp n).atF _) hfn hrun (hr.treeAt _ _ htree.1) ⟨hgp.glob, hgp.ints, hgp.d, hgp.tab⟩ hH.pure).mono ?_
        rintro e w' ⟨E1, g1, g2, g3⟩
        obtain ⟨k1, k2⟩ := hH.unpure g1 g2
        refine ⟨_, k1, k2, ?_⟩
        cases r1 with
        | ok v => cases e <;> first | exact g3.treeAt _ _ hrt | exact g3.elim
        | panic v => cases e <;> first | exact g3.elim | (obtain ⟨c, rfl, hrc⟩ := g3; exact ⟨c, rfl, hrc.treeAt _ _ hrt⟩)
      . split at h <;> try (cases h; done)
        rename_i hcl
        simp only [Bool.and_eq_true] at hcl
        obtain ⟨hcl, hids⟩ := hcl
        split at h <;> try (cases h; done)
        rename_i r1 H1 hrun
        split at h <;> try (cases h; done)
        injection h with h; injection h with h1 h2; subst h1 h2
        have hgo : GlobOk C (E.only (reachL H args)) := ⟨fun g cs hc => hg.glob g cs hc, hg.ints, hg.d, hg.tab⟩
        refine (afn_ok (hC.atF f) (ih.atF _) ((acall_pure hC.hp n).atF _) hfn hrun (hr.only (by simpa using hids)) ⟨hgo.glob, hgo.ints, hgo.d, hgo.tab⟩ (hH.only hcl)).mono ?_
        rintro e w' ⟨E1, g1, g2, g3⟩
        obtain ⟨E', k1, k2, k3⟩ := hH.unonly hcl g1 g2
        refine ⟨E', k2, k3, ?_⟩
        cases r1 with
        | ok v => cases e <;> first | exact Rep.mono k1 g3 | exact g3.elim
        | panic v => cases e <;> first | exact g3.elim | (obtain ⟨c, rfl, hrc⟩ := g3; exact ⟨c, rfl, Rep.mono k1 hrc⟩)
end
end Go.Tv
namespace Go.Tv
open Go.RowKit (Below)
def Env.all (w : World) : Env := ⟨fun b o => w.cell? ⟨b, o, none⟩, fun _ => none, 0, False, fun b => w.heap[b]?⟩
theorem Holds.all (w : World) : Holds (Env.all w) [] w :=
  ⟨fun b o v h => h, fun i p hp => by simp [Env.all] at hp, fun i o hi => by simp at hi, fun i j p q hp => by simp [Env.all] at hp, rfl, fun b o hb => ⟨hb, fun i p hp => by simp [Env.all] at hp⟩⟩
def Conf (P : Program) : Nat -> TypeId -> AV -> Prop
  | 0, _, _ => False
  | n + 1, t, v => match P.underlying t with
    | some .bool => ∃ b, v = .bool b
    | some (.int k) => ∃ z, v = .int k z /\ (Lit.int k z).wf = true
    | some .string => ∃ s, v = .str s /\ s.length ≤ maxLen
    | some (.slice e) => ∃ els, v = .list els none /\ els.length ≤ maxLen /\ ∀ x ∈ els, Conf P n e x /\ x.cells.length = P.cellsOf e
    | some (.struct fs) => ∃ cs, v = .agg cs /\ cs.length = P.cellsOf t /\ ∀ f ∈ fs.toList, ∃ x, Conf P n f.type x /\ x.cells = (cs.drop f.offset).take (P.cellsOf f.type)
    | _ => False
def laidB (P : Program) : Nat -> List Field -> Nat -> Bool
  | o, [], n => decide (o = n)
  | o, f :: r, n => decide (f.offset = o) && laidB P (o + P.cellsOf f.type) r n
def TreeT (P : Program) (S : List TypeId) (t : TypeId) : Prop :=
  match P.underlying t with
  | some .bool | some (.int _) | some .string => True
  | some (.slice e) => e ∈ S
  | some (.struct fs) => (∀ f ∈ fs.toList, f.type ∈ S) /\ laidB P 0 fs.toList (P.cellsOf t) = true
  | _ => False
theorem mapM_some {α β : Type} {f : α -> Option β} : ∀ {l : List α} {ys : List β}, l.mapM f = some ys -> ys.length = l.length /\ ∀ i (h : i < l.length), f l[i] = ys[i]?
  | [], ys, h => by simp at h; subst h; exact ⟨rfl, fun i hi => by simp at hi⟩
  | x :: l, ys, h => by
    rw [List.mapM_cons] at h
    cases hx : f x with
    | none => simp [hx] at h
    | some y =>
      cases hl : l.mapM f with
      | none => simp [hx, hl] at h
      | some zs =>
        simp [hx, hl] at h; subst h
        obtain ⟨h1, h2⟩ := mapM_some hl
        refine ⟨by simp [h1], fun i hi => ?_⟩
        cases i with
        | zero => simpa using hx
        | succ i => simpa using h2 i (by simpa using hi)
theorem cells_some {w : World} {base : Nat} {a : Addr} {n : Nat} {cs : List Value} (h : w.cells? base a n = some cs) : cs.length = n /\ ∀ i, i < n -> w.cell? (a.add i) = cs[i]? := by
  unfold World.cells? at h
  split at h <;> try (cases h; done)
  obtain ⟨h1, h2⟩ := mapM_some h
  simp at h1 h2
  exact ⟨h1, h2⟩
theorem flat_getD {n : Nat} : ∀ {els : List AV} (_hn : ∀ e ∈ els, e.cells.length = n) {k : Nat} (_hk : k < els.length * n), (flat els).getD k .empty = ((els.getD (k / n) .empty).cells).getD (k % n) .empty
  | [], hn, k, hk => by simp at hk
  | e :: r, hn, k, hk => by
    have he := hn e (by simp)
    have hpos : 0 < n := by
      rcases Nat.eq_zero_or_pos n with h | h
      . subst h; simp at hk
      . exact h
    rw [flat_cons]
    by_cases hlt : k < n
    . rw [Nat.div_eq_of_lt hlt, Nat.mod_eq_of_lt hlt]
      simp only [List.getD_eq_getElem?_getD]
      rw [List.getElem?_append_left (by omega)]
      simp
    . have hk2 : k - n < r.length * n := by simp only [List.length_cons, Nat.succ_mul] at hk; omega
      have := flat_getD (els := r) (fun e h => hn e (by simp [h])) hk2
      have e1 : k / n = (k - n) / n + 1 := by
        rw [Nat.div_eq k n, if_pos ⟨hpos, by omega⟩]
      have e2 : k % n = (k - n) % n := Nat.mod_eq_sub_mod (by omega)
      rw [e1, e2]
      simp only [List.getD_eq_getElem?_getD] at this ⊢
      rw [List.getElem?_append_right (by omega), he, this]
      simp
theorem tree_flat {l : List AV} (h : ∀ x ∈ l, x.tree = true) : treeL l = true := by
  induction l with
  | nil => rfl
  | cons a r ih => simp only [treeL, Bool.and_eq_true]; exact ⟨h a (by simp), ih fun x hx => h x (by simp [hx])⟩
theorem treeL_cells {v : AV} (h : v.tree = true) : treeL v.cells = true := by
  cases v <;> first | (simp [AV.tree] at h; done) | (simpa [AV.cells, AV.tree] using h; done) | (simp only [AV.cells, treeL, Bool.and_eq_true]; exact ⟨h, trivial⟩)
theorem treeL_mem {l : List AV} (h : treeL l = true) : ∀ x ∈ l, x.tree = true := by
  induction l with
  | nil => intro x hx; simp at hx
  | cons a r ih =>
    simp only [treeL, Bool.and_eq_true] at h
    intro x hx
    rcases List.mem_cons.1 hx with rfl | hx
    . exact h.1
    . exact ih h.2 x hx
section
variable {H : Type} {enc : TypeId × Value -> H} {P : Program} {w : World} {base : Nat} {spare : Nat -> Bool} {held : Bool}
def Fits (P : Program) (w : World) (n : Nat) (t : TypeId) (v : AV) (cs : List Value) : Prop := v.tree = true /\ RepL (Env.all w) v.cells cs.toArray /\ Conf P n t v
theorem rep_list {P : Program} {w : World} {e : TypeId} {a : Addr} {cap : Nat} {els : List AV} (hlen : els.length ≤ cap)
    (hel : ∀ i (hi : i < els.length), ∃ cs : List Value, cs.length = P.cellsOf e /\ (∀ k, k < P.cellsOf e -> w.cell? ((a.add (i * P.cellsOf e)).add k) = cs[k]?) /\ RepL (Env.all w) (els[i]).cells cs.toArray) :
    Rep (Env.all w) (.list els none) (.slice (some a) els.length cap) := by
  have hc : ∀ x ∈ els, x.cells.length = P.cellsOf e := by
    intro x hx
    obtain ⟨i, hi, rfl⟩ := List.getElem_of_mem hx
    obtain ⟨cs, h1, _, h3⟩ := hel i hi
    rw [h3.size]; simpa using h1
  have hfl := flat_len hc
  refine ListRep.rep ⟨⟨_, hc⟩, fun k hk => ?_, fun _ => rfl, hlen, trivial⟩ rfl
  rw [hfl] at hk
  have hpos : 0 < P.cellsOf e := by
    rcases Nat.eq_zero_or_pos (P.cellsOf e) with h | h
    . rw [h] at hk; simp at hk
    . exact h
  have hi : k / P.cellsOf e < els.length := (Nat.div_lt_iff_lt_mul hpos).2 hk
  have hm : k % P.cellsOf e < P.cellsOf e := Nat.mod_lt _ hpos
  obtain ⟨cs, h1, h2, h3⟩ := hel _ hi
  have hcell := h2 _ hm
  rw [List.getElem?_eq_getElem (by omega)] at hcell
  have hsp : a.spot = none := by
    obtain ⟨cs0, q1, q2, _⟩ := hel 0 (Nat.lt_of_le_of_lt (Nat.zero_le _) hi)
    have hc0 := q2 0 hpos
    rw [List.getElem?_eq_getElem (by omega)] at hc0
    have e0 : (a.add (0 * P.cellsOf e)).add 0 = a := by simp [Addr.add]
    rw [e0] at hc0
    unfold World.cell? at hc0
    split at hc0
    . split at hc0
      . cases hc0
      . rename_i hs; cases hsp : a.spot with
        | none => rfl
        | some x => rw [hsp] at hs; simp at hs
    . cases hc0
  refine ⟨a, cs[k % P.cellsOf e], rfl, hsp, ?_, ?_⟩
  . show w.cell? ⟨a.block, a.off + k, none⟩ = _
    rw [<- hcell, Addr.add_eq hsp, Addr.add_eq rfl]
    congr 2
    simp only
    have := Nat.div_add_mod k (P.cellsOf e)
    rw [Nat.mul_comm] at this; omega
  . rw [flat_getD hc hk]
    have := h3.get (k % P.cellsOf e) (by rw [h3.size]; simp; omega)
    rw [List.getD_eq_getElem?_getD (l := els), List.getElem?_eq_getElem hi]
    simpa [Array.getD_eq_getD_getElem?, show k % P.cellsOf e < cs.length by omega] using this
theorem RepL.drop_cells {E : Env} {a b : List AV} {x y : List Value} (h : RepL E a x.toArray) (k : RepL E b y.toArray) : RepL E (a ++ b) (x ++ y).toArray := RepL.append h k
theorem laid_le : ∀ {fl : List Field} {o N : Nat}, laidB P o fl N = true -> o ≤ N /\ ∀ f ∈ fl, o ≤ f.offset /\ f.offset + P.cellsOf f.type ≤ N
  | [], o, N, h => by simp [laidB] at h; exact ⟨by omega, by simp⟩
  | f :: r, o, N, h => by
    simp only [laidB, Bool.and_eq_true, decide_eq_true_eq] at h
    obtain ⟨h1, h2⟩ := laid_le h.2
    refine ⟨by omega, fun g hg => ?_⟩
    rcases List.mem_cons.1 hg with rfl | hg
    . have := h.1; omega
    . have := h2 g hg; omega
theorem fields_rep {n : Nat} {cs : List Value} : ∀ (fl : List Field) (o : Nat), laidB P o fl cs.length = true -> (∀ f ∈ fl, ∃ v, Fits P w n f.type v ((cs.drop f.offset).take (P.cellsOf f.type))) ->
    ∃ l : List AV, treeL l = true /\ RepL (Env.all w) l (cs.drop o).toArray /\ ∀ f ∈ fl, ∃ x, Conf P n f.type x /\ x.cells = (l.drop (f.offset - o)).take (P.cellsOf f.type)
  | [], o, h, _ => by
    simp [laidB] at h
    subst h
    exact ⟨[], rfl, ⟨by simp, fun i hi => by simp at hi⟩, by simp⟩
  | f :: r, o, h, hf => by
    have hle := (laid_le h).2 f (by simp)
    simp only [laidB, Bool.and_eq_true, decide_eq_true_eq] at h
    obtain ⟨h1, h2⟩ := h
    have hle2 := (laid_le h2).2
    obtain ⟨v, v1, v2, v3⟩ := hf f (by simp)
    obtain ⟨l, l1, l2, l3⟩ := fields_rep r _ h2 fun g hg => hf g (by simp [hg])
    have hvl : v.cells.length = P.cellsOf f.type := by rw [v2.size]; simp; omega
    refine ⟨v.cells ++ l, ?_, ?_, fun g hg => ?_⟩
    . refine tree_flat fun x hx => ?_
      rcases List.mem_append.1 hx with hx | hx
      . exact treeL_mem (treeL_cells v1) x hx
      . exact treeL_mem l1 x hx
    . have e : cs.drop o = (cs.drop f.offset).take (P.cellsOf f.type) ++ cs.drop (o + P.cellsOf f.type) := by
        rw [h1, <- List.drop_drop, List.take_append_drop]
      rw [e]; exact RepL.drop_cells v2 l2
    . rcases List.mem_cons.1 hg with rfl | hg
      . exact ⟨v, v3, by rw [h1, Nat.sub_self, List.drop_zero, <- hvl, List.take_left']; rfl⟩
      . obtain ⟨x, x1, x2⟩ := l3 g hg
        have := hle2 g hg
        refine ⟨x, x1, ?_⟩
        have e1 : (v.cells ++ l).drop (g.offset - o) = l.drop (g.offset - (o + P.cellsOf f.type)) := by
          rw [List.drop_append, List.drop_eq_nil_of_le (by omega : v.cells.length ≤ g.offset - o), List.nil_append]
          congr 1; omega
        rw [x2, e1]
theorem trod_rep {S : List TypeId} (hS : ∀ t ∈ S, TreeT P S t) : ∀ (n : Nat) (t : TypeId) (cs : List Value) (d : DataW H) (ps : List MemPlace), t ∈ S -> DataW.trod enc P w base spare held n t cs = some (d, ps) ->
    ∃ v, Fits P w n t v cs
  | 0, t, cs, d, ps, ht, h => by simp [DataW.trod] at h
  | n + 1, t, cs, d, ps, ht, h => by
    have hT := hS t ht
    unfold TreeT at hT
    have one : ∀ {v : AV} {c : Value}, v.cells = [v] -> Rep (Env.all w) v c -> RepL (Env.all w) v.cells [c].toArray := by
      intro v c hv hr; rw [hv]; exact ⟨rfl, fun i hi => by simp at hi; subst hi; simpa using hr⟩
    split at hT
    . rename_i hu
      rcases cs with _ | ⟨c, _ | ⟨c2, r⟩⟩ <;> try (simp [DataW.trod, hu] at h; done)
      cases c <;> try (simp [DataW.trod, hu] at h; done)
      rename_i b
      exact ⟨.bool b, rfl, one rfl (.bool b), by simp only [Conf, hu]; exact ⟨b, rfl⟩⟩
    . rename_i k hu
      rcases cs with _ | ⟨c, _ | ⟨c2, r⟩⟩ <;> try (simp [DataW.trod, hu] at h; done)
      cases c <;> try (simp [DataW.trod, hu] at h; done)
      rename_i k' z
      simp only [DataW.trod, hu] at h
      split at h <;> try (cases h; done)
      rename_i hk
      obtain ⟨rfl, hwf⟩ := hk
      exact ⟨.int k' z, rfl, one rfl (.int k' z), by simp only [Conf, hu]; exact ⟨z, rfl, hwf⟩⟩
    . rename_i hu
      rcases cs with _ | ⟨c, _ | ⟨c2, r⟩⟩ <;> try (simp [DataW.trod, hu] at h; done)
      cases c <;> try (simp [DataW.trod, hu] at h; done)
      rename_i s
      simp only [DataW.trod, hu] at h
      split at h <;> try (cases h; done)
      rename_i hs
      exact ⟨.str s.data.toList, rfl, one rfl (.str s), by simp only [Conf, hu]; exact ⟨_, rfl, by rw [Array.length_toList]; exact hs⟩⟩
    . rename_i e hu
      rcases cs with _ | ⟨c, _ | ⟨c2, r⟩⟩ <;> try (simp [DataW.trod, hu] at h; done)
      cases c <;> try (simp [DataW.trod, hu] at h; done)
      rename_i a len cap
      cases a with
      | none =>
        have h0 : len = 0 /\ cap = 0 := by
          cases len <;> cases cap <;> first | exact ⟨rfl, rfl⟩ | (simp [DataW.trod, hu] at h)
        obtain ⟨rfl, rfl⟩ := h0
        exact ⟨.list [] none, rfl, one rfl (.list [] none none 0 (fun _ => undef) ⟨0, by simp⟩ (by simp [flat]) (by simp [flat]) (by simp) (by simp) trivial), by simp only [Conf, hu]; exact ⟨[], rfl, by simp, by simp⟩⟩
      | some a =>
        simp only [DataW.trod, hu] at h
        split at h <;> try (cases h; done)
        rename_i hc
        obtain ⟨_, hlc, hcm⟩ := hc
        simp only [Option.bind_eq_some_iff, Option.map_eq_some_iff] at h
        obtain ⟨xs, hxs, _⟩ := h
        obtain ⟨hxl, hxg⟩ := mapM_some hxs
        simp at hxl
        have hel : ∀ i, i < len -> ∃ v cs, w.cells? base (a.add (i * P.cellsOf e)) (P.cellsOf e) = some cs /\ Fits P w n e v cs := by
          intro i hi
          have h1 := hxg i (by simpa using hi)
          rw [List.getElem?_eq_getElem (by omega)] at h1
          simp only [List.getElem_range, Option.bind_eq_some_iff] at h1
          obtain ⟨cs, h2, h3⟩ := h1
          obtain ⟨v, hv⟩ := trod_rep hS n e cs _ _ hT h3
          exact ⟨v, cs, h2, hv⟩
        have hch : ∃ els : List AV, els.length = len /\ ∀ i (hi : i < els.length), ∃ cs, w.cells? base (a.add (i * P.cellsOf e)) (P.cellsOf e) = some cs /\ Fits P w n e els[i] cs := by
          let f : Nat -> AV := fun i => if hi : i < len then Classical.choose (hel i hi) else .empty
          refine ⟨(List.range len).map f, by simp, fun i hi => ?_⟩
          have hi' : i < len := by simpa using hi
          obtain ⟨cs, h1, h2⟩ := Classical.choose_spec (hel i hi')
          refine ⟨cs, h1, ?_⟩
          have : ((List.range len).map f)[i] = Classical.choose (hel i hi') := by simp [f, hi']
          rw [this]; exact h2
        obtain ⟨els, hl, hels⟩ := hch
        subst hl
        refine ⟨.list els none, ?_, one rfl (rep_list (P := P) (e := e) hlc fun i hi => ?_), ?_⟩
        . simp only [AV.tree, Option.isNone_none, Bool.true_and]
          refine tree_flat fun x hx => ?_
          obtain ⟨i, hi, rfl⟩ := List.getElem_of_mem hx
          obtain ⟨cs, _, h2⟩ := hels i hi
          exact h2.1
        . obtain ⟨cs, h1, h2⟩ := hels i hi
          obtain ⟨k1, k2⟩ := cells_some h1
          exact ⟨cs, k1, k2, h2.2.1⟩
        . simp only [Conf, hu]
          refine ⟨els, rfl, Nat.le_trans hlc hcm, fun x hx => ?_⟩
          obtain ⟨i, hi, rfl⟩ := List.getElem_of_mem hx
          obtain ⟨cs, h1, h2⟩ := hels i hi
          obtain ⟨k1, k2⟩ := cells_some h1
          exact ⟨h2.2.2, by rw [h2.2.1.size]; simpa using k1⟩
    . rename_i fs hu
      simp only [DataW.trod, hu] at h
      split at h <;> try (cases h; done)
      rename_i hlen
      simp only [Option.map_eq_some_iff] at h
      obtain ⟨xs, hxs, _⟩ := h
      obtain ⟨hxl, hxg⟩ := mapM_some hxs
      have hlaid := hT.2
      rw [<- hlen] at hlaid
      obtain ⟨l, l1, l2, l3⟩ := fields_rep (w := w) (n := n) fs.toList 0 hlaid fun f hf => by
        obtain ⟨i, hi, rfl⟩ := List.getElem_of_mem hf
        have h1 := hxg i hi
        rw [List.getElem?_eq_getElem (by omega)] at h1
        exact trod_rep hS n _ _ _ _ (hT.1 _ hf) h1
      rw [List.drop_zero] at l2
      refine ⟨.agg l, by simpa [AV.tree] using l1, l2, ?_⟩
      simp only [Conf, hu]
      refine ⟨l, rfl, by rw [l2.size]; simpa using hlen, fun f hf => ?_⟩
      obtain ⟨x, x1, x2⟩ := l3 f hf
      exact ⟨x, x1, by simpa using x2⟩
    . exact hT.elim
end
end Go.Tv
namespace Go.Tv
section
variable {C : Cfg} {call call' : Caller}
def Mono (call call' : Caller) : Prop := ∀ f args H r, call f args H = some r -> call' f args H = some r
theorem adoOp_mono (hc : Mono call call') {o : Oper} {t : List AV} {H : Heap} {r : ARet × Heap} (h : adoOp C call o t H = some r) : adoOp C call' o t H = some r := by
  obtain ⟨dst, op, type, pos, after, guard⟩ := o
  cases op
  case call c =>
    simp only [adoOp] at h ⊢
    cases ha : evs C t c.args.toList with
    | none => simp [ha] at h
    | some args =>
      simp only [ha] at h ⊢
      cases hcal : c.callee with
      | invoke r n => simp [hcal] at h
      | builtin b => simp only [hcal] at h ⊢; exact h
      | value f =>
        simp only [hcal] at h ⊢
        split at h <;> try (cases h; done)
        rename_i g first cap hg
        cases hx : C.ext g with
        | some e => simp only [hx] at h ⊢; exact h
        | none => simp only [hx] at h ⊢; exact hc _ _ _ _ h
  all_goals exact h
theorem aops_mono (hc : Mono call call') {ops : Array Oper} : ∀ (l : List Nat) {t : List AV} {H : Heap} {r}, aops C call ops l t H = some r -> aops C call' ops l t H = some r
  | [], t, H, r, h => h
  | i :: rest, t, H, r, h => by
    simp only [aops] at h ⊢
    cases ho : ops[i]? with
    | none => simp [ho] at h
    | some o =>
      simp only [ho] at h ⊢
      split at h
      . rename_i hw
        rw [if_pos hw]
        split at h
        . rename_i v H' hv; simp only [adoOp_mono hc hv]; exact aops_mono hc rest h
        . rename_i v H' hv; simp only [adoOp_mono hc hv]; exact h
        . cases h
      . rename_i hw
        rw [if_neg hw]
        exact aops_mono hc rest h
theorem atrace_mono (hc : Mono call call') {ops : Array Oper} : ∀ (l : List Nat) {t : List AV} {H : Heap} {r}, atrace C call ops l t H = some r -> atrace C call' ops l t H = some r
  | [], t, H, r, h => h
  | i :: rest, t, H, r, h => by
    simp only [atrace] at h ⊢
    cases ho : ops[i]? with
    | none => simp [ho] at h
    | some o =>
      simp only [ho] at h ⊢
      split at h
      . rename_i hw
        rw [if_pos hw]
        split at h <;> try (cases h; done)
        rename_i v H' hv
        simp only [adoOp_mono hc hv]
        split at h <;> try (cases h; done)
        rename_i tr t' H2 ht
        simp only [atrace_mono hc rest ht]; exact h
      . rename_i hw
        rw [if_neg hw]
        split at h <;> try (cases h; done)
        rename_i tr t' H2 ht
        simp only [atrace_mono hc rest ht]; exact h
theorem atraceP_mono (hc : Mono call call') {ops : Array Oper} : ∀ (l : List Nat) {t : List AV} {H : Heap} {r}, atraceP C call ops l t H = some r -> atraceP C call' ops l t H = some r
  | [], t, H, r, h => by simp [atraceP] at h
  | i :: rest, t, H, r, h => by
    simp only [atraceP] at h ⊢
    cases ho : ops[i]? with
    | none => simp [ho] at h
    | some o =>
      simp only [ho] at h ⊢
      split at h
      . rename_i hw
        rw [if_pos hw]
        split at h
        . rename_i v H' hv
          simp only [adoOp_mono hc hv]
          split at h <;> try (cases h; done)
          rename_i tr r1 ht
          simp only [atraceP_mono hc rest ht]; exact h
        . rename_i v H' hv
          simp only [adoOp_mono hc hv]; exact h
        . cases h
      . rename_i hw
        rw [if_neg hw]
        split at h <;> try (cases h; done)
        rename_i tr r1 ht
        simp only [atraceP_mono hc rest ht]; exact h
theorem atrace_none {ops : Array Oper} : ∀ (l : List Nat) {t : List AV} {H : Heap} {r}, atraceP C call ops l t H = some r -> atrace C call ops l t H = none
  | [], t, H, r, h => by simp [atraceP] at h
  | i :: rest, t, H, r, h => by
    simp only [atraceP] at h
    simp only [atrace]
    cases ho : ops[i]? with
    | none => rfl
    | some o =>
      simp only [ho] at h ⊢
      split at h
      . rename_i hw
        rw [if_pos hw]
        split at h
        . rename_i v H' hv
          simp only [hv]
          split at h <;> try (cases h; done)
          rename_i tr r1 ht
          simp only [atrace_none rest ht]
        . rename_i v H' hv
          simp only [hv]
        . cases h
      . rename_i hw
        rw [if_neg hw]
        split at h <;> try (cases h; done)
        rename_i tr r1 ht
        simp only [atrace_none rest ht]
theorem iter_mono {f g : List AV -> Heap -> Out} (hf : ∀ t H r, f t H = some r -> g t H = some r) : ∀ (n m : Nat), n ≤ m -> ∀ {t : List AV} {H : Heap} {r}, iter f n t H = some r -> iter g m t H = some r
  | 0, _, _, t, H, r, h => by simp [iter] at h
  | n + 1, 0, hm, t, H, r, h => by omega
  | n + 1, m + 1, hm, t, H, r, h => by
    simp only [iter] at h ⊢
    split at h
    . rename_i t' H' h1
      simp only [hf _ _ _ h1]
      exact iter_mono hf n m (by omega) h
    . rename_i hne
      have := hf _ _ _ h
      rw [this]
      split
      . rename_i t' H' e; injection e with e; subst e; exact absurd h (hne t' H')
      . rfl
theorem arun_mono (hc : Mono call call') {k k' : Nat} (hk : k ≤ k') : ∀ (c : Code) {t : List AV} {H : Heap} {r}, arun C call k c t H = some r -> arun C call' k' c t H = some r := by
  intro c
  induction c with
  | region id ops draw =>
    intro t H r h
    simp only [arun] at h ⊢
    split at h
    . rename_i hd
      rw [if_pos hd]
      split at h
      . rename_i tr t' H' ht
        simp only [atrace_mono hc _ ht]; exact h
      . split at h <;> try (cases h; done)
        rename_i tr t' H1 v H' ht
        have ht' := atraceP_mono hc _ ht
        simp only [atrace_none _ ht', ht']; exact h
    . rename_i hd
      rw [if_neg hd]; exact aops_mono hc _ h
  | seq a b ih1 ih2 =>
    intro t H r h
    simp only [arun] at h ⊢
    split at h
    . rename_i t' H' h1; simp only [ih1 h1]; exact ih2 h
    . rename_i hne
      rw [ih1 h]
      split
      . rename_i t' H' e; injection e with e; subst e; exact absurd h (hne t' H')
      . rfl
  | cond c x y ih1 ih2 =>
    intro t H r h
    simp only [arun] at h ⊢
    split at h <;> try (cases h; done)
    rename_i b hb
    cases b
    . exact ih2 (by simpa using h)
    . exact ih1 (by simpa using h)
  | block id c ih =>
    intro t H r h
    simp only [arun] at h ⊢
    split at h
    . rename_i j t' H' h1; simp only [ih h1]; exact h
    . rename_i hne
      rw [ih h]
      split
      . rename_i j t' H' e; injection e with e; subst e; exact absurd h (hne j t' H')
      . rfl
  | loop c ih =>
    intro t H r h
    simp only [arun] at h ⊢
    exact iter_mono (fun _ _ _ h => ih h) k k' hk h
  | _ => intro t H r h; first | exact h | (simp [arun] at h)
end
end Go.Tv
namespace Go.Tv
section
variable {C : Cfg} {call call' : Caller}
theorem aopsD_mono (hc : Mono call call') {ops : Array Oper} : ∀ (l : List Nat) {t : List AV} {H : Heap} {r}, aopsD C call ops l t H = some r -> aopsD C call' ops l t H = some r
  | [], t, H, r, h => h
  | i :: rest, t, H, r, h => by
    simp only [aopsD] at h ⊢
    cases ho : ops[i]? with
    | none => simp [ho] at h
    | some o =>
      simp only [ho] at h ⊢
      split at h
      . rename_i hw
        rw [if_pos hw]
        split at h
        . rename_i hd; rw [if_pos hd]; exact h
        . rename_i hd; rw [if_neg hd]
          split at h
          . rename_i v H' hv; simp only [adoOp_mono hc hv]; exact aopsD_mono hc rest h
          . rename_i v H' hv; simp only [adoOp_mono hc hv]; exact h
          . cases h
      . rename_i hw
        rw [if_neg hw]
        exact aopsD_mono hc rest h
theorem arunD_mono (hc : Mono call call') {k k' : Nat} (hk : k ≤ k') : ∀ (c : Code) {t : List AV} {H : Heap} {r}, arunD C call k c t H = some r -> arunD C call' k' c t H = some r := by
  intro c
  induction c with
  | seq a b ih1 ih2 =>
    intro t H r h
    simp only [arunD] at h ⊢
    split at h
    . rename_i t' H' h1; simp only [ih1 h1]; exact ih2 h
    . rename_i g d t' H' h1
      simp only [ih1 h1]
      split at h <;> try (cases h; done)
      rename_i x t2 H2 h2
      simp only [arun_mono hc hk b h2]; exact h
    . rename_i hn1 hn2
      rw [ih1 h]
      split
      . rename_i t' H' e; injection e with e; subst e; exact absurd h (hn1 t' H')
      . rename_i g d t' H' e; injection e with e; subst e; exact absurd h (hn2 g d t' H')
      . rfl
  | region id ops draw =>
    intro t H r h
    simp only [arunD] at h ⊢
    split at h
    . rename_i hd; rw [if_pos hd]; exact aopsD_mono hc _ h
    . rename_i hd; rw [if_neg hd]
      split at h <;> try (cases h; done)
      rename_i x t' H' h1
      simp only [arun_mono hc hk _ h1]; exact h
  | _ =>
    intro t H r h
    simp only [arunD] at h ⊢
    split at h <;> try (cases h; done)
    rename_i x t' H' h1
    simp only [arun_mono hc hk _ h1]; exact h
theorem arunR_mono (hc : Mono call call') {k k' : Nat} (hk : k ≤ k') {v : AV} : ∀ (c : Code) {t : List AV} {H : Heap} {r}, arunR C call k v c t H = some r -> arunR C call' k' v c t H = some r := by
  intro c
  induction c with
  | seq a b ih1 ih2 =>
    intro t H r h
    simp only [arunR] at h ⊢
    split at h
    . rename_i t' H' h1; simp only [ih1 h1]; exact arun_mono hc hk b h
    . rename_i hne
      rw [ih1 h]
      split
      . rename_i t' H' e; injection e with e; subst e; exact absurd h (hne t' H')
      . rfl
  | region id ops draw =>
    intro t H r h
    simp only [arunR] at h ⊢
    split at h <;> try (cases h; done)
    rename_i i rest o hl ho
    split at h <;> try (cases h; done)
    rename_i hr
    simp only [hr, if_true]
    exact aops_mono hc rest h
  | _ => intro t H r h; simp [arunR] at h
theorem alater_mono (hc : Mono call call') {k k' : Nat} (hk : k ≤ k') {g : FuncId} {d : List AV} {p : Option AV} {H : Heap} {r} (h : alater C call k g d p H = some r) : alater C call' k' g d p H = some r := by
  unfold alater at h ⊢
  split at h <;> try (cases h; done)
  rename_i fn hfn
  split at h <;> try (cases h; done)
  rename_i c hb
  split at h <;> try (cases h; done)
  rename_i hr
  try rw [if_pos hr]
  split at h
  . rename_i hrec
    rw [if_pos hrec]
    split at h <;> try (cases h; done)
    . rename_i t' H' h1; simp only [arunR_mono hc hk c h1]; exact h
    . rename_i t' H' h1; simp only [arunR_mono hc hk c h1]; exact h
  . rename_i hrec
    rw [if_neg hrec]
    split at h <;> try (cases h; done)
    . rename_i t' H' h1; simp only [arun_mono hc hk c h1]; exact h
    . rename_i t' H' h1; simp only [arun_mono hc hk c h1]; exact h
theorem afn_mono (hc : Mono call call') {k k' : Nat} (hk : k ≤ k') {fz : Bool} {fn : Func} {args : List AV} {H : Heap} {r} (h : afn C call k fz fn args H = some r) : afn C call' k' fz fn args H = some r := by
  unfold afn at h ⊢
  cases hb : fn.body with
  | none => simp [hb] at h
  | some c =>
    simp only [hb] at h ⊢
    split at h <;> try (cases h; done)
    . rename_i t H' h1; simp only [arunD_mono hc hk c h1]; exact h
    . rename_i t H' h1; simp only [arunD_mono hc hk c h1]; exact h
    . rename_i t H' h1; simp only [arunD_mono hc hk c h1]; exact h
    . rename_i t H' h1; simp only [arunD_mono hc hk c h1]; exact h
    . rename_i g d t H' h1; simp only [arunD_mono hc hk c h1]
      split at h <;> try (cases h; done)
      rename_i q H2 h2; simp only [alater_mono hc hk h2]; exact h
    . rename_i g d t H' h1; simp only [arunD_mono hc hk c h1]
      split at h <;> try (cases h; done)
      rename_i q H2 h2; simp only [alater_mono hc hk h2]; exact h
    . rename_i g d v t H' h1; simp only [arunD_mono hc hk c h1]
      split at h <;> try (cases h; done)
      . rename_i H2 h2; simp only [alater_mono hc hk h2]; exact h
      . rename_i v2 H2 h2; simp only [alater_mono hc hk h2]; exact h
    . rename_i g d v t H' h1; simp only [arunD_mono hc hk c h1]
      split at h <;> try (cases h; done)
      rename_i v2 H2 h2; simp only [alater_mono hc hk h2]; exact h
theorem acall_mono1 (C : Cfg) : ∀ (n : Nat), Mono (acall C n) (acall C (n + 1))
  | 0 => fun f args H r h => by simp [acall] at h
  | n + 1 => fun f args H r h => by
    have ih := acall_mono1 C n
    rw [acall] at h ⊢
    split at h
    . exact h
    . split at h
      . exact h
      split at h <;> try (cases h; done)
      rename_i fn hfn
      split at h
      . rename_i hcl; rw [if_pos hcl]
        split at h <;> try (cases h; done)
        rename_i r1 K1 r2 K2 q1 q2
        rw [afn_mono ih (Nat.le_succ n) q1, afn_mono ih (Nat.le_succ n) q2]; exact h
      . rename_i hcl; rw [if_neg hcl]
        split at h
        . rename_i hz; rw [if_pos hz]
          split at h <;> try (cases h; done)
          rename_i args' H1 hfz
          split at h <;> try (cases h; done)
          rename_i hck
          try rw [if_pos hck]
          split at h <;> try (cases h; done)
          rename_i r1 K1 q1
          rw [afn_mono ih (Nat.le_succ n) q1]; exact h
        rename_i hz; rw [if_neg hz]
        split at h
        . rename_i ht; rw [if_pos ht]
          split at h <;> try (cases h; done)
          rename_i r1 H1 q1
          rw [afn_mono ih (Nat.le_succ n) q1]; exact h
        . rename_i ht; rw [if_neg ht]
          split at h <;> try (cases h; done)
          rename_i hcl2
          rw [if_pos hcl2]
          split at h <;> try (cases h; done)
          rename_i r1 H1 q1
          rw [afn_mono ih (Nat.le_succ n) q1]; exact h
theorem acall_mono {n m : Nat} (h : n ≤ m) : Mono (acall C n) (acall C m) := by
  induction h with
  | refl => exact fun f args H r h => h
  | step _ ih => exact fun f args H r h => acall_mono1 C _ _ _ _ _ (ih f args H r h)
end
end Go.Tv
namespace Go.Tv
def effR : Eff -> Option Nat -> Eff -> Option Nat -> Bool
  | .quiet, _, .quiet, _ => true
  | .quiet, r, e, _ => commutes r e
  | e, _, .quiet, r => commutes r e
  | _, _, _, _ => false
def pairE (ops : Array Oper) (es : List Eff) (rs : List (Option Nat)) (i j : Nat) : Bool :=
  (match ops[i]?, ops[j]? with | some a, some b => a.apart ops b | _, _ => false) && effR (es.getD i .all) (rs.getD i none) (es.getD j .all) (rs.getD j none)
def drawE (ops : Array Oper) (es : List Eff) (rs : List (Option Nat)) : Bool :=
  let ms := masksOf ops.toList []
  (ops.toList.zipIdx.all fun (o, i) => o.after.toList.all fun e => !Region.binds .any e || decide (e.on < i)) &&
  (List.range ops.size).all fun j => (List.range j).all fun i => (ms.getD j 0).testBit i || pairE ops es rs i j
def effs (C : Cfg) : List Oper -> (Nat -> Oper -> List AV -> Bool) -> Nat -> Trace -> List Eff
  | o :: os, w, i, (t, H, _) :: tr => (if w i o t then effOf C o t H else .quiet) :: effs C os w (i + 1) tr
  | _, _, _, _ => []
def reads (C : Cfg) : List Oper -> Trace -> List (Option Nat)
  | o :: os, (t, _, _) :: tr => readOf C o t :: reads C os tr
  | _, _ => []
theorem effs_get (C : Cfg) (ops : Array Oper) (w : Nat -> Oper -> List AV -> Bool) : ∀ (os : List Oper) (k : Nat) (tr : Trace) (i : Nat), (effs C os w k tr).getD i .all =
    (match os[i]?, tr[i]? with | some o, some (t, H, _) => if w (k + i) o t then effOf C o t H else .quiet | _, _ => .all)
  | [], k, tr, i => by simp [effs]
  | o :: os, k, [], i => by simp [effs]
  | o :: os, k, (t, H, v) :: tr, 0 => by simp [effs]
  | o :: os, k, (t, H, v) :: tr, i + 1 => by
    have := effs_get C ops w os (k + 1) tr i
    simp only [effs, List.getD_cons_succ, List.getElem?_cons_succ, this]
    rw [show k + 1 + i = k + (i + 1) by omega]
theorem reads_get (C : Cfg) : ∀ (os : List Oper) (tr : Trace) (i : Nat), (reads C os tr).getD i none =
    (match os[i]?, tr[i]? with | some o, some (t, _, _) => readOf C o t | _, _ => none)
  | [], tr, i => by simp [reads]
  | o :: os, [], i => by simp [reads]
  | o :: os, (t, H, v) :: tr, 0 => by simp [reads]
  | o :: os, (t, H, v) :: tr, i + 1 => by
    have := reads_get C os tr i
    simp only [reads, List.getD_cons_succ, List.getElem?_cons_succ, this]
theorem drawOk_eq (C : Cfg) (ops : Array Oper) (tr : Trace) : drawOk C ops tr = drawE ops (effs C ops.toList (fun _ o t => Region.wanted o (ayielded ops t)) 0 tr) (reads C ops.toList tr) := by
  have he : ∀ i, (effs C ops.toList (fun _ o t => Region.wanted o (ayielded ops t)) 0 tr).getD i .all = effAt C ops tr i := fun i => by
    rw [effs_get C ops, effAt]; simp only [Array.getElem?_toList]
    cases ops[i]? <;> cases tr[i]? <;> rfl
  have hr : ∀ i, (reads C ops.toList tr).getD i none = readAt C ops tr i := fun i => by
    rw [reads_get, readAt]; simp only [Array.getElem?_toList]
    cases ops[i]? <;> cases tr[i]? <;> rfl
  have hp : ∀ i j, pairOk C ops tr i j = pairE ops (effs C ops.toList (fun _ o t => Region.wanted o (ayielded ops t)) 0 tr) (reads C ops.toList tr) i j := fun i j => by
    simp only [pairOk, pairE, he, hr]
    congr 1
    cases effAt C ops tr i <;> cases effAt C ops tr j <;> rfl
  simp only [drawOk, drawE, hp]
def panE (C : Cfg) (ops : Array Oper) (t' : List AV) (p : Nat) (es : List Eff) (rs : List (Option Nat)) : Bool :=
  let ms := masksOf ops.toList []
  (ops.toList.zipIdx.all fun (o, i) => o.after.toList.all fun e => !Region.binds .any e || decide (e.on < i)) &&
  ((List.range p).all fun j => (List.range j).all fun i => (ms.getD j 0).testBit i || pairE ops es rs i j) &&
  ((List.range ops.size).all fun j => decide (j ≤ p) || (ms.getD j 0).testBit p || (match ops[j]? with | some o => harm C ops p t' o | none => false)) &&
  ((List.range p).all fun i => (ms.getD p 0).testBit i || (isQ (es.getD i .all) && (match ops[i]?, ops[p]? with | some a, some b => a.apart ops b | _, _ => false)))
theorem panOk_eq (C : Cfg) (ops : Array Oper) (tr : Trace) (t' : List AV) : panOk C ops tr t' = panE C ops t' tr.length (effs C ops.toList (fun _ o t => Region.wanted o (ayielded ops t)) 0 tr) (reads C ops.toList tr) := by
  have he : ∀ i, (effs C ops.toList (fun _ o t => Region.wanted o (ayielded ops t)) 0 tr).getD i .all = effAt C ops tr i := fun i => by
    rw [effs_get C ops, effAt]; simp only [Array.getElem?_toList]
    cases ops[i]? <;> cases tr[i]? <;> rfl
  have hr : ∀ i, (reads C ops.toList tr).getD i none = readAt C ops tr i := fun i => by
    rw [reads_get, readAt]; simp only [Array.getElem?_toList]
    cases ops[i]? <;> cases tr[i]? <;> rfl
  have hp : ∀ i j, pairOk C ops tr i j = pairE ops (effs C ops.toList (fun _ o t => Region.wanted o (ayielded ops t)) 0 tr) (reads C ops.toList tr) i j := fun i j => by
    simp only [pairOk, pairE, he, hr]
    congr 1
    cases effAt C ops tr i <;> cases effAt C ops tr j <;> rfl
  simp only [panOk, panE, hp, he]
  rfl
end Go.Tv
namespace Go.Tv
section
variable (C : Cfg) (call : Caller) (k : Nat) (t : List AV) (H : Heap)
theorem arun_seq (a b : Code) : arun C call k (.seq a b) t H = (match arun C call k a t H with | some (.normal, t', H') => arun C call k b t' H' | r => r) := rfl
theorem arun_cond (c : Operand) (x y : Code) : arun C call k (.cond c x y) t H = (match ev C t c with | some (.bool b) => if b then arun C call k x t H else arun C call k y t H | _ => none) := rfl
theorem arun_block (id : Nat) (c : Code) : arun C call k (.block id c) t H = (match arun C call k c t H with | some (.exit j, t', H') => if j = id then some (.normal, t', H') else some (.exit j, t', H') | r => r) := rfl
theorem arun_draw (id : Nat) (ops : Array Oper) : arun C call k (.region id ops true) t H = (match atrace C call ops (List.range ops.size) t H with
      | some (tr, t', H') => if drawOk C ops tr then some (.normal, t', H') else none
      | none => match atraceP C call ops (List.range ops.size) t H with
        | some (tr, t', _, v, H') => if panOk C ops tr t' then some (.pan v, t', H') else none
        | none => none) := rfl
end
end Go.Tv
namespace Go.Tv
structure Lim (ch : Nat -> Caller) (call : Caller) : Prop where
  mono : ∀ {n m}, n ≤ m -> Mono (ch n) (ch m)
  ex : ∀ {f args H r}, call f args H = some r -> ∃ n, ch n f args H = some r
section
variable {C : Cfg} {ch : Nat -> Caller} {call : Caller}
theorem adoOp_lim (hl : Lim ch call) {o : Oper} {t : List AV} {H : Heap} {r : ARet × Heap} (h : adoOp C call o t H = some r) : ∃ n, adoOp C (ch n) o t H = some r := by
  obtain ⟨dst, op, type, pos, after, guard⟩ := o
  cases op
  case call c =>
    simp only [adoOp] at h ⊢
    cases ha : evs C t c.args.toList with
    | none => simp [ha] at h
    | some args =>
      simp only [ha] at h ⊢
      cases hcal : c.callee with
      | invoke r n => simp [hcal] at h
      | builtin b => simp only [hcal] at h ⊢; exact ⟨0, h⟩
      | value f =>
        simp only [hcal] at h ⊢
        split at h <;> try (cases h; done)
        rename_i g first cap hg
        cases hx : C.ext g with
        | some e => simp only [hx] at h ⊢; exact ⟨0, h⟩
        | none => simp only [hx] at h ⊢; exact hl.ex h
  all_goals exact ⟨0, h⟩
theorem aops_lim (hl : Lim ch call) {ops : Array Oper} : ∀ (l : List Nat) {t : List AV} {H : Heap} {r}, aops C call ops l t H = some r -> ∃ n, aops C (ch n) ops l t H = some r
  | [], t, H, r, h => ⟨0, h⟩
  | i :: rest, t, H, r, h => by
    simp only [aops] at h ⊢
    cases ho : ops[i]? with
    | none => simp [ho] at h
    | some o =>
      simp only [ho] at h ⊢
      split at h
      . rename_i hw
        simp only [if_pos hw]
        split at h
        . rename_i v H' hv
          obtain ⟨n1, h1⟩ := adoOp_lim hl hv
          obtain ⟨n2, h2⟩ := aops_lim hl rest h
          refine ⟨max n1 n2, ?_⟩
          simp only [adoOp_mono (hl.mono (Nat.le_max_left n1 n2)) h1]
          exact aops_mono (hl.mono (Nat.le_max_right n1 n2)) rest h2
        . rename_i v H' hv
          obtain ⟨n1, h1⟩ := adoOp_lim hl hv
          exact ⟨n1, by simp only [h1]; exact h⟩
        . cases h
      . rename_i hw
        simp only [if_neg hw]
        exact aops_lim hl rest h
theorem atrace_lim (hl : Lim ch call) {ops : Array Oper} : ∀ (l : List Nat) {t : List AV} {H : Heap} {r}, atrace C call ops l t H = some r -> ∃ n, atrace C (ch n) ops l t H = some r
  | [], t, H, r, h => ⟨0, h⟩
  | i :: rest, t, H, r, h => by
    simp only [atrace] at h ⊢
    cases ho : ops[i]? with
    | none => simp [ho] at h
    | some o =>
      simp only [ho] at h ⊢
      split at h
      . rename_i hw
        simp only [if_pos hw]
        split at h <;> try (cases h; done)
        rename_i v H' hv
        split at h <;> try (cases h; done)
        rename_i tr t' H2 ht
        obtain ⟨n1, h1⟩ := adoOp_lim hl hv
        obtain ⟨n2, h2⟩ := atrace_lim hl rest ht
        refine ⟨max n1 n2, ?_⟩
        simp only [adoOp_mono (hl.mono (Nat.le_max_left n1 n2)) h1, atrace_mono (hl.mono (Nat.le_max_right n1 n2)) rest h2]
        exact h
      . rename_i hw
        simp only [if_neg hw]
        split at h <;> try (cases h; done)
        rename_i tr t' H2 ht
        obtain ⟨n2, h2⟩ := atrace_lim hl rest ht
        exact ⟨n2, by simp only [h2]; exact h⟩
theorem atraceP_lim (hl : Lim ch call) {ops : Array Oper} : ∀ (l : List Nat) {t : List AV} {H : Heap} {r}, atraceP C call ops l t H = some r -> ∃ n, atraceP C (ch n) ops l t H = some r
  | [], t, H, r, h => by simp [atraceP] at h
  | i :: rest, t, H, r, h => by
    simp only [atraceP] at h ⊢
    cases ho : ops[i]? with
    | none => simp [ho] at h
    | some o =>
      simp only [ho] at h ⊢
      split at h
      . rename_i hw
        simp only [if_pos hw]
        split at h
        . rename_i v H' hv
          split at h <;> try (cases h; done)
          rename_i tr r1 ht
          obtain ⟨n1, h1⟩ := adoOp_lim hl hv
          obtain ⟨n2, h2⟩ := atraceP_lim hl rest ht
          refine ⟨max n1 n2, ?_⟩
          simp only [adoOp_mono (hl.mono (Nat.le_max_left n1 n2)) h1, atraceP_mono (hl.mono (Nat.le_max_right n1 n2)) rest h2]
          exact h
        . rename_i v H' hv
          obtain ⟨n1, h1⟩ := adoOp_lim hl hv
          exact ⟨n1, by simp only [h1]; exact h⟩
        . cases h
      . rename_i hw
        simp only [if_neg hw]
        split at h <;> try (cases h; done)
        rename_i tr r1 ht
        obtain ⟨n2, h2⟩ := atraceP_lim hl rest ht
        exact ⟨n2, by simp only [h2]; exact h⟩
theorem iter_lim {F : Nat -> List AV -> Heap -> Out} {g : List AV -> Heap -> Out} (hm : ∀ n m, n ≤ m -> ∀ t H r, F n t H = some r -> F m t H = some r) (hf : ∀ t H r, g t H = some r -> ∃ n, F n t H = some r) :
    ∀ (k : Nat) {t : List AV} {H : Heap} {r}, iter g k t H = some r -> ∃ n, iter (F n) k t H = some r
  | 0, t, H, r, h => by simp [iter] at h
  | k + 1, t, H, r, h => by
    simp only [iter] at h ⊢
    split at h
    . rename_i t' H' h1
      obtain ⟨n1, q1⟩ := hf _ _ _ h1
      obtain ⟨n2, q2⟩ := iter_lim hm hf k h
      refine ⟨max n1 n2, ?_⟩
      simp only [hm _ _ (Nat.le_max_left n1 n2) _ _ _ q1]
      exact iter_mono (fun t H r h => hm _ _ (Nat.le_max_right n1 n2) t H r h) k k (Nat.le_refl _) q2
    . rename_i hne
      obtain ⟨n1, q1⟩ := hf _ _ _ h
      refine ⟨n1, ?_⟩
      rw [q1]
      split
      . rename_i t' H' e; injection e with e; subst e; exact absurd h (hne t' H')
      . rfl
theorem arun_lim (hl : Lim ch call) {k : Nat} : ∀ (c : Code) {t : List AV} {H : Heap} {r}, arun C call k c t H = some r -> ∃ n, arun C (ch n) k c t H = some r := by
  intro c
  induction c with
  | region id ops draw =>
    intro t H r h
    simp only [arun] at h ⊢
    split at h
    . rename_i hd
      simp only [if_pos hd]
      split at h
      . rename_i tr t' H' ht
        obtain ⟨n, hn⟩ := atrace_lim hl _ ht
        exact ⟨n, by simp only [hn]; exact h⟩
      . split at h <;> try (cases h; done)
        rename_i tr t' H1 v H' ht
        obtain ⟨n, hn⟩ := atraceP_lim hl _ ht
        exact ⟨n, by simp only [atrace_none _ hn, hn]; exact h⟩
    . rename_i hd
      simp only [if_neg hd]; exact aops_lim hl _ h
  | seq a b ih1 ih2 =>
    intro t H r h
    simp only [arun] at h ⊢
    split at h
    . rename_i t' H' h1
      obtain ⟨n1, q1⟩ := ih1 h1
      obtain ⟨n2, q2⟩ := ih2 h
      refine ⟨max n1 n2, ?_⟩
      simp only [arun_mono (hl.mono (Nat.le_max_left n1 n2)) (Nat.le_refl k) a q1]
      exact arun_mono (hl.mono (Nat.le_max_right n1 n2)) (Nat.le_refl k) b q2
    . rename_i hne
      obtain ⟨n1, q1⟩ := ih1 h
      refine ⟨n1, ?_⟩
      rw [q1]
      split
      . rename_i t' H' e; injection e with e; subst e; exact absurd h (hne t' H')
      . rfl
  | cond c x y ih1 ih2 =>
    intro t H r h
    simp only [arun] at h ⊢
    split at h <;> try (cases h; done)
    rename_i b hb
    cases b
    . obtain ⟨n, hn⟩ := ih2 (by simpa using h); exact ⟨n, by simpa using hn⟩
    . obtain ⟨n, hn⟩ := ih1 (by simpa using h); exact ⟨n, by simpa using hn⟩
  | block id c ih =>
    intro t H r h
    simp only [arun] at h ⊢
    split at h
    . rename_i j t' H' h1; obtain ⟨n, hn⟩ := ih h1; exact ⟨n, by simp only [hn]; exact h⟩
    . rename_i hne
      obtain ⟨n, hn⟩ := ih h
      refine ⟨n, ?_⟩
      rw [hn]
      split
      . rename_i j t' H' e; injection e with e; subst e; exact absurd h (hne j t' H')
      . rfl
  | loop c ih =>
    intro t H r h
    simp only [arun] at h ⊢
    exact iter_lim (F := fun n => arun C (ch n) k c) (fun n m hnm t H r h => arun_mono (hl.mono hnm) (Nat.le_refl k) c h) (fun t H r h => ih h) k h
  | _ => intro t H r h; first | exact ⟨0, h⟩ | (simp [arun] at h)
end
noncomputable def Call (C : Cfg) : Caller := fun f args H =>
  open Classical in if h : ∃ n r, acall C n f args H = some r then some h.choose_spec.choose else none
theorem Call_of {C : Cfg} {n f args H r} (h : acall C n f args H = some r) : Call C f args H = some r := by
  have hx : ∃ n r, acall C n f args H = some r := ⟨n, r, h⟩
  unfold Call
  rw [dif_pos hx]
  have h1 := hx.choose_spec.choose_spec
  have a := acall_mono (Nat.le_max_left n hx.choose) _ _ _ _ h
  have b := acall_mono (Nat.le_max_right n hx.choose) _ _ _ _ h1
  rw [a] at b; exact b.symm
theorem Call_ex {C : Cfg} {f args H r} (h : Call C f args H = some r) : ∃ n, acall C n f args H = some r := by
  unfold Call at h
  split at h
  . rename_i hx
    injection h with h
    exact ⟨hx.choose, h ▸ hx.choose_spec.choose_spec⟩
  . cases h
theorem Call_lim (C : Cfg) : Lim (acall C) (Call C) := ⟨fun h => acall_mono h, Call_ex⟩
def noDefer : Code -> Bool
  | .seq a b => noDefer a && noDefer b
  | .region _ ops draw => draw || !ops.toList.any isDefer
  | _ => true
theorem arunD_plain {C : Cfg} {call : Caller} {k : Nat} : ∀ (c : Code), noDefer c = true -> ∀ {t H x t' H'}, arun C call k c t H = some (x, t', H') -> arunD C call k c t H = some (.plain x t' H') := by
  intro c
  induction c with
  | seq a b ih1 ih2 =>
    intro hn t H x t' H' h
    simp only [noDefer, Bool.and_eq_true] at hn
    simp only [arun, arunD] at h ⊢
    split at h
    . rename_i t1 H1 h1
      simp only [ih1 hn.1 h1]; exact ih2 hn.2 h
    . rename_i hne
      rw [ih1 hn.1 h]
      split
      . rename_i t1 H1 e; injection e with e; injection e with e1 e2 e3; subst e1 e2 e3; exact absurd h (hne _ _)
      . rename_i e; cases e
      . rfl
  | region id ops draw =>
    intro hn t H x t' H' h
    simp only [noDefer, Bool.or_eq_true, Bool.not_eq_true'] at hn
    simp only [arunD]
    rw [if_neg (by rintro ⟨h1, h2⟩; rcases hn with hn | hn <;> simp_all), h]
  | _ => intro hn t H x t' H' h; simp only [arunD, h]
theorem call_afn {C : Cfg} {f : FuncId} {fn : Func} {args : List AV} {r : ARet} {H H1 : Heap} {k : Nat} {c : Code} {x : AExit} {t : List AV} {H2 : Heap} (hp : C.prim f = none) (hf : C.P.funcs[C.real f]? = some fn) (hc : (C.clone f && isEmptyArg args) = false)
    (ht : (treeL args && !C.makes f) = true) (hb : fn.body = some c) (hn : noDefer c = true) (h : arun (C.at f) (Call C) k c (frame fn args) [] = some (x, t, H2)) (hx : x = .normal \/ x = .ret)
    (hh : ahand (C.at f) (C.frz f) fn t H2 = some (r, H1)) (hr : retTree r = true) : Call C f args H = some (r, H) := by
  obtain ⟨n, hn'⟩ := arun_lim (Call_lim C) c h
  have h1 : arun (C.at f) (acall C (max n k)) (max n k) c (frame fn args) [] = some (x, t, H2) := arun_mono (acall_mono (Nat.le_max_left n k)) (Nat.le_max_right n k) c hn'
  refine Call_of (n := max n k + 1) ?_
  have h2 : afn (C.at f) (acall C (max n k)) (max n k) (C.frz f) fn args [] = some (r, H1) := by
    unfold afn
    simp only [hb, arunD_plain c hn h1]
    rcases hx with rfl | rfl <;> exact hh
  rw [acall]
  have htt : treeL args = true := by simp only [Bool.and_eq_true] at ht; exact ht.1
  have hmk : C.makes f = false := by simp only [Bool.and_eq_true, Bool.not_eq_true'] at ht; exact ht.2
  simp only [hp, hf, hc, htt, hmk, Bool.not_true, Bool.not_false, Bool.and_self, Bool.and_false, Bool.false_eq_true, if_false, if_true, h2, hr]
theorem call_obj {C : Cfg} {f : FuncId} {fn : Func} {args : List AV} {r : ARet} {H H1 : Heap} {k : Nat} {c : Code} {x : AExit} {t : List AV} {H2 : Heap} (hp : C.prim f = none) (hhp : C.hprim f = none) (hfa : C.frzA f = false) (hf : C.P.funcs[C.real f]? = some fn) (hc : (C.clone f && isEmptyArg args) = false)
    (ht : (treeL args && !C.makes f) = false) (hcl : (closed H (reachL H args) && (idsL args).all (reachL H args).contains) = true) (hb : fn.body = some c) (hn : noDefer c = true)
    (h : arun (C.at f) (Call C) k c (frame fn args) (mask (reachL H args) 0 H) = some (x, t, H2)) (hx : x = .normal \/ x = .ret)
    (hh : ahand (C.at f) (C.frz f) fn t H2 = some (r, H1)) (hlen : H.length ≤ H1.length) : Call C f args H = some (r, unmask (reachL H args) 0 H H1) := by
  obtain ⟨n, hn'⟩ := arun_lim (Call_lim C) c h
  have h1 : arun (C.at f) (acall C (max n k)) (max n k) c (frame fn args) (mask (reachL H args) 0 H) = some (x, t, H2) := arun_mono (acall_mono (Nat.le_max_left n k)) (Nat.le_max_right n k) c hn'
  refine Call_of (n := max n k + 1) ?_
  have h2 : afn (C.at f) (acall C (max n k)) (max n k) (C.frz f) fn args (mask (reachL H args) 0 H) = some (r, H1) := by
    unfold afn
    simp only [hb, arunD_plain c hn h1]
    rcases hx with rfl | rfl <;> exact hh
  rw [acall]
  have hhn : (if treeL args = true then none else C.hprim f) = none := by rw [hhp]; split <;> rfl
  simp only [hp, hhn, hf, hc, ht, hcl, hfa, Bool.false_and, Bool.false_eq_true, if_false, if_true, h2, if_pos hlen]
theorem call_hprim {C : Cfg} {f : FuncId} {g : List AV -> Heap -> Option (AV × Heap)} {args : List AV} {v : AV} {H H' : Heap} (hp : C.prim f = none) (hg : C.hprim f = some g) (ht : treeL args = false) (h : g args H = some (v, H')) : Call C f args H = some (.ok v, H') := by
  refine Call_of (n := 1) ?_
  rw [acall]
  simp only [hp, ht, Bool.false_eq_true, if_false, hg, h]
theorem call_prim {C : Cfg} {f : FuncId} {g : List AV -> Option AV} {args : List AV} {v : AV} {H : Heap} (hp : C.prim f = some g) (h : g args = some v) (ht : v.tree = true) : Call C f args H = some (.ok v, H) := by
  refine Call_of (n := 1) ?_
  rw [acall]
  simp only [hp, h, ht, if_true]
end Go.Tv
namespace Go.Tv
abbrev QPost := AExit -> List AV -> Heap -> Prop
def post (o : Out) (Q : QPost) : Prop := match o with | some (x, t, H) => Q x t H | none => False
def WP (C : Cfg) (call : Caller) (c : Code) (t : List AV) (H : Heap) (Q : QPost) : Prop := ∃ k, post (arun C call k c t H) Q
def seqK (P : List AV -> Heap -> Prop) (Q : QPost) : QPost
  | .normal, t, H => P t H
  | x, t, H => Q x t H
def blockK (id : Nat) (Q : QPost) : QPost
  | .exit j, t, H => if j = id then Q .normal t H else Q (.exit j) t H
  | x, t, H => Q x t H
def dtr (C : Cfg) (call : Caller) (ops : Array Oper) : List Nat -> List AV -> Heap -> Option (Trace × Option AV × List AV × Heap)
  | [], t, H => some ([], none, t, H)
  | i :: rest, t, H =>
    match ops[i]? with
    | none => none
    | some o =>
      if Region.wanted o (ayielded ops t) then
        match adoOp C call o t H with
        | some (.ok v, H') => match dtr C call ops rest (put t o.dst v) H' with
          | some (tr, r) => some ((t, H, v) :: tr, r)
          | none => none
        | some (.panic v, H') => some ([], some v, t, H')
        | none => none
      else match dtr C call ops rest (put t o.dst .undef) H with
        | some (tr, r) => some ((t, H, .undef) :: tr, r)
        | none => none
theorem dtr_eq (C : Cfg) (call : Caller) (ops : Array Oper) : ∀ (l : List Nat) (t : List AV) (H : Heap), dtr C call ops l t H = (match atrace C call ops l t H with
    | some (tr, t', H') => some (tr, none, t', H')
    | none => match atraceP C call ops l t H with
      | some (tr, t', _, v, H') => some (tr, some v, t', H')
      | none => none)
  | [], t, H => rfl
  | i :: rest, t, H => by
    have ih := dtr_eq C call ops rest
    simp only [dtr, atrace, atraceP]
    cases ops[i]? with
    | none => rfl
    | some o =>
      simp only
      by_cases hw : Region.wanted o (ayielded ops t) = true
      . simp only [if_pos hw]
        cases adoOp C call o t H with
        | none => rfl
        | some r =>
          obtain ⟨r, H'⟩ := r
          cases r with
          | panic v => rfl
          | ok v =>
            simp only [ih]
            cases atrace C call ops rest (put t o.dst v) H' with
            | some r => rfl
            | none =>
              simp only
              cases atraceP C call ops rest (put t o.dst v) H' <;> rfl
      . simp only [if_neg hw, ih]
        cases atrace C call ops rest (put t o.dst .undef) H with
        | some r => rfl
        | none =>
          simp only
          cases atraceP C call ops rest (put t o.dst .undef) H <;> rfl
def postD (C : Cfg) (ops : Array Oper) (o : Option (Trace × Option AV × List AV × Heap)) (Q : QPost) : Prop :=
  match o with
  | some (tr, none, t, H) => drawOk C ops tr = true /\ Q .normal t H
  | some (tr, some v, t, H) => panOk C ops tr t = true /\ Q (.pan v) t H
  | none => False
section
variable {C : Cfg} {call : Caller} {t : List AV} {H : Heap} {Q : QPost}
theorem post_mono {o : Out} {Q Q' : QPost} (h : ∀ x t H, Q x t H -> Q' x t H) (hp : post o Q) : post o Q' := by
  cases o with
  | none => exact hp
  | some r => exact h _ _ _ hp
theorem WP.mono {c : Code} {Q Q' : QPost} (hp : WP C call c t H Q) (h : ∀ x t H, Q x t H -> Q' x t H) : WP C call c t H Q' := by
  obtain ⟨k, hk⟩ := hp; exact ⟨k, post_mono h hk⟩
theorem wp_skip : WP C call .skip t H Q ↔ Q .normal t H := ⟨fun ⟨_, h⟩ => h, fun h => ⟨0, h⟩⟩
theorem wp_label (n : Nat) : WP C call (.label n) t H Q ↔ Q .normal t H := ⟨fun ⟨_, h⟩ => h, fun h => ⟨0, h⟩⟩
theorem wp_exit (id : Nat) : WP C call (.exit id) t H Q ↔ Q (.exit id) t H := ⟨fun ⟨_, h⟩ => h, fun h => ⟨0, h⟩⟩
theorem wp_ret : WP C call .ret t H Q ↔ Q .ret t H := ⟨fun ⟨_, h⟩ => h, fun h => ⟨0, h⟩⟩
theorem arun_max1 {k1 k2 : Nat} {c : Code} {t : List AV} {H : Heap} {r} (h : arun C call k1 c t H = some r) : arun C call (max k1 k2) c t H = some r :=
  arun_mono (fun _ _ _ _ h => h) (Nat.le_max_left _ _) c h
theorem arun_max2 {k1 k2 : Nat} {c : Code} {t : List AV} {H : Heap} {r} (h : arun C call k2 c t H = some r) : arun C call (max k1 k2) c t H = some r :=
  arun_mono (fun _ _ _ _ h => h) (Nat.le_max_right _ _) c h
theorem post_elim {o : Out} (h : post o Q) : ∃ x t H, o = some (x, t, H) /\ Q x t H := by
  cases o with
  | none => exact h.elim
  | some r => obtain ⟨x, t, H⟩ := r; exact ⟨x, t, H, rfl, h⟩
theorem wp_seq (a b : Code) : WP C call (.seq a b) t H Q ↔ WP C call a t H (seqK (fun t H => WP C call b t H Q) Q) := by
  constructor
  . rintro ⟨k, h⟩
    refine ⟨k, ?_⟩
    simp only [arun] at h
    split at h
    . rename_i t' H' h1; rw [h1]; exact ⟨k, h⟩
    . rename_i hne
      obtain ⟨x, t', H', h1, h2⟩ := post_elim h
      rw [h1]
      cases x <;> first | exact h2 | exact absurd h1 (hne _ _)
  . rintro ⟨k1, h⟩
    obtain ⟨x, t', H', h1, h2⟩ := post_elim h
    cases x with
    | normal =>
      obtain ⟨k2, h3⟩ := h2
      obtain ⟨y, t2, H2, h4, h5⟩ := post_elim h3
      refine ⟨max k1 k2, ?_⟩
      simp only [arun, arun_max1 h1, arun_max2 h4]; exact h5
    | _ => exact ⟨k1, by simp only [arun, h1]; exact h2⟩
theorem wp_block (id : Nat) (c : Code) : WP C call (.block id c) t H Q ↔ WP C call c t H (blockK id Q) := by
  constructor
  . rintro ⟨k, h⟩
    refine ⟨k, ?_⟩
    simp only [arun] at h
    split at h
    . rename_i j t' H' h1
      rw [h1]
      split at h
      . rename_i e; simp only [post, blockK, if_pos e]; exact h
      . rename_i e; simp only [post, blockK, if_neg e]; exact h
    . rename_i hne
      obtain ⟨x, t', H', h1, h2⟩ := post_elim h
      rw [h1]
      cases x <;> first | exact h2 | exact absurd h1 (hne _ _ _)
  . rintro ⟨k, h⟩
    refine ⟨k, ?_⟩
    obtain ⟨x, t', H', h1, h2⟩ := post_elim h
    simp only [arun, h1]
    cases x with
    | exit j =>
      simp only [blockK] at h2
      split at h2
      . rename_i e; simp only [if_pos e]; exact h2
      . rename_i e; simp only [if_neg e]; exact h2
    | _ => exact h2
theorem wp_cond (c : Operand) (x y : Code) : WP C call (.cond c x y) t H Q ↔ ∃ b, ev C t c = some (.bool b) /\ (b = true -> WP C call x t H Q) /\ (b = false -> WP C call y t H Q) := by
  constructor
  . rintro ⟨k, h⟩
    simp only [arun] at h
    split at h
    . rename_i b hb
      refine ⟨b, hb, ?_, ?_⟩ <;> rintro rfl <;> exact ⟨k, by simpa using h⟩
    . exact h.elim
  . rintro ⟨b, hb, h1, h2⟩
    cases b with
    | true => obtain ⟨k, h⟩ := h1 rfl; exact ⟨k, by simp only [arun, hb, if_true]; exact h⟩
    | false => obtain ⟨k, h⟩ := h2 rfl; exact ⟨k, by simp only [arun, hb, Bool.false_eq_true, if_false]; exact h⟩
theorem wp_region (id : Nat) (ops : Array Oper) : WP C call (.region id ops false) t H Q ↔ post (aops C call ops (List.range ops.size) t H) Q := ⟨fun ⟨_, h⟩ => h, fun h => ⟨0, h⟩⟩
theorem wp_draw (id : Nat) (ops : Array Oper) : WP C call (.region id ops true) t H Q ↔ postD C ops (dtr C call ops (List.range ops.size) t H) Q := by
  have key : ∀ k, post (arun C call k (.region id ops true) t H) Q ↔ postD C ops (dtr C call ops (List.range ops.size) t H) Q := by
    intro k
    simp only [arun, if_true, dtr_eq]
    cases atrace C call ops (List.range ops.size) t H with
    | none =>
      simp only
      cases atraceP C call ops (List.range ops.size) t H with
      | none => exact Iff.rfl
      | some r =>
        obtain ⟨tr, t', H1, v, H'⟩ := r
        simp only [postD]
        split
        . rename_i e; simp [e, post]
        . rename_i e; simp [e, post]
    | some r =>
      obtain ⟨tr, t', H'⟩ := r
      simp only [postD]
      split
      . rename_i e; simp [e, post]
      . rename_i e; simp [e, post]
  exact ⟨fun ⟨k, h⟩ => (key k).1 h, fun h => ⟨0, (key 0).2 h⟩⟩
theorem wp_loop {c : Code} (I : Nat -> List AV -> Heap -> Prop) (N : Nat) (h0 : I 0 t H) (hs : ∀ i t H, I i t H -> i ≤ N /\ WP C call c t H (seqK (I (i + 1)) Q)) : WP C call (.loop c) t H Q := by
  have key : ∀ (m i : Nat) (t : List AV) (H : Heap), N < i + m -> I i t H -> ∃ k, post (iter (arun C call k c) k t H) Q := by
    intro m
    induction m with
    | zero => intro i t H hi hI; have := (hs i t H hI).1; omega
    | succ m ih =>
      intro i t H hi hI
      obtain ⟨_, k1, h⟩ := hs i t H hI
      obtain ⟨x, t', H', h1, h2⟩ := post_elim h
      cases x with
      | normal =>
        obtain ⟨k2, h3⟩ := ih (i + 1) t' H' (by omega) h2
        obtain ⟨y, t2, H2, h4, h5⟩ := post_elim h3
        refine ⟨max k1 k2 + 1, ?_⟩
        have e1 : arun C call (max k1 k2 + 1) c t H = some (.normal, t', H') := arun_mono (fun _ _ _ _ h => h) (by omega) c h1
        have e2 : iter (arun C call (max k1 k2 + 1) c) (max k1 k2) t' H' = some (y, t2, H2) :=
          iter_mono (fun t H r h => arun_mono (fun _ _ _ _ h => h) (by omega) c h) k2 _ (Nat.le_max_right _ _) h4
        simp only [iter, e1, e2]; exact h5
      | _ =>
        refine ⟨k1 + 1, ?_⟩
        simp only [iter, arun_mono (fun _ _ _ _ h => h) (Nat.le_succ k1) c h1]; exact h2
  obtain ⟨k, h⟩ := key (N + 1) 0 t H (by omega) h0
  exact ⟨k, h⟩
end
theorem call_wp {C : Cfg} {f : FuncId} {fn : Func} {args : List AV} {r : AV} {H : Heap} {c : Code} (hp : C.prim f = none) (hf : C.P.funcs[C.real f]? = some fn) (hc : C.clone f = false) (ha : C.at f = C) (hz : C.frz f = false) (hm : C.makes f = false)
    (ht : treeL args = true) (hb : fn.body = some c) (hn : noDefer c = true)
    (h : WP C (Call C) c (frame fn args) [] fun x t H2 => (x = .normal \/ x = .ret) /\ ∃ H1, ahand C false fn t H2 = some (.ok r, H1)) (hr : r.tree = true) : Call C f args H = some (.ok r, H) := by
  obtain ⟨k, h⟩ := h
  obtain ⟨x, t, H2, h1, hx, H1, h2⟩ := post_elim h
  refine call_afn (c := c) (k := k) (x := x) (t := t) (H1 := H1) (H2 := H2) hp hf (by rw [hc]; rfl) (by rw [ht, hm]; rfl) hb hn (by rw [ha]; exact h1) hx (by rw [ha, hz]; exact h2) hr
end Go.Tv
namespace Go.Tv
def yb : Option AV -> Option Bool
  | some (.bool b) => some b
  | _ => none
theorem yb_bool (b : Bool) : yb (some (.bool b)) = some b := rfl
theorem yb_undef : yb (some .undef) = none := rfl
theorem ayielded_eq (ops : Array Oper) (t : List AV) (j : Nat) : ayielded ops t j = yb (((ops[j]?).bind (·.dst)).bind (t[·]?)) := by
  unfold ayielded yb
  cases (((ops[j]?).bind (·.dst)).bind (t[·]?)) <;> rfl
inductive Fr where
  | seq (b : Code)
  | blk (id : Nat)
def kont (C : Cfg) (call : Caller) : List Fr -> QPost -> QPost
  | [], Q => Q
  | .seq b :: K, Q => seqK (fun t H => WP C call b t H (kont C call K Q)) (kont C call K Q)
  | .blk id :: K, Q => blockK id (kont C call K Q)
def ST (C : Cfg) (call : Caller) (c : Code) (t : List AV) (H : Heap) (K : List Fr) (Q : QPost) : Prop := WP C call c t H (kont C call K Q)
def EX (C : Cfg) (call : Caller) (x : AExit) (t : List AV) (H : Heap) (K : List Fr) (Q : QPost) : Prop := kont C call K Q x t H
def goR (C : Cfg) (call : Caller) (ops : Array Oper) : List Oper -> List AV -> Heap -> Out
  | [], t, H => some (.normal, t, H)
  | o :: rest, t, H =>
    if Region.wanted o (ayielded ops t) then
      match adoOp C call o t H with
      | some (.ok v, H') => goR C call ops rest (put t o.dst v) H'
      | some (.panic v, H') => some (.panic v, t, H')
      | none => none
    else goR C call ops rest (put t o.dst .undef) H
def GO (C : Cfg) (call : Caller) (ops : Array Oper) (os : List Oper) (t : List AV) (H : Heap) (K : List Fr) (Q : QPost) : Prop := post (goR C call ops os t H) (kont C call K Q)
def FIN (C : Cfg) (call : Caller) (ops : Array Oper) (dst : Option Tmp) (os : List Oper) (r : Option (ARet × Heap)) (t : List AV) (K : List Fr) (Q : QPost) : Prop :=
  match r with
  | some (.ok v, H') => GO C call ops os (put t dst v) H' K Q
  | some (.panic v, H') => EX C call (.panic v) t H' K Q
  | none => False
def dgoR (C : Cfg) (call : Caller) (ops : Array Oper) : List Oper -> List AV -> Heap -> Option (Trace × Option AV × List AV × Heap)
  | [], t, H => some ([], none, t, H)
  | o :: rest, t, H =>
    if Region.wanted o (ayielded ops t) then
      match adoOp C call o t H with
      | some (.ok v, H') => match dgoR C call ops rest (put t o.dst v) H' with
        | some (tr, r) => some ((t, H, v) :: tr, r)
        | none => none
      | some (.panic v, H') => some ([], some v, t, H')
      | none => none
    else match dgoR C call ops rest (put t o.dst .undef) H with
      | some (tr, r) => some ((t, H, .undef) :: tr, r)
      | none => none
def DGO (C : Cfg) (call : Caller) (ops : Array Oper) (os : List Oper) (t : List AV) (H : Heap) (acc : Trace) (K : List Fr) (Q : QPost) : Prop :=
  match dgoR C call ops os t H with
  | some (tr, none, t', H') => drawOk C ops (acc ++ tr) = true /\ kont C call K Q .normal t' H'
  | some (tr, some v, t', H') => panOk C ops (acc ++ tr) t' = true /\ kont C call K Q (.pan v) t' H'
  | none => False
def DFIN (C : Cfg) (call : Caller) (ops : Array Oper) (dst : Option Tmp) (os : List Oper) (r : Option (ARet × Heap)) (t : List AV) (H : Heap) (acc : Trace) (K : List Fr) (Q : QPost) : Prop :=
  match r with
  | some (.ok v, H') => DGO C call ops os (put t dst v) H' (acc ++ [(t, H, v)]) K Q
  | some (.panic v, H') => panE C ops t acc.length (effs C ops.toList (fun _ o t => Region.wanted o (ayielded ops t)) 0 acc) (reads C ops.toList acc) = true /\ EX C call (.pan v) t H' K Q
  | none => False
section
variable {C : Cfg} {call : Caller} {t : List AV} {H : Heap} {Q : QPost} {K : List Fr}
theorem st_seq (a b : Code) : ST C call (.seq a b) t H K Q ↔ ST C call a t H (.seq b :: K) Q := wp_seq a b
theorem st_block (id : Nat) (c : Code) : ST C call (.block id c) t H K Q ↔ ST C call c t H (.blk id :: K) Q := wp_block id c
theorem st_skip : ST C call .skip t H K Q ↔ EX C call .normal t H K Q := wp_skip
theorem st_label (n : Nat) : ST C call (.label n) t H K Q ↔ EX C call .normal t H K Q := wp_label n
theorem st_exit (id : Nat) : ST C call (.exit id) t H K Q ↔ EX C call (.exit id) t H K Q := wp_exit id
theorem st_ret : ST C call .ret t H K Q ↔ EX C call .ret t H K Q := wp_ret
theorem st_true {c : Operand} (x y : Code) (h : ev C t c = some (.bool true)) : ST C call (.cond c x y) t H K Q ↔ ST C call x t H K Q := by
  unfold ST; rw [wp_cond]
  constructor
  . rintro ⟨b, hb, h1, _⟩; rw [h] at hb; injection hb with hb; injection hb with hb; exact h1 hb.symm
  . intro h1; exact ⟨true, h, fun _ => h1, fun e => by cases e⟩
theorem st_false {c : Operand} (x y : Code) (h : ev C t c = some (.bool false)) : ST C call (.cond c x y) t H K Q ↔ ST C call y t H K Q := by
  unfold ST; rw [wp_cond]
  constructor
  . rintro ⟨b, hb, _, h2⟩; rw [h] at hb; injection hb with hb; injection hb with hb; exact h2 hb.symm
  . intro h1; exact ⟨false, h, fun e => (by cases e), fun _ => h1⟩
theorem ex_nil (x : AExit) : EX C call x t H [] Q ↔ Q x t H := Iff.rfl
theorem ex_seq (b : Code) : EX C call .normal t H (.seq b :: K) Q ↔ ST C call b t H K Q := Iff.rfl
theorem ex_seq_exit (b : Code) (j : Nat) : EX C call (.exit j) t H (.seq b :: K) Q ↔ EX C call (.exit j) t H K Q := Iff.rfl
theorem ex_seq_ret (b : Code) : EX C call .ret t H (.seq b :: K) Q ↔ EX C call .ret t H K Q := Iff.rfl
theorem ex_blk (id : Nat) : EX C call .normal t H (.blk id :: K) Q ↔ EX C call .normal t H K Q := Iff.rfl
theorem ex_blk_ret (id : Nat) : EX C call .ret t H (.blk id :: K) Q ↔ EX C call .ret t H K Q := Iff.rfl
theorem ex_seq_panic (b : Code) (v : AV) : EX C call (.panic v) t H (.seq b :: K) Q ↔ EX C call (.panic v) t H K Q := Iff.rfl
theorem ex_seq_pan (b : Code) (v : AV) : EX C call (.pan v) t H (.seq b :: K) Q ↔ EX C call (.pan v) t H K Q := Iff.rfl
theorem ex_blk_panic (id : Nat) (v : AV) : EX C call (.panic v) t H (.blk id :: K) Q ↔ EX C call (.panic v) t H K Q := Iff.rfl
theorem ex_blk_pan (id : Nat) (v : AV) : EX C call (.pan v) t H (.blk id :: K) Q ↔ EX C call (.pan v) t H K Q := Iff.rfl
theorem ex_blk_same (id : Nat) : EX C call (.exit id) t H (.blk id :: K) Q ↔ EX C call .normal t H K Q := by
  simp only [EX, kont, blockK, if_true]
theorem ex_blk_other {id j : Nat} (h : j ≠ id) : EX C call (.exit j) t H (.blk id :: K) Q ↔ EX C call (.exit j) t H K Q := by
  simp only [EX, kont, blockK, if_neg h]
theorem go_range (ops : Array Oper) : ∀ (n i : Nat) (t : List AV) (H : Heap), ops.size = n + i -> aops C call ops ((List.range n).map (· + i)) t H = goR C call ops (ops.toList.drop i) t H
  | 0, i, t, H, hn => by
    have : ops.toList.drop i = [] := List.drop_eq_nil_of_le (by simp; omega)
    rw [this]; rfl
  | n + 1, i, t, H, hn => by
    have hi : i < ops.toList.length := by simp; omega
    have hr : (List.range (n + 1)).map (· + i) = i :: (List.range n).map (· + (i + 1)) := by
      rw [List.range_succ_eq_map]; simp [Function.comp_def]; try (intro a _; omega)
    have hd : ops.toList.drop i = ops.toList[i] :: ops.toList.drop (i + 1) := List.drop_eq_getElem_cons hi
    rw [hr, hd]
    have hg : ops[i]? = some ops.toList[i] := by simp at hi ⊢
    simp only [aops, hg, goR]
    have ih := fun t H => go_range ops n (i + 1) t H (by omega)
    simp only [ih]
    rfl
theorem st_region (id : Nat) (ops : Array Oper) : ST C call (.region id ops false) t H K Q ↔ GO C call ops ops.toList t H K Q := by
  unfold ST GO
  rw [wp_region]
  have := go_range (C := C) (call := call) ops ops.size 0 t H (by omega)
  simp only [Nat.add_zero, List.map_id', List.drop_zero] at this
  rw [this]
theorem dgo_range (ops : Array Oper) : ∀ (n i : Nat) (t : List AV) (H : Heap), ops.size = n + i -> dtr C call ops ((List.range n).map (· + i)) t H = dgoR C call ops (ops.toList.drop i) t H
  | 0, i, t, H, hn => by
    have : ops.toList.drop i = [] := List.drop_eq_nil_of_le (by simp; omega)
    rw [this]; rfl
  | n + 1, i, t, H, hn => by
    have hi : i < ops.toList.length := by simp; omega
    have hr : (List.range (n + 1)).map (· + i) = i :: (List.range n).map (· + (i + 1)) := by
      rw [List.range_succ_eq_map]; simp [Function.comp_def]; try (intro a _; omega)
    have hd : ops.toList.drop i = ops.toList[i] :: ops.toList.drop (i + 1) := List.drop_eq_getElem_cons hi
    rw [hr, hd]
    have hg : ops[i]? = some ops.toList[i] := by simp at hi ⊢
    simp only [dtr, hg, dgoR]
    have ih := fun t H => dgo_range ops n (i + 1) t H (by omega)
    simp only [ih]
    all_goals rfl
theorem st_draw (id : Nat) (ops : Array Oper) : ST C call (.region id ops true) t H K Q ↔ DGO C call ops ops.toList t H [] K Q := by
  unfold ST DGO
  rw [wp_draw]
  have := dgo_range (C := C) (call := call) ops ops.size 0 t H (by omega)
  simp only [Nat.add_zero, List.map_id', List.drop_zero] at this
  rw [this]
  unfold postD
  cases dgoR C call ops ops.toList t H with
  | none => exact Iff.rfl
  | some r => obtain ⟨tr, v, t', H'⟩ := r; cases v <;> simp
theorem go_nil (ops : Array Oper) : GO C call ops [] t H K Q ↔ EX C call .normal t H K Q := Iff.rfl
theorem go_plain (ops : Array Oper) (dst : Option Tmp) (op : Op) (ty : TypeId) (pos : String) (aft : Array Edge) (os : List Oper) :
    GO C call ops (⟨dst, op, ty, pos, aft, none⟩ :: os) t H K Q ↔ FIN C call ops dst os (adoOp C call ⟨dst, op, ty, pos, aft, none⟩ t H) t K Q := by
  unfold GO FIN
  simp only [goR, Region.wanted, if_true]
  cases adoOp C call ⟨dst, op, ty, pos, aft, none⟩ t H with
  | none => exact Iff.rfl
  | some r => obtain ⟨r, H'⟩ := r; cases r <;> exact Iff.rfl
theorem go_yes {ops : Array Oper} {dst : Option Tmp} {op : Op} {ty : TypeId} {pos : String} {aft : Array Edge} {os : List Oper} {j : Nat} {b : Bool} (h : ayielded ops t j = some b) :
    GO C call ops (⟨dst, op, ty, pos, aft, some (j, b)⟩ :: os) t H K Q ↔ FIN C call ops dst os (adoOp C call ⟨dst, op, ty, pos, aft, some (j, b)⟩ t H) t K Q := by
  have hw : Region.wanted ⟨dst, op, ty, pos, aft, some (j, b)⟩ (ayielded ops t) = true := by simp [Region.wanted, h]
  unfold GO FIN
  simp only [goR, hw, if_true]
  cases adoOp C call ⟨dst, op, ty, pos, aft, some (j, b)⟩ t H with
  | none => exact Iff.rfl
  | some r => obtain ⟨r, H'⟩ := r; cases r <;> exact Iff.rfl
theorem go_no {ops : Array Oper} {dst : Option Tmp} {op : Op} {ty : TypeId} {pos : String} {aft : Array Edge} {os : List Oper} {j : Nat} {b : Bool} (h : ayielded ops t j = some (!b)) :
    GO C call ops (⟨dst, op, ty, pos, aft, some (j, b)⟩ :: os) t H K Q ↔ GO C call ops os (put t dst .undef) H K Q := by
  have hw : Region.wanted ⟨dst, op, ty, pos, aft, some (j, b)⟩ (ayielded ops t) = false := by simp [Region.wanted, h]
  unfold GO
  simp only [goR, hw, Bool.false_eq_true, if_false]
theorem go_none {ops : Array Oper} {dst : Option Tmp} {op : Op} {ty : TypeId} {pos : String} {aft : Array Edge} {os : List Oper} {j : Nat} {b : Bool} (h : ayielded ops t j = none) :
    GO C call ops (⟨dst, op, ty, pos, aft, some (j, b)⟩ :: os) t H K Q ↔ GO C call ops os (put t dst .undef) H K Q := by
  have hw : Region.wanted ⟨dst, op, ty, pos, aft, some (j, b)⟩ (ayielded ops t) = false := by simp [Region.wanted, h]
  unfold GO
  simp only [goR, hw, Bool.false_eq_true, if_false]
theorem fin_ok (ops : Array Oper) (dst : Option Tmp) (os : List Oper) (v : AV) : FIN C call ops dst os (some (.ok v, H)) t K Q ↔ GO C call ops os (put t dst v) H K Q := Iff.rfl
theorem fin_panic (ops : Array Oper) (dst : Option Tmp) (os : List Oper) (v : AV) : FIN C call ops dst os (some (.panic v, H)) t K Q ↔ EX C call (.panic v) t H K Q := Iff.rfl
theorem dgo_nil (ops : Array Oper) (acc : Trace) : DGO C call ops [] t H acc K Q ↔ drawE ops (effs C ops.toList (fun _ o t => Region.wanted o (ayielded ops t)) 0 acc) (reads C ops.toList acc) = true /\ EX C call .normal t H K Q := by
  unfold DGO EX
  simp only [dgoR, List.append_nil, drawOk_eq]
theorem dgo_plain (ops : Array Oper) (dst : Option Tmp) (op : Op) (ty : TypeId) (pos : String) (aft : Array Edge) (os : List Oper) (acc : Trace) :
    DGO C call ops (⟨dst, op, ty, pos, aft, none⟩ :: os) t H acc K Q ↔ DFIN C call ops dst os (adoOp C call ⟨dst, op, ty, pos, aft, none⟩ t H) t H acc K Q := by
  unfold DGO DFIN
  simp only [dgoR, Region.wanted, if_true]
  cases adoOp C call ⟨dst, op, ty, pos, aft, none⟩ t H with
  | none => exact Iff.rfl
  | some r =>
    obtain ⟨r, H'⟩ := r
    cases r with
    | panic v => simp only [List.append_nil, panOk_eq]; exact Iff.rfl
    | ok v =>
      simp only [DGO]
      cases dgoR C call ops os (put t dst v) H' with
      | none => exact Iff.rfl
      | some r => obtain ⟨tr, v, t', H2⟩ := r; cases v <;> simp
theorem dgo_yes {ops : Array Oper} {dst : Option Tmp} {op : Op} {ty : TypeId} {pos : String} {aft : Array Edge} {os : List Oper} {acc : Trace} {j : Nat} {b : Bool} (h : ayielded ops t j = some b) :
    DGO C call ops (⟨dst, op, ty, pos, aft, some (j, b)⟩ :: os) t H acc K Q ↔ DFIN C call ops dst os (adoOp C call ⟨dst, op, ty, pos, aft, some (j, b)⟩ t H) t H acc K Q := by
  have hw : Region.wanted ⟨dst, op, ty, pos, aft, some (j, b)⟩ (ayielded ops t) = true := by simp [Region.wanted, h]
  unfold DGO DFIN
  simp only [dgoR, hw, if_true]
  cases adoOp C call ⟨dst, op, ty, pos, aft, some (j, b)⟩ t H with
  | none => exact Iff.rfl
  | some r =>
    obtain ⟨r, H'⟩ := r
    cases r with
    | panic v => simp only [List.append_nil, panOk_eq]; exact Iff.rfl
    | ok v =>
      simp only [DGO]
      cases dgoR C call ops os (put t dst v) H' with
      | none => exact Iff.rfl
      | some r => obtain ⟨tr, v, t', H2⟩ := r; cases v <;> simp
theorem dgo_no {ops : Array Oper} {dst : Option Tmp} {op : Op} {ty : TypeId} {pos : String} {aft : Array Edge} {os : List Oper} {acc : Trace} {j : Nat} {b : Bool} (h : ayielded ops t j = some (!b)) :
    DGO C call ops (⟨dst, op, ty, pos, aft, some (j, b)⟩ :: os) t H acc K Q ↔ DGO C call ops os (put t dst .undef) H (acc ++ [(t, H, .undef)]) K Q := by
  have hw : Region.wanted ⟨dst, op, ty, pos, aft, some (j, b)⟩ (ayielded ops t) = false := by simp [Region.wanted, h]
  unfold DGO
  simp only [dgoR, hw, Bool.false_eq_true, if_false]
  cases dgoR C call ops os (put t dst .undef) H with
  | none => exact Iff.rfl
  | some r => obtain ⟨tr, v, t', H2⟩ := r; cases v <;> simp
theorem dgo_none {ops : Array Oper} {dst : Option Tmp} {op : Op} {ty : TypeId} {pos : String} {aft : Array Edge} {os : List Oper} {acc : Trace} {j : Nat} {b : Bool} (h : ayielded ops t j = none) :
    DGO C call ops (⟨dst, op, ty, pos, aft, some (j, b)⟩ :: os) t H acc K Q ↔ DGO C call ops os (put t dst .undef) H (acc ++ [(t, H, .undef)]) K Q := by
  have hw : Region.wanted ⟨dst, op, ty, pos, aft, some (j, b)⟩ (ayielded ops t) = false := by simp [Region.wanted, h]
  unfold DGO
  simp only [dgoR, hw, Bool.false_eq_true, if_false]
  cases dgoR C call ops os (put t dst .undef) H with
  | none => exact Iff.rfl
  | some r => obtain ⟨tr, v, t', H2⟩ := r; cases v <;> simp
theorem dfin_panic (ops : Array Oper) (dst : Option Tmp) (os : List Oper) (v : AV) (H1 : Heap) (acc : Trace) : DFIN C call ops dst os (some (.panic v, H1)) t H acc K Q ↔ panE C ops t acc.length (effs C ops.toList (fun _ o t => Region.wanted o (ayielded ops t)) 0 acc) (reads C ops.toList acc) = true /\ EX C call (.pan v) t H1 K Q := Iff.rfl
theorem dfin_ok (ops : Array Oper) (dst : Option Tmp) (os : List Oper) (v : AV) (H1 : Heap) (acc : Trace) : DFIN C call ops dst os (some (.ok v, H1)) t H acc K Q ↔ DGO C call ops os (put t dst v) H1 (acc ++ [(t, H, v)]) K Q := Iff.rfl
theorem st_loop {c : Code} (I : Nat -> List AV -> Heap -> Prop) (N : Nat) (h0 : I 0 t H) (hs : ∀ i t H, I i t H -> i ≤ N /\ ∃ Q', (∀ t H, Q' .normal t H -> I (i + 1) t H) /\ (∀ x t H, x ≠ .normal -> Q' x t H -> EX C call x t H K Q) /\ ST C call c t H [] Q') : ST C call (.loop c) t H K Q := by
  refine wp_loop I N h0 fun i t H hI => ?_
  obtain ⟨h1, Q', h2, h3, h4⟩ := hs i t H hI
  refine ⟨h1, WP.mono h4 fun x t H h => ?_⟩
  cases x with
  | normal => exact h2 _ _ h
  | _ => exact h3 _ _ _ (by simp) h
end
def LQ (C : Cfg) (call : Caller) (P : List AV -> Heap -> Prop) (K : List Fr) (Q : QPost) : QPost := fun x t H => match x with | .normal => P t H | x => EX C call x t H K Q
theorem lq_normal {C : Cfg} {call : Caller} {P : List AV -> Heap -> Prop} {K : List Fr} {Q : QPost} {t : List AV} {H : Heap} : LQ C call P K Q .normal t H ↔ P t H := Iff.rfl
theorem lq_exit {C : Cfg} {call : Caller} {P : List AV -> Heap -> Prop} {K : List Fr} {Q : QPost} {t : List AV} {H : Heap} (j : Nat) : LQ C call P K Q (.exit j) t H ↔ EX C call (.exit j) t H K Q := Iff.rfl
theorem lq_panic {C : Cfg} {call : Caller} {P : List AV -> Heap -> Prop} {K : List Fr} {Q : QPost} {t : List AV} {H : Heap} (v : AV) : LQ C call P K Q (.panic v) t H ↔ EX C call (.panic v) t H K Q := Iff.rfl
theorem lq_pan {C : Cfg} {call : Caller} {P : List AV -> Heap -> Prop} {K : List Fr} {Q : QPost} {t : List AV} {H : Heap} (v : AV) : LQ C call P K Q (.pan v) t H ↔ EX C call (.pan v) t H K Q := Iff.rfl
theorem lq_ret {C : Cfg} {call : Caller} {P : List AV -> Heap -> Prop} {K : List Fr} {Q : QPost} {t : List AV} {H : Heap} : LQ C call P K Q .ret t H ↔ EX C call .ret t H K Q := Iff.rfl
theorem st_iter {C : Cfg} {call : Caller} {t : List AV} {H : Heap} {Q : QPost} {K : List Fr} {c : Code} (I : Nat -> List AV -> Heap -> Prop) (N : Nat) (h0 : I 0 t H)
    (hs : ∀ i t H, I i t H -> i ≤ N /\ ST C call c t H [] (LQ C call (I (i + 1)) K Q)) : ST C call (.loop c) t H K Q := by
  refine st_loop I N h0 fun i t H hI => ⟨(hs i t H hI).1, _, fun t H h => h, fun x t H hx h => ?_, (hs i t H hI).2⟩
  cases x with
  | normal => exact absurd rfl hx
  | _ => exact h
def Fit : List (Option AV) -> List AV -> Prop
  | [], [] => True
  | none :: p, _ :: t => Fit p t
  | some v :: p, x :: t => x = v /\ Fit p t
  | _, _ => False
def fill (d : Nat -> AV) : List (Option AV) -> Nat -> List AV
  | [], _ => []
  | none :: p, i => d i :: fill d p (i + 1)
  | some v :: p, i => v :: fill d p (i + 1)
theorem Fit.elim0 : ∀ (p : List (Option AV)) (t : List AV) (i : Nat) (d : Nat -> AV), Fit p t -> (∀ j, d (i + j) = t.getD j .undef) -> t = fill d p i
  | [], [], i, d, _, _ => rfl
  | [], _ :: _, i, d, h, _ => h.elim
  | none :: p, [], i, d, h, _ => h.elim
  | some v :: p, [], i, d, h, _ => h.elim
  | none :: p, x :: t, i, d, h, hd => by
    have h0 := hd 0
    simp only [Nat.add_zero, List.getD_cons_zero] at h0
    simp only [fill, h0]
    rw [<- Fit.elim0 p t (i + 1) d h fun j => by have := hd (j + 1); rwa [List.getD_cons_succ, <- Nat.add_assoc, Nat.add_right_comm] at this]
  | some v :: p, x :: t, i, d, h, hd => by
    obtain ⟨rfl, h⟩ := h
    simp only [fill]
    rw [<- Fit.elim0 p t (i + 1) d h fun j => by have := hd (j + 1); rwa [List.getD_cons_succ, <- Nat.add_assoc, Nat.add_right_comm] at this]
theorem Fit.elim {p : List (Option AV)} {t : List AV} (h : Fit p t) : ∃ d, t = fill d p 0 :=
  ⟨fun j => t.getD j .undef, Fit.elim0 p t 0 _ h fun j => by rw [Nat.zero_add]⟩
def RESP (C : Cfg) (rs : List ResultVar) (r : AV) : QPost := fun x t H => (x = .normal \/ x = .ret) /\ ∃ l, aresults C t H rs = some l /\ (match l with | [v] => v.erase = r | l => AV.tup (eraseL l) = r)
theorem resp_ret {C : Cfg} {rs : List ResultVar} {r : AV} {t : List AV} {H : Heap} : RESP C rs r .ret t H ↔ ∃ l, aresults C t H rs = some l /\ (match l with | [v] => v.erase = r | l => AV.tup (eraseL l) = r) := by simp [RESP]
theorem resp_normal {C : Cfg} {rs : List ResultVar} {r : AV} {t : List AV} {H : Heap} : RESP C rs r .normal t H ↔ ∃ l, aresults C t H rs = some l /\ (match l with | [v] => v.erase = r | l => AV.tup (eraseL l) = r) := by simp [RESP]
theorem resp_hand {C : Cfg} {fn : Func} {rs : List ResultVar} {r : AV} {t : List AV} {H : Heap} {x : AExit} (hr : fn.results.toList = rs) (h : RESP C rs r x t H) : (x = .normal \/ x = .ret) /\ ∃ H1, ahand C false fn t H = some (.ok r, H1) := by
  obtain ⟨hx, l, h1, h2⟩ := h
  refine ⟨hx, H, ?_⟩
  unfold ahand
  rw [hr, h1]
  simp only [Bool.false_eq_true, if_false]
  match l, h2 with
  | [], h2 => simp only at h2; rw [<- h2]
  | [v], h2 => simp only at h2; rw [<- h2]
  | v :: w :: r, h2 => simp only at h2; rw [<- h2]
end Go.Tv
namespace Go.Tv
mutual
theorem tree_ids : ∀ v : AV, v.tree = true -> v.ids = []
  | .agg cs, h => by simp only [AV.tree] at h; simp only [AV.ids]; exact treeL_ids cs h
  | .tup cs, h => by simp only [AV.tree] at h; simp only [AV.ids]; exact treeL_ids cs h
  | .tptr cs, h => by simp only [AV.tree] at h; simp only [AV.ids]; exact treeL_ids cs h
  | .list els tok, h => by
    simp only [AV.tree, Bool.and_eq_true, Option.isNone_iff_eq_none] at h
    simp only [AV.ids, h.1, treeL_ids els h.2, List.append_nil]
  | .fn _ a b, h => by simp only [AV.tree, Bool.and_eq_true] at h; simp only [AV.ids, treeL_ids a h.1, treeL_ids b h.2, List.append_nil]
  | .iface _ v, h => by simp only [AV.tree] at h; simp only [AV.ids]; exact tree_ids v h
  | .ptr _ _, h => by simp [AV.tree] at h
  | .slc _ _ _ _ _, h => by simp [AV.tree] at h
  | .mapr _, h => by simp [AV.tree] at h
  | .bool _, _ | .int _ _, _ | .str _, _ | .nilFn, _ | .nilIface, _ | .nilPtr, _ | .nilMap, _ | .empty, _ | .nilS, _ | .someS, _ => by simp [AV.ids]
theorem treeL_ids : ∀ l : List AV, treeL l = true -> idsL l = []
  | [], _ => rfl
  | v :: r, h => by
    simp only [treeL, Bool.and_eq_true] at h
    simp only [idsL, tree_ids v h.1, treeL_ids r h.2, List.append_nil]
end
theorem maskH_at (R : List Nat) : ∀ (H : Heap) (i j : Nat), (mask R i H)[j]? = (H[j]?).map fun o => if R.contains (i + j) then o else .dead
  | [], i, j => by simp [mask]
  | o :: r, i, 0 => by simp [mask]
  | o :: r, i, j + 1 => by
    simp only [mask, List.getElem?_cons_succ]
    rw [maskH_at R r (i + 1) j, show i + 1 + j = i + (j + 1) by omega]
theorem maskH_sz (R : List Nat) : ∀ (H : Heap) (i : Nat), (mask R i H).length = H.length
  | [], i => rfl
  | o :: r, i => by simp [mask, maskH_sz R r (i + 1)]
theorem unmaskH_sz (R : List Nat) : ∀ (H H1 : Heap) (i : Nat), (unmask R i H H1).length = H1.length
  | [], H1, i => by cases H1 <;> rfl
  | o :: r, [], i => rfl
  | o :: r, o1 :: r1, i => by simp [unmask, unmaskH_sz R r r1 (i + 1)]
theorem unmaskH_at (R : List Nat) : ∀ (H H1 : Heap) (i j : Nat), H.length ≤ H1.length -> (unmask R i H H1)[j]? = if j < H.length /\ R.contains (i + j) = false then H[j]? else H1[j]?
  | [], H1, i, j, _ => by cases H1 <;> simp [unmask]
  | o :: r, [], i, j, h => by simp at h
  | o :: r, o1 :: r1, i, 0, h => by
    simp only [unmask, List.getElem?_cons_zero, Nat.add_zero, List.length_cons]
    cases R.contains i <;> simp
  | o :: r, o1 :: r1, i, j + 1, h => by
    simp only [unmask, List.getElem?_cons_succ]
    rw [unmaskH_at R r r1 (i + 1) j (by simpa using h), show i + 1 + j = i + (j + 1) by omega]
    simp
def RESPO (C : Cfg) (rs : List ResultVar) (P : AV -> Heap -> Prop) : QPost := fun x t H => (x = .normal \/ x = .ret) /\ ∃ l, aresults C t H rs = some l /\ (match l with | [v] => P v.erase H | l => P (AV.tup (eraseL l)) H)
theorem respo_ret {C : Cfg} {rs : List ResultVar} {P : AV -> Heap -> Prop} {t : List AV} {H : Heap} : RESPO C rs P .ret t H ↔ ∃ l, aresults C t H rs = some l /\ (match l with | [v] => P v.erase H | l => P (AV.tup (eraseL l)) H) := by simp [RESPO]
theorem respo_normal {C : Cfg} {rs : List ResultVar} {P : AV -> Heap -> Prop} {t : List AV} {H : Heap} : RESPO C rs P .normal t H ↔ ∃ l, aresults C t H rs = some l /\ (match l with | [v] => P v.erase H | l => P (AV.tup (eraseL l)) H) := by simp [RESPO]
def RESPF (C : Cfg) (fz : Bool) (rs : List ResultVar) (P : AV -> Heap -> Prop) : QPost := fun x t H => (x = .normal \/ x = .ret) /\ ∃ l l' H', aresults C t H rs = some l /\ (if fz then frzL l H else some (l, H)) = some (l', H') /\ (match l' with | [v] => P v.erase H' | l => P (AV.tup (eraseL l)) H')
theorem respf_ret {C : Cfg} {fz : Bool} {rs : List ResultVar} {P : AV -> Heap -> Prop} {t : List AV} {H : Heap} : RESPF C fz rs P .ret t H ↔ ∃ l l' H', aresults C t H rs = some l /\ (if fz then frzL l H else some (l, H)) = some (l', H') /\ (match l' with | [v] => P v.erase H' | l => P (AV.tup (eraseL l)) H') := by simp [RESPF]
theorem respf_normal {C : Cfg} {fz : Bool} {rs : List ResultVar} {P : AV -> Heap -> Prop} {t : List AV} {H : Heap} : RESPF C fz rs P .normal t H ↔ ∃ l l' H', aresults C t H rs = some l /\ (if fz then frzL l H else some (l, H)) = some (l', H') /\ (match l' with | [v] => P v.erase H' | l => P (AV.tup (eraseL l)) H') := by simp [RESPF]
theorem respf_hand {C : Cfg} {fz : Bool} {fn : Func} {rs : List ResultVar} {P : AV -> Heap -> Prop} {t : List AV} {H : Heap} {x : AExit} (hr : fn.results.toList = rs) (h : RESPF C fz rs P x t H) : (x = .normal \/ x = .ret) /\ ∃ v H', ahand C fz fn t H = some (.ok v, H') /\ P v H' := by
  obtain ⟨hx, l, l', H', h1, h2, h3⟩ := h
  refine ⟨hx, ?_⟩
  unfold ahand
  rw [hr, h1]
  simp only [h2]
  match l', h3 with
  | [], h3 => exact ⟨_, _, rfl, h3⟩
  | [v], h3 => exact ⟨_, _, rfl, h3⟩
  | v :: w :: r, h3 => exact ⟨_, _, rfl, h3⟩
theorem call_treeF {C C' : Cfg} {f : FuncId} {fn : Func} {args : List AV} {r : AV} {H : Heap} {c : Code} {rs : List ResultVar} {n : Nat} {fz : Bool} (hp : C.prim f = none) (hf : C.P.funcs[C.real f]? = some fn) (hc : C.clone f = false) (ha : C.at f = C') (hz : C.frz f = fz) (hm : C.makes f = false)
    (ht : treeL args = true) (hb : fn.body = some c) (hn : noDefer c = true) (hs : fn.results.toList = rs) (hnt : fn.ntmps = n) (hr : r.tree = true)
    (h : ST C' (Call C) c (args ++ List.replicate (n - args.length) .undef) [] [] (RESPF C' fz rs fun v _ => v = r)) : Call C f args H = some (.ok r, H) := by
  obtain ⟨k, hk⟩ := h
  obtain ⟨x, t, H2, h1, h2⟩ := post_elim hk
  obtain ⟨hx, v, H', h3, rfl⟩ := respf_hand hs h2
  have h1' : arun C' (Call C) k c (frame fn args) [] = some (x, t, H2) := by unfold frame; rw [hnt]; exact h1
  exact call_afn (c := c) (k := k) (x := x) (t := t) (H1 := H') (H2 := H2) hp hf (by rw [hc]; rfl) (by rw [ht, hm]; rfl) hb hn (by rw [ha]; exact h1') hx (by rw [ha, hz]; exact h3) hr
theorem call_objsF {C C' : Cfg} {f : FuncId} {fn : Func} {args : List AV} {P : AV -> Heap -> Prop} {H : Heap} {c : Code} {rs : List ResultVar} {n : Nat} {R : List Nat} {fz : Bool} (hp : C.prim f = none) (hhp : C.hprim f = none) (hfa : C.frzA f = false) (hf : C.P.funcs[C.real f]? = some fn) (hc : (C.clone f && isEmptyArg args) = false) (ha : C.at f = C') (hz : C.frz f = fz)
    (ht : (treeL args && !C.makes f) = false) (hR : reachL H args = R) (hcl : (closed H R && (idsL args).all R.contains) = true) (hb : fn.body = some c) (hn : noDefer c = true) (hs : fn.results.toList = rs) (hm : fn.ntmps = n)
    (h : ∀ M : Heap, M.length = H.length -> (∀ j ∈ R, M[j]? = H[j]?) -> ST C' (Call C) c (args ++ List.replicate (n - args.length) .undef) M [] (RESPF C' fz rs fun v H1 => H.length ≤ H1.length /\ P v H1)) :
    ∃ v H1 H', Call C f args H = some (.ok v, H') /\ P v H1 /\ H.length ≤ H1.length /\ H'.length = H1.length /\ (∀ j, j ∈ R -> H'[j]? = H1[j]?) /\ (∀ j, j < H.length -> j ∉ R -> H'[j]? = H[j]?) /\ (∀ j, H.length ≤ j -> H'[j]? = H1[j]?) := by
  subst hR
  have hM := h (mask (reachL H args) 0 H) (maskH_sz _ _ _) fun j hj => by
    rw [maskH_at]
    cases H[j]? with
    | none => rfl
    | some o => simp [hj]
  obtain ⟨k, hk⟩ := hM
  obtain ⟨x, t, H2, h1, h2⟩ := post_elim hk
  obtain ⟨hx, v, H1, h4, h5, h6⟩ := respf_hand hs h2
  have h1' : arun C' (Call C) k c (frame fn args) (mask (reachL H args) 0 H) = some (x, t, H2) := by unfold frame; rw [hm]; exact h1
  refine ⟨v, H1, _, call_obj (c := c) (k := k) (x := x) (t := t) (H1 := H1) (H2 := H2) hp hhp hfa hf hc ht hcl hb hn (by rw [ha]; exact h1') hx (by rw [ha, hz]; exact h4) h5, h6, h5, unmaskH_sz _ _ _ _, fun j hj => ?_, fun j hj hj2 => ?_, fun j hj => ?_⟩
  . rw [unmaskH_at _ _ _ _ _ h5, if_neg]
    rintro ⟨_, h7⟩
    rw [Nat.zero_add, List.contains_iff_mem.2 hj] at h7; cases h7
  . rw [unmaskH_at _ _ _ _ _ h5, if_pos]
    refine ⟨hj, ?_⟩
    rw [Nat.zero_add]
    cases hc : (reachL H args).contains j with
    | false => rfl
    | true => exact absurd (List.contains_iff_mem.1 hc) hj2
  . rw [unmaskH_at _ _ _ _ _ h5, if_neg (by omega)]
theorem call_objs {C : Cfg} {f : FuncId} {fn : Func} {args : List AV} {P : AV -> Heap -> Prop} {H : Heap} {c : Code} {rs : List ResultVar} {n : Nat} {R : List Nat} (hp : C.prim f = none) (hhp : C.hprim f = none) (hfa : C.frzA f = false) (hf : C.P.funcs[C.real f]? = some fn) (hc : C.clone f = false) (ha : C.at f = C) (hz : C.frz f = false)
    (ht : treeL args = false) (hR : reachL H args = R) (hcl : (closed H R && (idsL args).all R.contains) = true) (hb : fn.body = some c) (hn : noDefer c = true) (hs : fn.results.toList = rs) (hm : fn.ntmps = n)
    (h : ∀ M : Heap, M.length = H.length -> (∀ j ∈ R, M[j]? = H[j]?) -> ST C (Call C) c (args ++ List.replicate (n - args.length) .undef) M [] (RESPO C rs fun v H1 => H.length ≤ H1.length /\ P v H1)) :
    ∃ v H1 H', Call C f args H = some (.ok v, H') /\ P v H1 /\ H.length ≤ H1.length /\ H'.length = H1.length /\ (∀ j, j ∈ R -> H'[j]? = H1[j]?) /\ (∀ j, j < H.length -> j ∉ R -> H'[j]? = H[j]?) := by
  subst hR
  have hM := h (mask (reachL H args) 0 H) (maskH_sz _ _ _) fun j hj => by
    rw [maskH_at]
    cases H[j]? with
    | none => rfl
    | some o => simp [hj]
  obtain ⟨k, hk⟩ := hM
  obtain ⟨x, t, H2, h1, hx, l, h2, h3⟩ := post_elim hk
  have hh : ∃ v, ahand C false fn t H2 = some (.ok v, H2) /\ H.length ≤ H2.length /\ P v H2 := by
    unfold ahand
    rw [hs, h2]
    simp only [Bool.false_eq_true, if_false]
    match l, h3 with
    | [], h3 => exact ⟨_, rfl, h3⟩
    | [v], h3 => exact ⟨_, rfl, h3⟩
    | v :: w :: r, h3 => exact ⟨_, rfl, h3⟩
  obtain ⟨v, h4, h5, h6⟩ := hh
  have h1' : arun C (Call C) k c (frame fn args) (mask (reachL H args) 0 H) = some (x, t, H2) := by unfold frame; rw [hm]; exact h1
  refine ⟨v, H2, _, call_obj (c := c) (k := k) (x := x) (t := t) (H1 := H2) (H2 := H2) hp hhp hfa hf (by rw [hc]; rfl) (by rw [ht]; rfl) hcl hb hn (by rw [ha]; exact h1') hx (by rw [ha, hz]; exact h4) h5, h6, h5, unmaskH_sz _ _ _ _, fun j hj => ?_, fun j hj hj2 => ?_⟩
  . rw [unmaskH_at _ _ _ _ _ h5, if_neg]
    rintro ⟨_, h7⟩
    rw [Nat.zero_add, List.contains_iff_mem.2 hj] at h7; cases h7
  . rw [unmaskH_at _ _ _ _ _ h5, if_pos]
    refine ⟨hj, ?_⟩
    rw [Nat.zero_add]
    cases hc : (reachL H args).contains j with
    | false => rfl
    | true => exact absurd (List.contains_iff_mem.1 hc) hj2
end Go.Tv
namespace Go.Tv
section
variable {C : Cfg} {ch : Nat -> Caller} {call : Caller}
theorem aopsD_lim (hl : Lim ch call) {ops : Array Oper} : ∀ (l : List Nat) {t : List AV} {H : Heap} {r}, aopsD C call ops l t H = some r -> ∃ n, aopsD C (ch n) ops l t H = some r
  | [], t, H, r, h => ⟨0, h⟩
  | i :: rest, t, H, r, h => by
    simp only [aopsD] at h ⊢
    cases ho : ops[i]? with
    | none => simp [ho] at h
    | some o =>
      simp only [ho] at h ⊢
      split at h
      . rename_i hw
        simp only [if_pos hw]
        split at h
        . rename_i hd; simp only [if_pos hd]; exact ⟨0, h⟩
        . rename_i hd; simp only [if_neg hd]
          split at h
          . rename_i v H' hv
            obtain ⟨n1, h1⟩ := adoOp_lim hl hv
            obtain ⟨n2, h2⟩ := aopsD_lim hl rest h
            refine ⟨max n1 n2, ?_⟩
            simp only [adoOp_mono (hl.mono (Nat.le_max_left n1 n2)) h1]
            exact aopsD_mono (hl.mono (Nat.le_max_right n1 n2)) rest h2
          . rename_i v H' hv
            obtain ⟨n1, h1⟩ := adoOp_lim hl hv
            exact ⟨n1, by simp only [h1]; exact h⟩
          . cases h
      . rename_i hw
        simp only [if_neg hw]
        exact aopsD_lim hl rest h
theorem arunD_lim (hl : Lim ch call) {k : Nat} : ∀ (c : Code) {t : List AV} {H : Heap} {r}, arunD C call k c t H = some r -> ∃ n, arunD C (ch n) k c t H = some r := by
  intro c
  induction c with
  | seq a b ih1 ih2 =>
    intro t H r h
    simp only [arunD] at h ⊢
    split at h
    . rename_i t' H' h1
      obtain ⟨n1, q1⟩ := ih1 h1
      obtain ⟨n2, q2⟩ := ih2 h
      refine ⟨max n1 n2, ?_⟩
      simp only [arunD_mono (hl.mono (Nat.le_max_left n1 n2)) (Nat.le_refl k) a q1]
      exact arunD_mono (hl.mono (Nat.le_max_right n1 n2)) (Nat.le_refl k) b q2
    . rename_i g d t' H' h1
      split at h <;> try (cases h; done)
      rename_i x t2 H2 h2
      obtain ⟨n1, q1⟩ := ih1 h1
      obtain ⟨n2, q2⟩ := arun_lim hl b h2
      refine ⟨max n1 n2, ?_⟩
      simp only [arunD_mono (hl.mono (Nat.le_max_left n1 n2)) (Nat.le_refl k) a q1, arun_mono (hl.mono (Nat.le_max_right n1 n2)) (Nat.le_refl k) b q2]; exact h
    . rename_i hn1 hn2
      obtain ⟨n1, q1⟩ := ih1 h
      refine ⟨n1, ?_⟩
      rw [q1]
      split
      . rename_i t' H' e; injection e with e; subst e; exact absurd h (hn1 t' H')
      . rename_i g d t' H' e; injection e with e; subst e; exact absurd h (hn2 g d t' H')
      . rfl
  | region id ops draw =>
    intro t H r h
    simp only [arunD] at h ⊢
    split at h
    . rename_i hd; simp only [if_pos hd]; exact aopsD_lim hl _ h
    . rename_i hd; simp only [if_neg hd]
      split at h <;> try (cases h; done)
      rename_i x t' H' h1
      obtain ⟨n, q⟩ := arun_lim hl _ h1
      exact ⟨n, by simp only [q]; exact h⟩
  | _ =>
    intro t H r h
    simp only [arunD] at h ⊢
    split at h <;> try (cases h; done)
    rename_i x t' H' h1
    obtain ⟨n, q⟩ := arun_lim hl _ h1
    exact ⟨n, by simp only [q]; exact h⟩
theorem arunR_lim (hl : Lim ch call) {k : Nat} {v : AV} : ∀ (c : Code) {t : List AV} {H : Heap} {r}, arunR C call k v c t H = some r -> ∃ n, arunR C (ch n) k v c t H = some r := by
  intro c
  induction c with
  | seq a b ih1 ih2 =>
    intro t H r h
    simp only [arunR] at h ⊢
    split at h
    . rename_i t' H' h1
      obtain ⟨n1, q1⟩ := ih1 h1
      obtain ⟨n2, q2⟩ := arun_lim hl b h
      refine ⟨max n1 n2, ?_⟩
      simp only [arunR_mono (hl.mono (Nat.le_max_left n1 n2)) (Nat.le_refl k) a q1]
      exact arun_mono (hl.mono (Nat.le_max_right n1 n2)) (Nat.le_refl k) b q2
    . rename_i hne
      obtain ⟨n1, q1⟩ := ih1 h
      refine ⟨n1, ?_⟩
      rw [q1]
      split
      . rename_i t' H' e; injection e with e; subst e; exact absurd h (hne t' H')
      . rfl
  | region id ops draw =>
    intro t H r h
    simp only [arunR] at h ⊢
    split at h <;> try (cases h; done)
    rename_i i rest o hl' ho
    split at h <;> try (cases h; done)
    rename_i hr
    obtain ⟨n, q⟩ := aops_lim hl rest h
    exact ⟨n, by simp only [hr, if_true]; exact q⟩
  | _ => intro t H r h; simp [arunR] at h
theorem alater_lim (hl : Lim ch call) {k : Nat} {g : FuncId} {d : List AV} {p : Option AV} {H : Heap} {r} (h : alater C call k g d p H = some r) : ∃ n, alater C (ch n) k g d p H = some r := by
  unfold alater at h ⊢
  split at h <;> try (cases h; done)
  rename_i fn hfn
  split at h <;> try (cases h; done)
  rename_i c hb
  split at h <;> try (cases h; done)
  rename_i hr
  simp only [if_pos hr]
  split at h
  . rename_i hrec
    simp only [if_pos hrec]
    split at h <;> try (cases h; done)
    . rename_i t' H' h1; obtain ⟨n, q⟩ := arunR_lim hl c h1; exact ⟨n, by simp only [q]; exact h⟩
    . rename_i t' H' h1; obtain ⟨n, q⟩ := arunR_lim hl c h1; exact ⟨n, by simp only [q]; exact h⟩
  . rename_i hrec
    simp only [if_neg hrec]
    split at h <;> try (cases h; done)
    . rename_i t' H' h1; obtain ⟨n, q⟩ := arun_lim hl c h1; exact ⟨n, by simp only [q]; exact h⟩
    . rename_i t' H' h1; obtain ⟨n, q⟩ := arun_lim hl c h1; exact ⟨n, by simp only [q]; exact h⟩
theorem afn_lim (hl : Lim ch call) {k : Nat} {fz : Bool} {fn : Func} {args : List AV} {H : Heap} {r} (h : afn C call k fz fn args H = some r) : ∃ n, afn C (ch n) k fz fn args H = some r := by
  unfold afn at h ⊢
  cases hb : fn.body with
  | none => simp [hb] at h
  | some c =>
    simp only [hb] at h ⊢
    split at h <;> try (cases h; done)
    . rename_i t H' h1; obtain ⟨n, q⟩ := arunD_lim hl c h1; exact ⟨n, by simp only [q]; exact h⟩
    . rename_i t H' h1; obtain ⟨n, q⟩ := arunD_lim hl c h1; exact ⟨n, by simp only [q]; exact h⟩
    . rename_i t H' h1; obtain ⟨n, q⟩ := arunD_lim hl c h1; exact ⟨n, by simp only [q]; exact h⟩
    . rename_i t H' h1; obtain ⟨n, q⟩ := arunD_lim hl c h1; exact ⟨n, by simp only [q]; exact h⟩
    . rename_i g d t H' h1; obtain ⟨n1, q1⟩ := arunD_lim hl c h1
      split at h <;> try (cases h; done)
      rename_i q H2 h2; obtain ⟨n2, q2⟩ := alater_lim hl h2
      exact ⟨max n1 n2, by simp only [arunD_mono (hl.mono (Nat.le_max_left n1 n2)) (Nat.le_refl k) c q1, alater_mono (hl.mono (Nat.le_max_right n1 n2)) (Nat.le_refl k) q2]; exact h⟩
    . rename_i g d t H' h1; obtain ⟨n1, q1⟩ := arunD_lim hl c h1
      split at h <;> try (cases h; done)
      rename_i q H2 h2; obtain ⟨n2, q2⟩ := alater_lim hl h2
      exact ⟨max n1 n2, by simp only [arunD_mono (hl.mono (Nat.le_max_left n1 n2)) (Nat.le_refl k) c q1, alater_mono (hl.mono (Nat.le_max_right n1 n2)) (Nat.le_refl k) q2]; exact h⟩
    . rename_i g d v t H' h1; obtain ⟨n1, q1⟩ := arunD_lim hl c h1
      split at h <;> try (cases h; done)
      . rename_i H2 h2; obtain ⟨n2, q2⟩ := alater_lim hl h2
        exact ⟨max n1 n2, by simp only [arunD_mono (hl.mono (Nat.le_max_left n1 n2)) (Nat.le_refl k) c q1, alater_mono (hl.mono (Nat.le_max_right n1 n2)) (Nat.le_refl k) q2]; exact h⟩
      . rename_i v2 H2 h2; obtain ⟨n2, q2⟩ := alater_lim hl h2
        exact ⟨max n1 n2, by simp only [arunD_mono (hl.mono (Nat.le_max_left n1 n2)) (Nat.le_refl k) c q1, alater_mono (hl.mono (Nat.le_max_right n1 n2)) (Nat.le_refl k) q2]; exact h⟩
    . rename_i g d v t H' h1; obtain ⟨n1, q1⟩ := arunD_lim hl c h1
      split at h <;> try (cases h; done)
      rename_i v2 H2 h2; obtain ⟨n2, q2⟩ := alater_lim hl h2
      exact ⟨max n1 n2, by simp only [arunD_mono (hl.mono (Nat.le_max_left n1 n2)) (Nat.le_refl k) c q1, alater_mono (hl.mono (Nat.le_max_right n1 n2)) (Nat.le_refl k) q2]; exact h⟩
end
theorem call_objA {C : Cfg} {f : FuncId} {fn : Func} {args : List AV} {r : ARet} {H H1 : Heap} {k : Nat} (hp : C.prim f = none) (hhp : C.hprim f = none) (hfa : C.frzA f = false) (hf : C.P.funcs[C.real f]? = some fn) (hc : (C.clone f && isEmptyArg args) = false)
    (ht : (treeL args && !C.makes f) = false) (hcl : (closed H (reachL H args) && (idsL args).all (reachL H args).contains) = true)
    (h : afn (C.at f) (Call C) k (C.frz f) fn args (mask (reachL H args) 0 H) = some (r, H1)) (hlen : H.length ≤ H1.length) : Call C f args H = some (r, unmask (reachL H args) 0 H H1) := by
  obtain ⟨n, hn'⟩ := afn_lim (Call_lim C) h
  have h2 : afn (C.at f) (acall C (max n k)) (max n k) (C.frz f) fn args (mask (reachL H args) 0 H) = some (r, H1) := afn_mono (acall_mono (Nat.le_max_left n k)) (Nat.le_max_right n k) hn'
  refine Call_of (n := max n k + 1) ?_
  rw [acall]
  have hhn : (if treeL args = true then none else C.hprim f) = none := by rw [hhp]; split <;> rfl
  simp only [hp, hhn, hf, hc, ht, hcl, hfa, Bool.false_and, Bool.false_eq_true, if_false, if_true, h2, if_pos hlen]
def SD (C : Cfg) (call : Caller) (c : Code) (t : List AV) (H : Heap) (Q : DOut -> Prop) : Prop := ∃ k, match arunD C call k c t H with | some o => Q o | none => False
def LAT (C : Cfg) (call : Caller) (g : FuncId) (d : List AV) (p : Option AV) (H : Heap) (Q : Option AV -> Heap -> Prop) : Prop := ∃ k q H2, alater C call k g d p H = some (q, H2) /\ Q q H2
def HAND (C : Cfg) (rs : List ResultVar) (P : ARet -> Heap -> Prop) (t : List AV) (H : Heap) : Prop := ∃ l, aresults C t H rs = some l /\ (match l with | [v] => P (.ok v.erase) H | l => P (.ok (AV.tup (eraseL l))) H)
def RESPA (C : Cfg) (rs : List ResultVar) (P : ARet -> Heap -> Prop) : QPost := fun x t H => match x with
  | .normal => HAND C rs P t H
  | .ret => HAND C rs P t H
  | .panic v => P (.panic v.erase) H
  | .pan v => P (.panic v.erase) H
  | .exit _ => False
def RESPD (C : Cfg) (call : Caller) (rs : List ResultVar) (P : ARet -> Heap -> Prop) (g : FuncId) (d : List AV) : QPost := fun x t H => match x with
  | .normal => LAT C call g d none H fun _ H2 => HAND C rs P t H2
  | .ret => LAT C call g d none H fun _ H2 => HAND C rs P t H2
  | .panic v => LAT C call g d (some v) H fun q H2 => match q with | none => HAND C rs P t H2 | some _ => P (.panic v.erase) H2
  | .pan v => LAT C call g d (some v) H fun q H2 => q.isSome = true /\ P (.panic v.erase) H2
  | .exit _ => False
def RESD (C : Cfg) (call : Caller) (rs : List ResultVar) (P : ARet -> Heap -> Prop) : DOut -> Prop
  | .plain x t H => RESPA C rs P x t H
  | .later g d x t H => RESPD C call rs P g d x t H
theorem hand_of {C : Cfg} {fn : Func} {rs : List ResultVar} (hs : fn.results.toList = rs) {P : ARet -> Heap -> Prop} {t : List AV} {H : Heap} (h : HAND C rs P t H) : ∃ r H', ahand C false fn t H = some (r, H') /\ P r H' := by
  obtain ⟨l, h2, h3⟩ := h
  unfold ahand
  rw [hs, h2]
  simp only [Bool.false_eq_true, if_false]
  match l, h3 with
  | [], h3 => exact ⟨_, _, rfl, h3⟩
  | [v], h3 => exact ⟨_, _, rfl, h3⟩
  | v :: w :: r, h3 => exact ⟨_, _, rfl, h3⟩
theorem afn_of {C : Cfg} {call : Caller} {fn : Func} {args : List AV} {H : Heap} {c : Code} {rs : List ResultVar} {P : ARet -> Heap -> Prop} (hb : fn.body = some c) (hs : fn.results.toList = rs) (h : SD C call c (frame fn args) H (RESD C call rs P)) : ∃ k r H', afn C call k false fn args H = some (r, H') /\ P r H' := by
  obtain ⟨k, hk⟩ := h
  cases ho : arunD C call k c (frame fn args) H with
  | none => rw [ho] at hk; exact hk.elim
  | some o =>
    rw [ho] at hk
    have up : ∀ {k2 : Nat} {r}, k ≤ k2 -> (arunD C call k2 c (frame fn args) H = some o -> afn C call k2 false fn args H = some r) -> afn C call k2 false fn args H = some r := fun hle hf => hf (arunD_mono (fun _ _ _ _ h => h) hle c ho)
    cases o with
    | plain x t H1 =>
      cases x with
      | normal => obtain ⟨r, H', h1, h2⟩ := hand_of hs hk; exact ⟨k, r, H', by unfold afn; simp only [hb, ho, h1], h2⟩
      | ret => obtain ⟨r, H', h1, h2⟩ := hand_of hs hk; exact ⟨k, r, H', by unfold afn; simp only [hb, ho, h1], h2⟩
      | panic v => exact ⟨k, _, _, by unfold afn; simp only [hb, ho], hk⟩
      | pan v => exact ⟨k, _, _, by unfold afn; simp only [hb, ho], hk⟩
      | exit j => exact hk.elim
    | later g d x t H1 =>
      have lat : ∀ {p : Option AV} {Q : Option AV -> Heap -> Prop}, LAT C call g d p H1 Q -> ∃ k2 q H2, k ≤ k2 /\ alater C call k2 g d p H1 = some (q, H2) /\ Q q H2 := by
        rintro p Q ⟨k2, q, H2, h1, h2⟩
        exact ⟨max k k2, q, H2, Nat.le_max_left _ _, alater_mono (fun _ _ _ _ h => h) (Nat.le_max_right _ _) h1, h2⟩
      have upo : ∀ {k2 : Nat}, k ≤ k2 -> arunD C call k2 c (frame fn args) H = some (.later g d x t H1) := fun hle => arunD_mono (fun _ _ _ _ h => h) hle c ho
      cases x with
      | normal =>
        obtain ⟨k2, q, H2, hle, h1, h2⟩ := lat hk
        obtain ⟨r, H', h3, h4⟩ := hand_of hs h2
        exact ⟨k2, r, H', by unfold afn; simp only [hb, upo hle, h1, h3], h4⟩
      | ret =>
        obtain ⟨k2, q, H2, hle, h1, h2⟩ := lat hk
        obtain ⟨r, H', h3, h4⟩ := hand_of hs h2
        exact ⟨k2, r, H', by unfold afn; simp only [hb, upo hle, h1, h3], h4⟩
      | panic v =>
        obtain ⟨k2, q, H2, hle, h1, h2⟩ := lat hk
        cases q with
        | none =>
          obtain ⟨r, H', h3, h4⟩ := hand_of hs h2
          exact ⟨k2, r, H', by unfold afn; simp only [hb, upo hle, h1, h3], h4⟩
        | some v2 => exact ⟨k2, _, _, by unfold afn; simp only [hb, upo hle, h1], h2⟩
      | pan v =>
        obtain ⟨k2, q, H2, hle, h1, hq, h2⟩ := lat hk
        cases q with
        | none => cases hq
        | some v2 => exact ⟨k2, _, _, by unfold afn; simp only [hb, upo hle, h1], h2⟩
      | exit j => exact hk.elim
section
variable {C : Cfg} {call : Caller} {t : List AV} {H : Heap} {Q : DOut -> Prop}
theorem sd_plain {c : Code} (hn : noDefer c = true) (h : ST C call c t H [] fun x t H => Q (.plain x t H)) : SD C call c t H Q := by
  obtain ⟨k, hk⟩ := h
  obtain ⟨x, t', H', h1, h2⟩ := post_elim hk
  exact ⟨k, by rw [arunD_plain c hn h1]; exact h2⟩
def SQ (C : Cfg) (call : Caller) (b : Code) (Q : DOut -> Prop) : QPost := fun x t H => match x with
  | .normal => SD C call b t H Q
  | x => Q (.plain x t H)
theorem sq_normal {b : Code} : SQ C call b Q .normal t H ↔ SD C call b t H Q := Iff.rfl
theorem sq_ret {b : Code} : SQ C call b Q .ret t H ↔ Q (.plain .ret t H) := Iff.rfl
theorem sq_panic {b : Code} {v : AV} : SQ C call b Q (.panic v) t H ↔ Q (.plain (.panic v) t H) := Iff.rfl
theorem sq_pan {b : Code} {v : AV} : SQ C call b Q (.pan v) t H ↔ Q (.plain (.pan v) t H) := Iff.rfl
theorem sd_seq {a b : Code} (hn : noDefer a = true) (h : ST C call a t H [] (SQ C call b Q)) : SD C call (.seq a b) t H Q := by
  obtain ⟨k, hk⟩ := h
  obtain ⟨x, t', H', h1, h2⟩ := post_elim hk
  have hp := arunD_plain a hn h1
  cases x with
  | normal =>
    obtain ⟨k2, h3⟩ := h2
    cases ho : arunD C call k2 b t' H' with
    | none => rw [ho] at h3; exact h3.elim
    | some o =>
      rw [ho] at h3
      refine ⟨max k k2, ?_⟩
      have e1 := arunD_mono (C := C) (call := call) (fun _ _ _ _ h => h) (Nat.le_max_left k k2) a hp
      have e2 := arunD_mono (C := C) (call := call) (fun _ _ _ _ h => h) (Nat.le_max_right k k2) b ho
      simp only [arunD, e1, e2]; exact h3
  | _ => exact ⟨k, by simp only [arunD, hp]; exact h2⟩
theorem sd_defer {id : Nat} {ops : Array Oper} {b : Code} {g : FuncId} {d t' : List AV} {H' : Heap} (hd : ops.toList.any isDefer = true) (ho : aopsD C call ops (List.range ops.size) t H = some (.later g d .normal t' H')) (h : ST C call b t' H' [] fun x t H => Q (.later g d x t H)) : SD C call (.seq (.region id ops false) b) t H Q := by
  obtain ⟨k, hk⟩ := h
  obtain ⟨x, t2, H2, h1, h2⟩ := post_elim hk
  refine ⟨k, ?_⟩
  have e : arunD C call k (.region id ops false) t H = some (.later g d .normal t' H') := by simp only [arunD]; rw [if_pos ⟨trivial, hd⟩]; exact ho
  rw [arunD, e]
  simp only [h1]; exact h2
theorem lat_plain {g : FuncId} {fn : Func} {c : Code} {d : List AV} {p : Option AV} {n : Nat} {Q : Option AV -> Heap -> Prop} (hf : C.P.funcs[g]? = some fn) (hb : fn.body = some c) (hr : fn.results.size = 0) (hrec : recovers c = false) (hm : fn.ntmps = n)
    (h : ST C call c (d ++ List.replicate (n - d.length) .undef) H [] fun x _ H' => (x = .normal \/ x = .ret) /\ Q p H') : LAT C call g d p H Q := by
  obtain ⟨k, hk⟩ := h
  obtain ⟨x, t2, H2, h1, hx, h2⟩ := post_elim hk
  refine ⟨k, p, H2, ?_, h2⟩
  have h1' : arun C call k c (frame fn d) H = some (x, t2, H2) := by unfold frame; rw [hm]; exact h1
  unfold alater
  simp only [hf, hb, hr, if_true, hrec, Bool.false_eq_true, if_false, h1']
  rcases hx with rfl | rfl <;> rfl
theorem lat_rec {g : FuncId} {fn : Func} {id : Nat} {ops : Array Oper} {o : Oper} {os : List Oper} {b : Code} {d : List AV} {p : Option AV} {n : Nat} {Q : Option AV -> Heap -> Prop} (hf : C.P.funcs[g]? = some fn) (hb : fn.body = some (.seq (.region id ops false) b)) (hr : fn.results.size = 0) (hl : ops.toList = o :: os) (hrec : isRecover o = true) (hm : fn.ntmps = n)
    (h : GO C call ops os (put (d ++ List.replicate (n - d.length) .undef) o.dst (p.getD .nilIface)) H [.seq b] fun x _ H' => (x = .normal \/ x = .ret) /\ Q none H') : LAT C call g d p H Q := by
  have ho : ops[0]? = some o := by rw [<- Array.getElem?_toList, hl]; rfl
  have hsz : ops.size = os.length + 1 := by rw [<- Array.length_toList, hl]; rfl
  have hra : List.range ops.size = 0 :: (List.range os.length).map (· + 1) := by rw [hsz, List.range_succ_eq_map]
  have hgo : ∀ t H, aops C call ops ((List.range os.length).map (· + 1)) t H = goR C call ops os t H := fun t H => by
    rw [go_range ops os.length 1 t H hsz, hl]; rfl
  unfold GO at h
  have hR : ∀ k, arunR C call k (p.getD .nilIface) (.region id ops false) (frame fn d) H = goR C call ops os (put (d ++ List.replicate (n - d.length) .undef) o.dst (p.getD .nilIface)) H := by
    intro k
    unfold arunR
    rw [hra, ho]
    simp only [hrec, if_true]
    rw [hgo]; unfold frame; rw [hm]
  obtain ⟨x, t2, H2, h1, h2⟩ := post_elim h
  have hrecs : recovers (.seq (.region id ops false) b) = true := by simp only [recovers, ho, hrec]
  cases x with
  | normal =>
    obtain ⟨k, h3⟩ := h2
    obtain ⟨y, t3, H3, h4, hy, h5⟩ := post_elim h3
    refine ⟨k, none, H3, ?_, h5⟩
    unfold alater
    simp only [hf, hb, hr, if_true, hrecs, arunR]
    have := hR k
    unfold arunR at this
    simp only [this, h1, h4]
    rcases hy with rfl | rfl <;> rfl
  | ret =>
    refine ⟨0, none, H2, ?_, h2.2⟩
    unfold alater
    simp only [hf, hb, hr, if_true, hrecs, arunR]
    have := hR 0
    unfold arunR at this
    simp only [this, h1]
  | _ => rcases h2.1 with h | h <;> cases h
end
theorem call_objsA {C : Cfg} {f : FuncId} {fn : Func} {args : List AV} {P : ARet -> Heap -> Prop} {H : Heap} {c : Code} {rs : List ResultVar} {n : Nat} {R : List Nat} (hp : C.prim f = none) (hhp : C.hprim f = none) (hfa : C.frzA f = false) (hf : C.P.funcs[C.real f]? = some fn) (hc : C.clone f = false) (ha : C.at f = C) (hz : C.frz f = false)
    (ht : treeL args = false) (hR : reachL H args = R) (hcl : (closed H R && (idsL args).all R.contains) = true) (hb : fn.body = some c) (hs : fn.results.toList = rs) (hm : fn.ntmps = n)
    (h : ∀ M : Heap, M.length = H.length -> (∀ j ∈ R, M[j]? = H[j]?) -> SD C (Call C) c (args ++ List.replicate (n - args.length) .undef) M (RESD C (Call C) rs fun r H1 => H.length ≤ H1.length /\ P r H1)) :
    ∃ r H1 H', Call C f args H = some (r, H') /\ P r H1 /\ H.length ≤ H1.length /\ H'.length = H1.length /\ (∀ j, j ∈ R -> H'[j]? = H1[j]?) /\ (∀ j, j < H.length -> j ∉ R -> H'[j]? = H[j]?) /\ (∀ j, H.length ≤ j -> H'[j]? = H1[j]?) := by
  subst hR
  have hM := h (mask (reachL H args) 0 H) (maskH_sz _ _ _) fun j hj => by
    rw [maskH_at]
    cases H[j]? with
    | none => rfl
    | some o => simp [hj]
  have hM' : SD C (Call C) c (frame fn args) (mask (reachL H args) 0 H) (RESD C (Call C) rs fun r H1 => H.length ≤ H1.length /\ P r H1) := by unfold frame; rw [hm]; exact hM
  obtain ⟨k, r, H1, h4, h5, h6⟩ := afn_of hb hs hM'
  refine ⟨r, H1, _, call_objA (k := k) hp hhp hfa hf (by rw [hc]; rfl) (by rw [ht]; rfl) hcl (by rw [ha, hz]; exact h4) h5, h6, h5, unmaskH_sz _ _ _ _, fun j hj => ?_, fun j hj hj2 => ?_, fun j hj => ?_⟩
  . rw [unmaskH_at _ _ _ _ _ h5, if_neg]
    rintro ⟨_, h7⟩
    rw [Nat.zero_add, List.contains_iff_mem.2 hj] at h7; cases h7
  . rw [unmaskH_at _ _ _ _ _ h5, if_pos]
    refine ⟨hj, ?_⟩
    rw [Nat.zero_add]
    cases hc : (reachL H args).contains j with
    | false => rfl
    | true => exact absurd (List.contains_iff_mem.1 hc) hj2
  . rw [unmaskH_at _ _ _ _ _ h5, if_neg (by omega)]
theorem respa_normal {C : Cfg} {rs : List ResultVar} {P : ARet -> Heap -> Prop} {t : List AV} {H : Heap} : RESPA C rs P .normal t H ↔ ∃ l, aresults C t H rs = some l /\ (match l with | [v] => P (.ok v.erase) H | l => P (.ok (AV.tup (eraseL l))) H) := Iff.rfl
theorem respa_ret {C : Cfg} {rs : List ResultVar} {P : ARet -> Heap -> Prop} {t : List AV} {H : Heap} : RESPA C rs P .ret t H ↔ ∃ l, aresults C t H rs = some l /\ (match l with | [v] => P (.ok v.erase) H | l => P (.ok (AV.tup (eraseL l))) H) := Iff.rfl
theorem respa_panic {C : Cfg} {rs : List ResultVar} {P : ARet -> Heap -> Prop} {t : List AV} {H : Heap} {v : AV} : RESPA C rs P (.panic v) t H ↔ P (.panic v.erase) H := Iff.rfl
theorem respa_pan {C : Cfg} {rs : List ResultVar} {P : ARet -> Heap -> Prop} {t : List AV} {H : Heap} {v : AV} : RESPA C rs P (.pan v) t H ↔ P (.panic v.erase) H := Iff.rfl
theorem resd_plain {C : Cfg} {call : Caller} {rs : List ResultVar} {P : ARet -> Heap -> Prop} {x : AExit} {t : List AV} {H : Heap} : RESD C call rs P (.plain x t H) ↔ RESPA C rs P x t H := Iff.rfl
theorem resd_later {C : Cfg} {call : Caller} {rs : List ResultVar} {P : ARet -> Heap -> Prop} {g : FuncId} {d : List AV} {x : AExit} {t : List AV} {H : Heap} : RESD C call rs P (.later g d x t H) ↔ RESPD C call rs P g d x t H := Iff.rfl
theorem respd_normal {C : Cfg} {call : Caller} {rs : List ResultVar} {P : ARet -> Heap -> Prop} {g : FuncId} {d : List AV} {t : List AV} {H : Heap} : RESPD C call rs P g d .normal t H ↔ LAT C call g d none H fun _ H2 => HAND C rs P t H2 := Iff.rfl
theorem respd_ret {C : Cfg} {call : Caller} {rs : List ResultVar} {P : ARet -> Heap -> Prop} {g : FuncId} {d : List AV} {t : List AV} {H : Heap} : RESPD C call rs P g d .ret t H ↔ LAT C call g d none H fun _ H2 => HAND C rs P t H2 := Iff.rfl
theorem respd_panic {C : Cfg} {call : Caller} {rs : List ResultVar} {P : ARet -> Heap -> Prop} {g : FuncId} {d : List AV} {t : List AV} {H : Heap} {v : AV} : RESPD C call rs P g d (.panic v) t H ↔ LAT C call g d (some v) H fun q H2 => match q with | none => HAND C rs P t H2 | some _ => P (.panic v.erase) H2 := Iff.rfl
theorem respd_pan {C : Cfg} {call : Caller} {rs : List ResultVar} {P : ARet -> Heap -> Prop} {g : FuncId} {d : List AV} {t : List AV} {H : Heap} {v : AV} : RESPD C call rs P g d (.pan v) t H ↔ LAT C call g d (some v) H fun q H2 => q.isSome = true /\ P (.panic v.erase) H2 := Iff.rfl
end Go.Tv
