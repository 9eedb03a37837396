/-
  The evaluator of trees, its second part (operations, appended rows, draws).
-/
import Derived.Test.YtbofonlhakedpaaGreatDoorTva
import Derived.Laws.AppendOwn
import Derived.Laws.CopyRow
import Derived.Below
namespace Go.Tv
section
variable {C : Cfg} {E : Env} {H : Heap} {w : World}
theorem growBy_le (L : Nat) : ∀ r c, c ≤ 2 * L + 192 -> Builtin.growBy L r c ≤ 2 * L + 192
  | 0, c, h => h
  | r + 1, c, h => by
    simp only [Builtin.growBy]
    split
    . exact h
    . exact growBy_le L r _ (by omega)
theorem nextcap_le {L c : Nat} (h : c < L) : Builtin.nextslicecap L c ≤ 2 * L + 192 := by
  unfold Builtin.nextslicecap
  split
  . omega
  . split
    . omega
    . exact growBy_le L 4 c (by omega)
theorem ListRep.vals {els : List AV} {tok : Option Nat} {base : Option Addr} {cap n : Nat} (h : ListRep E els tok base cap) (hn : ∀ e ∈ els, e.cells.length = n) :
    ∃ vs : List Value, vs.length = els.length * n /\ RepL E (flat els) vs.toArray /\ ∀ w H, Holds E H w -> ∀ m c, (Builtin.firstCells n els.length (.slice base m c)).run C.P w = .ok vs.toArray w := by
  let f : Nat -> Value := fun k => (E.st (base.getD default).block ((base.getD default).off + k)).getD undef
  have hl := flat_len hn
  refine ⟨(List.range (els.length * n)).map f, by simp, ⟨by simp [hl], fun k hk => ?_⟩, fun w H hH m c => ?_⟩
  . obtain ⟨a, v, rfl, g2, g3, g4⟩ := h.cells k hk
    rw [hl] at hk
    have : ((List.range (els.length * n)).map f).toArray.getD k undef = v := by
      simp [Array.getD_eq_getD_getElem?, hk, f, g3]
    rw [this]; exact g4
  . cases hb : base with
    | none =>
      have : els = [] := by
        cases els with
        | nil => rfl
        | cons x r => have := h.some_ (by simp); rw [hb] at this; cases this
      subst this
      simp [Builtin.firstCells]
    | some a =>
      simp only [Builtin.firstCells]
      rw [run_loadCells w a (els.length * n) f]
      intro j hj
      obtain ⟨a', v, e, g2, g3, g4⟩ := h.cells j (by rw [hl]; exact hj)
      rw [hb] at e; injection e with e; subst e
      rw [Addr.add_eq g2, hH.st _ _ _ g3]
      simp [f, hb, g3]
theorem news_run {x : AV} {c : Value} {ns : List AV} {n : Nat} (hx : Rep E x c) (h : news x = some ns) (hn : ∀ e ∈ ns, e.cells.length = n) :
    ∃ vs : List Value, vs.length = ns.length * n /\ RepL E (flat ns) vs.toArray /\ (∀ w, (Builtin.lenOf c).run C.P w = .ok ns.length w) /\
      ∀ w H, Holds E H w -> (Builtin.firstCells n ns.length c).run C.P w = .ok vs.toArray w := by
  cases x <;> simp only [news] at h <;> try (cases h; done)
  case list els tok =>
    injection h with h; subst h
    obtain ⟨base, cap, rfl, hL⟩ := hx.inv_list
    obtain ⟨vs, h1, h2, h3⟩ := hL.vals (C := C) hn
    exact ⟨vs, h1, h2, fun w => rfl, fun w H hH => h3 w H hH _ _⟩
  case empty =>
    injection h with h; subst h
    obtain ⟨b, rfl⟩ := hx.inv_empty
    refine ⟨[], by simp, ⟨rfl, fun i hi => by simp [flat] at hi⟩, fun w => rfl, fun w H hH => ?_⟩
    cases b <;> simp [Builtin.firstCells, loadCells, loadCellsFrom]
  case nilS =>
    injection h with h; subst h
    cases hx
    refine ⟨[], by simp, ⟨rfl, fun i hi => by simp [flat] at hi⟩, fun w => rfl, fun w H hH => ?_⟩
    simp [Builtin.firstCells]
  case someS =>
    injection h with h; subst h
    cases hx
    refine ⟨[], by simp, ⟨rfl, fun i hi => by simp [flat] at hi⟩, fun w => rfl, fun w H hH => ?_⟩
    simp [Builtin.firstCells, loadCells, loadCellsFrom]
  case str s =>
    injection h with h; subst h
    obtain ⟨b, rfl, rfl⟩ := hx.inv_str
    have hl : (ofBytes b.data.toList).length = b.size := by simp [ofBytes]
    refine ⟨b.data.toList.map fun x => .int .u8 x.toNat, ?_, ?_, fun w => by rw [hl]; rfl, fun w H hH => ?_⟩
    . cases hd : b.data.toList with
      | nil => simp [ofBytes]
      | cons x r =>
        have := hn (.int .u8 x.toNat) (by simp [ofBytes, hd])
        simp [AV.cells] at this
        subst this; simp [ofBytes]
    . rw [flat_ofBytes]
      refine ⟨by simp [ofBytes], fun i hi => ?_⟩
      have hi' : i < b.data.size := by simpa [ofBytes] using hi
      have e1 : (ofBytes b.data.toList).getD i .empty = .int .u8 (b.data[i]).toNat := by simp [ofBytes, List.getD_eq_getElem?_getD, Array.getElem?_eq_getElem hi']
      have e2 : (b.data.toList.map fun x : UInt8 => Value.int .u8 x.toNat).toArray.getD i undef = .int .u8 (b.data[i]).toNat := by
        simp [Array.getD_eq_getD_getElem?, Array.getElem?_eq_getElem hi']
      rw [e1, e2]; exact .int _ _
    . simp only [Builtin.firstCells, Sem.run_pure, hl]
      congr 1
      apply Array.ext'
      have : b.extract 0 b.size = b := by
        apply ByteArray.ext
        rw [ByteArray.data_extract]
        exact Array.extract_size
      rw [this]; simp
theorem one_cells {x : AV} (h : x.one = true) : x.cells = [x] := by
  cases x <;> first | rfl | (simp [AV.one] at h)
theorem group_flat {ag : Bool} {n : Nat} : ∀ {k : Nat} {cs l : List AV}, group ag n k cs = some l -> l.length = k /\ (∀ v ∈ l, v.cells.length = n) /\ flat l = cs.take (k * n)
  | 0, cs, l, h => by simp [group] at h; subst h; simp [flat]
  | k + 1, cs, l, h => by
    simp only [group] at h
    split at h
    . split at h
      . rename_i hn
        split at h
        . rename_i l' hl; injection h with h; subst h
          obtain ⟨h1, h2, h3⟩ := group_flat hl
          refine ⟨by simp [h1], fun v hv => ?_, ?_⟩
          . rcases List.mem_cons.1 hv with rfl | hv
            . simp [AV.cells]; omega
            . exact h2 v hv
          . rw [flat_cons, h3, AV.cells, show (k + 1) * n = n + k * n by rw [Nat.add_mul]; omega, List.take_add]
        . cases h
      . cases h
    . split at h
      . rename_i x r
        split at h
        . rename_i hx
          obtain ⟨hx, rfl⟩ := hx
          split at h
          . rename_i l' hl; injection h with h; subst h
            obtain ⟨h1, h2, h3⟩ := group_flat hl
            refine ⟨by simp [h1], fun v hv => ?_, ?_⟩
            . rcases List.mem_cons.1 hv with rfl | hv
              . rw [one_cells hx]; rfl
              . exact h2 v hv
            . rw [flat_cons, h3, one_cells hx]; simp
          . cases h
        . cases h
      . cases h
theorem newsH_run {x : AV} {c : Value} {ns : List AV} {n : Nat} (hH : Holds E H w) (hx : Rep E x c) (h : newsH H x = some ns) (hn : ∀ e ∈ ns, e.cells.length = n) :
    ∃ vs : List Value, vs.length = ns.length * n /\ RepL E (flat ns) vs.toArray /\ (∀ w, (Builtin.lenOf c).run C.P w = .ok ns.length w) /\
      ∀ u : World, u.heap = w.heap -> (Builtin.firstCells n ns.length c).run C.P u = .ok vs.toArray u := by
  have plain : news x = some ns -> ∃ vs : List Value, vs.length = ns.length * n /\ RepL E (flat ns) vs.toArray /\ (∀ w, (Builtin.lenOf c).run C.P w = .ok ns.length w) /\
      ∀ u : World, u.heap = w.heap -> (Builtin.firstCells n ns.length c).run C.P u = .ok vs.toArray u := fun h => by
    obtain ⟨vs, h1, h2, h3, h4⟩ := news_run (C := C) hx h hn
    exact ⟨vs, h1, h2, h3, fun u hu => h4 u _ (hH.heap_eq hu)⟩
  cases x <;> first | exact plain h | skip
  rename_i id off m sz ag
  simp only [newsH] at h
  split at h <;> try (cases h; done)
  rename_i cs T0 hi
  split at h <;> try (cases h; done)
  rename_i hle
  obtain ⟨b, nc, s, cap, o, hf, hcap, ho, rfl⟩ := hx.inv_slc
  obtain ⟨q1, q2, q3⟩ := group_flat h
  subst q1
  by_cases h0 : ns = []
  . subst h0
    exact ⟨[], by simp, ⟨rfl, fun i hi => by simp [flat] at hi⟩, fun w => rfl, fun u hu => by simp [Builtin.firstCells, loadCells, loadCellsFrom]⟩
  have hpos : 0 < ns.length := List.length_pos_iff.2 h0
  have ho' := ho hpos; subst ho'
  obtain ⟨e, he⟩ : ∃ e, e ∈ ns := ⟨ns[0], List.getElem_mem hpos⟩
  have hsn : sz = n := (q2 e he).symm.trans (hn e he)
  subst hsn
  have hfl := flat_len q2
  obtain ⟨b', nc', s', hf', hO⟩ := hH.obj _ _ hi (by simp)
  rw [hf] at hf'; injection hf' with hf'; injection hf' with e1 e2; injection e2 with e2 e3; subst e1 e2 e3
  obtain ⟨vs0, hv, _, hR, _⟩ := hO
  have hRs := hR.size
  refine ⟨(List.range (ns.length * sz)).map fun k => vs0.getD (o + k) undef, by simp, ⟨by simp [hfl], fun k hk => ?_⟩, fun w => rfl, fun u hu => ?_⟩
  . rw [hfl] at hk
    have e1 : ((List.range (ns.length * sz)).map fun k => vs0.getD (o + k) undef).toArray.getD k undef = vs0.getD (o + k) undef := by
      simp [Array.getD_eq_getD_getElem?, hk]
    have e2 : (flat ns).getD k .empty = cs.getD (o + k) .empty := by
      rw [q3]; simp only [List.getD_eq_getElem?_getD]; rw [List.getElem?_take, if_pos hk, List.getElem?_drop]
    rw [e1, e2]; exact hR.get _ (by omega)
  . simp only [Builtin.firstCells]
    refine run_loadCells u ⟨b, o, none⟩ (ns.length * sz) (fun k => vs0.getD (o + k) undef) fun k hk => ?_
    have hlt : o + k < vs0.size := by omega
    rw [Addr.add_eq rfl, cell_of (hu ▸ hv)]
    simp [Array.getD_eq_getD_getElem?, hlt]
theorem notInt {xT : TypeId} (h : isIntT C xT = false) : ∃ d, C.P.underlying xT = some d /\ ∀ k, d ≠ .int k := by
  unfold isIntT at h
  split at h
  . cases h
  . rename_i d h1 hd; exact ⟨d, hd, fun k e => h1 k e⟩
  . cases h
structure AppFacts (C : Cfg) (T xT e : TypeId) (i : TypeInfo) (z : Value) (n k : Nat) (x : Value) (vs : List Value) : Prop where
  hT : C.P.underlying T = some (.slice e)
  hx : ∃ d, C.P.underlying xT = some d /\ ∀ k, d ≠ .int k
  hi : C.P.info? e = some i
  hz : i.zero = some z
  hs : i.size = n
  len : ∀ w, (Builtin.lenOf x).run C.P w = .ok k w
theorem append_zeros {xT : TypeId} {d : TypeDesc} (hd : C.P.underlying xT = some d) (hk : ∀ k, d ≠ .int k) :
    ((do pure ((<- underlying xT) matches .int _) : Sem Bool)).run C.P w = .ok false w := by
  simp only [Sem.run_bind, run_underlying hd, Result.andThen_ok]
  cases d <;> first | rfl | exact absurd rfl (hk _)
theorem append_room {T xT e ty : TypeId} {i : TypeInfo} {z x : Value} {n k : Nat} {vs : List Value} (F : AppFacts C T xT e i z n k x vs) (hf : (Builtin.firstCells n k x).run C.P w = .ok vs.toArray w)
    {base : Option Addr} {sLen sCap : Nat} (hroom : sLen + k ≤ sCap) :
    (Builtin.append_ #[T, xT] ty #[.slice base sLen sCap, x]).run C.P w =
      (match base with | none => Result.ok (.slice none (sLen + k) sCap) w | some a => ((storeCells (a.add (sLen * n)) vs).run C.P w).andThen fun _ w' => .ok (.slice (some a) (sLen + k) sCap) w') := by
  obtain ⟨d, hd, hk⟩ := F.hx
  have hm : (match d with | TypeDesc.int k => true | x => false) = false := by cases d <;> first | rfl | exact absurd rfl (hk _)
  have hsz : (sizeOf e).run C.P w = .ok n w := by simp [sizeOf, typeInfo, F.hi, F.hs]
  simp only [Builtin.append_, List.getElem?_toArray, List.getElem?_cons_zero, List.getElem?_cons_succ, Sem.run_bind, run_underlying F.hT, Result.andThen_ok, hsz, run_underlying hd, F.len, Sem.run_ite, if_pos hroom]
  cases base with
  | none => simp only [Sem.run_pure, Result.andThen_ok, Bool.not_false, if_true, hf, reduceIte, Bool.false_eq_true]
  | some a => simp only [Sem.run_bind, Sem.run_pure, Result.andThen_ok, Bool.not_false, if_true, hf, reduceIte, Bool.false_eq_true]
theorem append_grow {T xT e ty : TypeId} {i : TypeInfo} {z x : Value} {n k : Nat} {vs os : List Value} (F : AppFacts C T xT e i z n k x vs) (hf : (Builtin.firstCells n k x).run C.P w.drew = .ok vs.toArray w.drew)
    {base : Option Addr} {sLen sCap : Nat} (ho : (Builtin.firstCells n sLen (.slice base sLen sCap)).run C.P w.drew = .ok os.toArray w.drew)
    (hroom : sCap < sLen + k) (hb : (2 * (sLen + k) + 192) * i.bytes ≤ 2 ^ 48) (_h62 : sLen + k ≤ 2 ^ 62) (hpos : 0 < i.bytes) :
    (Builtin.append_ #[T, xT] ty #[.slice base sLen sCap, x]).run C.P w =
      .ok (.slice (some ⟨w.heap.size, 0, none⟩) (sLen + k) (grownCap w (sLen + k) sCap e))
        (w.drew.alloc (.cells (os.toArray ++ vs.toArray ++ Builtin.zeroCells z.cells (grownCap w (sLen + k) sCap e - (sLen + k))) e)) := by
  obtain ⟨d, hd, hk⟩ := F.hx
  have hm : (match d with | TypeDesc.int k => true | x => false) = false := by cases d <;> first | rfl | exact absurd rfl (hk _)
  have hsz : ∀ w, (sizeOf e).run C.P w = .ok n w := fun w => by simp [sizeOf, typeInfo, F.hi, F.hs]
  have hti : ∀ w, (typeInfo e).run C.P w = .ok i w := fun w => by simp [typeInfo, F.hi]
  have hzv : ∀ w, (zeroValue e).run C.P w = .ok z w := fun w => by simp [zeroValue, typeInfo, F.hi, F.hz]
  have h1 : ¬ (((sLen + k : Nat) : Int) > IntKind.i64.max /\ (False \/ i.bytes = 0)) := by
    rintro ⟨_, h | h⟩
    . exact h
    . omega
  have h2 : ¬ (Builtin.nextslicecap (sLen + k) sCap * i.bytes > 2 ^ 48) := by
    have := nextcap_le hroom
    have := Nat.mul_le_mul_right i.bytes this
    omega
  have hch : ∀ w : World, (choose (.appendCap (sLen + k) sCap e)).run C.P w = .ok (grownCap w (sLen + k) sCap e) w.drew := fun w => by
    simp [Question.forced, grownCap]
  have h1' : ¬ (((sLen + k : Nat) : Int) > IntKind.i64.max /\ (false = true \/ i.bytes = 0)) := by simpa using h1
  simp only [Builtin.append_, List.getElem?_toArray, List.getElem?_cons_zero, List.getElem?_cons_succ, Sem.run_bind, run_underlying F.hT, Result.andThen_ok, hsz, run_underlying hd, Bool.false_eq_true, if_false, F.len, Sem.run_ite, if_neg (show ¬ (sLen + k ≤ sCap) by omega),
    hti, Sem.run_pure, if_neg h2, hch, run_askRoom, ho, Bool.not_false, if_true, hf, hzv, newRow, run_newObj]
  rw [if_neg (by simpa using h1)]
  rfl
end
end Go.Tv
namespace Go.Tv
section
variable {C : Cfg} {E : Env} {H : Heap} {w : World}
theorem Rep.one {v : AV} {x : Value} (h : Rep E v x) (ho : v.one = true) : x.oneCell' = true := by
  cases h <;> first | rfl | (simp [AV.one] at ho)
theorem RepL.ones {cs : List AV} {vs : List Value} (h : RepL E cs vs.toArray) (ho : cs.all AV.one = true) : ∀ v ∈ vs, v.oneCell' = true := by
  intro v hv
  obtain ⟨i, hi, rfl⟩ := List.getElem_of_mem hv
  have hs := h.size
  simp at hs
  have := h.get i (by omega)
  have e1 : vs.toArray.getD i undef = vs[i] := by simp [Array.getD_eq_getD_getElem?, hi]
  rw [e1] at this
  refine this.one ?_
  rw [List.getD_eq_getElem?_getD, List.getElem?_eq_getElem (by omega)]
  simp at ho
  exact ho _ (List.getElem_mem _)
theorem flat_ones {ns : List AV} {n : Nat} (h : ns.all (fun v => decide (v.cells.length = n) && v.cells.all AV.one) = true) : (∀ e ∈ ns, e.cells.length = n) /\ (flat ns).all AV.one = true := by
  simp only [List.all_eq_true, Bool.and_eq_true, decide_eq_true_eq] at h
  refine ⟨fun e he => (h e he).1, ?_⟩
  simp only [flat, List.all_eq_true, List.mem_flatMap]
  rintro v ⟨e, he, hv⟩
  have := (h e he).2
  exact this v hv
theorem RepL.append {a b : List AV} {x y : List Value} (h : RepL E a x.toArray) (k : RepL E b y.toArray) : RepL E (a ++ b) (x ++ y).toArray := by
  have h1 := h.size; have h2 := k.size
  simp at h1 h2
  refine ⟨by simp; omega, fun i hi => ?_⟩
  simp at hi
  by_cases hl : i < a.length
  . have := h.get i hl
    have e1 : (a ++ b).getD i .empty = a.getD i .empty := by simp only [List.getD_eq_getElem?_getD]; rw [List.getElem?_append_left hl]
    have e2 : (x ++ y).toArray.getD i undef = x.toArray.getD i undef := by
      simp only [Array.getD_eq_getD_getElem?, List.getElem?_toArray]; rw [List.getElem?_append_left (by omega)]
    rw [e1, e2]; exact this
  . have := k.get (i - a.length) (by omega)
    have e1 : (a ++ b).getD i .empty = b.getD (i - a.length) .empty := by simp only [List.getD_eq_getElem?_getD]; rw [List.getElem?_append_right (by omega)]
    have e2 : (x ++ y).toArray.getD i undef = y.toArray.getD (i - a.length) undef := by
      simp only [Array.getD_eq_getD_getElem?, List.getElem?_toArray]; rw [List.getElem?_append_right (by omega), h1]
    rw [e1, e2]; exact this
theorem zeroCells_size (z : Array Value) (n : Nat) : (Builtin.zeroCells z n).size = n * z.size := by simp [Builtin.zeroCells]
theorem grown_ge (w : World) (need old : Nat) (e : TypeId) : need ≤ grownCap w need old e := by simp [grownCap, Question.cut]
theorem setF_self (E : Env) (i : Nat) (p : Nat × Nat × Nat) : (E.setF i p).f i = some p := by simp [Env.setF]
theorem newTail_list {els : List AV} {n cap : Nat} (hn : ∀ e ∈ els, e.cells.length = n) (hH : Holds E H w) {vs rest : List Value} (hr : RepL E (flat els) vs.toArray) (_hne : els ≠ []) (hc : els.length ≤ cap) (hrest : vs.length + rest.length = cap * n) (T : TypeId) :
    ∃ E', Ext E w E' (w.alloc (.cells (vs ++ rest).toArray T)) /\ Holds E' (H ++ [.tail els.length n]) (w.alloc (.cells (vs ++ rest).toArray T)) /\
      Rep E' (.list els (some H.length)) (.slice (some ⟨w.heap.size, 0, none⟩) els.length cap) := by
  have hl := flat_len hn
  have hs := hr.size
  simp at hs
  obtain ⟨h1, h2, h3⟩ := hH.newTail vs rest T els.length n (by omega)
  refine ⟨_, h1, h2, ListRep.rep ⟨⟨n, hn⟩, fun k hk => ⟨_, vs.toArray.getD k undef, rfl, rfl, ?_, (hr.get k hk).mono h1.le⟩, fun _ => rfl, hc, ?_⟩ rfl⟩
  . simp only [Env.setF, Env.addSt]
    rw [if_pos (by refine ⟨?_, ?_, ?_⟩ <;> first | trivial | omega)]
    simp [Array.getD_eq_getD_getElem?, List.getElem?_eq_getElem (show k < vs.length by omega)]
  . exact ⟨_, _, _, setF_self _ _ _, rfl, by omega, hn⟩
theorem aappend_run {T xT ty : TypeId} {s x v : AV} {cs cx : Value} {H' : Heap} (hH : Holds E H w) (hs : Rep E s cs) (hx : Rep E x cx) (h : aappend C T xT s x H = some (v, H')) :
    RunsTo C E w (Builtin.append_ #[T, xT] ty #[cs, cx]) v H' := by
  unfold aappend at h
  split at h
  rotate_left
  . cases h
  rename_i e ns he hi hn
  split at h
  rotate_left
  . cases h
  rename_i n z hsz hz
  split at h
  rotate_left
  . cases h
  rename_i hc
  obtain ⟨hzl, hpos, hz1, hns⟩ := hc
  obtain ⟨hns1, hns2⟩ := flat_ones hns
  obtain ⟨vs, hvl, hvr, hlen, hfc⟩ := newsH_run (C := C) hH hx hn hns1
  obtain ⟨i, zv, hinf, hzv, hzc⟩ := info_zero hz
  obtain ⟨i', hinf', his⟩ := szOf_info hsz
  rw [hinf] at hinf'; injection hinf' with hinf'; subst hinf'
  have hzr : RepL E z.cells zv.cells := (hzc E).cells
  have hzs : zv.cells.size = n := by rw [<- hzr.size]; exact hzl
  have F : AppFacts C T xT e i zv n ns.length cx vs := ⟨elemT_slice he, notInt hi, hinf, hzv, his, hlen⟩
  have hroomOf : ∀ m, roomOk C e m = true -> (2 * m + 192) * i.bytes ≤ 2 ^ 48 /\ m ≤ 2 ^ 62 /\ 0 < i.bytes := by
    intro m hm; unfold roomOk at hm; rw [hinf] at hm; simp at hm; exact hm.1
  split at h
  . -- onto nothing
    obtain ⟨b, rfl⟩ := hs.inv_empty
    split at h
    . injection h with h; injection h with h1 h2; subst h1 h2
      simp at hvl; subst hvl
      have hr := append_room (ty := ty) F (hfc w rfl) (base := b) (sLen := 0) (sCap := 0) (by simp)
      cases b with
      | none => exact .here hH (by simpa using hr) (.empty _)
      | some a => exact .here hH (by simpa [storeCells] using hr) (.empty _)
    . rename_i hne
      split at h
      . rename_i hroom
        obtain ⟨r1, r2, r3⟩ := hroomOf _ hroom
        have hlpos : 0 < ns.length := by cases ns with | nil => exact absurd rfl hne | cons _ _ => simp
        have ho : (Builtin.firstCells n 0 (.slice b 0 0)).run C.P w.drew = .ok ([] : List Value).toArray w.drew := by
          cases b <;> simp [Builtin.firstCells, loadCells, loadCellsFrom]
        have hr := append_grow (ty := ty) F (hfc w.drew rfl) (base := b) (sLen := 0) (sCap := 0) (os := []) ho (by omega) (by simpa using r1) (by simpa using r2) r3
        simp only [Nat.zero_add] at hr
        have hg := grown_ge w ns.length 0 e
        have hgm := Nat.mul_le_mul_right n hg
        split at h
        . split at h <;> try (cases h; done)
          rename_i ag hag
          injection h with h; injection h with h1 h2; subst h1 h2
          have hpart : RepP E (flat ns) (#[] ++ vs.toArray ++ Builtin.zeroCells zv.cells (grownCap w ns.length 0 e - ns.length)) := by
            refine ⟨by have := hvr.size; simp at this ⊢; omega, fun i hi => ?_⟩
            have h1 := hvr.get i hi
            have h2 := hvr.size
            have e1 : (#[] ++ vs.toArray ++ Builtin.zeroCells zv.cells (grownCap w ns.length 0 e - ns.length)).getD i undef = vs.toArray.getD i undef := by
              simp only [Array.getD_eq_getD_getElem?]
              rw [Array.getElem?_append_left (by simp at h2 ⊢; omega)]
              simp
            rw [e1]; exact h1
          obtain ⟨E', g1, g2, g3⟩ := hH.drew.array hpart e
          exact ⟨_, _, E', hr, (Ext.drew w).trans g1, g2, .slc _ _ _ _ _ _ _ _ _ _ g3 hg (fun _ => rfl) (by have hz0 := zeroCells_size zv.cells (grownCap w ns.length 0 e - ns.length); rw [hzs, Nat.sub_mul] at hz0; simp only [Array.size_append, hz0, List.size_toArray, hvl, List.length_nil]; omega)⟩
        injection h with h; injection h with h1 h2; subst h1 h2
        obtain ⟨E', g1, g2, g3⟩ := newTail_list (w := w.drew) hns1 hH.drew (vs := vs) hvr hne (cap := grownCap w ns.length 0 e) hg (rest := (Builtin.zeroCells zv.cells (grownCap w ns.length 0 e - ns.length)).toList)
          (by have hz0 := zeroCells_size zv.cells (grownCap w ns.length 0 e - ns.length); rw [hzs, Nat.sub_mul] at hz0; rw [hvl, show (Builtin.zeroCells zv.cells (grownCap w ns.length 0 e - ns.length)).toList.length = _ from Array.length_toList, hz0]; omega) e
        refine ⟨_, _, E', hr, ?_, ?_, g3⟩
        . have : (#[] ++ vs.toArray ++ Builtin.zeroCells zv.cells (grownCap w ns.length 0 e - ns.length)) = (vs ++ (Builtin.zeroCells zv.cells (grownCap w ns.length 0 e - ns.length)).toList).toArray := by simp
          rw [show ([] : List Value).toArray = #[] from rfl, this]; exact (Ext.drew w).trans g1
        . have : (#[] ++ vs.toArray ++ Builtin.zeroCells zv.cells (grownCap w ns.length 0 e - ns.length)) = (vs ++ (Builtin.zeroCells zv.cells (grownCap w ns.length 0 e - ns.length)).toList).toArray := by simp
          rw [show ([] : List Value).toArray = #[] from rfl, this]; exact g2
      . cases h
  . rename_i els tok
    obtain ⟨base, cap, rfl, hL⟩ := hs.inv_list
    split at h
    . injection h with h; injection h with h1 h2; subst h1 h2
      simp at hvl; subst hvl
      have hr := append_room (ty := ty) F (hfc w rfl) (base := base) (sLen := els.length) (sCap := cap) (by have := hL.capLe; simpa using this)
      cases base with
      | none => exact .here hH (by simpa using hr) hs
      | some a => exact .here hH (by simpa [storeCells] using hr) hs
    . rename_i hne
      split at h
      rotate_left
      . cases h
      rename_i id
      split at h
      rotate_left
      . cases h
      rename_i m sz hid
      split at h
      rotate_left
      . cases h
      rename_i hcond
      obtain ⟨rfl, rfl, hroom, hall⟩ := hcond
      injection h with h; injection h with h1 h2; subst h1 h2
      obtain ⟨r1, r2, r3⟩ := hroomOf _ hroom
      have hall' := all_len hall
      obtain ⟨b, nc, sz', hf, rfl, hcap, hu⟩ := hL.tok
      have hlpos : 0 < ns.length := by cases ns with | nil => exact absurd rfl hne | cons _ _ => simp
      have hnn : ∀ e ∈ els ++ ns, e.cells.length = sz := by
        intro e he; rcases List.mem_append.1 he with he | he
        . exact hall' e he
        . exact hns1 e he
      obtain ⟨b2, nc2, sz2, hf2, hO⟩ := hH.obj _ _ hid (by simp)
      rw [hf] at hf2; injection hf2 with hf2; injection hf2 with e1 e2; injection e2 with e2 e3; subst e1 e2 e3
      obtain ⟨rfl, _⟩ := hO
      have hLc := hL.capLe
      by_cases hfit : els.length + ns.length ≤ cap
      . -- in place
        have hr := append_room (ty := ty) F (hfc w rfl) (base := some ⟨b, 0, none⟩) (sLen := els.length) (sCap := cap) hfit
        have hfit2 : els.length * sz + vs.length ≤ nc := by
          rw [hvl, <- Nat.add_mul]; exact Nat.le_trans (Nat.mul_le_mul_right sz hfit) hcap
        obtain ⟨cur, T0, hv, hcs, g1, g2, g3, g4⟩ := hH.growTail hid hf vs ns.length hvl.symm hfit2
        have hst := run_storeCells_at C.P b (els.length * sz) T0 vs 0 cur w hv (by omega) (hvr.ones hns2)
        simp only [Nat.add_zero] at hst
        simp only [Addr.add_lit, Nat.zero_add, hst, Result.andThen_ok] at hr
        refine ⟨_, _, _, hr, g1, g2, ListRep.rep ⟨⟨sz, hnn⟩, fun k hk => ?_, fun _ => rfl, by simpa using hfit, ?_⟩ (by simp)⟩
        . rw [flat_append] at hk ⊢
          have hfl := flat_len hall'
          have hfn := flat_len hns1
          by_cases hkl : k < (flat els).length
          . obtain ⟨a, v, ea, q2, q3, q4⟩ := hL.cells k hkl
            injection ea with ea; subst ea
            refine ⟨_, v, rfl, rfl, (Env.le_trans g3 g4).st _ _ _ q3, ?_⟩
            have : (flat els ++ flat ns).getD k .empty = (flat els).getD k .empty := by simp only [List.getD_eq_getElem?_getD]; rw [List.getElem?_append_left hkl]
            rw [this]; exact q4.mono (Env.le_trans g3 g4)
          . have hk2 : k - (flat els).length < (flat ns).length := by simp at hk; omega
            have q := hvr.get _ hk2
            refine ⟨_, vs.toArray.getD (k - (flat els).length) undef, rfl, rfl, ?_, ?_⟩
            . simp only [Env.setF, Env.addSt, Nat.zero_add]
              rw [if_pos (by refine ⟨?_, ?_, ?_⟩ <;> first | trivial | omega)]
              rw [<- hfl]
              simp [Array.getD_eq_getD_getElem?, List.getElem?_eq_getElem (show k - (flat els).length < vs.length by omega)]
            . have : (flat els ++ flat ns).getD k .empty = (flat ns).getD (k - (flat els).length) .empty := by simp only [List.getD_eq_getElem?_getD]; rw [List.getElem?_append_right (by omega)]
              rw [this]; exact q.mono (Env.le_trans g3 g4)
        . exact ⟨b, nc, sz, setF_self _ _ _, rfl, hcap, hnn⟩
      . -- a new row
        obtain ⟨os, ol, orr, ofc⟩ := hL.vals (C := C) hall'
        have hr := append_grow (ty := ty) F (hfc w.drew rfl) (base := some ⟨b, 0, none⟩) (sLen := els.length) (sCap := cap) (os := os) (ofc w.drew _ hH.drew _ _) (by omega) r1 r2 r3
        have hg := grown_ge w (els.length + ns.length) cap e
        have hgm := Nat.mul_le_mul_right sz hg
        have hk := hH.kill id
        obtain ⟨E', g1, g2, g3⟩ := newTail_list (w := w.drew) hnn hk.drew (vs := os ++ vs) (by rw [flat_append]; exact orr.append hvr) (by intro h0; simp at h0; exact hne h0.2) (cap := grownCap w (els.length + ns.length) cap e) (by simpa using hg) (rest := (Builtin.zeroCells zv.cells (grownCap w (els.length + ns.length) cap e - (els.length + ns.length))).toList)
          (by have hz0 := zeroCells_size zv.cells (grownCap w (els.length + ns.length) cap e - (els.length + ns.length)); rw [hzs, Nat.sub_mul, Nat.add_mul] at hz0; rw [Nat.add_mul] at hgm; rw [List.length_append, hvl, ol, show (Builtin.zeroCells zv.cells (grownCap w (els.length + ns.length) cap e - (els.length + ns.length))).toList.length = _ from Array.length_toList, hz0]; omega) e
        have hlist : (os.toArray ++ vs.toArray ++ Builtin.zeroCells zv.cells (grownCap w (els.length + ns.length) cap e - (els.length + ns.length))) = (os ++ vs ++ (Builtin.zeroCells zv.cells (grownCap w (els.length + ns.length) cap e - (els.length + ns.length))).toList).toArray := by simp
        rw [hlist] at hr
        simp only [List.length_append, List.length_set] at g1 g2 g3
        exact ⟨_, _, E', hr, (Ext.drew w).trans g1, g2, g3⟩
  . rename_i id off m sz ag
    obtain ⟨b, nc, s, cap, o, hf, hcap, ho, hzc2, rfl⟩ := hs.inv_slc2
    split at h
    . injection h with h; injection h with h1 h2; subst h1 h2
      simp at hvl; subst hvl
      have hr := append_room (ty := ty) F (hfc w rfl) (base := some ⟨b, o, none⟩) (sLen := m) (sCap := cap) (by simpa using hcap)
      exact .here hH (by simpa [storeCells] using hr) hs
    . rename_i hne
      split at h
      rotate_left
      . cases h
      rename_i cs0 T0 hid
      split at h
      rotate_left
      . cases h
      rename_i hcond
      obtain ⟨rfl, rfl, rfl, hcl, hroom⟩ := hcond
      injection h with h; injection h with h1 h2; subst h1 h2
      obtain ⟨r1, r2, r3⟩ := hroomOf _ hroom
      have hlpos : 0 < ns.length := by cases ns with | nil => exact absurd rfl hne | cons _ _ => simp
      have hfn := hvr.size
      simp at hfn
      by_cases hfit : m + ns.length ≤ cap
      . have ho' := ho (by omega); subst ho'
        have hr := append_room (ty := ty) F (hfc w rfl) (base := some ⟨b, 0, none⟩) (sLen := m) (sCap := cap) hfit
        have hfit2 : m * sz + vs.length ≤ nc := by
          rw [hvl, <- Nat.add_mul]
          have := Nat.mul_le_mul_right sz hfit
          omega
        obtain ⟨cur, hv, hcs, g1, g2⟩ := hH.growArr hid hf hvr hcl hfit2
        have hst := run_storeCells_at C.P b (m * sz) T0 vs 0 cur w hv (by omega) (hvr.ones hns2)
        simp only [Nat.add_zero] at hst
        simp only [Addr.add_lit, Nat.zero_add, hst, Result.andThen_ok] at hr
        exact ⟨_, _, _, hr, g1, g2, .slc _ _ _ _ _ _ _ _ _ 0 (setF_self _ _ _) hfit (fun _ => rfl) hzc2⟩
      . obtain ⟨b2, nc2, sz2, hf2, hO⟩ := hH.obj _ _ hid (by simp)
        rw [hf] at hf2; injection hf2 with hf2; injection hf2 with e1 e2; injection e2 with e2 e3; subst e1 e2 e3
        obtain ⟨cur, hv, hcs, hR, hS⟩ := hO
        have hRs := hR.size
        have hkc : ∀ k, k < m * sz -> (w.drew).cell? ((⟨b, o, none⟩ : Addr).add k) = some (cur.getD k undef) := fun k hk => by
          have hlt : k < cur.size := by omega
          have hm0 : 0 < m := by rcases Nat.eq_zero_or_pos m with h | h
                                 . subst h; simp at hk
                                 . exact h
          have ho' := ho (by omega); subst ho'
          show w.cell? _ = _
          rw [Addr.add_eq rfl, cell_of hv]
          simp [Array.getD_eq_getD_getElem?, hlt]
        have hos : (Builtin.firstCells sz m (.slice (some ⟨b, o, none⟩) m cap)).run C.P w.drew = .ok ((List.range (m * sz)).map fun k => cur.getD k undef).toArray w.drew := by
          simp only [Builtin.firstCells]
          exact run_loadCells w.drew ⟨b, o, none⟩ (m * sz) (fun k => cur.getD k undef) hkc
        have hosr : RepL E (cs0.take (m * sz)) ((List.range (m * sz)).map fun k => cur.getD k undef).toArray := by
          refine ⟨by simp; omega, fun i hi => ?_⟩
          have hi' : i < m * sz := by simp at hi; omega
          have := hR.get i (by omega)
          have e0 : (cs0.take (m * sz)).getD i .empty = cs0.getD i .empty := by simp only [List.getD_eq_getElem?_getD]; rw [List.getElem?_take, if_pos hi']
          rw [e0]
          have e1 : ((List.range (m * sz)).map fun k => cur.getD k undef).toArray.getD i undef = cur.getD i undef := by
            simp [Array.getD_eq_getD_getElem?, hi']
          rw [e1]; exact this
        have hr := append_grow (ty := ty) F (hfc w.drew rfl) (base := some ⟨b, o, none⟩) (sLen := m) (sCap := cap) (os := (List.range (m * sz)).map fun k => cur.getD k undef) hos (by omega) r1 r2 r3
        have hg := grown_ge w (m + ns.length) cap T0
        have hgm := Nat.mul_le_mul_right sz hg
        have hk := hH.kill id
        have hpart : RepP E (cs0.take (m * sz) ++ flat ns) (((List.range (m * sz)).map fun k => cur.getD k undef).toArray ++ vs.toArray ++ Builtin.zeroCells zv.cells (grownCap w (m + ns.length) cap T0 - (m + ns.length))) := by
          have hap := hosr.append hvr
          have hsz := hap.size
          refine ⟨by simp at hsz ⊢; omega, fun i hi => ?_⟩
          have h1 := hap.get i hi
          have e1 : (((List.range (m * sz)).map fun k => cur.getD k undef).toArray ++ vs.toArray ++ Builtin.zeroCells zv.cells (grownCap w (m + ns.length) cap T0 - (m + ns.length))).getD i undef = (((List.range (m * sz)).map fun k => cur.getD k undef) ++ vs).toArray.getD i undef := by
            have hi2 := hi
            rw [hsz] at hi2
            simp at hi2
            simp only [Array.getD_eq_getD_getElem?]
            rw [Array.getElem?_append_left (by simp; omega)]
            simp
          rw [e1]; exact h1
        obtain ⟨E', g1, g2, g3⟩ := hk.drew.array hpart T0
        simp only [List.length_set] at g1 g2 g3
        exact ⟨_, _, E', hr, (Ext.drew w).trans g1, g2, .slc _ _ _ _ _ _ _ _ _ _ g3 hg (fun _ => rfl) (by
          have hz0 := zeroCells_size zv.cells (grownCap w (m + ns.length) cap T0 - (m + ns.length))
          rw [hzs, Nat.sub_mul, Nat.add_mul] at hz0
          rw [Nat.add_mul] at hgm
          simp only [Array.size_append, hz0, List.size_toArray, hvl, List.length_map, List.length_range]; omega)⟩
  . cases h
end
end Go.Tv
namespace Go.Tv
section
variable {C : Cfg} {E : Env} {H : Heap} {w : World}
def OpRuns (C : Cfg) (E : Env) (w : World) (s : Sem Next) (v : AV) (H' : Heap) : Prop :=
  ∃ nx w' E', s.run C.P w = .ok nx w' /\ Ext E w E' w' /\ Holds E' H' w' /\ ((∃ c, nx = .value c /\ Rep E' v c) \/ (nx = .skip /\ v = .undef))
theorem RunsTo.op {s : Sem Value} {v : AV} {H' : Heap} (h : RunsTo C E w s v H') : OpRuns C E w (do pure (.value (<- s))) v H' := by
  obtain ⟨c, w', E', h1, h2, h3, h4⟩ := h
  exact ⟨.value c, w', E', by simp only [Sem.run_bind, h1, Result.andThen_ok, Sem.run_pure], h2, h3, .inl ⟨c, rfl, h4⟩⟩
theorem OpRuns.pure {v : AV} {c : Value} (hH : Holds E H w) (r : Rep E v c) : OpRuns C E w (Pure.pure (.value c)) v H :=
  ⟨.value c, w, E, rfl, Ext.refl _ _, hH, .inl ⟨c, rfl, r⟩⟩
theorem buildSlice_run {T e : TypeId} {len n : Nat} {ag : Bool} {z : AV} {ps : List (Nat × AV)} {pc : Array (Nat × Value)} {cs l : List AV} (hH : Holds E H w) (he : elemT C T = some e) (hn : szOf C e = some n) (hz : zeroOf C e = some z)
    (h0 : len ≠ 0) (hzl : z.cells.length = n) (hpos : 0 < n) (hle : len * n ≤ 2 ^ 24) (hp : Parts E ps pc.toList)
    (hf : afill (fun i => some (i * n, n)) (List.replicate len z.cells).flatten ps = some cs) (hg : group ag n len cs = some l) :
    RunsTo C E w (Instr.buildSlice T len pc) (.list l none) H := by
  obtain ⟨i, v, hi, hv, hc⟩ := info_zero hz
  obtain ⟨i', hi', hs⟩ := szOf_info hn
  rw [hi] at hi'; injection hi' with hi'; subst hi'
  have hr : RepL E z.cells v.cells := (hc E).cells
  obtain ⟨vs', hf', hr'⟩ := fill_run hp (zeros_rep hr hzl hpos len) hf
  have hlp : 0 < len := Nat.pos_of_ne_zero h0
  have hmul : len * n ≠ 0 := Nat.mul_ne_zero h0 (by omega)
  have hrun := run_buildSlice (P := C.P) w T e len pc vs' i v (elemT_slice he) hi hv (by rw [hs]; omega) (by rw [hs]; omega) (by rw [hs]; exact hf')
  obtain ⟨g1, g2, g3⟩ := group_flat hg
  have hsz := hr'.size
  have hfl := flat_len g2
  have hcs : len * n ≤ cs.length := by
    have := congrArg List.length g3
    rw [hfl, g1] at this; simp at this; omega
  obtain ⟨E', k1, k2, k3⟩ := hH.newList (els := l) (n := n) g2 (vs := vs') (cap := len) (fun k hk => by
      have h1 := hr'.get k (by rw [hfl, g1] at hk; omega)
      have : (flat l).getD k .empty = cs.getD k .empty := by
        rw [g3]; simp only [List.getD_eq_getElem?_getD]; rw [List.getElem?_take, if_pos (by rw [hfl, g1] at hk; exact hk)]
      rw [this]; exact h1) (by rw [hfl, g1]; omega) (by omega) e (0, 0)
  rw [g1] at k3
  exact ⟨_, _, E', hrun, k1, k2, k3⟩
theorem buildSlice_arr {T e : TypeId} {len n : Nat} {ag : Bool} {z : AV} {ps : List (Nat × AV)} {pc : Array (Nat × Value)} {cs l : List AV} (hH : Holds E H w) (he : elemT C T = some e) (hn : szOf C e = some n) (hz : zeroOf C e = some z)
    (h0 : len ≠ 0) (hzl : z.cells.length = n) (hpos : 0 < n) (hle : len * n ≤ 2 ^ 24) (hp : Parts E ps pc.toList)
    (hf : afill (fun i => some (i * n, n)) (List.replicate len z.cells).flatten ps = some cs) (hg : group ag n len cs = some l) :
    RunsTo C E w (Instr.buildSlice T len pc) (.slc H.length 0 l.length n ag) (H ++ [.cells (flat l) e]) := by
  obtain ⟨i, v, hi, hv, hc⟩ := info_zero hz
  obtain ⟨i', hi', hs⟩ := szOf_info hn
  rw [hi] at hi'; injection hi' with hi'; subst hi'
  have hr : RepL E z.cells v.cells := (hc E).cells
  obtain ⟨vs', hf', hr'⟩ := fill_run hp (zeros_rep hr hzl hpos len) hf
  have hlp : 0 < len := Nat.pos_of_ne_zero h0
  have hmul : len * n ≠ 0 := Nat.mul_ne_zero h0 (by omega)
  have hrun := run_buildSlice (P := C.P) w T e len pc vs' i v (elemT_slice he) hi hv (by rw [hs]; omega) (by rw [hs]; omega) (by rw [hs]; exact hf')
  obtain ⟨g1, g2, g3⟩ := group_flat hg
  have hsz := hr'.size
  have hfl := flat_len g2
  have hcs : len * n ≤ cs.length := by
    have := congrArg List.length g3
    rw [hfl, g1] at this; simp at this; omega
  have hfp : RepP E (flat l) vs' := ⟨by rw [hfl, g1]; omega, fun k hk => by
    have h1 := hr'.get k (by rw [hfl, g1] at hk; omega)
    have : (flat l).getD k .empty = cs.getD k .empty := by
      rw [g3]; simp only [List.getD_eq_getElem?_getD]; rw [List.getElem?_take, if_pos (by rw [hfl, g1] at hk; exact hk)]
    rw [this]; exact h1⟩
  obtain ⟨E', k1, k2, k3⟩ := hH.array hfp e
  refine ⟨_, _, E', hrun, k1, k2, ?_⟩
  rw [g1]
  exact .slc _ _ _ _ _ _ _ _ len 0 k3 (Nat.le_refl _) (fun _ => rfl) (by omega)
theorem buildSlice_none {T e : TypeId} {n : Nat} {pc : Array (Nat × Value)} (hH : Holds E H w) (he : elemT C T = some e) (hn : szOf C e = some n) (hp : pc.toList = []) :
    RunsTo C E w (Instr.buildSlice T 0 pc) .empty H := by
  have : pc = #[] := by apply Array.ext'; simpa using hp
  subst this
  obtain ⟨h1, h2⟩ := hH.row #[] e (0, 0)
  refine ⟨_, _, _, ?_, h1, h2, .empty (some ⟨w.heap.size, 0, none⟩)⟩
  have h0 : ∀ f : Nat -> Value, Array.map f (Array.range 0) = #[] := fun f => by apply Array.ext'; simp
  simp [Instr.buildSlice, run_underlying (elemT_slice he), szOf_run hn, Instr.fill, newRow, h0]
theorem store_run {T T0 : TypeId} {id off n : Nat} {cs : List AV} {v : AV} {p x : Value} (hH : Holds E H w) (hp : Rep E (.ptr id off) p) (hx : Rep E v x) (hi : H[id]? = some (.cells cs T0)) (hn : szOf C T = some n)
    (h1 : v.cells.length = n) (h2 : off + n ≤ cs.length) (h3 : v.cells.all AV.one = true) :
    ∃ w', (Instr.storeAt T p x).run C.P w = .ok () w' /\ Ext E w E w' /\ Holds E (H.set id (.cells (splice cs off v.cells) T0)) w' := by
  obtain ⟨b, nc, sz, hf, rfl⟩ := hp.inv_ptr
  obtain ⟨vs, hv, hvs, g1, g2⟩ := hH.put hi hf hx.cells (off := off) (by omega)
  refine ⟨_, ?_, g1, g2⟩
  have hxc := hx.cells
  have hsz := hxc.size
  have hst := run_storeCells_at C.P b off T0 x.cells.toList 0 vs w hv (by simp; omega) (RepL.ones (cs := v.cells) (vs := x.cells.toList) (by simpa using hxc) h3)
  simp only [Nat.add_zero] at hst
  simp only [Instr.storeAt, Instr.sureAddr, Sem.run_bind, Sem.run_pure, Result.andThen_ok, storeVar, szOf_run hn]
  rw [Sem.run_ite, if_neg (by omega)]
  exact hst
theorem len_run {T ty : TypeId} {x : AV} {n : Nat} {c : Value} (hH : Holds E H w) (hx : Rep E x c) (h : alen C T x = some n) : RunsTo C E w (Builtin.len_ #[T] ty #[c]) (.int .i64 n) H := by
  unfold alen at h
  cases x <;> try (cases h; done)
  case str s =>
    simp only at h
    split at h <;> first | (cases h; done) | skip
    rename_i hu
    injection h with h; subst h
    obtain ⟨b, rfl, rfl⟩ := hx.inv_str
    refine .here hH (c := .int .i64 b.size) ?_ ?_
    . simp [Builtin.len_, run_underlying hu, goInt]
    . rw [show b.data.toList.length = b.size from Array.length_toList]; exact .int _ _
  case list els tok =>
    simp only at h
    split at h <;> first | (cases h; done) | skip
    rename_i hu
    injection h with h; subst h
    obtain ⟨base, cap, rfl, _⟩ := hx.inv_list
    exact .here hH (by simp [Builtin.len_, run_underlying hu, goInt]) (.int _ _)
  case empty =>
    simp only at h
    split at h <;> first | (cases h; done) | skip
    rename_i hu
    injection h with h; subst h
    obtain ⟨b, rfl⟩ := hx.inv_empty
    exact .here hH (by simp [Builtin.len_, run_underlying hu, goInt]) (.int _ _)
  case slc id off m sz ag =>
    simp only at h
    split at h <;> first | (cases h; done) | skip
    rename_i hu
    injection h with h; subst h
    obtain ⟨b, nc, s, cap, o, _, _, _, rfl⟩ := hx.inv_slc
    exact .here hH (by simp [Builtin.len_, run_underlying hu, goInt]) (.int _ _)
theorem cap_run {T ty : TypeId} {c : Value} (hH : Holds E H w) (hx : Rep E .empty c) (h : ∃ e, C.P.underlying T = some (.slice e)) : RunsTo C E w (Builtin.cap_ #[T] ty #[c]) (.int .i64 0) H := by
  obtain ⟨e, he⟩ := h
  obtain ⟨b, rfl⟩ := hx.inv_empty
  exact .here hH (by simp [Builtin.cap_, run_underlying he, goInt]) (.int _ _)
theorem rep_undef' : Rep E .undef undef := .tup [] #[] rfl fun i hi => by simp at hi
theorem make_run {T e _ty : TypeId} {kx ky : IntKind} {x : Int} {n : Nat} {z : AV} {ag : Bool} (hH : Holds E H w) (he : elemT C T = some e) (hn : szOf C e = some n) (hz : zeroOf C e = some z) (h0 : 0 ≤ x) (hm : makeOk C e x.toNat = true)
    (hl : z.cells.length = n) (hp : 0 < n) : RunsTo C E w (Instr.makeSlice T (.int kx x) (.int ky x)) (.slc H.length 0 x.toNat n ag) (H ++ [.cells (List.replicate x.toNat z.cells).flatten e]) := by
  obtain ⟨i, zv, hinf, hzv, hzc⟩ := info_zero hz
  have hzr : RepL E z.cells zv.cells := (hzc E).cells
  have hzs : zv.cells.size = n := by rw [<- hzr.size]; exact hl
  have hb : i.bytes * x.toNat ≤ 2 ^ 48 /\ x.toNat ≤ 2 ^ 62 := by
    unfold makeOk at hm; rw [hinf] at hm; simpa using hm
  obtain ⟨m, rfl⟩ : ∃ m : Nat, x = (m : Int) := ⟨x.toNat, (Int.toNat_of_nonneg h0).symm⟩
  simp only [Int.toNat_natCast] at hb ⊢
  have hw : IntKind.i64.wrap (m : Int) = (m : Int) := by rw [IntKind.wrap_i64]; omega
  obtain ⟨i', hinf', his⟩ := szOf_info hn
  rw [hinf] at hinf'; injection hinf' with hinf'; subst hinf'
  have hzz := zeros_rep hzr hl hp m
  have hti : (typeInfo e).run C.P w = .ok i w := by simp [typeInfo, hinf]
  have hzv' : ∀ w, (zeroValue e).run C.P w = .ok zv w := fun w => by simp [zeroValue, typeInfo, hinf, hzv]
  have hbad : ¬ ((m : Int) < 0 \/ (i.bytes : Int) * (m : Int) > 2 ^ 48) := by
    rintro (h | h)
    . omega
    . have : ((i.bytes * m : Nat) : Int) ≤ 2 ^ 48 := by exact_mod_cast hb.1
      rw [Int.natCast_mul] at this; omega
  obtain ⟨hb1, hb2⟩ := not_or.1 hbad
  have hrun : (Instr.makeSlice T (.int kx m) (.int ky m)).run C.P w =
      .ok (.slice (some ⟨w.heap.size, 0, none⟩) m m) (w.alloc (.cells ((Array.range (m * n)).map (zv.cells[· % zv.cells.size]!)) e)) := by
    have n1 : ¬ (m : Int) < 0 := by omega
    have n2 : ¬ (281474976710656 < (i.bytes : Int) * m) := by omega
    have n4 : ¬ (m : Int) < m := by omega
    by_cases h0 : m = 0
    . subst h0
      have hw0 : IntKind.i64.wrap 0 = 0 := by rw [IntKind.wrap_i64]; rfl
      simp [Instr.makeSlice, run_underlying (elemT_slice he), asInt, asIntOf, typeInfo, hinf, sizeOf, hw0, newRow, zeroValue]
      congr 2
      apply Array.ext'; simp
    . have hmn : m * n ≠ 0 := Nat.mul_ne_zero h0 (by omega)
      simp [Instr.makeSlice, run_underlying (elemT_slice he), asInt, asIntOf, typeInfo, hinf, sizeOf, zeroValue, hzv, hw, n1, n2, n4, newRow, his]
      intro h; exact absurd h hmn
  obtain ⟨E', g1, g2, g3⟩ := hH.array hzz.part e
  exact ⟨_, _, E', hrun, g1, g2, .slc _ _ _ _ _ _ _ _ _ _ g3 (Nat.le_refl _) (fun _ => rfl) (by simp)⟩
theorem make_run0 {T e _ty : TypeId} {kx ky : IntKind} {y : Int} {n : Nat} {z : AV} (hH : Holds E H w) (he : elemT C T = some e) (hn : szOf C e = some n) (hz : zeroOf C e = some z) (h0 : 0 ≤ y) (hm : makeOk C e y.toNat = true)
    (hl : z.cells.length = n) (hp : 0 < n) : RunsTo C E w (Instr.makeSlice T (.int kx 0) (.int ky y)) (.list [] (some H.length)) (H ++ [.tail 0 n]) := by
  obtain ⟨i, zv, hinf, hzv, hzc⟩ := info_zero hz
  have hzr : RepL E z.cells zv.cells := (hzc E).cells
  have hzs : zv.cells.size = n := by rw [<- hzr.size]; exact hl
  have hb : i.bytes * y.toNat ≤ 2 ^ 48 /\ y.toNat ≤ 2 ^ 62 := by
    unfold makeOk at hm; rw [hinf] at hm; simpa using hm
  obtain ⟨m, rfl⟩ : ∃ m : Nat, y = (m : Int) := ⟨y.toNat, (Int.toNat_of_nonneg h0).symm⟩
  simp only [Int.toNat_natCast] at hb
  have hw : IntKind.i64.wrap (m : Int) = (m : Int) := by rw [IntKind.wrap_i64]; omega
  have hw0 : IntKind.i64.wrap 0 = 0 := by rw [IntKind.wrap_i64]; rfl
  obtain ⟨i', hinf', his⟩ := szOf_info hn
  rw [hinf] at hinf'; injection hinf' with hinf'; subst hinf'
  have hrun : (Instr.makeSlice T (.int kx 0) (.int ky m)).run C.P w =
      .ok (.slice (some ⟨w.heap.size, 0, none⟩) 0 m) (w.alloc (.cells ((Array.range (m * n)).map (zv.cells[· % zv.cells.size]!)) e)) := by
    have n1 : ¬ (m : Int) < 0 := by omega
    have n2 : ¬ (281474976710656 < (i.bytes : Int) * m) := by
      intro h
      have : ((i.bytes * m : Nat) : Int) ≤ 2 ^ 48 := by exact_mod_cast hb.1
      rw [Int.natCast_mul] at this; omega
    by_cases h0 : m = 0
    . subst h0
      simp [Instr.makeSlice, run_underlying (elemT_slice he), asInt, asIntOf, typeInfo, hinf, sizeOf, hw0, newRow, zeroValue]
      congr 2
      apply Array.ext'; simp
    . have hmn : m * n ≠ 0 := Nat.mul_ne_zero h0 (by omega)
      simp [Instr.makeSlice, run_underlying (elemT_slice he), asInt, asIntOf, typeInfo, hinf, sizeOf, zeroValue, hzv, hw, hw0, n1, n2, newRow, his]
      intro h; exact absurd h hmn
  obtain ⟨g1, g2, g3⟩ := hH.newTail [] ((Array.range (m * n)).map (zv.cells[· % zv.cells.size]!)).toList e 0 n (by simp)
  simp only [List.nil_append, Array.toArray_toList] at g1 g2
  refine ⟨_, _, _, hrun, g1, g2, ListRep.rep ⟨⟨n, by simp⟩, fun k hk => by simp [flat] at hk, fun _ => rfl, Nat.zero_le _, ⟨w.heap.size, m * n, n, ?_, rfl, Nat.le_refl _, by simp⟩⟩ rfl⟩
  simp [Env.setF]
theorem ones_flat : ∀ {els : List AV}, els.all (fun v => decide (v.cells.length = 1) && v.one) = true -> flat els = els
  | [], _ => rfl
  | v :: r, h => by
    simp only [List.all_cons, Bool.and_eq_true] at h
    rw [flat_cons, ones_flat h.2]
    have : v.cells = [v] := by cases v <;> first | rfl | (simp [AV.one] at h)
    rw [this]; rfl
theorem copy_run {H' : Heap} {T sT ty : TypeId} {x y v : AV} {c d : Value} (hH : Holds E H w) (hx : Rep E x c) (hy : Rep E y d) (h : acopyB C [T, sT] [x, y] H = some (v, H')) : RunsTo C E w (Builtin.copy_ #[T, sT] ty #[c, d]) v H' := by
  unfold acopyB at h
  split at h <;> try (cases h; done)
  rename_i T1 T2 id off n sz ag els tok e1 e2
  injection e1 with e1 e1'; injection e1' with e1' _; subst e1 e1'
  injection e2 with e2 e2'; injection e2' with e2' _; subst e2 e2'
  split at h <;> try (cases h; done)
  rename_i e cs T0 he hi
  split at h <;> try (cases h; done)
  rename_i hsz
  split at h <;> try (cases h; done)
  rename_i hc
  obtain ⟨c1, c2, c3, c4⟩ := hc
  injection h with h; injection h with h1 h2; subst h1 h2
  obtain ⟨b, nc, s, cap, o, hf, hcap, ho, rfl⟩ := hx.inv_slc
  have ho' := ho (by omega); subst ho'
  obtain ⟨base, cap2, rfl, hL⟩ := hy.inv_list
  have hfl := ones_flat c1
  have hlt : 0 < (flat els).length := by rw [hfl]; exact c4
  obtain ⟨a, v0, eb, ha, _, _⟩ := hL.cells 0 hlt
  subst eb
  have hvs : ∀ k, k < els.length -> ∃ u, w.cell? (a.add k) = some u /\ Rep E (els.getD k .empty) u := by
    intro k hk
    obtain ⟨a', u, e', g2, g3, g4⟩ := hL.cells k (by rw [hfl]; exact hk)
    injection e' with e'; subst e'
    rw [Addr.add_eq g2]
    exact ⟨u, hH.st _ _ _ g3, by rwa [hfl] at g4⟩
  obtain ⟨us, hus⟩ : ∃ us : List Value, us = (List.range (min els.length n)).map fun k => (w.cell? (a.add k)).getD undef := ⟨_, rfl⟩
  have hul : us.length = min els.length n := by rw [hus]; simp
  have hsrc : ∀ j v, us[j]? = some v -> w.cell? (a.add j) = some v := by
    intro j v hj
    rw [hus] at hj
    obtain ⟨hjl, hj2⟩ := List.getElem?_eq_some_iff.1 hj
    simp at hjl hj2
    obtain ⟨u, hu, _⟩ := hvs j (by omega)
    rw [hu] at hj2 ⊢; exact congrArg some (by simpa using hj2)
  have hrep : RepL E (els.take n) us.toArray := by
    refine ⟨by simp [hul, Nat.min_comm], fun i hi => ?_⟩
    have hi' : i < n /\ i < els.length := by simp at hi; omega
    obtain ⟨u, hu, hr⟩ := hvs i hi'.2
    have e1 : (els.take n).getD i .empty = els.getD i .empty := by simp [List.getD_eq_getElem?_getD, hi'.1]
    have e2 : us.toArray.getD i undef = u := by
      rw [hus, Array.getD_eq_getD_getElem?, Array.getElem?_eq_getElem (by simp only [List.size_toArray, List.length_map, List.length_range]; omega)]; simp [hu]
    rw [e1, e2]; exact hr
  have hones : (els.take n).all AV.one = true := by
    rw [List.all_eq_true] at c1 ⊢
    intro x hx
    have := c1 x (List.mem_of_mem_take hx)
    simp only [Bool.and_eq_true] at this; exact this.2
  have hlen : (els.take n).length = us.length := by rw [hul]; simp [Nat.min_comm]
  obtain ⟨vs, hv, hvsz, g1, g2⟩ := hH.put hi hf hrep (off := o) (by rw [hlen, hul]; omega)
  have hrun := run_copy_row (P := C.P) w T sT ty e b o n cap a els.length cap2 vs T0 us (elemT_slice he) (by unfold szOf at hsz; simpa using hsz) hv hul hsrc
    (by
      obtain ⟨b', nc', sz', hf', hO⟩ := hH.obj _ _ hi (by simp)
      rw [hf] at hf'; injection hf' with hf'; injection hf' with q1 q2; injection q2 with q2 q3; subst q1 q2 q3
      obtain ⟨vs', hv', hn', hR, _⟩ := hO
      rw [hv] at hv'; injection hv' with hv'; injection hv' with hv' _ _; subst hv'
      have := hR.size
      rw [hul]; omega) (RepL.ones (cs := els.take n) (vs := us) hrep hones)
  refine ⟨_, _, E, hrun, ?_, ?_, ?_⟩
  . simpa using g1
  . simpa using g2
  . rw [hul]; exact .int _ _
theorem aappZ_run {T xT ty : TypeId} {k : IntKind} {x : Int} {v : AV} {b : Option Addr} {H' : Heap} (hH : Holds E H w) (h : aappZ C T xT x H = some (v, H')) :
    RunsTo C E w (Builtin.append_ #[T, xT] ty #[.slice b 0 0, .int k x]) v H' := by
  unfold aappZ at h
  split at h <;> try (cases h; done)
  rename_i e kx he hx ha
  split at h <;> try (cases h; done)
  rename_i n z ag hsz hz hag
  split at h <;> try (cases h; done)
  rename_i hc
  obtain ⟨h0, hl, hp, hroom⟩ := hc
  injection h with h; injection h with h1 h2; subst h1 h2
  obtain ⟨i, zv, hinf, hzv, hzc⟩ := info_zero hz
  have hzr : RepL E z.cells zv.cells := (hzc E).cells
  have hzs : zv.cells.size = n := by rw [<- hzr.size]; exact hl
  obtain ⟨i', hinf', his⟩ := szOf_info hsz
  rw [hinf] at hinf'; injection hinf' with hinf'; subst hinf'
  obtain ⟨m, rfl⟩ : ∃ m : Nat, x = (m : Int) := ⟨x.toNat, (Int.toNat_of_nonneg (by omega)).symm⟩
  simp only [Int.toNat_natCast] at hroom ⊢
  have hm : 0 < m := by omega
  have hr3 : (2 * m + 192) * i.bytes ≤ 2 ^ 48 /\ m ≤ 2 ^ 62 /\ 0 < i.bytes := by
    unfold roomOk at hroom; rw [hinf] at hroom; simp at hroom; exact hroom.1
  obtain ⟨r1, r2, r3⟩ := hr3
  have hw : IntKind.i64.wrap (m : Int) = (m : Int) := by rw [IntKind.wrap_i64]; omega
  have hzz := zeros_rep hzr hl hp m
  have hsz' : ∀ w, (sizeOf e).run C.P w = .ok n w := fun w => by simp [sizeOf, typeInfo, hinf, his]
  have hti : ∀ w, (typeInfo e).run C.P w = .ok i w := fun w => by simp [typeInfo, hinf]
  have hzv' : ∀ w, (zeroValue e).run C.P w = .ok zv w := fun w => by simp [zeroValue, typeInfo, hinf, hzv]
  have hbm : m * i.bytes ≤ 2 ^ 48 := Nat.le_trans (Nat.mul_le_mul_right i.bytes (by omega)) r1
  have n1 : ¬ (m : Int) < 0 := by omega
  have n2 : ¬ ((m : Int) * (i.bytes : Int) > 2 ^ 48) := by
    have : ((m * i.bytes : Nat) : Int) ≤ 2 ^ 48 := by exact_mod_cast hbm
    rw [Int.natCast_mul] at this; omega
  have n3 : ¬ (((0 + m : Nat) : Int) > IntKind.i64.max /\ (true = true \/ i.bytes = 0)) := by
    rintro ⟨h, _⟩; simp [IntKind.max, IntKind.bits, IntKind.signed] at h; omega
  have n4 : ¬ (Builtin.nextslicecap (0 + m) 0 * i.bytes > 2 ^ 48) := by
    have h1 := nextcap_le (L := 0 + m) (c := 0) (by omega)
    have := Nat.mul_le_mul_right i.bytes h1
    have e : 2 * (0 + m) + 192 = 2 * m + 192 := by omega
    rw [e] at this; omega
  have hch : ∀ w : World, (choose (.appendCap (0 + m) 0 e)).run C.P w = .ok (grownCap w (0 + m) 0 e) w.drew := fun w => by
    simp [Question.forced, grownCap]
  have ho : ∀ w, (Builtin.firstCells n 0 (.slice b 0 0)).run C.P w = .ok #[] w := fun w => by
    cases b <;> simp [Builtin.firstCells, loadCells, loadCellsFrom]
  have hmn : ¬ (m * n = 0) := Nat.mul_ne_zero (by omega) (by omega)
  have hrun : (Builtin.append_ #[T, xT] ty #[.slice b 0 0, .int k m]).run C.P w =
      .ok (.slice (some ⟨w.heap.size, 0, none⟩) (0 + m) (grownCap w (0 + m) 0 e)) (w.drew.alloc (.cells (#[] ++ Builtin.zeroCells zv.cells m ++ Builtin.zeroCells zv.cells (grownCap w (0 + m) 0 e - (0 + m))) e)) := by
    simp only [Builtin.append_, List.getElem?_toArray, List.getElem?_cons_zero, List.getElem?_cons_succ, Sem.run_bind, run_underlying (elemT_slice he), Result.andThen_ok, hsz', run_underlying hx, Sem.run_ite, if_true, asInt, asIntOf, Sem.run_pure, hw, if_neg n1, hti, if_neg n2, Int.toNat_natCast,
      if_neg (show ¬ (0 + m ≤ 0) by omega), if_neg n4, hch, run_askRoom, ho, Bool.not_true, Bool.false_eq_true, if_false, if_neg hmn, hzv', newRow, run_newObj]
    rw [if_neg (by simpa using n3)]
    rfl
  have hg := grown_ge w (0 + m) 0 e
  have hze : Builtin.zeroCells zv.cells m = (Array.range (m * n)).map (zv.cells[· % zv.cells.size]!) := by simp only [Builtin.zeroCells, hzs]
  have hpart : RepP E (List.replicate m z.cells).flatten (#[] ++ Builtin.zeroCells zv.cells m ++ Builtin.zeroCells zv.cells (grownCap w (0 + m) 0 e - (0 + m))) := by
    rw [<- hze] at hzz
    refine ⟨by have := hzz.size; simp at this ⊢; omega, fun i hi => ?_⟩
    have h1 := hzz.get i hi
    have h2 := hzz.size
    have e1 : (#[] ++ Builtin.zeroCells zv.cells m ++ Builtin.zeroCells zv.cells (grownCap w (0 + m) 0 e - (0 + m))).getD i undef = (Builtin.zeroCells zv.cells m).getD i undef := by
      have hi2 := hi
      rw [h2] at hi2
      simp only [Array.getD_eq_getD_getElem?]
      rw [Array.getElem?_append_left (by simp; omega)]
      simp
    rw [e1]; exact h1
  obtain ⟨E', g1, g2, g3⟩ := hH.drew.array hpart e
  rw [Nat.zero_add] at hrun hg g3 g1 g2
  exact ⟨_, _, E', hrun, (Ext.drew w).trans g1, g2, .slc _ _ _ _ _ _ _ _ _ _ g3 hg (fun _ => rfl) (by
    have hz0 := zeroCells_size zv.cells (grownCap w m 0 e - m)
    have hz1 := zeroCells_size zv.cells m
    have hgm := Nat.mul_le_mul_right n hg
    rw [hzs, Nat.sub_mul] at hz0
    rw [hzs] at hz1
    simp only [Array.size_append, hz0, hz1, Array.size_empty]; omega)⟩
theorem clear_run {H' : Heap} {T ty : TypeId} {x v : AV} {c : Value} (hH : Holds E H w) (hx : Rep E x c) (h : aclear C T x H = some (v, H')) : RunsTo C E w (Builtin.clear_ #[T] ty #[c]) v H' := by
  unfold aclear at h
  split at h <;> try (cases h; done)
  rename_i e id off n sz0 ag he
  obtain ⟨b, nc, s, cap, o, hf, hcap, ho, rfl⟩ := hx.inv_slc
  split at h
  . rename_i h0; subst h0
    injection h with h; injection h with h1 h2; subst h1 h2
    exact .here hH (by simp [Builtin.clear_, run_underlying (elemT_slice he), go_sem]; rfl) rep_undef'
  . rename_i h0
    have ho' := ho (Nat.pos_of_ne_zero h0)
    subst ho'
    split at h <;> try (cases h; done)
    rename_i z sz cs T0 hz hsz hi
    split at h <;> try (cases h; done)
    rename_i hc
    obtain ⟨c1, c2, c3⟩ := hc
    injection h with h; injection h with h1 h2; subst h1 h2
    obtain ⟨i, zv, hinf, hzv, hzc⟩ := info_zero hz
    have hzr : RepL E z.cells zv.cells := (hzc E).cells
    have hzs : zv.cells.size = sz := by rw [<- hzr.size]; exact c1
    have hpos : 0 < sz \/ sz = 0 := by omega
    have hzz : RepL E (List.replicate n z.cells).flatten (Builtin.zeroCells zv.cells n) := by
      rcases hpos with hp | hp
      . have := zeros_rep hzr c1 hp n
        have e : Builtin.zeroCells zv.cells n = (Array.range (n * sz)).map (zv.cells[· % zv.cells.size]!) := by simp only [Builtin.zeroCells, hzs]
        rw [e]; exact this
      . have : z.cells = [] := List.length_eq_zero_iff.1 (by omega)
        have e : Builtin.zeroCells zv.cells n = #[] := by apply Array.eq_empty_of_size_eq_zero; simp [Builtin.zeroCells, hzs, hp]
        rw [e, this]
        exact ⟨by simp, fun i hi => by simp at hi⟩
    have hlen : (List.replicate n z.cells).flatten.length = n * sz := by simp [c1]
    obtain ⟨vs, hv, hvs, g1, g2⟩ := hH.put hi hf hzz (off := o) (by rw [hlen]; exact c3)
    have hones : (List.replicate n z.cells).flatten.all AV.one = true := by
      simp only [List.all_eq_true, List.mem_flatten, List.mem_replicate] at c2 ⊢
      rintro x ⟨l, ⟨_, rfl⟩, hx⟩
      exact c2 x hx
    have hzl := hzz.size
    rw [hlen] at hzl
    have hst := run_storeCells_at C.P b o T0 (Builtin.zeroCells zv.cells n).toList 0 vs w hv (by simp; omega) (RepL.ones (cs := (List.replicate n z.cells).flatten) (vs := (Builtin.zeroCells zv.cells n).toList) (by simpa using hzz) hones)
    simp only [Nat.add_zero] at hst
    obtain ⟨m, rfl⟩ : ∃ m, n = m + 1 := ⟨n - 1, by omega⟩
    refine ⟨_, _, E, ?_, g1, g2, rep_undef'⟩
    have hz' : ∀ w, (zeroValue e).run C.P w = .ok zv w := fun w => by simp [zeroValue, typeInfo, hinf, hzv]
    simp only [Builtin.clear_, List.getElem?_toArray, List.getElem?_cons_zero, Sem.run_bind, run_underlying (elemT_slice he), Result.andThen_ok, hz', hst]
    rfl
theorem ints_rep : ∀ {args : List AV} {cs : List Value} {k : IntKind} {l : List Int}, (args.length = cs.length) -> (∀ i, i < args.length -> Rep E (args.getD i .empty) (cs.getD i undef)) -> ints args = some (k, l) -> cs = l.map (.int k)
  | [], cs, k, l, hl, hr, h => by simp [ints] at h
  | [x], cs, k, l, hl, hr, h => by
    match cs, hl with
    | [c], _ =>
      have h0 := hr 0 (by simp)
      simp at h0
      cases x <;> simp only [ints] at h <;> try (cases h; done)
      rename_i k' n
      simp at h; obtain ⟨rfl, rfl⟩ := h
      rw [h0.inv_int]; rfl
  | x :: y :: r, cs, k, l, hl, hr, h => by
    match cs, hl with
    | c :: cs', hl =>
      have h0 := hr 0 (by simp)
      simp at h0
      cases x <;> simp only [ints] at h <;> try (cases h; done)
      rename_i k' n
      split at h
      . rename_i j l' hi
        split at h
        . rename_i hk; subst hk; injection h with h; injection h with h1 h2; subst h1 h2
          have ih := ints_rep (args := y :: r) (cs := cs') (by simpa using hl) (fun i hi => by have := hr (i + 1) (by simpa using hi); simpa using this) hi
          rw [ih, h0.inv_int]; rfl
        . cases h
      . cases h
end
end Go.Tv
namespace Go.Tv
section
variable {C : Cfg} {E : Env} {H H' : Heap} {w : World} {t : List AV} {a : Act} {v : AV}
theorem ba_bytes (k : ByteArray) : (⟨k.data.toList.toArray⟩ : ByteArray) = k := by cases k; simp
theorem ba_beq (a b : ByteArray) : (a == b) = (a.data == b.data) := by cases a; cases b; rfl
theorem sameNow_str (k : ByteArray) (s : List UInt8) : Instr.sameNow .string (.string k) (.string ⟨s.toArray⟩) = some (s == k.data.toList) := by
  have hb : (k == (⟨s.toArray⟩ : ByteArray)) = (s == k.data.toList) := by
    rw [ba_beq, Bool.eq_iff_iff, beq_iff_eq, beq_iff_eq]
    constructor
    . intro e; rw [e]
    . intro e; rw [e]
  simp only [Instr.sameNow, hb]
theorem sameBits_str (n : Nat) (k : ByteArray) : Instr.sameBits n (.string k) (.string k) = true := by
  cases n <;> simp [Instr.sameBits, ba_beq]
theorem find_none {k : ByteArray} : ∀ {es : List (List UInt8 × AV)} {ms : List MapEntry} (n : Nat), MsRel E es ms -> mapGet es k.data.toList = none ->
    Instr.findNow .string (.string k) ms n = some none /\ ∀ (x : AV) (y : Value) (c : Nat), Rep E x y -> x.one = true -> MsRel E (mapSet es k.data.toList x) (ms ++ [{ key := .string k, val := y, born := c }])
  | [], [], n, _, _ => ⟨rfl, fun x y c hx h1 => ⟨⟨by rw [ba_bytes], hx, h1⟩, trivial⟩⟩
  | e :: r, m :: s, n, ⟨⟨a, b, c⟩, d⟩, h => by
    simp only [mapGet] at h
    split at h
    . cases h
    . rename_i hne
      obtain ⟨g1, g2⟩ := find_none (n + 1) d h
      refine ⟨?_, fun x y c' hx h1 => ?_⟩
      . simp only [Instr.findNow, a, sameNow_str]
        rw [Bool.eq_false_iff.2 hne]; exact g1
      . simp only [mapSet, if_neg hne]
        exact ⟨⟨a, b, c⟩, g2 x y c' hx h1⟩
  | [], _ :: _, _, h, _ => h.elim
  | _ :: _, [], _, h, _ => h.elim
theorem find_some {k : ByteArray} {u : AV} : ∀ {es : List (List UInt8 × AV)} {ms : List MapEntry} (n : Nat), MsRel E es ms -> mapGet es k.data.toList = some u ->
    ∃ i m, Instr.findNow .string (.string k) ms n = some (some (n + i, m.val)) /\ ms[i]? = some m /\ m.key = .string k /\ Rep E u m.val /\
      ∀ (x : AV) (y : Value), Rep E x y -> x.one = true -> MsRel E (mapSet es k.data.toList x) (ms.modify i fun e => { e with key := .string k, val := y })
  | [], [], n, _, h => by simp [mapGet] at h
  | e :: r, m :: s, n, ⟨⟨a, b, c⟩, d⟩, h => by
    simp only [mapGet] at h
    split at h
    . rename_i he
      injection h with h; subst h
      refine ⟨0, m, ?_, rfl, ?_, b, fun x y hx h1 => ?_⟩
      . simp only [Instr.findNow, a, sameNow_str, he, Nat.add_zero]
      . rw [a, eq_of_beq he, ba_bytes]
      . simp only [mapSet, if_pos he]
        exact ⟨⟨by rw [ba_bytes], hx, h1⟩, d⟩
    . rename_i hne
      obtain ⟨i, m', g1, g2, g3, g4, g5⟩ := find_some (n + 1) d h
      refine ⟨i + 1, m', ?_, by simpa using g2, g3, g4, fun x y hx h1 => ?_⟩
      . simp only [Instr.findNow, a, sameNow_str]
        rw [Bool.eq_false_iff.2 hne, show n + (i + 1) = n + 1 + i by omega]; exact g1
      . simp only [mapSet, if_neg hne]
        exact ⟨⟨a, b, c⟩, g5 x y hx h1⟩
  | [], _ :: _, _, h, _ => h.elim
  | _ :: _, [], _, h, _ => h.elim
theorem Holds.map_get (hH : Holds E H w) {id : Nat} {es : List (List UInt8 × AV)} (hi : H[id]? = some (.amap es)) {b nc sz : Nat} (hf : E.f id = some (b, nc, sz)) :
    ∃ ms c, w.heap[b]? = some (.map ms c) /\ MsRel E es ms.toList /\ ∀ o, E.st b o = none := by
  obtain ⟨b', nc', sz', hf', hO⟩ := hH.obj _ _ hi (by simp)
  rw [hf] at hf'; injection hf' with hf'; injection hf' with e1 e2; subst e1
  exact hO
theorem Holds.newObj (h : Holds E H w) (X : Obj) (o : AObj) (hO : ∀ w', w'.heap[w.heap.size]? = some X -> ObjRel E w' w.heap.size 0 0 o) :
    ∃ E', Ext E w E' (w.alloc X) /\ Holds E' (H ++ [o]) (w.alloc X) /\ E'.f H.length = some (w.heap.size, 0, 0) := by
  have h1 := h.alloc X
  obtain ⟨_, g2⟩ := h1.add (b := w.heap.size) (nc := 0) (sz := 0) (o := o) (by simp) (hO _ (heap_new w _))
    (fun i p hp e => absurd (h.dom i p hp).2 (by omega)) h.fresh_k
  exact ⟨_, (Ext.alloc w X).setF (i := H.length) (Nat.le_of_eq h.len) h.fresh_f (.inl (Nat.le_refl _)), g2, by simp [Env.setF]⟩
theorem Holds.putObj (h : Holds E H w) {id : Nat} {o o' : AObj} (hi : H[id]? = some o) (hd0 : o ≠ .dead) {b nc sz : Nat} (hf : E.f id = some (b, nc, sz)) (hS : ∀ k, E.st b k = none)
    (X : Obj) (hO : ∀ w', w'.heap[b]? = some X -> ObjRel E w' b nc sz o') :
    Ext E w E { w with heap := w.heap.setIfInBounds b X } /\ Holds E (H.set id o') { w with heap := w.heap.setIfInBounds b X } := by
  have hlt : b < w.heap.size := (h.dom _ _ hf).2
  have hidlt : id < H.length := (h.dom _ _ hf).1
  have hoth : ∀ k, k ≠ b -> (w.heap.setIfInBounds b X)[k]? = w.heap[k]? := fun k hk => by
    rw [Array.getElem?_setIfInBounds]; rw [if_neg (fun e => hk e.symm)]
  have hself : (w.heap.setIfInBounds b X)[b]? = some X := by
    rw [Array.getElem?_setIfInBounds]; rw [if_pos rfl, if_pos hlt]
  refine ⟨?_, ?_⟩
  . refine ⟨E.le_refl, rfl, rfl, rfl, by simp, fun k hk hne => hoth k (fun e => hne _ _ hf e.symm), fun _ _ h => .inl h, fun _ _ _ h => .inl h, fun _ => Nat.le_refl _⟩
  . refine ⟨fun k o v hv' => ?_, fun i p hp => ?_, fun i x hi' hd => ?_, fun i j p q hp hq e => ?_, by simpa using h.len, fun k o hk => ⟨(hoth k (fun e => (h.blk k o hk).2 _ _ hf e.symm)).trans (h.blk k o hk).1, (h.blk k o hk).2⟩⟩
    . have hne : k ≠ b := fun e => by subst e; rw [hS] at hv'; cases hv'
      have h0 := h.st _ _ _ hv'
      simp only [World.cell?] at h0 ⊢
      rw [hoth k hne]; exact h0
    . have := h.dom i p hp; simpa using this
    . by_cases e : i = id
      . subst e
        rw [List.getElem?_set_self hidlt] at hi'; injection hi' with hi'; subst hi'
        exact ⟨b, nc, sz, hf, hO _ hself⟩
      . rw [List.getElem?_set_ne (Ne.symm e)] at hi'
        obtain ⟨b2, n2, s2, h2, h3⟩ := h.obj i x hi' hd
        refine ⟨b2, n2, s2, h2, h3.mono_world (hoth b2 fun eb => ?_)⟩
        rcases h.inj i id _ _ h2 hf eb with hh | hh | hh
        . exact e hh
        . rw [hi'] at hh; injection hh with hh; exact hd hh
        . rw [hi] at hh; injection hh with hh; exact hd0 hh
    . rcases h.inj i j p q hp hq e with hh | hh | hh
      . exact .inl hh
      . by_cases ei : i = id
        . subst ei; rw [hi] at hh; injection hh with hh; exact absurd hh hd0
        . exact .inr (.inl (by rw [List.getElem?_set_ne (Ne.symm ei)]; exact hh))
      . by_cases ej : j = id
        . subst ej; rw [hi] at hh; injection hh with hh; exact absurd hh hd0
        . exact .inr (.inr (by rw [List.getElem?_set_ne (Ne.symm ej)]; exact hh))
theorem Holds.putMap (h : Holds E H w) {id : Nat} {es es' : List (List UInt8 × AV)} (hi : H[id]? = some (.amap es)) {b nc sz : Nat} (hf : E.f id = some (b, nc, sz))
    {ms' : Array MapEntry} {c' : Nat} (hr : MsRel E es' ms'.toList) :
    Ext E w E { w with heap := w.heap.setIfInBounds b (.map ms' c') } /\ Holds E (H.set id (.amap es')) { w with heap := w.heap.setIfInBounds b (.map ms' c') } := by
  obtain ⟨ms, c, hv, hR, hS⟩ := h.map_get hi hf
  exact h.putObj hi (by simp) hf hS _ fun w' hw' => ⟨ms', c', hw', hr, hS⟩
theorem Holds.siter_get (hH : Holds E H w) {id : Nat} {s : List UInt8} {pos : Nat} (hi : H[id]? = some (.siter s pos)) {b nc sz : Nat} (hf : E.f id = some (b, nc, sz)) :
    w.heap[b]? = some (.stringIter ⟨s.toArray⟩ pos) /\ ∀ o, E.st b o = none := by
  obtain ⟨b', nc', sz', hf', hO⟩ := hH.obj _ _ hi (by simp)
  rw [hf] at hf'; injection hf' with hf'; injection hf' with e1 e2; subst e1
  exact hO
theorem decode_ascii (l : List UInt8) (i : Nat) (h : i < l.length) (hc : l[i].toNat < 128) : Utf8.decode ⟨l.toArray⟩ i = (l[i].toNat, 1) := by
  have e : (ByteArray.get! ⟨l.toArray⟩ (i + 0)) = l[i] := by simp [ByteArray.get!, h]
  simp only [Utf8.decode, e]
  rw [if_pos (show l[i].toNat < 0x80 from hc)]
theorem tv_getIter {b : Nat} {s : ByteArray} {pos : Nat} (hb : w.heap[b]? = some (.stringIter s pos)) : (getObj b).run C.P w = .ok (.stringIter s pos) w := by
  simp [getObj, Sem.run, hb]
theorem tv_setIter {b : Nat} {s : ByteArray} {pos : Nat} (o : Obj) (hb : w.heap[b]? = some (.stringIter s pos)) : (setObj b o).run C.P w = .ok () { w with heap := w.heap.setIfInBounds b o } := by
  simp [setObj, Sem.run, hb]
theorem tv_getObj {b : Nat} {ms : Array MapEntry} {c : Nat} (hb : w.heap[b]? = some (.map ms c)) : (getObj b).run C.P w = .ok (.map ms c) w := by
  simp [getObj, Sem.run, hb]
theorem tv_setObj {b : Nat} {ms : Array MapEntry} {c : Nat} (o : Obj) (hb : w.heap[b]? = some (.map ms c)) : (setObj b o).run C.P w = .ok () { w with heap := w.heap.setIfInBounds b o } := by
  simp [setObj, Sem.run, hb]
theorem tv_checkKey {kt : TypeId} (hd : C.P.underlying kt = some .string) (k : ByteArray) (e : Bool) : (Instr.checkKey e 10000 kt (.string k)).run C.P w = .ok () w := by
  show (Instr.checkKey e (9999 + 1) kt (.string k)).run C.P w = .ok () w
  unfold Instr.checkKey
  simp only [Sem.run_bind, run_underlying hd, Result.andThen_ok, Sem.run_pure]
theorem tv_findKey {kt : TypeId} {k : Value} {l : List MapEntry} {r : Option (Nat × Value)} (hd : C.P.underlying kt = some .string) (h : Instr.findNow .string k l 0 = some r) : (Instr.findKey kt k l).run C.P w = .ok r w := by
  simp [Instr.findKey, run_underlying hd, h]
theorem tv_stays (k : ByteArray) : (Instr.keyThatStays (.string k) (.string k)).run C.P w = .ok (.string k) w := by
  simp [Instr.keyThatStays, sameBits_str]
theorem strMapT_eq {T : TypeId} (h : strMapT C T = true) : ∃ k e, C.P.underlying T = some (.map k e) /\ C.P.underlying k = some .string := by
  unfold strMapT at h
  split at h <;> try (cases h; done)
  rename_i k e hu
  split at h <;> try (cases h; done)
  rename_i hk
  exact ⟨k, e, hu, hk⟩
theorem ev_opt {x : Option Operand} : x.map (ev C t) = none ↔ x = none := by cases x <;> simp
section
variable {dst : Option Tmp} {type : TypeId} {pos : String} {after : Array Edge} {guard : Option (Nat × Bool)}
theorem aop_move (x : Operand) (ht : RepL E t a.tmps) (hg : GlobOk C E) (hH : Holds E H w) (h : aval C (.move x) t = some v) :
    OpRuns C E w (execOp a.eval ⟨dst, .move x, type, pos, after, guard⟩) v H := by
  simp only [aval] at h
  split at h <;> try (cases h; done)
  rename_i y hy; injection h with h1; subst h1
  exact .pure hH (ev_rep ht hg hy)
theorem aop_assign (x : Operand) (ht : RepL E t a.tmps) (hg : GlobOk C E) (hH : Holds E H w) (h : aval C (.assign x) t = some v) :
    OpRuns C E w (execOp a.eval ⟨dst, .assign x, type, pos, after, guard⟩) v H := by
  simp only [aval] at h
  split at h <;> try (cases h; done)
  rename_i y hy; injection h with h1; subst h1
  exact .pure hH (ev_rep ht hg hy)
theorem aop_pick (c x y : Operand) (ht : RepL E t a.tmps) (hg : GlobOk C E) (hH : Holds E H w) (h : aval C (.pick c x y) t = some v) :
    OpRuns C E w (execOp a.eval ⟨dst, .pick c x y, type, pos, after, guard⟩) v H := by
  simp only [aval] at h
  split at h <;> try (cases h; done)
  rename_i d hd
  split at h <;> try (cases h; done)
  rename_i y1 y2 h1 h2; injection h with e1; subst e1
  have hc := (ev_rep ht hg hd).inv_bool
  have hr := ev_rep ht hg h1
  refine ⟨_, _, _, ?_, Ext.refl _ _, hH, .inl ⟨_, rfl, hr⟩⟩
  simp only [execOp, hc, asBool, Sem.run_bind, Sem.run_pure, Result.andThen_ok]
  cases d <;> rfl
theorem aop_alloc (T : TypeId) (_ht : RepL E t a.tmps) (_hg : GlobOk C E) (hH : Holds E H w) (h : aop C (.alloc T) t H = some (v, H')) :
    OpRuns C E w (execOp a.eval ⟨dst, .alloc T, type, pos, after, guard⟩) v H' := by
  simp only [aop] at h
  split at h <;> try (cases h; done)
  rename_i z hz; injection h with h; injection h with h1 h2; subst h1 h2
  obtain ⟨c, hc, hr⟩ := zeroOf_run hz E w
  obtain ⟨E', g1, g2, g3⟩ := hH.box hr.cells T
  exact RunsTo.op ⟨_, _, E', by simp [Instr.alloc, hc, newVar, newRow], g1, g2, g3⟩
theorem aop_box (T : TypeId) (x : Operand) (ht : RepL E t a.tmps) (hg : GlobOk C E) (hH : Holds E H w) (h : aop C (.box T x) t H = some (v, H')) :
    OpRuns C E w (execOp a.eval ⟨dst, .box T x, type, pos, after, guard⟩) v H' := by
  simp only [aop] at h
  split at h <;> try (cases h; done)
  rename_i y hy; injection h with h; injection h with h1 h2; subst h1 h2
  obtain ⟨E', g1, g2, g3⟩ := hH.box (ev_rep ht hg hy).cells T
  exact RunsTo.op ⟨_, _, E', by simp [Instr.box, newVar, newRow], g1, g2, g3⟩
theorem aop_build (T : TypeId) (parts : Array (Nat × Operand)) (ht : RepL E t a.tmps) (hg : GlobOk C E) (hH : Holds E H w) (h : aval C (.build T parts) t = some v) :
    OpRuns C E w (execOp a.eval ⟨dst, .build T parts, type, pos, after, guard⟩) v H := by
  simp only [aval] at h
  split at h <;> try (cases h; done)
  . rename_i z fs ps hz hu hp
    split at h <;> try (cases h; done)
    rename_i hall
    split at h <;> try (cases h; done)
    rename_i cs hf; injection h with h1; subst h1
    obtain ⟨c, hc, hr⟩ := build_struct_run (E := E) (w := w) (pc := parts.map fun (i, x) => (i, a.eval x)) hz hu hall (by simpa using evParts_rep ht hg hp) hf
    exact RunsTo.op (.here hH hc hr)
  . rename_i z len e ps hz hu hp
    split at h <;> try (cases h; done)
    rename_i n hn
    split at h <;> try (cases h; done)
    rename_i cs hf; injection h with h1; subst h1
    obtain ⟨c, hc, hr⟩ := build_array_run (E := E) (w := w) (pc := parts.map fun (i, x) => (i, a.eval x)) hz hu hn (by simpa using evParts_rep ht hg hp) hf
    exact RunsTo.op (.here hH hc hr)
theorem aop_buildSlice (T : TypeId) (len : Nat) (parts : Array (Nat × Operand)) (ht : RepL E t a.tmps) (hg : GlobOk C E) (hH : Holds E H w) (h : aval C (.buildSlice T len parts) t = some v) :
    OpRuns C E w (execOp a.eval ⟨dst, .buildSlice T len parts, type, pos, after, guard⟩) v H := by
  simp only [aval] at h
  split at h <;> try (cases h; done)
  rename_i e ps he hp
  split at h <;> try (cases h; done)
  rename_i n z hn hz
  split at h
  . rename_i h0; subst h0
    split at h <;> try (cases h; done)
    injection h with h1; subst h1
    have hpe : parts.toList = [] := by
      cases hl : parts.toList with
      | nil => rfl
      | cons p r =>
        rw [hl] at hp
        obtain ⟨i, x⟩ := p
        simp only [evParts] at hp
        split at hp <;> cases hp
    exact RunsTo.op (buildSlice_none hH he hn (by simp [hpe]))
  . rename_i h0
    split at h <;> try (cases h; done)
    rename_i hc
    split at h <;> try (cases h; done)
    rename_i cs hf
    split at h <;> try (cases h; done)
    rename_i ag hag
    split at h <;> try (cases h; done)
    rename_i l hgr; injection h with h1; subst h1
    have hp' : Parts E ps (parts.map fun (i, x) => (i, a.eval x)).toList := by simpa using evParts_rep ht hg hp
    obtain ⟨c1, c2, c3⟩ := hc
    have hfin := buildSlice_run (w := w) (T := T) (e := e) (len := len) (n := n) (ag := ag) (z := z) (ps := ps) (pc := parts.map fun (i, x) => (i, a.eval x)) (cs := cs) (l := l) hH he hn hz h0 c1 c2 c3 hp' hf hgr
    exact RunsTo.op hfin
theorem aop_buildLit (T : TypeId) (len : Nat) (parts : Array (Nat × Operand)) {l : List AV} {e : TypeId} {n : Nat} {ag : Bool} (ht : RepL E t a.tmps) (hg : GlobOk C E) (hH : Holds E H w) (h : aval C (.buildSlice T len parts) t = some (.list l none))
    (he' : elemT C T = some e) (hn' : szOf C e = some n) (ha' : aggT C e = some ag) :
    OpRuns C E w (execOp a.eval ⟨dst, .buildSlice T len parts, type, pos, after, guard⟩) (.slc H.length 0 l.length n ag) (H ++ [.cells (flat l) e]) := by
  simp only [aval] at h
  split at h <;> try (cases h; done)
  rename_i e1 ps he hp
  rw [he] at he'; injection he' with he'; subst he'
  split at h <;> try (cases h; done)
  rename_i n1 z hn hz
  rw [hn] at hn'; injection hn' with hn'; subst hn'
  split at h
  . split at h <;> cases h
  . rename_i h0
    split at h <;> try (cases h; done)
    rename_i hc
    split at h <;> try (cases h; done)
    rename_i cs hf
    split at h <;> try (cases h; done)
    rename_i ag1 hag
    rw [hag] at ha'; injection ha' with ha'; subst ha'
    split at h <;> try (cases h; done)
    rename_i l1 hgr; injection h with h1; injection h1 with h1; subst h1
    have hp' : Parts E ps (parts.map fun (i, x) => (i, a.eval x)).toList := by simpa using evParts_rep ht hg hp
    obtain ⟨c1, c2, c3⟩ := hc
    exact RunsTo.op (buildSlice_arr hH he hn hz h0 c1 c2 c3 hp' hf hgr)
theorem aop_makeMap (T : TypeId) (hH : Holds E H w) : OpRuns C E w (execOp a.eval ⟨dst, .makeMap T none, type, pos, after, guard⟩) (.mapr H.length) (H ++ [.amap []]) := by
  obtain ⟨E', g1, g2, g3⟩ := hH.newObj (.map #[] 0) (.amap []) fun w' hw' => ⟨#[], 0, hw', trivial, fun o => hH.fresh_st o⟩
  exact RunsTo.op ⟨_, _, E', by simp [Instr.makeMap], g1, g2, .mapr _ _ _ _ g3⟩
theorem aop_range (T : TypeId) (x : Operand) (ht : RepL E t a.tmps) (hg : GlobOk C E) (hH : Holds E H w) (h : aop C (.range T x) t H = some (v, H')) :
    OpRuns C E w (execOp a.eval ⟨dst, .range T x, type, pos, after, guard⟩) v H' := by
  simp only [aop] at h
  split at h <;> try (cases h; done)
  rename_i s hx hu; injection h with h; injection h with h1 h2; subst h1 h2
  obtain ⟨kb, ek, es'⟩ := (ev_rep ht hg hx).inv_str
  subst es'
  obtain ⟨E', g1, g2, g3⟩ := hH.newObj (.stringIter kb 0) (.siter kb.data.toList 0) fun w' hw' => ⟨by rw [ba_bytes]; exact hw', fun o => hH.fresh_st o⟩
  exact RunsTo.op ⟨_, _, E', by simp [Instr.range, ek, run_underlying hu], g1, g2, .ptr _ _ _ _ _ g3⟩
theorem aop_next (T : TypeId) (it : Operand) (ht : RepL E t a.tmps) (hg : GlobOk C E) (hH : Holds E H w) (h : aop C (.next it true) t H = some (v, H')) :
    OpRuns C E w (execOp a.eval ⟨dst, .next it true, T, pos, after, guard⟩) v H' := by
  simp only [aop] at h
  split at h <;> try (cases h; done)
  rename_i id hx
  split at h <;> try (cases h; done)
  rename_i s p hi
  obtain ⟨b, nc, sz, hf, em⟩ := (ev_rep ht hg hx).inv_ptr
  obtain ⟨hb, hS⟩ := hH.siter_get hi hf
  split at h
  . rename_i c hc
    split at h <;> try (cases h; done)
    rename_i hlt; injection h with h; injection h with h1 h2; subst h1 h2
    obtain ⟨hp, hc'⟩ := List.getElem?_eq_some_iff.1 hc
    subst hc'
    obtain ⟨e1, e2⟩ := hH.putObj hi (by simp) hf hS (.stringIter ⟨s.toArray⟩ (p + 1)) (o' := .siter s (p + 1)) fun w' hw' => ⟨hw', hS⟩
    have hd := decode_ascii s p hp hlt
    have hsz : p < (ByteArray.mk s.toArray).size := by simpa [ByteArray.size] using hp
    refine RunsTo.op ⟨.tuple #[.bool true, goInt p, .int .i32 s[p].toNat], _, E, ?_, e1, e2, ?_⟩
    . simp only [em, Instr.next, Sem.run_bind, tv_getIter hb, Result.andThen_ok, if_pos hsz, hd, tv_setIter _ hb, Sem.run_pure]
    . refine .tup _ _ rfl fun i hi => ?_
      match i with
      | 0 => exact .bool true
      | 1 => exact .int _ _
      | 2 => exact .int _ _
  . rename_i hc
    injection h with h; injection h with h1 h2; subst h1 h2
    have hp : s.length ≤ p := List.getElem?_eq_none_iff.1 hc
    have hsz : ¬ p < (ByteArray.mk s.toArray).size := by simpa [ByteArray.size] using hp
    refine RunsTo.op (.here hH (c := .tuple #[.bool false]) ?_ ?_)
    . simp only [em, Instr.next, Sem.run_bind, tv_getIter hb, Result.andThen_ok, if_neg hsz, Sem.run_pure]
    . refine .tup _ _ rfl fun i hi => ?_
      match i with
      | 0 => exact .bool false
theorem aop_mapUpdate (T : TypeId) (m k x : Operand) (ht : RepL E t a.tmps) (hg : GlobOk C E) (hH : Holds E H w) (h : aop C (.mapUpdate T m k x) t H = some (v, H')) :
    OpRuns C E w (execOp a.eval ⟨dst, .mapUpdate T m k x, type, pos, after, guard⟩) v H' := by
  simp only [aop] at h
  split at h <;> try (cases h; done)
  rename_i id s u hm hk hx
  split at h <;> try (cases h; done)
  rename_i es hi
  split at h <;> try (cases h; done)
  rename_i hc; injection h with h; injection h with h1 h2; subst h1 h2
  simp only [Bool.and_eq_true] at hc
  obtain ⟨b, nc, sz, hf, em⟩ := (ev_rep ht hg hm).inv_mapr
  obtain ⟨kb, ek, es'⟩ := (ev_rep ht hg hk).inv_str
  subst es'
  obtain ⟨ms, c, hb, hR, _⟩ := hH.map_get hi hf
  obtain ⟨kt, et, hu1, hu2⟩ := strMapT_eq hc.1
  have hxr := ev_rep ht hg hx
  cases hq : mapGet es kb.data.toList with
  | none =>
    obtain ⟨g1, g2⟩ := find_none 0 hR hq
    obtain ⟨e1, e2⟩ := hH.putMap hi hf (ms' := ms.push { key := .string kb, val := a.eval x, born := c }) (c' := c + 1) (by simpa using g2 _ _ c hxr hc.2)
    refine ⟨.skip, _, E, ?_, e1, e2, .inr ⟨rfl, rfl⟩⟩
    simp [execOp, em, ek, Instr.mapUpdate, run_underlying hu1, tv_getObj hb, tv_checkKey hu2, tv_findKey hu2 g1, tv_setObj _ hb]
  | some y =>
    obtain ⟨i, e, g1, g2, g3, g4, g5⟩ := find_some 0 hR hq
    obtain ⟨e1, e2⟩ := hH.putMap hi hf (ms' := ms.modify i fun e => { e with key := .string kb, val := a.eval x }) (c' := c) (by rw [Array.toList_modify]; exact g5 _ _ hxr hc.2)
    refine ⟨.skip, _, E, ?_, e1, e2, .inr ⟨rfl, rfl⟩⟩
    have g2' : ms[i]? = some e := by rw [<- Array.getElem?_toList]; exact g2
    rw [Nat.zero_add] at g1
    simp [execOp, em, ek, Instr.mapUpdate, run_underlying hu1, tv_getObj hb, tv_checkKey hu2, tv_findKey hu2 g1, g2', g3, tv_stays, tv_setObj _ hb]
theorem aop_lookup (T : TypeId) (m k : Operand) (ht : RepL E t a.tmps) (hg : GlobOk C E) (hH : Holds E H w) (h : aop C (.lookup T m k true) t H = some (v, H')) :
    OpRuns C E w (execOp a.eval ⟨dst, .lookup T m k true, type, pos, after, guard⟩) v H' := by
  simp only [aop] at h
  split at h <;> try (cases h; done)
  rename_i id s hm hk
  split at h <;> try (cases h; done)
  rename_i es z hi hz
  split at h <;> try (cases h; done)
  rename_i hc
  obtain ⟨b, nc, sz, hf, em⟩ := (ev_rep ht hg hm).inv_mapr
  obtain ⟨kb, ek, es'⟩ := (ev_rep ht hg hk).inv_str
  subst es'
  obtain ⟨ms, c, hb, hR, _⟩ := hH.map_get hi hf
  obtain ⟨kt, et, hu1, hu2⟩ := strMapT_eq hc
  unfold mapZero at hz
  rw [hu1] at hz
  obtain ⟨zc, hzc, hzr⟩ := zeroOf_run hz E w
  cases hq : mapGet es kb.data.toList with
  | none =>
    rw [hq] at h; injection h with h; injection h with h1 h2; subst h1 h2
    obtain ⟨g1, _⟩ := find_none 0 hR hq
    refine RunsTo.op (.here hH (c := .tuple #[zc, .bool false]) ?_ ?_)
    . simp [em, ek, Instr.lookup, run_underlying hu1, tv_getObj hb, tv_checkKey hu2, tv_findKey hu2 g1, hzc]
    . refine .tup _ _ rfl fun i hi => ?_
      match i with
      | 0 => exact hzr
      | 1 => exact .bool false
  | some y =>
    rw [hq] at h; injection h with h; injection h with h1 h2; subst h1 h2
    obtain ⟨i, e, g1, g2, g3, g4, _⟩ := find_some 0 hR hq
    refine RunsTo.op (.here hH (c := .tuple #[e.val, .bool true]) ?_ ?_)
    . simp [em, ek, Instr.lookup, run_underlying hu1, tv_getObj hb, tv_checkKey hu2, tv_findKey hu2 g1]
    . refine .tup _ _ rfl fun i hi => ?_
      match i with
      | 0 => exact g4
      | 1 => exact .bool true
theorem aop_load (T : TypeId) (x : Operand) (ht : RepL E t a.tmps) (hg : GlobOk C E) (hH : Holds E H w) (h : aop C (.load T x) t H = some (v, H')) :
    OpRuns C E w (execOp a.eval ⟨dst, .load T x, type, pos, after, guard⟩) v H' := by
  simp only [aop] at h
  split at h <;> try (cases h; done)
  rename_i p hp
  split at h <;> try (cases h; done)
  rename_i cs hcs
  split at h <;> try (cases h; done)
  rename_i y hy; injection h with h; injection h with h1 h2; subst h1 h2
  obtain ⟨ad, he, hc⟩ := cellsAt_sound hH (ev_rep ht hg hp) hcs
  obtain ⟨c, hl, hr⟩ := ldCells_sound hc hy
  exact RunsTo.op (.here hH (c := c) (by rw [he]; simp only [Instr.loadAt, Instr.sureAddr, Sem.run_bind, Sem.run_pure, Result.andThen_ok]; exact hl) hr)
theorem aop_store (T : TypeId) (x y : Operand) (ht : RepL E t a.tmps) (hg : GlobOk C E) (hH : Holds E H w) (h : aop C (.store T x y) t H = some (v, H')) :
    OpRuns C E w (execOp a.eval ⟨dst, .store T x y, type, pos, after, guard⟩) v H' := by
  simp only [aop] at h
  split at h <;> try (cases h; done)
  rename_i id off u hx hy
  split at h <;> try (cases h; done)
  rename_i cs T0 n hi hn
  split at h <;> try (cases h; done)
  rename_i hc; injection h with h; injection h with h1 h2; subst h1 h2
  obtain ⟨w', g1, g2, g3⟩ := store_run hH (ev_rep ht hg hx) (ev_rep ht hg hy) hi hn hc.1 hc.2.1 hc.2.2
  exact ⟨.skip, w', E, by simp only [execOp, Sem.run_bind, g1, Result.andThen_ok, Sem.run_pure], g2, g3, .inr ⟨rfl, rfl⟩⟩
theorem aop_nilCheck (x : Operand) (ht : RepL E t a.tmps) (hg : GlobOk C E) (hH : Holds E H w) (h : aval C (.nilCheck x) t = some v) :
    OpRuns C E w (execOp a.eval ⟨dst, .nilCheck x, type, pos, after, guard⟩) v H := by
  simp only [aval] at h
  split at h <;> try (cases h; done)
  . rename_i i off hx; injection h with h1; subst h1
    have hr := ev_rep ht hg hx
    obtain ⟨b, nc, sz, _, e⟩ := hr.inv_ptr
    refine ⟨_, _, _, ?_, Ext.refl _ _, hH, .inl ⟨_, rfl, hr⟩⟩
    simp only [execOp, e, Sem.run_pure]
  . rename_i cs hx; injection h with h1; subst h1
    have hr := ev_rep ht hg hx
    obtain ⟨b, nc, e, _⟩ := hr.inv_tptr
    refine ⟨_, _, _, ?_, Ext.refl _ _, hH, .inl ⟨_, rfl, hr⟩⟩
    simp only [execOp, e, Sem.run_pure]
  . rename_i f x1 x2 hx; injection h with h1; subst h1
    have hr := ev_rep ht hg hx
    obtain ⟨b, nc, e, _⟩ := hr.inv_fn
    refine ⟨_, _, _, ?_, Ext.refl _ _, hH, .inl ⟨_, rfl, hr⟩⟩
    simp only [execOp, e, Sem.run_pure]
theorem nilness_rep {v : AV} {c : Value} {b : Bool} (h : Rep E v c) (hn : nilness v = some b) : ∃ base len cap, c = .slice base len cap /\ base.isNone = b := by
  unfold nilness at hn
  split at hn <;> try (cases hn; done)
  . injection hn with hn; subst hn; cases h; exact ⟨_, _, _, rfl, rfl⟩
  . injection hn with hn; subst hn; cases h; exact ⟨_, _, _, rfl, rfl⟩
  . injection hn with hn; subst hn
    obtain ⟨base, cap, rfl, hL⟩ := h.inv_list
    refine ⟨_, _, _, rfl, ?_⟩
    have := hL.some_ (by simp)
    cases base <;> simp at this ⊢
  . injection hn with hn; subst hn
    obtain ⟨b, nc, s, cap, o, _, _, _, rfl⟩ := h.inv_slc
    exact ⟨_, _, _, rfl, rfl⟩
theorem nil_run {T e : TypeId} {x y : Operand} {v : AV} {c q : Value} {b : Bool} (h : Rep E v c) (hn : nilness v = some b) (he : elemT C T = some e) (hq : ∃ n m, q = .slice none n m) : EqRuns C w T x y c q b := by
  obtain ⟨base, len, cap, rfl, hb⟩ := nilness_rep h hn
  obtain ⟨n, m, rfl⟩ := hq
  subst hb
  refine .of (guard_other (by simp) (by simp)) (fun d => ?_) rfl rfl
  cases base <;> simp [Op.equalIn, run_underlying (elemT_slice he)]
theorem aop_binOp (op : BinOp) (T : TypeId) (x y : Operand) (yT : TypeId) (ht : RepL E t a.tmps) (hg : GlobOk C E) (hH : Holds E H w) (h : aval C (.binOp op T x y yT) t = some v) :
    OpRuns C E w (execOp a.eval ⟨dst, .binOp op T x y yT, type, pos, after, guard⟩) v H := by
  simp only [aval] at h
  split at h
  . rename_i hy
    have hq : ∃ n m, a.eval y = .slice none n m := by
      unfold isNilC at hy
      split at hy <;> first | exact ⟨_, _, rfl⟩ | cases hy
    split at h <;> try (cases h; done)
    . rename_i e v1 he hx
      split at h <;> try (cases h; done)
      rename_i b hb; injection h with h1; subst h1
      have er := nil_run (w := w) (x := x) (y := y) (ev_rep ht hg hx) hb he hq
      exact RunsTo.op (.here hH (by simp only [Sem.run_bind, er.guard, Result.andThen_ok]; exact er.eql) (.bool _))
    . rename_i e v1 he hx
      split at h <;> try (cases h; done)
      rename_i b hb; injection h with h1; subst h1
      have er := nil_run (w := w) (x := x) (y := y) (ev_rep ht hg hx) hb he hq
      exact RunsTo.op (.here hH (by simp only [Sem.run_bind, er.guard, Result.andThen_ok]; exact er.neq) (.bool _))
  split at h <;> try (cases h; done)
  rename_i p q hp hq
  split at h <;> try (cases h; done)
  rename_i r hr; injection h with h1; subst h1
  obtain ⟨c, hc, hrr⟩ := abin_run (w := w) (ev_rep ht hg hp) (ev_rep ht hg hq) hr
  exact RunsTo.op (.here hH hc hrr)
theorem aop_unOp (op : UnOp) (T : TypeId) (x : Operand) (ht : RepL E t a.tmps) (hg : GlobOk C E) (hH : Holds E H w) (h : aval C (.unOp op T x) t = some v) :
    OpRuns C E w (execOp a.eval ⟨dst, .unOp op T x, type, pos, after, guard⟩) v H := by
  simp only [aval] at h
  split at h <;> try (cases h; done)
  rename_i p hp
  split at h <;> try (cases h; done)
  rename_i r hr; injection h with h1; subst h1
  obtain ⟨c, hc, hrr⟩ := aun_run (w := w) (C := C) (ev_rep ht hg hp) hr
  exact RunsTo.op (.here hH hc hrr)
theorem aop_convert (s d : TypeId) (x : Operand) (ht : RepL E t a.tmps) (hg : GlobOk C E) (hH : Holds E H w) (h : aval C (.convert s d x) t = some v) :
    OpRuns C E w (execOp a.eval ⟨dst, .convert s d x, type, pos, after, guard⟩) v H := by
  simp only [aval] at h
  split at h <;> try (cases h; done)
  rename_i p hp
  split at h <;> try (cases h; done)
  rename_i r hr; injection h with h1; subst h1
  exact RunsTo.op (conv_run hH (ev_rep ht hg hp) hr)
theorem toBytes_ints {E : Env} : ∀ {cs : List AV} {l : List UInt8}, toBytes cs = some l -> ∃ ns : List Int, cs = ns.map (.int .u8) /\ l = ns.map fun n => UInt8.ofNat n.toNat
  | [], l, h => by simp [toBytes] at h; subst h; exact ⟨[], rfl, rfl⟩
  | x :: r, l, h => by
    unfold toBytes at h
    split at h
    . rename_i e; cases e
    . rename_i n r' e; injection e with e1 e2; subst e1 e2
      split at h
      . rename_i l' hl; injection h with h; subst h
        obtain ⟨ns, rfl, rfl⟩ := toBytes_ints (E := E) hl
        exact ⟨n :: ns, rfl, rfl⟩
      . cases h
    . cases h
theorem aop_convertS (s d : TypeId) (x : Operand) {id off n sz : Nat} {ag : Bool} (ht : RepL E t a.tmps) (hg : GlobOk C E) (hH : Holds E H w) (hx : ev C t x = some (.slc id off n sz ag))
    (h : (match C.P.underlying s, C.P.underlying d, H[id]? with
      | some (.slice e), some .string, some (.cells cs _) => (match C.P.underlying e with
        | some (.int .u8) => if off + n ≤ cs.length then (match toBytes ((cs.drop off).take n) with | some l => some (.str l, H) | none => none) else none
        | _ => none)
      | _, _, _ => none) = some (v, H')) : OpRuns C E w (execOp a.eval ⟨dst, .convert s d x, type, pos, after, guard⟩) v H' := by
  split at h <;> try (cases h; done)
  rename_i e cs T h1 h2 hi
  split at h <;> try (cases h; done)
  rename_i he
  split at h <;> try (cases h; done)
  rename_i hle
  split at h <;> try (cases h; done)
  rename_i l hl
  injection h with h; injection h with e1 e2; subst e1 e2
  obtain ⟨b, nc, z, cap, o, hf, hcap, ho, ec⟩ := (ev_rep ht hg hx).inv_slc
  obtain ⟨ns, hns, rfl⟩ := toBytes_ints (E := E) hl
  obtain ⟨b', nc', sz', hf', hO⟩ := hH.obj _ _ hi (by simp)
  rw [hf] at hf'; injection hf' with hf'; injection hf' with q1 q2; injection q2 with q2 q3; subst q1 q2 q3
  obtain ⟨vs, hv, hn, hR, _⟩ := hO
  have hlen : ns.length = n := by
    have := congrArg List.length hns
    simp at this; omega
  refine RunsTo.op (.here hH (c := .string (strOfNums ns)) ?_ ?_)
  . show (convert s d (a.eval x)).run C.P w = _
    rw [ec]
    by_cases h0 : n = 0
    . subst h0
      have : ns = [] := List.length_eq_zero_iff.1 hlen
      subst this
      rw [run_convert_bytes_string w s d e _ 0 cap h1 he h2]
      simp [Conv.bytesToString, loadCells, loadCellsFrom]; rfl
    . have ho' : o = off := ho (by omega)
      subst ho'
      refine run_convert_bytes_arg w s e h1 he b o n cap ns hlen (fun i hi => ?_) d h2
      have hRs := hR.size
      have hr := hR.get (o + i) (by omega)
      rw [cell_of hv]
      have ei : cs.getD (o + i) .empty = .int .u8 (ns.getD i 0) := by
        have : ((cs.drop o).take n).getD i .empty = (ns.map (AV.int .u8)).getD i .empty := by rw [hns]
        simp only [List.getD_eq_getElem?_getD, List.getElem?_take, if_pos hi, List.getElem?_drop, List.getElem?_map] at this
        simp only [List.getD_eq_getElem?_getD, this]
        rw [List.getElem?_eq_getElem (by omega)]; rfl
      rw [ei] at hr
      have := hr.inv_int
      rw [Array.getD_eq_getD_getElem?] at this
      rw [Array.getElem?_eq_getElem (by omega)] at this ⊢
      simpa using this
  . have := Rep.str (E := E) (strOfNums ns)
    rwa [strOfNums_data] at this
theorem aop_makeInterface (T : TypeId) (x : Operand) (ht : RepL E t a.tmps) (hg : GlobOk C E) (hH : Holds E H w) (h : aval C (.makeInterface T x) t = some v) :
    OpRuns C E w (execOp a.eval ⟨dst, .makeInterface T x, type, pos, after, guard⟩) v H := by
  simp only [aval] at h
  split at h <;> try (cases h; done)
  rename_i p u hp hu
  split at h <;> try (cases h; done)
  rename_i hni; injection h with h1; subst h1
  refine RunsTo.op (.here hH ?_ (.iface T _ _ (ev_rep ht hg hp)))
  simp only [Instr.makeInterface, Sem.run_bind, run_underlying hu, Result.andThen_ok]
  cases u <;> first | rfl | exact absurd rfl (hni _)
theorem aop_makeFunc (f : Fn) (x1 x2 : Array Operand) (ht : RepL E t a.tmps) (hg : GlobOk C E) (hH : Holds E H w) (h : aval C (.makeFunc f x1 x2) t = some v) :
    OpRuns C E w (execOp a.eval ⟨dst, .makeFunc f x1 x2, type, pos, after, guard⟩) v H := by
  simp only [aval] at h
  split at h <;> try (cases h; done)
  rename_i p q hp hq; injection h with h1; subst h1
  have r1 := evs_repL ht hg hp
  have r2 := evs_repL ht hg hq
  exact RunsTo.op (.here hH rfl (.fn f _ _ _ _ r1.size r1.get r2.size r2.get))
theorem aop_slice (T : TypeId) (x : Operand) (lo hi mx : Option Operand) (ht : RepL E t a.tmps) (hg : GlobOk C E) (hH : Holds E H w) (h : aval C (.slice T x lo hi mx) t = some v) :
    OpRuns C E w (execOp a.eval ⟨dst, .slice T x lo hi mx, type, pos, after, guard⟩) v H := by
  simp only [aval] at h
  split at h <;> try (cases h; done)
  . rename_i s hs hu
    split at h <;> try (cases h; done)
    split at h <;> try (cases h; done)
    rename_i hh h1
    split at h <;> try (cases h; done)
    rename_i l h2; injection h with e1; subst e1
    exact RunsTo.op (slice_str_run ht hg hH hu (ev_rep ht hg hs) h1 h2)
  . rename_i els tok e hs hu
    split at h
    . rename_i hmx
      have hmx' := ev_opt.1 hmx; subst hmx'
      split at h <;> try (cases h; done)
      rename_i n hh hn h1
      split at h <;> try (cases h; done)
      rename_i l h2
      split at h <;> try (cases h; done)
      rename_i hall; injection h with e1; subst e1
      exact RunsTo.op (slice_list_run ht hg hH hu hn (ev_rep ht hg hs) hall h1 h2)
    . rename_i m hm
      split at h <;> try (cases h; done)
      rename_i h1 h2 h3 hsome
      split at h <;> try (cases h; done)
      rename_i n hn; injection h with e1; subst e1
      obtain ⟨base, cap, ec, hL⟩ := (ev_rep ht hg hs).inv_list
      cases mx with
      | none => simp at hm
      | some mx =>
        simp at hm; subst hm
        have k1 := fun code => (bnd_run (w := w) (x := some mx) (code := code) ht hg (Nat.zero_le cap) h1).1
        simp only [Option.map_some] at k1
        cases hi with
        | none => simp at hsome
        | some hi =>
          have k2 := fun code => (bnd_run (w := w) (x := some hi) (code := code) ht hg (Nat.le_refl 0) h2).1
          simp only [Option.map_some] at k2
          refine RunsTo.op (.here hH (c := .slice base 0 0) ?_ (.empty base))
          cases lo with
          | none =>
            simp only [Instr.sliceAt, Instr.slice, Instr.sliceBounds, ec, Sem.run_bind, run_underlying hu, Result.andThen_ok, Sem.run_pure, Option.map_some, Option.map_none, k1, k2, szOf_run hn]
            rfl
          | some lo =>
            have k3 := fun code => (bnd_run (w := w) (x := some lo) (code := code) ht hg (Nat.le_refl 0) h3).1
            simp only [Option.map_some] at k3
            simp only [Instr.sliceAt, Instr.slice, Instr.sliceBounds, ec, Sem.run_bind, run_underlying hu, Result.andThen_ok, Sem.run_pure, Option.map_some, k1, k2, k3, szOf_run hn]
            rfl
  . rename_i id off k sz ag e hs hu
    split at h <;> try (cases h; done)
    rename_i hmx
    have hmx' := ev_opt.1 hmx; subst hmx'
    split at h <;> try (cases h; done)
    rename_i n hh hn h1
    split at h <;> try (cases h; done)
    rename_i l h2
    split at h <;> try (cases h; done)
    rename_i hns; injection h with e1; subst e1 hns
    obtain ⟨b, nc, s, cap, o, hf, hcap, ho, hz, ec⟩ := (ev_rep ht hg hs).inv_slc2
    obtain ⟨hb, g1, g2⟩ := bounds_run (w := w) (b := true) ht hg hcap h1 h2
    refine RunsTo.op (.here hH ?_ (.slc id (off + l * n) (hh - l) n ag b nc s (cap - l) (if cap = l then o else o + l * n) hf (by omega) (fun hpos => ?_) ?_))
    . simp only [Instr.sliceAt, Instr.slice, ec, Sem.run_bind, run_underlying hu, Result.andThen_ok, Sem.run_pure, Option.map_none, hb, szOf_run hn]
      by_cases hcl : cap = l
      . simp [hcl]
      . simp [hcl, Addr.add_eq]
    . have := ho (by omega); subst this
      rw [if_neg (by omega)]
    . split
      . rename_i hcl; rw [hcl, Nat.sub_self, Nat.zero_mul]; omega
      . have : (cap - l) * n + l * n = cap * n := by rw [<- Nat.add_mul, Nat.sub_add_cancel (by omega)]
        omega
  . rename_i e hs hu
    split at h <;> try (cases h; done)
    rename_i n hn h1 h2 h3 hok
    injection h with e1; subst e1
    obtain ⟨base, ec⟩ := (ev_rep ht hg hs).inv_empty
    refine RunsTo.op (.here hH (c := .slice base 0 0) ?_ (.empty base))
    have k1 := fun code => (bnd_run (w := w) (x := mx) (code := code) ht hg (Nat.le_refl 0) h1).1
    have k2 := fun code => (bnd_run (w := w) (x := hi) (code := code) ht hg (Nat.le_refl 0) h2).1
    have k3 := fun code => (bnd_run (w := w) (x := lo) (code := code) ht hg (Nat.le_refl 0) h3).1
    cases mx <;> cases hi <;> cases lo <;> simp only [Option.map_some, Option.map_none] at k1 k2 k3 <;> first
      | (simp at hok; done)
      | (simp only [Instr.sliceAt, Instr.slice, Instr.sliceBounds, ec, Sem.run_bind, run_underlying hu, Result.andThen_ok, Sem.run_pure, Option.map_some, Option.map_none, k1, k2, k3, szOf_run hn]; rfl)
theorem aop_fieldAddr (T : TypeId) (x : Operand) (j : Nat) (ht : RepL E t a.tmps) (hg : GlobOk C E) (hH : Holds E H w) (h : aval C (.fieldAddr T x j) t = some v) :
    OpRuns C E w (execOp a.eval ⟨dst, .fieldAddr T x j, type, pos, after, guard⟩) v H := by
  simp only [aval] at h
  split at h <;> try (cases h; done)
  rename_i p f hp hf
  split at h <;> try (cases h; done)
  rename_i n hn
  split at h <;> try (cases h; done)
  rename_i h0
  split at h <;> try (cases h; done)
  . rename_i cs
    split at h <;> try (cases h; done)
    rename_i hle; injection h with h1; subst h1
    obtain ⟨ad, vs, e, g1, g2, g3⟩ := (ev_rep ht hg hp).inv_tptr
    refine RunsTo.op (.here hH (by rw [e]; exact fieldAddr_run hf hn h0) (.tptr _ _ (fun k => vs (f.offset + k)) (by rw [Addr.add_eq g1]) (fun k hk => ?_) (fun k hk => ?_)))
    . rw [Addr.add_eq g1]; simp only; rw [Nat.add_assoc]; exact g2 _ (by simp at hk; omega)
    . rw [getD_drop]; exact g3 _ (by simp at hk; omega)
  . rename_i id off; injection h with h1; subst h1
    obtain ⟨b, nc, sz, g1, e⟩ := (ev_rep ht hg hp).inv_ptr
    refine RunsTo.op (.here hH (by rw [e]; exact fieldAddr_run hf hn h0) ?_)
    rw [Addr.add_eq rfl]; exact .ptr _ _ _ _ _ g1
theorem aop_field (T : TypeId) (x : Operand) (j : Nat) (ht : RepL E t a.tmps) (hg : GlobOk C E) (hH : Holds E H w) (h : aval C (.field T x j) t = some v) :
    OpRuns C E w (execOp a.eval ⟨dst, .field T x j, type, pos, after, guard⟩) v H := by
  simp only [aval] at h
  split at h <;> try (cases h; done)
  rename_i cs f hp hf
  split at h <;> try (cases h; done)
  rename_i hle
  split at h <;> try (cases h; done)
  rename_i y hy; injection h with h1; subst h1
  obtain ⟨vs, e, hr⟩ := (ev_rep ht hg hp).inv_agg
  obtain ⟨fs, hu, hj⟩ := field_struct hf
  obtain ⟨c, hc, hrr⟩ := part_run (w := w) hr hle hy
  refine RunsTo.op (.here hH ?_ hrr)
  simp only [Instr.field, Sem.run_bind, run_underlying hu, Result.andThen_ok, hj, e, asAgg, Sem.run_pure]
  exact hc
theorem aop_makeSlice (T : TypeId) (l c : Operand) (ht : RepL E t a.tmps) (hg : GlobOk C E) (hH : Holds E H w) (h : aop C (.makeSlice T l c) t H = some (v, H')) :
    OpRuns C E w (execOp a.eval ⟨dst, .makeSlice T l c, type, pos, after, guard⟩) v H' := by
  simp only [aop] at h
  split at h <;> try (cases h; done)
  rename_i kx x ky y e hx hy he
  split at h <;> try (cases h; done)
  rename_i n z ag hn hz hag
  split at h
  rotate_left
  . split at h <;> try (cases h; done)
    rename_i hc
    obtain ⟨c1, c2, c3, c4, c5⟩ := hc
    subst c1
    injection h with h; injection h with h1 h2; subst h1 h2
    have e1 := (ev_rep ht hg hx).inv_int
    have e2 := (ev_rep ht hg hy).inv_int
    have := make_run0 (_ty := type) (kx := kx) (ky := ky) hH he hn hz c2 c3 c4 c5
    rw [<- e1, <- e2] at this
    exact RunsTo.op this
  rename_i hc
  obtain ⟨c1, c2, c3, c4, c5⟩ := hc
  subst c2
  injection h with h; injection h with h1 h2; subst h1 h2
  have e1 := (ev_rep ht hg hx).inv_int
  have e2 := (ev_rep ht hg hy).inv_int
  have := make_run (_ty := type) (kx := kx) (ky := ky) (ag := ag) hH he hn hz c1 c3 c4 c5
  rw [<- e1, <- e2] at this
  exact RunsTo.op this
theorem aop_indexAddr (T : TypeId) (x i : Operand) (ht : RepL E t a.tmps) (hg : GlobOk C E) (hH : Holds E H w) (h : aval C (.indexAddr T x i) t = some v) :
    OpRuns C E w (execOp a.eval ⟨dst, .indexAddr T x i, type, pos, after, guard⟩) v H := by
  simp only [aval] at h
  split at h <;> try (cases h; done)
  rotate_left
  rotate_left
  . rename_i id off iv hx hi he
    split at h <;> try (cases h; done)
    rename_i m e hu
    split at h <;> try (cases h; done)
    rename_i k n hk hn
    injection h with h1; subst h1
    obtain ⟨b, nc, s, hf, ec⟩ := (ev_rep ht hg hx).inv_ptr
    obtain ⟨kd, z, rfl, z0, z1, rfl⟩ := idx_some hk
    have ei := (ev_rep ht hg hi).inv_int
    refine RunsTo.op (.here hH ?_ (.ptr id (off + z.toNat * n) b nc s hf))
    simp only [Instr.indexAt, ei, asIntOf, ec, Sem.run_bind, Sem.run_pure, Result.andThen_ok, run_underlying hu, Instr.sureAddr]
    rw [Sem.run_ite, if_pos ⟨z0, by simpa using z1⟩]
    simp only [Sem.run_bind, szOf_run hn, Result.andThen_ok, Sem.run_pure]
    simp [Addr.add_eq]
  rotate_left
  . rename_i id off m sz ag iv e hx hi he
    split at h <;> try (cases h; done)
    rename_i k n hk hn
    split at h <;> try (cases h; done)
    injection h with h1; subst h1
    obtain ⟨b, nc, s, cap, o, hf, hcap, ho, ec⟩ := (ev_rep ht hg hx).inv_slc
    obtain ⟨kd, z, rfl, z0, z1, rfl⟩ := idx_some hk
    have ei := (ev_rep ht hg hi).inv_int
    have ho' := ho (by omega); subst ho'
    refine RunsTo.op (.here hH ?_ (.ptr id (o + z.toNat * n) b nc s hf))
    simp only [Instr.indexAt, ei, asIntOf, ec, Sem.run_bind, Sem.run_pure, Result.andThen_ok, run_underlying (elemT_slice he)]
    rw [Sem.run_ite, if_pos ⟨z0, by simpa using z1⟩]
    simp only [Sem.run_bind, szOf_run hn, Result.andThen_ok, Sem.run_pure]
    simp [Addr.add_eq]
  rename_i els tok iv e hx hi he
  split at h <;> try (cases h; done)
  rename_i k n hk hn
  split at h <;> try (cases h; done)
  rename_i hc; injection h with h1; subst h1
  obtain ⟨base, cap, ec, hL⟩ := (ev_rep ht hg hx).inv_list
  obtain ⟨kd, z, rfl, z0, z1, rfl⟩ := idx_some hk
  have ei := (ev_rep ht hg hi).inv_int
  obtain ⟨ad, rfl, hr⟩ := hL.elem (all_len hc.2) hc.1 (k := z.toNat) (by omega)
  refine RunsTo.op (.here hH ?_ hr)
  simp only [Instr.indexAt, ei, asIntOf, ec, Sem.run_bind, Sem.run_pure, Result.andThen_ok, run_underlying (elemT_slice he)]
  rw [Sem.run_ite, if_pos ⟨z0, by simpa using z1⟩]
  simp only [Sem.run_bind, szOf_run hn, Result.andThen_ok, Sem.run_pure]
theorem aop_index (T : TypeId) (x i : Operand) (ht : RepL E t a.tmps) (hg : GlobOk C E) (hH : Holds E H w) (h : aval C (.index T x i) t = some v) :
    OpRuns C E w (execOp a.eval ⟨dst, .index T x i, type, pos, after, guard⟩) v H := by
  simp only [aval] at h
  split at h <;> try (cases h; done)
  rename_i s iv hx hi hu
  split at h <;> try (cases h; done)
  rename_i k hk; injection h with h1; subst h1
  obtain ⟨b, eb, rfl⟩ := (ev_rep ht hg hx).inv_str
  obtain ⟨kd, z, rfl, z0, z1, rfl⟩ := idx_some hk
  have ei := (ev_rep ht hg hi).inv_int
  have hlt : z.toNat < b.data.size := by have := Array.length_toList (xs := b.data); omega
  have hb : b[z.toNat]? = some (b.data[z.toNat]) := by
    rw [getElem?_pos b z.toNat hlt]; rfl
  have e2 : b.data.toList.getD z.toNat 0 = b.data[z.toNat] := by simp [List.getD_eq_getElem?_getD, Array.getElem?_eq_getElem hlt]
  refine RunsTo.op (.here hH (c := .int .u8 (b.data[z.toNat]).toNat) ?_ (by rw [e2]; exact .int _ _))
  simp only [Instr.index, ei, eb, asIntOf, Sem.run_bind, Sem.run_pure, Result.andThen_ok, run_underlying hu, if_pos z0, hb]
theorem aop_typeAssert (x : Operand) (xT T : TypeId) (ok : Bool) (ht : RepL E t a.tmps) (hg : GlobOk C E) (hH : Holds E H w) (h : aval C (.typeAssert x xT T ok) t = some v) :
    OpRuns C E w (execOp a.eval ⟨dst, .typeAssert x xT T ok, type, pos, after, guard⟩) v H := by
  simp only [aval] at h
  split at h <;> try (cases h; done)
  rename_i U y u hx hu
  obtain ⟨c, ec, hr⟩ := (ev_rep ht hg hx).inv_iface
  split at h <;> try (cases h; done)
  rename_i hni
  split at h
  . rename_i hUT; subst hUT; injection h with h1; subst h1
    refine RunsTo.op (.here hH (c := if ok then .tuple #[c, .bool true] else c) ?_ ?_)
    . simp only [Instr.typeAssert, ec, Sem.run_bind, run_underlying hu, Result.andThen_ok]
      cases u <;> first | exact absurd rfl (hni _) | (simp only [if_true, Sem.run_pure])
    . cases ok
      . exact hr
      . refine .tup _ _ rfl fun i hi => ?_
        match i with
        | 0 => exact hr
        | 1 => exact .bool true
  . rename_i hUT
    split at h <;> try (cases h; done)
    rename_i hok
    split at h <;> try (cases h; done)
    rename_i z hz; injection h with h1; subst h1
    obtain ⟨zc, hzc, hzr⟩ := zeroOf_run hz E w
    refine RunsTo.op (.here hH (c := .tuple #[zc, .bool false]) ?_ ?_)
    . simp only [Instr.typeAssert, ec, Sem.run_bind, run_underlying hu, Result.andThen_ok]
      cases u <;> first | exact absurd rfl (hni _) | (simp only [if_neg hUT, hok, if_true, Sem.run_bind, hzc, Result.andThen_ok, Sem.run_pure])
    . refine .tup _ _ rfl fun i hi => ?_
      match i with
      | 0 => exact hzr
      | 1 => exact .bool false
theorem aop_extract (x : Operand) (j : Nat) (ht : RepL E t a.tmps) (hg : GlobOk C E) (hH : Holds E H w) (h : aval C (.extract x j) t = some v) :
    OpRuns C E w (execOp a.eval ⟨dst, .extract x j, type, pos, after, guard⟩) v H := by
  simp only [aval] at h
  split at h <;> try (cases h; done)
  rename_i vs hx
  split at h <;> try (cases h; done)
  rename_i y hy; injection h with h1; subst h1
  obtain ⟨cs, ec, hr⟩ := (ev_rep ht hg hx).inv_tup
  obtain ⟨c, hc, hrr⟩ := hr.tuple_get hy
  exact RunsTo.op (.here hH (by simp only [Instr.extract, ec, hc, Sem.run_pure]) hrr)
end
theorem aop_run (ht : RepL E t a.tmps) (hg : GlobOk C E) (hH : Holds E H w) (o : Oper) (h : aop C o.op t H = some (v, H')) : OpRuns C E w (execOp a.eval o) v H' := by
  obtain ⟨dst, op, type, pos, after, guard⟩ := o
  simp only at h
  cases op
  case move x =>
    simp only [aop] at h
    split at h <;> try (cases h; done)
    rename_i vv hvv; injection h with h; injection h with h1 h2; subst h1 h2
    exact aop_move x ht hg hH hvv
  case assign x =>
    simp only [aop] at h
    split at h <;> try (cases h; done)
    rename_i vv hvv; injection h with h; injection h with h1 h2; subst h1 h2
    exact aop_assign x ht hg hH hvv
  case pick c x y =>
    simp only [aop] at h
    split at h <;> try (cases h; done)
    rename_i vv hvv; injection h with h; injection h with h1 h2; subst h1 h2
    exact aop_pick c x y ht hg hH hvv
  case alloc T => exact aop_alloc T ht hg hH h
  case box T x => exact aop_box T x ht hg hH h
  case build T parts =>
    simp only [aop] at h
    split at h <;> try (cases h; done)
    rename_i vv hvv; injection h with h; injection h with h1 h2; subst h1 h2
    exact aop_build T parts ht hg hH hvv
  case buildSlice T len parts =>
    simp only [aop] at h
    split at h <;> try (cases h; done)
    rename_i vv hvv
    split at h
    . split at h <;> try (cases h; done)
      rename_i l e he
      split at h <;> try (cases h; done)
      rename_i n ag hn hag; injection h with h; injection h with h1 h2; subst h1 h2
      exact aop_buildLit T len parts ht hg hH hvv he hn hag
    . injection h with h; injection h with h1 h2; subst h1 h2
      exact aop_buildSlice T len parts ht hg hH hvv
  case makeSlice T l c => exact aop_makeSlice T l c ht hg hH h
  case load T x => exact aop_load T x ht hg hH h
  case store T x y => exact aop_store T x y ht hg hH h
  case makeMap T r =>
    cases r with
    | none => simp only [aop] at h; injection h with h; injection h with h1 h2; subst h1 h2; exact aop_makeMap T hH
    | some r => simp only [aop, aval] at h; cases h
  case mapUpdate T m k x => exact aop_mapUpdate T m k x ht hg hH h
  case range T x => exact aop_range T x ht hg hH h
  case next it st =>
    cases st with
    | false => simp only [aop, aval] at h; cases h
    | true => exact aop_next type it ht hg hH h
  case lookup T m k ok =>
    cases ok with
    | false => simp only [aop, aval] at h; cases h
    | true => exact aop_lookup T m k ht hg hH h
  case nilCheck x =>
    simp only [aop] at h
    split at h <;> try (cases h; done)
    rename_i vv hvv; injection h with h; injection h with h1 h2; subst h1 h2
    exact aop_nilCheck x ht hg hH hvv
  case binOp op T x y yT =>
    simp only [aop] at h
    split at h <;> try (cases h; done)
    rename_i vv hvv; injection h with h; injection h with h1 h2; subst h1 h2
    exact aop_binOp op T x y yT ht hg hH hvv
  case unOp op T x =>
    simp only [aop] at h
    split at h <;> try (cases h; done)
    rename_i vv hvv; injection h with h; injection h with h1 h2; subst h1 h2
    exact aop_unOp op T x ht hg hH hvv
  case convert s d x =>
    simp only [aop] at h
    split at h
    . rename_i id off n sz ag hx
      exact aop_convertS s d x ht hg hH hx h
    . split at h <;> try (cases h; done)
      rename_i vv hvv; injection h with h; injection h with h1 h2; subst h1 h2
      exact aop_convert s d x ht hg hH hvv
  case makeInterface T x =>
    simp only [aop] at h
    split at h <;> try (cases h; done)
    rename_i vv hvv; injection h with h; injection h with h1 h2; subst h1 h2
    exact aop_makeInterface T x ht hg hH hvv
  case makeFunc f x1 x2 =>
    simp only [aop] at h
    split at h <;> try (cases h; done)
    rename_i vv hvv; injection h with h; injection h with h1 h2; subst h1 h2
    exact aop_makeFunc f x1 x2 ht hg hH hvv
  case slice T x lo hi mx =>
    simp only [aop] at h
    split at h <;> try (cases h; done)
    rename_i vv hvv; injection h with h; injection h with h1 h2; subst h1 h2
    exact aop_slice T x lo hi mx ht hg hH hvv
  case fieldAddr T x j =>
    simp only [aop] at h
    split at h <;> try (cases h; done)
    rename_i vv hvv; injection h with h; injection h with h1 h2; subst h1 h2
    exact aop_fieldAddr T x j ht hg hH hvv
  case field T x j =>
    simp only [aop] at h
    split at h <;> try (cases h; done)
    rename_i vv hvv; injection h with h; injection h with h1 h2; subst h1 h2
    exact aop_field T x j ht hg hH hvv
  case indexAddr T x i =>
    simp only [aop] at h
    split at h <;> try (cases h; done)
    rename_i vv hvv; injection h with h; injection h with h1 h2; subst h1 h2
    exact aop_indexAddr T x i ht hg hH hvv
  case index T x i =>
    simp only [aop] at h
    split at h <;> try (cases h; done)
    rename_i vv hvv; injection h with h; injection h with h1 h2; subst h1 h2
    exact aop_index T x i ht hg hH hvv
  case typeAssert x xT T ok =>
    simp only [aop] at h
    split at h <;> try (cases h; done)
    rename_i vv hvv; injection h with h; injection h with h1 h2; subst h1 h2
    exact aop_typeAssert x xT T ok ht hg hH hvv
  case extract x j =>
    simp only [aop] at h
    split at h <;> try (cases h; done)
    rename_i vv hvv; injection h with h; injection h with h1 h2; subst h1 h2
    exact aop_extract x j ht hg hH hvv
  all_goals (simp only [aop, aval] at h; cases h)
end
end Go.Tv
namespace Go.Tv
theorem eraseL_length : ∀ l : List AV, (eraseL l).length = l.length
  | [] => by simp [eraseL]
  | v :: r => by simp [eraseL, eraseL_length r]
theorem eraseL_get : ∀ (l : List AV) (i : Nat), i < l.length -> (eraseL l).getD i .empty = (l.getD i .empty).erase
  | [], i, h => by simp at h
  | v :: r, 0, h => by simp [eraseL]
  | v :: r, i + 1, h => by
    have := eraseL_get r i (by simpa using h)
    simpa [eraseL] using this
theorem eraseL_append : ∀ (a b : List AV), eraseL (a ++ b) = eraseL a ++ eraseL b
  | [], b => by simp [eraseL]
  | v :: r, b => by simp [eraseL, eraseL_append r b]
theorem erase_cells (v : AV) : v.erase.cells = eraseL v.cells := by
  cases v <;> simp [AV.erase, AV.cells, eraseL]
theorem flat_erase : ∀ l : List AV, flat (eraseL l) = eraseL (flat l)
  | [] => by simp [eraseL, flat]
  | v :: r => by rw [flat_cons, eraseL_append, eraseL, flat_cons, flat_erase r, erase_cells]
theorem eraseL_mem {l : List AV} {e : AV} (h : e ∈ eraseL l) : ∃ x ∈ l, e = x.erase := by
  induction l with
  | nil => simp [eraseL] at h
  | cons v r ih =>
    simp only [eraseL, List.mem_cons] at h
    rcases h with h | h
    . exact ⟨v, List.mem_cons_self, h⟩
    . obtain ⟨x, hx, he⟩ := ih h; exact ⟨x, List.mem_cons_of_mem _ hx, he⟩
theorem Rep.erase {E : Env} {v : AV} {x : Value} (h : Rep E v x) : Rep E v.erase x := by
  have key : ∀ (cs : List AV) (vs : Array Value), (∀ i, i < cs.length -> Rep E ((cs.getD i .empty).erase) (vs.getD i undef)) -> ∀ i, i < (eraseL cs).length -> Rep E ((eraseL cs).getD i .empty) (vs.getD i undef) :=
    fun cs vs h i hi => by rw [eraseL_length] at hi; rw [eraseL_get cs i hi]; exact h i hi
  induction h with
  | bool b => exact .bool b
  | int k n => exact .int k n
  | str s => exact .str s
  | nilFn => exact .nilFn
  | nilIface => exact .nilIface
  | nilPtr => exact .nilPtr
  | nilMap => exact .nilMap
  | mapr id b nc sz hf => exact .mapr id b nc sz hf
  | nilS cap => exact .list [] none none cap (fun _ => undef) ⟨0, by simp⟩ (by simp [flat]) (by simp [flat]) (by simp) (by simp) trivial
  | someS a cap => exact .list [] none (some a) cap (fun _ => undef) ⟨0, by simp⟩ (by simp [flat]) (by simp [flat]) (by simp) (by simp) trivial
  | slc id off n sz ag b nc s cap o hf hc ho hz => exact .slc id off n sz ag b nc s cap o hf hc ho hz
  | agg cs vs hn _ ih => exact .agg _ vs (by rw [eraseL_length]; exact hn) (key cs vs ih)
  | tup cs vs hn _ ih => exact .tup _ vs (by rw [eraseL_length]; exact hn) (key cs vs ih)
  | list els tok base cap vs hu hs _ hb hc ht ih =>
    have hl := eraseL_length els
    have := Rep.list (E := E) (eraseL els) none base cap vs
      (by obtain ⟨sz, hsz⟩ := hu; refine ⟨sz, fun e he => ?_⟩; obtain ⟨x, hx, rfl⟩ := eraseL_mem he; rw [erase_cells, eraseL_length]; exact hsz x hx)
      (fun k hk => hs k (by rw [flat_erase, eraseL_length] at hk; exact hk))
      (fun k hk => by rw [flat_erase, eraseL_length] at hk; rw [flat_erase, eraseL_get _ k hk]; exact ih k hk)
      (fun hne => hb (fun e => hne (by rw [e]; rfl))) (by rw [hl]; exact hc) trivial
    rw [hl] at this; exact this
  | empty base => exact .list [] none base 0 (fun _ => undef) ⟨0, by simp⟩ (by simp [flat]) (by simp [flat]) (by simp) (by simp) trivial
  | tptr cs a vs ha hs _ ih =>
    exact .tptr _ a vs ha (fun k hk => hs k (by rw [eraseL_length] at hk; exact hk)) (fun k hk => by rw [eraseL_length] at hk; rw [eraseL_get cs k hk]; exact ih k hk)
  | ptr id off b nc sz hf => exact .ptr id off b nc sz hf
  | fn f first cap fs cs hf _ hc _ i1 i2 => exact .fn f _ _ fs cs (by rw [eraseL_length]; exact hf) (key _ _ i1) (by rw [eraseL_length]; exact hc) (key _ _ i2)
  | iface t v x _ ih => exact .iface t _ x ih
theorem RepL.erase {E : Env} {cs : List AV} {vs : Array Value} (h : RepL E cs vs) : RepL E (eraseL cs) vs :=
  ⟨by rw [eraseL_length]; exact h.size, fun i hi => by rw [eraseL_length] at hi; rw [eraseL_get cs i hi]; exact (h.get i hi).erase⟩
theorem RepL.app {E : Env} {a b : List AV} {x y : Array Value} (h : RepL E a x) (k : RepL E b y) : RepL E (a ++ b) (x ++ y) := by
  have := RepL.append (x := x.toList) (y := y.toList) (by simpa using h) (by simpa using k)
  have e : (x.toList ++ y.toList).toArray = x ++ y := by simp
  rwa [e] at this
theorem Rep.treeAt {E : Env} {v : AV} {x : Value} (h : Rep E v x) (g : Nat -> Option (Nat × Nat × Nat)) (m : Nat) {dd : Prop} {kk : Nat -> Option Obj} : v.tree = true -> Rep ⟨E.st, g, m, dd, kk⟩ v x := by
  have tl : ∀ {l : List AV} {i : Nat}, treeL l = true -> i < l.length -> (l.getD i .empty).tree = true := by
    intro l
    induction l with
    | nil => intro i _ hi; simp at hi
    | cons a r ih =>
      intro i ht hi
      simp only [treeL, Bool.and_eq_true] at ht
      cases i with
      | zero => simpa using ht.1
      | succ i => simpa using ih ht.2 (by simpa using hi)
  have tf : ∀ {l : List AV}, treeL l = true -> treeL (flat l) = true := by
    intro l
    have ta : ∀ {a b : List AV}, treeL a = true -> treeL b = true -> treeL (a ++ b) = true := by
      intro a b ha hb
      induction a with
      | nil => exact hb
      | cons x r ih => simp only [treeL, Bool.and_eq_true, List.cons_append] at ha ⊢; exact ⟨ha.1, ih ha.2⟩
    induction l with
    | nil => intro _; rfl
    | cons a r ih =>
      intro ht
      simp only [treeL, Bool.and_eq_true] at ht
      rw [flat_cons]
      refine ta ?_ (ih ht.2)
      cases a <;> first | (simpa [AV.cells, AV.tree] using ht.1) | (simp only [AV.cells, treeL, Bool.and_eq_true]; exact ⟨ht.1, trivial⟩) | (simp [AV.cells, treeL, AV.tree]; done)
  induction h with
  | bool b => intro _; exact .bool b
  | int k n => intro _; exact .int k n
  | str s => intro _; exact .str s
  | nilFn => intro _; exact .nilFn
  | nilIface => intro _; exact .nilIface
  | nilPtr => intro _; exact .nilPtr
  | nilMap => intro _; exact .nilMap
  | mapr id b nc sz hf => intro ht; simp [AV.tree] at ht
  | nilS cap => intro _; exact .nilS cap
  | someS a cap => intro _; exact .someS a cap
  | slc id off n sz ag b nc s cap o hf hc ho hz => intro ht; simp [AV.tree] at ht
  | agg cs vs hn _ ih => intro ht; simp only [AV.tree] at ht; exact .agg cs vs hn fun i hi => ih i hi (tl ht hi)
  | tup cs vs hn _ ih => intro ht; simp only [AV.tree] at ht; exact .tup cs vs hn fun i hi => ih i hi (tl ht hi)
  | list els tok base cap vs hu hs _ hb hc ht ih =>
    intro h0
    simp only [AV.tree, Bool.and_eq_true] at h0
    cases tok with
    | some id => simp at h0
    | none => exact .list els none base cap vs hu hs (fun k hk => ih k hk (tl (tf h0.2) hk)) hb hc trivial
  | empty base => intro _; exact .empty base
  | tptr cs a vs ha hs _ ih => intro ht; simp only [AV.tree] at ht; exact .tptr cs a vs ha hs fun k hk => ih k hk (tl ht hk)
  | ptr id off b nc sz hf => intro ht; simp [AV.tree] at ht
  | fn f first cap fs cs hf _ hc _ i1 i2 =>
    intro ht; simp only [AV.tree, Bool.and_eq_true] at ht
    exact .fn f first cap fs cs hf (fun i hi => i1 i hi (tl ht.1 hi)) hc fun i hi => i2 i hi (tl ht.2 hi)
  | iface t v x _ ih => intro ht; simp only [AV.tree] at ht; exact .iface t v x (ih ht)
theorem treeL_get {l : List AV} {i : Nat} (ht : treeL l = true) (hi : i < l.length) : (l.getD i .empty).tree = true := by
  induction l generalizing i with
  | nil => simp at hi
  | cons a r ih =>
    simp only [treeL, Bool.and_eq_true] at ht
    cases i with
    | zero => simpa using ht.1
    | succ i => simpa using ih ht.2 (by simpa using hi)
theorem RepL.treeAt {E : Env} {l : List AV} {vs : Array Value} (h : RepL E l vs) (g : Nat -> Option (Nat × Nat × Nat)) (m : Nat) {dd : Prop} {kk : Nat -> Option Obj} (ht : treeL l = true) : RepL ⟨E.st, g, m, dd, kk⟩ l vs :=
  ⟨h.size, fun i hi => (h.get i hi).treeAt g m (treeL_get ht hi)⟩
end Go.Tv
namespace Go.Tv
open Go.RowKit (Below)
def RetRel (E : Env) : ARet -> Ending -> Prop
  | .ok v, .returned c => Rep E v c
  | .panic v, .panicked ch => ∃ c, ch = [{ v := c, recovered := false }] /\ Rep E v c
  | _, _ => False
def CallPost (E : Env) (w : World) (r : ARet) (H' : Heap) (e : Ending) (w' : World) : Prop := ∃ E', Ext E w E' w' /\ Holds E' H' w' /\ RetRel E' r e
structure CallOk (C : Cfg) (call : Caller) : Prop where
  body : ∀ (f : FuncId) args H r, call f args H = some r -> ∃ (fn : Func) (c : Code), C.P.funcs[C.real f]? = some fn /\ fn.body = some c
  run : ∀ f args H r H', call f args H = some (r, H') -> ∀ E w vs, RepL E args vs -> GlobOk C E -> Holds E H w -> Calls C.P (C.real f) vs w (CallPost E w r H')
structure CfgOk (C : Cfg) : Prop where
  names : ∀ (f : FuncId) (fn : Func), C.P.funcs[f]? = some fn -> (fn.name == "runtime.NumGoroutine") = false
  mixed : C.P.follows .mixedOrders = true
  ext : ∀ f h, C.ext f = some h -> ∀ args v, h args = some v -> ∀ E w vs, RepL E args vs -> ∃ c, (callFunc f vs).run C.P w = .ok (.value c) w /\ Rep E v c
  body : ∀ (f : FuncId) h, C.prim f = some h -> ∃ (fn : Func) (c : Code), C.P.funcs[C.real f]? = some fn /\ fn.body = some c
  prim : ∀ f h, C.prim f = some h -> ∀ args v, h args = some v -> ∀ E w vs, RepL E args vs -> GlobOk C E -> (∀ b o v, E.st b o = some v -> w.cell? ⟨b, o, none⟩ = some v) -> (∀ b o, E.k b = some o -> w.heap[b]? = some o) ->
    Calls C.P (C.real f) vs w fun e w' => ∃ c, e = .returned c /\ Below w.heap.size w w' /\ (C.dr = true -> w.drawn ≤ w'.drawn) /\ Rep E v c
  alias : ∀ g, C.real (C.alias g) = g
  vary : ∀ f g, C.real (C.vary f g) = g
  hbody : ∀ (f : FuncId) h, C.hprim f = some h -> ∃ (fn : Func) (c : Code), C.P.funcs[C.real f]? = some fn /\ fn.body = some c
  hprim : ∀ f h, C.hprim f = some h -> ∀ args H v H', h args H = some (v, H') -> (H.length ≤ H'.length /\ ∀ id, id < H.length -> (reachL H args).contains id = false -> H'[id]? = H[id]?) /\
    ∀ E w vs, RepL E args vs -> GlobOk C E -> Holds E H w -> Calls C.P (C.real f) vs w (CallPost E w (.ok v) H')
def ExitRel (E : Env) : AExit -> Exit -> Prop
  | .normal, .normal => True
  | .exit i, .exit j => i = j
  | .ret, .ret => True
  | .panic v, .panic ch | .pan v, .panic ch => ∃ c, ch = [{ v := c, recovered := false }] /\ Rep E v c
  | _, _ => False
def Post (ds : List Deferred) (E : Env) (w : World) (x : AExit) (t' : List AV) (H' : Heap) (e : Exit) (a' : Act) (w' : World) : Prop :=
  ∃ E', Ext E w E' w' /\ Holds E' H' w' /\ (x.known = true -> RepL E' t' a'.tmps) /\ a'.defers = ds /\ ExitRel E' x e
section
variable {C : Cfg} {E : Env} {H H' : Heap} {w : World} {t : List AV} {a : Act}
theorem RepL.set {tc : Array Value} (ht : RepL E t tc) {v : AV} {c : Value} (hr : Rep E v c) (d : Nat) : RepL E (t.set d v) (tc.setIfInBounds d c) := by
  have hs := ht.size
  refine ⟨by simp [hs], fun i hi => ?_⟩
  simp only [List.length_set] at hi
  by_cases hd : d = i
  . subst hd
    have hlt : d < tc.size := by omega
    have e1 : (t.set d v).getD d .empty = v := by simp [List.getD_eq_getElem?_getD, hi]
    have e2 : (tc.setIfInBounds d c).getD d undef = c := by simp [Array.getD_eq_getD_getElem?, hlt]
    rw [e1, e2]; exact hr
  . have e1 : (t.set d v).getD i .empty = t.getD i .empty := by simp [List.getD_eq_getElem?_getD, List.getElem?_set_ne hd]
    have e2 : (tc.setIfInBounds d c).getD i undef = tc.getD i undef := by simp [Array.getD_eq_getD_getElem?, Array.getElem?_setIfInBounds_ne hd]
    rw [e1, e2]; exact ht.get i hi
theorem RepL.put (ht : RepL E t a.tmps) {v : AV} {c : Value} (hr : Rep E v c) (dst : Option Tmp) : RepL E (put t dst v) (a.put dst c).tmps := by
  cases dst with
  | none => exact ht
  | some d => exact ht.set hr d
theorem RepL.opt {tc : Array Value} (ht : RepL E t tc) (d : Nat) : (t[d]? = none /\ tc[d]? = none) \/ ∃ v c, t[d]? = some v /\ tc[d]? = some c /\ Rep E v c := by
  have hs := ht.size
  by_cases hlt : d < t.length
  . have hlt2 : d < tc.size := by omega
    have hr := ht.get d hlt
    refine .inr ⟨t[d], tc[d], List.getElem?_eq_getElem hlt, Array.getElem?_eq_getElem hlt2, ?_⟩
    simpa [List.getD_eq_getElem?_getD, Array.getD_eq_getD_getElem?, hlt, hlt2] using hr
  . exact .inl ⟨List.getElem?_eq_none (by omega), Array.getElem?_eq_none (by omega)⟩
theorem rep_undef : Rep E .undef undef := .tup [] #[] rfl fun i hi => by simp at hi
theorem yielded_eq (ht : RepL E t a.tmps) (ops : Array Oper) (j : Nat) : yielded ops a.tmps j = ayielded ops t j := by
  unfold yielded ayielded
  cases hd : (ops[j]?).bind (·.dst) with
  | none => rfl
  | some d =>
    simp only [Option.bind_some]
    rcases ht.opt d with ⟨h1, h2⟩ | ⟨v, c, h1, h2, hr⟩
    . rw [h1, h2]
    . rw [h1, h2]; cases hr <;> rfl
theorem wanted_eq (ht : RepL E t a.tmps) (ops : Array Oper) (o : Oper) : Region.wanted o (yielded ops a.tmps) = Region.wanted o (ayielded ops t) := by
  have : yielded ops a.tmps = ayielded ops t := funext (yielded_eq ht ops)
  rw [this]
theorem abuiltin_run {b : Builtin} {ts : List TypeId} {ty : TypeId} {cs : Array Bool} {args : List AV} {vs : Array Value} {v : AV} (hH : Holds E H w) (hr : RepL E args vs) (h : abuiltin C b ts args H = some (v, H')) :
    OpRuns C E w (builtin b ts.toArray ty cs vs) v H' := by
  unfold abuiltin at h
  have hs := hr.size
  split at h
  . unfold alenB at h
    split at h <;> try (cases h; done)
    rename_i T x
    split at h <;> try (cases h; done)
    rename_i n hn; injection h with h; injection h with h1 h2; subst h1 h2
    match vs, hs with
    | ⟨[c]⟩, _ =>
      have h0 := hr.get 0 (by simp)
      simp at h0
      exact RunsTo.op (len_run hH h0 hn)
  . unfold aappB at h
    split at h <;> try (cases h; done)
    . rename_i T xT k x
      match vs, hs with
      | ⟨[c, d]⟩, _ =>
        have h0 := hr.get 0 (by simp)
        have h1 := hr.get 1 (by simp)
        simp at h0 h1
        obtain ⟨b, rfl⟩ := h0.inv_empty
        have := h1.inv_int; subst this
        exact RunsTo.op (aappZ_run hH h)
    rename_i T xT s x _
    match vs, hs with
    | ⟨[c, d]⟩, _ =>
      have h0 := hr.get 0 (by simp)
      have h1 := hr.get 1 (by simp)
      simp at h0 h1
      exact RunsTo.op (aappend_run hH h0 h1 h)
  . unfold aclrB at h
    split at h <;> try (cases h; done)
    rename_i T x
    match vs, hs with
    | ⟨[c]⟩, _ =>
      have h0 := hr.get 0 (by simp)
      simp at h0
      exact RunsTo.op (clear_run hH h0 h)
  . unfold amaxB at h
    split at h <;> try (cases h; done)
    rename_i k n l hi; injection h with h; injection h with h1 h2; subst h1 h2
    have he := ints_rep (args := args) (cs := vs.toList) (by simpa using hs) (fun i hi => by have := hr.get i hi; simpa [Array.getD_eq_getD_getElem?, List.getD_eq_getElem?_getD] using this) hi
    refine RunsTo.op (.here hH ?_ (.int _ _))
    simp only [Builtin.max_, he, List.map_cons]
    have : ∀ (l : List Int) (n : Int), ((l.map (Value.int k)).foldlM Builtin.max2 (.int k n)).run C.P w = .ok (.int k (l.foldl (fun x y => if y > x then y else x) n)) w := by
      intro l
      induction l with
      | nil => intro n; rfl
      | cons y l ih => intro n; simp only [List.map_cons, List.foldlM_cons, Builtin.max2, Sem.run_bind, Sem.run_pure, Result.andThen_ok, List.foldl_cons]; exact ih _
    exact this l n
  . unfold aminB at h
    split at h <;> try (cases h; done)
    rename_i k n l hi; injection h with h; injection h with h1 h2; subst h1 h2
    have he := ints_rep (args := args) (cs := vs.toList) (by simpa using hs) (fun i hi => by have := hr.get i hi; simpa [Array.getD_eq_getD_getElem?, List.getD_eq_getElem?_getD] using this) hi
    refine RunsTo.op (.here hH ?_ (.int _ _))
    simp only [Builtin.min_, he, List.map_cons]
    have : ∀ (l : List Int) (n : Int), ((l.map (Value.int k)).foldlM Builtin.min2 (.int k n)).run C.P w = .ok (.int k (l.foldl (fun x y => if y < x then y else x) n)) w := by
      intro l
      induction l with
      | nil => intro n; rfl
      | cons y l ih => intro n; simp only [List.map_cons, List.foldlM_cons, Builtin.min2, Sem.run_bind, Sem.run_pure, Result.andThen_ok, List.foldl_cons]; exact ih _
    exact this l n
  rotate_left
  . unfold acopyB at h
    split at h <;> try (cases h; done)
    rename_i T sT id off n sz ag els tok
    match vs, hs with
    | ⟨[c, d]⟩, _ =>
      have h0 := hr.get 0 (by simp)
      have h1 := hr.get 1 (by simp)
      simp at h0 h1
      exact RunsTo.op (copy_run hH h0 h1 (by unfold acopyB; exact h))
  rotate_left
  . unfold acapB at h
    split at h <;> try (cases h; done)
    rename_i T
    split at h <;> try (cases h; done)
    rename_i e hu; injection h with h; injection h with h1 h2; subst h1 h2
    match vs, hs with
    | ⟨[c]⟩, _ =>
      have h0 := hr.get 0 (by simp)
      simp at h0
      exact RunsTo.op (cap_run hH h0 ⟨_, hu⟩)
  . cases h
theorem RepL.ers {l : List AV} {vs : Array Value} (h : RepL E l vs) (g : FuncId) : RepL E (C.ers g l) vs := by
  unfold Cfg.ers; split
  . exact h
  . exact h.erase
theorem adoOp_wp (hC : CfgOk C) {call : Caller} (hcall : CallOk C call) (ht : RepL E t a.tmps) {ds : List Deferred} (hd : a.defers = ds) (hg : GlobOk C E) (hH : Holds E H w) {o : Oper} {r : ARet} (h : adoOp C call o t H = some (r, H'))
    {K : Act -> World -> Prop} {Q : Exit -> Act -> World -> Prop}
    (hok : ∀ v E' w' a', r = .ok v -> Ext E w E' w' -> Holds E' H' w' -> RepL E' (put t o.dst v) a'.tmps -> a'.defers = ds -> K a' w')
    (hpan : ∀ v E' w' c, r = .panic v -> Ext E w E' w' -> Holds E' H' w' -> Rep E' v c -> Q (.panic [{ v := c, recovered := false }]) a w') : o.wp C.P a w K Q := by
  unfold Oper.wp
  have plain : ∀ v, r = .ok v -> OpRuns C E w (execOp a.eval o) v H' -> o.upon C.P a K Q ((execOp a.eval o).run C.P w) := by
    rintro v rfl ⟨nx, w', E', h1, h2, h3, h4⟩
    rw [h1]
    rcases h4 with ⟨c, rfl, hr⟩ | ⟨rfl, rfl⟩
    . exact hok v E' w' _ rfl h2 h3 ((ht.mono h2.le).put hr o.dst) (by cases hod : o.dst <;> simp [Act.put, hd])
    . exact hok _ E' w' _ rfl h2 h3 ((ht.mono h2.le).put rep_undef o.dst) (by cases hod : o.dst <;> simp [Act.put, hd])
  unfold adoOp at h
  split at h
  . rename_i c hop
    split at h <;> try (cases h; done)
    rename_i args hargs
    have hra := evs_repL ht hg hargs
    split at h
    . rename_i f hcal
      split at h <;> try (cases h; done)
      rename_i g first cap hf
      obtain ⟨fs, cs, ef, r1, r2⟩ := (ev_rep ht hg hf).inv_fn
      have hrr := (r1.app hra).app r2
      split at h
      . rename_i hx hex
        split at h <;> try (cases h; done)
        rename_i v hv; injection h with h; injection h with e1 e2; subst e1 e2
        obtain ⟨cc, hcc, hrc⟩ := hC.ext _ _ hex _ _ hv E w _ hrr.erase
        refine plain v rfl ⟨_, _, E, ?_, Ext.refl _ _, hH, .inl ⟨cc, rfl, hrc⟩⟩
        simp only [execOp, hop, resolve, hcal, ef, Deferred.ofValue, Sem.run_bind, Sem.run_pure, Result.andThen_ok, invoke]
        exact hcc
      obtain ⟨fn, cd, hfn, hb⟩ := hcall.body _ _ _ _ h
      have hrn := hcall.run _ _ _ _ _ h E w _ (hrr.ers _) hg hH
      rw [hC.alias] at hfn hrn
      have hx : (execOp a.eval o).run C.P w = .ok (.enter g (fs ++ c.args.map a.eval ++ cs)) w := by
        simp only [execOp, hop, resolve, hcal, ef, Deferred.ofValue, Sem.run_bind, Sem.run_pure, Result.andThen_ok, invoke, callFunc, run_program, hfn, hC.names _ _ hfn, Bool.false_eq_true, if_false, hb, Option.isNone_some]
      rw [hx, Oper.upon_enter]
      refine hrn.mono ?_
      rintro e w' ⟨E', h2, h3, h4⟩
      cases e with
      | returned v =>
        cases r with
        | ok u => exact hok u E' w' _ rfl h2 h3 ((ht.mono h2.le).put h4 o.dst) (by cases hod : o.dst <;> simp [Act.put, hd])
        | panic u => exact h4.elim
      | panicked ch =>
        cases r with
        | ok u => exact h4.elim
        | panic u => obtain ⟨cc, rfl, hr⟩ := h4; exact hpan u E' w' cc rfl h2 h3 hr
      | outgrown => cases r <;> exact h4.elim
    . rename_i b hcal
      split at h <;> try (cases h; done)
      rename_i v H2 hbb; injection h with h; injection h with e1 e2; subst e1 e2
      refine plain v rfl ?_
      have hbr := abuiltin_run (ty := o.type) (cs := c.args.map fun | .const _ => true | _ => false) hH hra hbb
      rw [Array.toArray_toList] at hbr
      obtain ⟨nx, w', E', g1, g2⟩ := hbr
      refine ⟨nx, w', E', ?_, g2⟩
      rw [<- g1]
      simp only [execOp, hop, resolve, hcal, Sem.run_bind, Sem.run_pure, Result.andThen_ok, invoke]
      rfl
    . cases h
  . rename_i x hop
    split at h <;> try (cases h; done)
    rename_i T v hx; injection h with h; injection h with e1 e2; subst e1 e2
    have hr := ev_rep ht hg hx
    obtain ⟨c, ec, hrc⟩ := hr.inv_iface
    have hx : (execOp a.eval o).run C.P w = .halt (.panic (.iface T c)) w := by
      simp only [execOp, hop, ec, Instr.panic, Sem.run_bind, run_goPanic, Result.andThen_halt]
    rw [hx, Oper.upon_panic]
    rw [ec] at hr
    exact hpan _ E w _ rfl (Ext.refl _ _) hH hr
  . split at h <;> try (cases h; done)
    rename_i v H2 hv; injection h with h; injection h with e1 e2; subst e1 e2
    exact plain v rfl (aop_run ht hg hH o hv)
theorem aops_wp (hC : CfgOk C) {call : Caller} (hcall : CallOk C call) {ops : Array Oper} {ds : List Deferred} {E0 : Env} {w0 : World} {x : AExit} {t' : List AV} : ∀ (l : List Nat) {E : Env} {w : World} {t : List AV} {H : Heap} {a : Act},
    aops C call ops l t H = some (x, t', H') -> RepL E t a.tmps -> a.defers = ds -> GlobOk C E -> Holds E H w -> Ext E0 w0 E w -> wpOps C.P ops (Post ds E0 w0 x t' H') l a w
  | [], E, w, t, H, a, h, ht, hd, hg, hH, hE => by
    simp only [aops] at h; injection h with h; injection h with h1 h2; injection h2 with h2 h3; subst h1 h2 h3
    exact ⟨E, hE, hH, fun _ => ht, hd, trivial⟩
  | i :: rest, E, w, t, H, a, h, ht, hd, hg, hH, hE => by
    simp only [aops] at h
    split at h
    . cases h
    . rename_i o ho
      simp only [wpOps, ho]
      rw [wanted_eq ht]
      split at h
      . rename_i hw
        rw [if_pos hw]
        refine .inl ?_
        split at h
        . rename_i v H2 hv
          refine adoOp_wp hC hcall ht hd hg hH hv ?_ ?_
          . rintro v' E' w' a' e h2 h3 h4 h5
            injection e with e; subst e
            exact aops_wp hC hcall rest h h4 h5 (hg.mono h2.le) h3 (hE.trans h2)
          . rintro v' E' w' c e; cases e
        . rename_i v H2 hv; injection h with h; injection h with h1 h2; injection h2 with h2 h3; subst h1 h2 h3
          refine adoOp_wp hC hcall ht hd hg hH hv ?_ ?_
          . rintro v' E' w' a' e; cases e
          . rintro v' E' w' c e h2 h3 h4
            injection e with e; subst e
            exact ⟨E', hE.trans h2, h3, fun _ => ht.mono h2.le, hd, c, rfl, h4⟩
        . cases h
      . rename_i hw
        rw [if_neg hw]
        exact aops_wp hC hcall rest h (ht.put rep_undef o.dst) (by cases hod : o.dst <;> simp [Act.put, hd]) hg hH hE
def CodeOk (C : Cfg) (c : Code) (t : List AV) (H : Heap) (x : AExit) (t' : List AV) (H' : Heap) : Prop :=
  ∀ (ds : List Deferred) (E : Env) (w : World) (a : Act), RepL E t a.tmps -> a.defers = ds -> GlobOk C E -> Holds E H w -> c.wp C.P (Post ds E w x t' H') a w
end
end Go.Tv
namespace Go.Tv
structure CallPure (C : Cfg) (call : Caller) : Prop where
  pure : ∀ g args H r H', treeL args = true -> C.makes g = false -> call g args H = some (r, H') -> H' = H /\ ∀ H2, call g args H2 = some (r, H2)
  frame : ∀ g args H r H', ¬ (treeL args = true /\ C.makes g = false) -> call g args H = some (r, H') -> H.length ≤ H'.length /\ ∀ id, id < H.length -> (reachL H args).contains id = false -> H'[id]? = H[id]?
section
variable {C : Cfg} {call : Caller} {o : Oper} {t : List AV} {H H' : Heap}
theorem cellsAt_ptr {H H2 : Heap} {p : AV} {cs : List AV} (h : ∀ id off l T, p = .ptr id off -> H[id]? = some (.cells l T) -> H2[id]? = some (.cells l T)) (hc : cellsAt H p = some cs) : cellsAt H2 p = some cs := by
  cases p <;> simp only [cellsAt] at hc ⊢ <;> try (first | exact hc | (cases hc; done))
  rename_i id off
  split at hc <;> try (cases hc; done)
  rename_i l T hi
  rw [h id off l T rfl hi]; exact hc
theorem appEff_ne (x : Option (List AV)) : appEff x ≠ .quiet := by unfold appEff; split <;> simp
theorem quiet_op (hp : CallPure C call) {H0 : Heap} (he : effOf C o t H0 = .quiet) {r : ARet} (h : adoOp C call o t H = some (r, H')) :
    H' = H /\ ∀ H2, (∀ id l T, readOf C o t = some id -> H[id]? = some (.cells l T) -> H2[id]? = some (.cells l T)) -> adoOp C call o t H2 = some (r, H2) := by
  obtain ⟨dst, op, type, pos, after, guard⟩ := o
  cases op
  case call c =>
    simp only [adoOp] at h ⊢
    split at h <;> try (cases h; done)
    rename_i args ha
    simp only [effOf] at he
    split at h
    . rename_i f hf
      simp only [hf] at he
      split at h <;> try (cases h; done)
      rename_i g first cap hg
      simp only [hg, ha] at he
      split at he <;> try (cases he; done)
      rename_i hc
      split at h
      . rename_i hx hex
        split at h <;> try (cases h; done)
        rename_i v hv; injection h with h; injection h with e1 e2; subst e1 e2
        refine ⟨rfl, fun H2 _ => ?_⟩
        try simp only
      . rename_i hex
        rw [hex] at hc
        simp only [Option.isSome_none, Bool.false_or, Bool.and_eq_true, Bool.not_eq_true'] at hc
        obtain ⟨h1, h2⟩ := hp.pure _ _ _ _ _ hc.1 hc.2 h
        refine ⟨h1, fun H2 _ => ?_⟩
        try simp only [ha, hf, hg, hex]
        exact h2 H2
    . rename_i b hb
      rw [hb] at he
      split at h <;> try (cases h; done)
      rename_i v H1 hv; injection h with h; injection h with e1 e2; subst e1 e2
      have key : H1 = H /\ ∀ H2, abuiltin C b c.argTypes.toList args H2 = some (v, H2) := by
        unfold abuiltin at hv
        cases b <;> simp only [abuiltin] at hv he ⊢ <;> try (cases hv; done)
        case len =>
          unfold alenB at hv ⊢
          split at hv <;> try (cases hv; done)
          split at hv <;> try (cases hv; done)
          rename_i n hn; injection hv with hv; injection hv with e1 e2; subst e1 e2
          exact ⟨rfl, fun H2 => by simp only []⟩
        case cap =>
          unfold acapB at hv ⊢
          split at hv <;> try (cases hv; done)
          split at hv <;> try (cases hv; done)
          rename_i hu; injection hv with hv; injection hv with e1 e2; subst e1 e2
          exact ⟨rfl, fun H2 => by simp only []⟩
        case append => exact absurd he (appEff_ne _)
        case clear => cases he
        case copy => cases he
        case max =>
          unfold amaxB at hv ⊢
          split at hv <;> try (cases hv; done)
          rename_i hi; injection hv with hv; injection hv with e1 e2; subst e1 e2
          exact ⟨rfl, fun H2 => by simp only []⟩
        case min =>
          unfold aminB at hv ⊢
          split at hv <;> try (cases hv; done)
          rename_i hi; injection hv with hv; injection hv with e1 e2; subst e1 e2
          exact ⟨rfl, fun H2 => by simp only []⟩
      refine ⟨key.1, fun H2 _ => ?_⟩
      simp only [key.2 H2]
    . cases h
  case panic x => simp only [effOf] at he; cases he
  case alloc T => simp only [effOf] at he; cases he
  case buildSlice T len parts =>
    simp only [effOf] at he
    have hl : C.lit = false := by
      cases hc : C.lit with
      | false => rfl
      | true => rw [hc] at he; cases he
    simp only [adoOp, aop, hl, Bool.false_eq_true, if_false] at h ⊢
    split at h <;> try (cases h; done)
    rename_i v H1 hv; injection h with h; injection h with e1 e2; subst e1 e2
    split at hv <;> try (cases hv; done)
    rename_i y hy; injection hv with hv; injection hv with e1 e2; subst e1 e2
    exact ⟨rfl, fun H2 _ => by simp only []⟩
  case range T x => simp only [effOf] at he; cases he
  case next it st => simp only [effOf] at he; cases he
  case makeMap T r => simp only [effOf] at he; cases he
  case mapUpdate T m k x => simp only [effOf] at he; cases he
  case lookup T m k ok => simp only [effOf] at he; cases he
  case makeSlice T l c => simp only [effOf] at he; cases he
  case convert s d x =>
    simp only [effOf] at he
    simp only [adoOp, aop] at h ⊢
    split at he <;> try (cases he; done)
    rename_i hns
    split at h <;> try (cases h; done)
    rename_i v H1 hv; injection h with h; injection h with e1 e2; subst e1 e2
    split at hv
    . rename_i hx; exact absurd hx (hns _ _ _ _ _)
    split at hv <;> try (cases hv; done)
    rename_i y hy; injection hv with hv; injection hv with e1 e2; subst e1 e2
    refine ⟨rfl, fun H2 _ => ?_⟩
    split
    . rename_i hq
      injection hq with hq; injection hq with e1 e2; subst e1 e2; rfl
    . rename_i hq
      cases hq
  case box T x => simp only [effOf] at he; cases he
  case store T x y => simp only [effOf] at he; split at he <;> cases he
  case load T x =>
    simp only [adoOp, aop] at h ⊢
    simp only [readOf]
    split at h <;> try (cases h; done)
    rename_i v H1 hv; injection h with h; injection h with e1 e2; subst e1 e2
    split at hv <;> try (cases hv; done)
    rename_i p hx
    split at hv <;> try (cases hv; done)
    rename_i cs hcs
    split at hv <;> try (cases hv; done)
    rename_i y hy; injection hv with hv; injection hv with e1 e2; subst e1 e2
    refine ⟨rfl, fun H2 h2 => ?_⟩
    try simp only [hx]
    rw [cellsAt_ptr (H := H) (H2 := H2) (fun id off l T e hl => h2 id l T (by rw [hx, e]) hl) hcs]
    simp only [hy]
  all_goals
    simp only [adoOp, aop] at h ⊢
    split at h <;> try (cases h; done)
    rename_i v H1 hv; injection h with h; injection h with e1 e2; subst e1 e2
    split at hv <;> try (cases hv; done)
    rename_i y hy; injection hv with hv; injection hv with e1 e2; subst e1 e2
    exact ⟨rfl, fun H2 _ => by simp only []⟩
end
end Go.Tv
namespace Go.Tv
theorem maskOf_bit {masks : List Nat} {i : Nat} : ∀ {es : List Edge}, (maskOf masks es).testBit i = true ↔ ∃ e ∈ es, Region.binds .any e = true /\ (e.on = i \/ (masks.getD e.on 0).testBit i = true)
  | [] => by simp [maskOf]
  | e :: r => by
    simp only [maskOf]
    split
    . rename_i hb
      simp only [Nat.testBit_or, Bool.or_eq_true, Nat.testBit_shiftLeft, maskOf_bit (es := r)]
      constructor
      . rintro ((h | h) | ⟨e', he, h⟩)
        . refine ⟨e, List.mem_cons_self, hb, .inl ?_⟩
          simp only [Bool.and_eq_true, decide_eq_true_eq] at h
          have h1 := h.1
          have h2 : i - e.on = 0 := by
            have h3 := h.2
            cases hk : i - e.on with
            | zero => rfl
            | succ n => rw [hk, Nat.testBit_succ] at h3; simp at h3
          omega
        . exact ⟨e, List.mem_cons_self, hb, .inr h⟩
        . exact ⟨e', List.mem_cons_of_mem _ he, h⟩
      . rintro ⟨e', he, hb', h⟩
        rcases List.mem_cons.1 he with rfl | he
        . rcases h with rfl | h
          . exact .inl (.inl (by simp))
          . exact .inl (.inr h)
        . exact .inr ⟨e', he, hb', h⟩
    . rename_i hb
      rw [maskOf_bit (es := r)]
      constructor
      . rintro ⟨e', he, h⟩; exact ⟨e', List.mem_cons_of_mem _ he, h⟩
      . rintro ⟨e', he, hb', h⟩
        rcases List.mem_cons.1 he with rfl | he
        . exact absurd hb' hb
        . exact ⟨e', he, hb', h⟩
theorem masksOf_spec : ∀ (os : List Oper) (m : List Nat), (masksOf os m).length = m.length + os.length /\ (∀ k, k < m.length -> (masksOf os m)[k]? = m[k]?) /\
    ∀ k (hk : k < os.length), (masksOf os m)[m.length + k]? = some (maskOf ((masksOf os m).take (m.length + k)) os[k].after.toList)
  | [], m => by simp [masksOf]
  | o :: r, m => by
    obtain ⟨h1, h2, h3⟩ := masksOf_spec r (m ++ [maskOf m o.after.toList])
    simp only [masksOf]
    refine ⟨by rw [h1]; simp; omega, fun k hk => ?_, fun k hk => ?_⟩
    . rw [h2 k (by simp; omega), List.getElem?_append_left hk]
    . cases k with
      | zero =>
        simp only [Nat.add_zero, List.getElem_cons_zero]
        rw [h2 m.length (by simp), List.getElem?_append_right (Nat.le_refl _)]
        simp
        congr 1
        apply List.ext_getElem?
        intro i
        rw [List.getElem?_take]
        split
        . rename_i hi; rw [h2 i (by simp; omega), List.getElem?_append_left hi]
        . rename_i hi; rw [List.getElem?_eq_none (by omega)]
      | succ k =>
        have := h3 k (by simpa using hk)
        simp only [List.length_append, List.length_cons, List.length_nil] at this
        rw [show m.length + (k + 1) = m.length + (0 + 1) + k by omega]
        simpa using this
section
variable {ops : Array Oper} {S : Nat -> Bool}
def Closed (ops : Array Oper) (S : Nat -> Bool) : Prop := ∀ j o, ops[j]? = some o -> S j = true -> ∀ e ∈ o.after.toList, Region.binds .any e = true -> S e.on = true
def Back (ops : Array Oper) : Prop := ∀ (j : Nat) (o : Oper), ops[j]? = some o -> ∀ e ∈ o.after.toList, Region.binds .any e = true -> e.on < j
theorem mask_at {j : Nat} {o : Oper} (ho : ops[j]? = some o) : (masksOf ops.toList []).getD j 0 = maskOf ((masksOf ops.toList []).take j) o.after.toList := by
  obtain ⟨h1, h2, h3⟩ := masksOf_spec ops.toList []
  have hj := (Array.getElem?_eq_some_iff.1 ho).1
  have := h3 j (by simpa using hj)
  have e : ops.toList[j]'(by simpa using hj) = o := by
    have := (Array.getElem?_eq_some_iff.1 ho).2; simpa using this
  rw [e] at this
  simp only [List.length_nil, Nat.zero_add] at this
  rw [List.getD_eq_getElem?_getD, this]; rfl
theorem before_done (hback : Back ops) (hcl : Closed ops S) : ∀ (j : Nat) (o : Oper), ops[j]? = some o -> (∀ e ∈ o.after.toList, Region.binds .any e = true -> S e.on = true) -> ∀ i, ((masksOf ops.toList []).getD j 0).testBit i = true -> S i = true := by
  intro j
  induction j using Nat.strongRecOn with
  | _ j ih =>
    intro o ho hr i hb
    rw [mask_at ho, maskOf_bit] at hb
    obtain ⟨e, he, hbe, h⟩ := hb
    rcases h with rfl | h
    . exact hr e he hbe
    . have hlt := hback j o ho e he hbe
      have hej : e.on < ops.size := Nat.lt_trans hlt (Array.getElem?_eq_some_iff.1 ho).1
      have e1 : ((masksOf ops.toList []).take j).getD e.on 0 = (masksOf ops.toList []).getD e.on 0 := by
        simp only [List.getD_eq_getElem?_getD]; rw [List.getElem?_take, if_pos hlt]
      rw [e1] at h
      have ho' : ops[e.on]? = some ops[e.on] := Array.getElem?_eq_getElem hej
      exact ih e.on hlt _ ho' (fun e' he' hb' => hcl _ _ ho' (hr e he hbe) e' he' hb') i h
end
def ttOf (tr : Trace) (t' : List AV) (k : Nat) : List AV := match tr[k]? with | some (t, _, _) => t | none => t'
def hhOf (tr : Trace) (H' : Heap) (k : Nat) : Heap := match tr[k]? with | some (_, H, _) => H | none => H'
def vvOf (tr : Trace) (k : Nat) : AV := match tr[k]? with | some (_, _, v) => v | none => .undef
def StepAt (C : Cfg) (call : Caller) (ops : Array Oper) (tr : Trace) (t' : List AV) (H' : Heap) (i k : Nat) : Prop :=
  ∃ o, ops[i]? = some o /\ ttOf tr t' (k + 1) = put (ttOf tr t' k) o.dst (vvOf tr k) /\
    ((Region.wanted o (ayielded ops (ttOf tr t' k)) = true /\ adoOp C call o (ttOf tr t' k) (hhOf tr H' k) = some (.ok (vvOf tr k), hhOf tr H' (k + 1))) \/
     (Region.wanted o (ayielded ops (ttOf tr t' k)) = false /\ vvOf tr k = .undef /\ hhOf tr H' (k + 1) = hhOf tr H' k))
theorem atrace_spec {C : Cfg} {call : Caller} {ops : Array Oper} : ∀ {l : List Nat} {t : List AV} {H : Heap} {tr : Trace} {t' : List AV} {H' : Heap}, atrace C call ops l t H = some (tr, t', H') ->
    tr.length = l.length /\ ttOf tr t' 0 = t /\ hhOf tr H' 0 = H /\ ∀ k (hk : k < l.length), StepAt C call ops tr t' H' l[k] k
  | [], t, H, tr, t', H', h => by
    simp only [atrace] at h; injection h with h; injection h with h1 h2; injection h2 with h2 h3; subst h1 h2 h3
    exact ⟨rfl, rfl, rfl, fun k hk => by simp at hk⟩
  | i :: rest, t, H, tr, t', H', h => by
    simp only [atrace] at h
    split at h <;> try (cases h; done)
    rename_i o ho
    have shift : ∀ {x : List AV × Heap × AV} {tr2 : Trace} {k : Nat}, ttOf (x :: tr2) t' (k + 1) = ttOf tr2 t' k /\ hhOf (x :: tr2) H' (k + 1) = hhOf tr2 H' k /\ vvOf (x :: tr2) (k + 1) = vvOf tr2 k := by
      intro x tr2 k; simp [ttOf, hhOf, vvOf]
    split at h
    . rename_i hw
      split at h <;> try (cases h; done)
      rename_i v H1 hv
      split at h <;> try (cases h; done)
      rename_i tr2 t2 H2 hr; injection h with h; injection h with h1 h2; injection h2 with h2 h3; subst h1 h2 h3
      obtain ⟨g1, g2, g3, g4⟩ := atrace_spec hr
      refine ⟨by simp [g1], rfl, rfl, fun k hk => ?_⟩
      cases k with
      | zero =>
        refine ⟨o, by simpa using ho, ?_, .inl ⟨hw, ?_⟩⟩
        . rw [shift.1, g2]; rfl
        . rw [shift.2.1, g3]; exact hv
      | succ k =>
        obtain ⟨o', q1, q2, q3⟩ := g4 k (by simpa using hk)
        refine ⟨o', by simpa using q1, ?_, ?_⟩
        . rw [shift.1, shift.1, shift.2.2]; exact q2
        . rw [shift.1, shift.2.1, shift.2.1, shift.2.2]; exact q3
    . rename_i hw
      split at h <;> try (cases h; done)
      rename_i tr2 t2 H2 hr; injection h with h; injection h with h1 h2; injection h2 with h2 h3; subst h1 h2 h3
      obtain ⟨g1, g2, g3, g4⟩ := atrace_spec hr
      refine ⟨by simp [g1], rfl, rfl, fun k hk => ?_⟩
      cases k with
      | zero =>
        refine ⟨o, by simpa using ho, ?_, .inr ⟨(Bool.not_eq_true _).mp hw, rfl, ?_⟩⟩
        . rw [shift.1, g2]; rfl
        . rw [shift.2.1, g3]; rfl
      | succ k =>
        obtain ⟨o', q1, q2, q3⟩ := g4 k (by simpa using hk)
        refine ⟨o', by simpa using q1, ?_, ?_⟩
        . rw [shift.1, shift.1, shift.2.2]; exact q2
        . rw [shift.1, shift.2.1, shift.2.1, shift.2.2]; exact q3
end Go.Tv
