/-
  What the functions of chapter 8 compute, first part: sizes, copies, the order, the bounds, characters, names, ascending lists.
-/
import Derived.Test.YtbofonlhakedpaaGreatDoorCfg
import Derived.Test.YtbofonlhakedpaaGreatDoorTvd
import Derived.Test.YtbofonlhakedpaaGreatDoorPla
namespace Go.Tv
open Go.Proofs
section
variable {z a : Bool} {al : FuncId -> FuncId}
theorem cc_ext : (CX z a al).ext = extF := rfl
theorem cc_makes : (CX z a al).makes = makesF := rfl
theorem cc_arr : (CX z a al).arr = a := rfl
theorem cc_alias : (CX z a al).alias = al := rfl
theorem cc_ers (g : FuncId) (l : List AV) : (CX z a al).ers g l = if keepF g then l else eraseL l := rfl
theorem cc_P : (CX z a al).P = Tryz.prog := rfl
theorem cc_lit : (CX z a al).lit = false := rfl
theorem sz3 : szOf (CX z a al) 3 = some 1 := by kernel_rfl
theorem sz9 : szOf (CX z a al) 9 = some 1 := by kernel_rfl
theorem sz22 : szOf (CX z a al) 22 = some 1 := by kernel_rfl
theorem sz24 : szOf (CX z a al) 24 = some 5 := by kernel_rfl
theorem ag3 : aggT (CX z a al) 3 = some false := by kernel_rfl
theorem ag9 : aggT (CX z a al) 9 = some false := by kernel_rfl
theorem ag24 : aggT (CX z a al) 24 = some true := by kernel_rfl
theorem ag22 : aggT (CX z a al) 22 = some false := by kernel_rfl
theorem el22 : elemT (CX z a al) 22 = some 24 := by kernel_rfl
theorem zero24 : zeroOf (CX z a al) 24 = some (.agg [.int .i64 0, .int .i64 0, .str [], .empty, .empty]) := by kernel_rfl
theorem und22 : (CX z a al).P.underlying 22 = some (.slice 24) := by kernel_rfl
theorem sz133 : szOf (CX z a al) 133 = some 1 := by kernel_rfl
theorem el133 : elemT (CX z a al) 133 = some 3 := by kernel_rfl
theorem zero3 : zeroOf (CX z a al) 3 = some (.int .i64 0) := by kernel_rfl
theorem und133 : (CX z a al).P.underlying 133 = some (.slice 3) := by kernel_rfl
attribute [simp] sz133 el133 zero3 und133
theorem und9 : (CX z a al).P.underlying 9 = some .string := by kernel_rfl
theorem int22 : isIntT (CX z a al) 22 = false := by kernel_rfl
noncomputable def fld (T j : Nat) : Field := (fieldOf (CX false false al0) T j).getD default
theorem fo0 : fieldOf (CX z a al) 24 0 = some (fld 24 0) := by kernel_rfl
theorem fo1 : fieldOf (CX z a al) 24 1 = some (fld 24 1) := by kernel_rfl
theorem fo2 : fieldOf (CX z a al) 24 2 = some (fld 24 2) := by kernel_rfl
theorem fo3 : fieldOf (CX z a al) 24 3 = some (fld 24 3) := by kernel_rfl
theorem fo4 : fieldOf (CX z a al) 24 4 = some (fld 24 4) := by kernel_rfl
theorem ft0 : (fld 24 0).type = 3 := by kernel_rfl
theorem ft1 : (fld 24 1).type = 3 := by kernel_rfl
theorem ft2 : (fld 24 2).type = 9 := by kernel_rfl
theorem ft3 : (fld 24 3).type = 22 := by kernel_rfl
theorem ft4 : (fld 24 4).type = 22 := by kernel_rfl
theorem fx0 : (fld 24 0).offset = 0 := by kernel_rfl
theorem fx1 : (fld 24 1).offset = 1 := by kernel_rfl
theorem fx2 : (fld 24 2).offset = 2 := by kernel_rfl
theorem fx3 : (fld 24 3).offset = 3 := by kernel_rfl
theorem fx4 : (fld 24 4).offset = 4 := by kernel_rfl
end
def okF (f : FuncId) : Bool := !makesF f && !arrsF f && !frzF f && !frzAF f && !variesF f && !decide (f = 172) && (primF f).isNone && (hprF false f).isNone && decide (f < 10000)
theorem vary_id {f : FuncId} (h : variesF f = false) : varyF f = al0 := by
  simp only [variesF, Bool.or_eq_false_iff, beq_eq_false_iff_ne, ne_eq] at h
  funext g
  unfold varyF
  rw [if_neg h.1.1.1.1, if_neg h.1.1.1.2, if_neg h.1.1.2, if_neg h.1.2, if_neg h.2]
theorem okF_facts {z : Bool} {f : FuncId} (h : okF f = true) : (CZ z).prim f = none /\ (CZ z).hprim f = none /\ (CZ z).real f = f /\ (CZ z).clone f = false /\ (CZ z).at f = CZ z /\ (CZ z).frz f = false /\ (CZ z).frzA f = false /\ (CZ z).makes f = false := by
  simp only [okF, Bool.and_eq_true, Bool.not_eq_true', decide_eq_false_iff_not, Option.isNone_iff_eq_none, decide_eq_true_eq] at h
  obtain ⟨⟨⟨⟨⟨⟨⟨⟨h1, h2⟩, h3⟩, h4⟩, h5⟩, h6⟩, h7⟩, h8⟩, h9⟩ := h
  refine ⟨?_, ?_, if_pos h9, decide_eq_false h6, ?_, h3, h4, h1⟩
  . show prF z f = none
    unfold prF; rw [h7]; split <;> rfl
  . show hprF z f = none
    cases z with
    | true => rfl
    | false => exact h8
  . show CX z (arrsF f) (varyF f) = CX z false al0
    rw [h2, vary_id h5]
theorem cwp {z : Bool} {f : FuncId} {fn : Func} {args : List AV} {r : AV} {c : Code} {rs : List ResultVar} {n : Nat} (hk : okF f = true) (hf : Tryz.prog.funcs[f]? = some fn) (hb : fn.body = some c) (hn : noDefer c = true) (hs : fn.results.toList = rs) (hm : fn.ntmps = n)
    (ht : treeL args = true) (hr : r.tree = true)
    (h : ST (CZ z) (Call (CZ z)) c (args ++ List.replicate (n - args.length) .undef) [] [] (RESP (CZ z) rs r)) (H : Heap) : Call (CZ z) f args H = some (.ok r, H) := by
  obtain ⟨h1, h2, h3, h4, h5, h6, h7, h8⟩ := okF_facts (z := z) hk
  refine call_wp h1 (by rw [h3]; exact hf) h4 h5 h6 h8 ht hb hn (WP.mono (Q := RESP (CZ z) rs r) ?_ fun x t H h => resp_hand hs h) hr
  unfold frame; rw [hm]; exact h
theorem cwpo {f : FuncId} {fn : Func} {args : List AV} {P : AV -> Heap -> Prop} {H : Heap} {c : Code} {rs : List ResultVar} {n : Nat} {R : List Nat} (hk : okF f = true) (hf : Tryz.prog.funcs[f]? = some fn) (hb : fn.body = some c) (hn : noDefer c = true) (hs : fn.results.toList = rs) (hm : fn.ntmps = n)
    (ht : treeL args = false) (hR : reachL H args = R) (hcl : (closed H R && (idsL args).all R.contains) = true)
    (h : ∀ M : Heap, M.length = H.length -> (∀ j ∈ R, M[j]? = H[j]?) -> ST CC (Call CC) c (args ++ List.replicate (n - args.length) .undef) M [] (RESPO CC rs fun v H1 => H.length ≤ H1.length /\ P v H1)) :
    ∃ v H1 H', Call CC f args H = some (.ok v, H') /\ P v H1 /\ H.length ≤ H1.length /\ H'.length = H1.length /\ (∀ j, j ∈ R -> H'[j]? = H1[j]?) /\ (∀ j, j < H.length -> j ∉ R -> H'[j]? = H[j]?) := by
  obtain ⟨h1, h2, h3, h4, h5, h6, h7, h8⟩ := okF_facts (z := false) hk
  exact call_objs h1 h2 h7 (by rw [h3]; exact hf) h4 h5 h6 ht hR hcl hb hn hs hm h
theorem ids_av (v : V) : v.av.ids = [] := tree_ids _ (tree_av v)
theorem ids_avs (l : List V) : idsL (avs l) = [] := treeL_ids _ (tree_avs l)
theorem os_bool (b : Bool) : ofScalar (.bool b) = some (.bool b) := rfl
theorem os_int (k : IntKind) (n : Int) : ofScalar (.int k n) = some (.int k n) := rfl
theorem os_str (s : ByteArray) : ofScalar (.string s) = some (.str s.data.toList) := rfl
theorem os_nilFn : ofScalar .nilFunc = some .nilFn := rfl
theorem os_nilIface : ofScalar .nilIface = some .nilIface := rfl
theorem os_nilPtr : ofScalar (.pointer none) = some .nilPtr := rfl
theorem os_nilMap : ofScalar (.map none) = some .nilMap := rfl
theorem os_slice (a : Option Addr) : ofScalar (.slice a 0 0) = some .empty := rfl
theorem os_str' {s : ByteArray} {l : List UInt8} (h : s.data.toList = l) : ofScalar (.string s) = some (.str l) := by rw [os_str, h]
theorem wrapI {i : Int} (h0 : -9223372036854775808 ≤ i) (h : i ≤ 9223372036854775807) : IntKind.i64.wrap i = i := wrap_nat h0 h
theorem idxI (k : IntKind) (i : Int) (n : Nat) (h : 0 ≤ i) (h2 : i < n) : idx (.int k i) n = some i.toNat := by simp only [idx]; rw [if_pos ⟨h, h2⟩]
theorem avs_at (l : List V) (i : Nat) (h : i < (avs l).length) : (avs l)[i] = (l[i]'(by rwa [avs_len] at h)).av := by
  simp only [avs_map, List.getElem_map]
theorem avs_at? (l : List V) (i : Nat) : (avs l)[i]? = l[i]?.map V.av := by simp [avs_map]
theorem cells_agg (cs : List AV) : AV.cells (.agg cs) = cs := rfl
theorem cells_int (k : IntKind) (n : Int) : AV.cells (.int k n) = [.int k n] := rfl
theorem cells_bool (b : Bool) : AV.cells (.bool b) = [.bool b] := rfl
theorem cells_str (s : List UInt8) : AV.cells (.str s) = [.str s] := rfl
theorem cells_list (l : List AV) (t : Option Nat) : AV.cells (.list l t) = [.list l t] := rfl
theorem cells_empty  : AV.cells (.empty) = [.empty] := rfl
theorem cells_ptr (i o : Nat) : AV.cells (.ptr i o) = [.ptr i o] := rfl
theorem cells_tptr (l : List AV) : AV.cells (.tptr l) = [.tptr l] := rfl
theorem cells_undef  : AV.cells (.undef) = [.undef] := rfl
attribute [simp] cells_agg cells_int cells_bool cells_str cells_list cells_empty cells_ptr cells_tptr cells_undef
theorem hget {α : Type} (H L : List α) (k : Nat) : (H ++ L)[H.length + k]? = L[k]? := by
  rw [List.getElem?_append_right (by omega)]; congr 1; omega
theorem hget0 {α : Type} (H L : List α) : (H ++ L)[H.length]? = L[0]? := hget H L 0
theorem hset {α : Type} (H L : List α) (k : Nat) (x : α) : (H ++ L).set (H.length + k) x = H ++ L.set k x := by
  rw [List.set_append_right _ _ (by omega)]; congr 2; omega
theorem hset0 {α : Type} (H L : List α) (x : α) : (H ++ L).set H.length x = H ++ L.set 0 x := hset H L 0 x
attribute [simp] hget hget0 hset hset0
attribute [simp] avs_at avs_at? idx_nat cc_lit cc_ext cc_makes cc_arr cc_alias al0 cc_ers keepF makesF appEff sz3 sz9 sz22 sz24 ag3 ag9 ag24 ag22 el22 zero24 und22 und9 int22 fo0 fo1 fo2 fo3 fo4 ft0 ft1 ft2 ft3 ft4 fx0 fx1 fx2 fx3 fx4
attribute [simp] st_seq st_block st_skip st_label st_exit st_ret st_true st_false ex_nil ex_seq ex_seq_exit ex_seq_ret ex_blk ex_blk_ret ex_blk_same ex_blk_other st_region st_draw go_nil go_plain go_yes go_no go_none dgo_none fin_ok fin_panic dgo_nil dgo_plain dgo_yes dgo_no dfin_ok respo_ret respo_normal lq_normal lq_exit lq_ret ids_avs ids_av resp_ret resp_normal
attribute [simp] adoOp aop aval Region.wanted evs ev put ayielded_eq yb_bool yb_undef aresults aresult ofConst os_bool os_int os_str os_nilFn os_nilIface os_nilPtr os_nilMap os_slice AV.erase eraseL effs reads effOf readOf treeL AV.tree ldCells cellsAt splice AV.one isNilC abin aint acmp astr isConst abuiltin alenB amaxB aminB alen aun extF avs_len erase_av erase_avs tree_av tree_avs avs_cells List.replicate Fit fill evParts afill group List.flatten
end Go.Tv
namespace Go.Tv
open Go.Proofs
theorem c29 (a lo hi : Int) (H : Heap) : Call CC 29 [.int .i64 a, .int .i64 lo, .int .i64 hi] H = some (.ok (.bool (decide (lo ≤ a) && decide (a ≤ hi))), H) := by
  refine cwp (fn := Tryz.f29) rfl (by kernel_rfl) rfl rfl rfl rfl rfl rfl ?_ H
  simp
  cases hb : decide (lo ≤ a) <;> simp
theorem c87 (a lo hi : Int) (H : Heap) : Call CC 87 [.int .i64 a, .int .i64 lo, .int .i64 hi] H = some (.ok (.bool (decide (lo ≤ a) && decide (a ≤ hi))), H) := by
  refine cwp (fn := Tryz.f87) rfl (by kernel_rfl) rfl rfl rfl rfl rfl rfl ?_ H
  simp
  cases hb : decide (lo ≤ a) <;> simp
theorem c84 (b : Bool) (H : Heap) : Call CC 84 [.bool b] H = some (.ok (.int .i64 (if b then 1 else 0)), H) := by
  refine cwp (fn := Tryz.f84) rfl (by kernel_rfl) rfl rfl rfl rfl rfl rfl ?_ H
  simp
  cases b <;> simp
end Go.Tv
namespace Go.Tv
open Go.Proofs
theorem szF_nonneg (c : Nat) (most : Int) : 0 ≤ szF c most := by unfold szF; split <;> omega
theorem szF_le (c : Nat) (most : Int) (h : szF c most ≤ most) : szF c most = c := by unfold szF at h ⊢; split <;> omega
theorem szF_max (c : Nat) (most : Int) : szF c most ≤ max 0 (most + 1) := by unfold szF; split <;> omega
theorem szF_step (n a b : Nat) (most : Int) (h : (n : Int) ≤ most) : (n : Int) + 1 + szF a (most - n - 1) + szF b (most - (n + 1 + szF a (most - n - 1))) = szF (n + (1 + a + b)) most := by
  simp only [szF]; split <;> split <;> split <;> omega
def ISize (l : List V) (most : Int) (i : Nat) (t : List AV) (_H : Heap) : Prop := i ≤ l.length /\ Fit [some (.list (avs l) none), some (.int .i64 most), none, none, some (.int .i64 0), some (.int .i64 (szF (cnts (l.take i)) most)), some (.int .i64 i), none, none, none, none, none, none, none, none, none, none, none, none, none, none, none, none, none, none, none, none, none, none, none, none, none, none, none, none, none, none, none, none, none, none, none, none] t
def SizeAt (l : List V) : Prop := ∀ (most : Int) (H : Heap), -1000000000 ≤ most -> most ≤ 1000000000 -> Call CC 70 [.list (avs l) none, .int .i64 most] H = some (.ok (.int .i64 (szF (cnts l) most)), H)
theorem size_of (l : List V) (h : ∀ v ∈ l, SizeAt v.keys /\ SizeAt v.items) : SizeAt l := by
  intro most H hm1 hm2
  refine cwp (fn := Tryz.f70) rfl (by kernel_rfl) rfl rfl rfl rfl (by simp) rfl ?_ H
  simp
  refine st_iter (ISize l most) l.length ?_ ?_
  . simp [ISize, szF, cnts]
    omega
  . rintro i t H ⟨hi, ht⟩
    obtain ⟨d, rfl⟩ := ht.elim
    refine ⟨hi, ?_⟩
    simp
    cases hb : decide (i < l.length)
    . have hb' : i = l.length := by have : ¬ i < l.length := by simpa using hb
                                    omega
      simp [hb']
    . have hb' : i < l.length := by simpa using hb
      simp
      have h0 := szF_nonneg (cnts (l.take i)) most
      cases hc : decide (szF (cnts (l.take i)) most ≤ most)
      . have hc' : ¬ szF (cnts (l.take i)) most ≤ most := by simpa using hc
        simp
        have e2 := cnts_take_le l i
        have e3 := szF_max (cnts l) most
        unfold szF at hc' ⊢
        split at hc'
        . omega
        . rw [if_neg (by assumption), if_neg (by omega)]
      . have hc' : szF (cnts (l.take i)) most ≤ most := by simpa using hc
        have e1 := szF_le _ _ hc'
        rw [e1]
        rw [e1] at hc'
        have hs := szF_step (cnts (l.take i)) (cnts l[i].keys) (cnts l[i].items) most hc'
        generalize hn : cnts (l.take i) = n at *
        have m1 := szF_nonneg (cnts l[i].keys) (most - n - 1)
        have m2 := szF_max (cnts l[i].keys) (most - n - 1)
        have g1 := fun H => (h l[i] (List.getElem_mem hb')).1 (most - n - 1) H (by omega) (by omega)
        have g2 := fun H => (h l[i] (List.getElem_mem hb')).2 (most - (n + 1 + szF (cnts l[i].keys) (most - n - 1))) H (by omega) (by omega)
        generalize szF (cnts l[i].keys) (most - n - 1) = A at *
        have m3 := szF_nonneg (cnts l[i].items) (most - (n + 1 + A))
        have m4 := szF_max (cnts l[i].items) (most - (n + 1 + A))
        generalize szF (cnts l[i].items) (most - (n + 1 + A)) = B at *
        have w1 := wrapI (i := most - n) (by omega) (by omega)
        have w2 := wrapI (i := most - n - 1) (by omega) (by omega)
        have w3 := wrapI (i := n + 1) (by omega) (by omega)
        have w4 := wrapI (i := n + 1 + A) (by omega) (by omega)
        have w5 := wrapI (i := most - (n + 1 + A)) (by omega) (by omega)
        have w6 := wrapI (i := n + 1 + A + B) (by omega) (by omega)
        have hi1 : i ≤ cnts (l.take i) := by have := len_cnts (l.take i); simp at this; omega
        rw [hn] at hi1
        have w7 := wrapI (i := i + 1) (by omega) (by omega)
        simp [hb', V.av_eq, w1, w2, w3, w4, w5, w6, w7, g1, g2]
        simp [ISize, cnts_take l i hb', V.cnt_eq, hn, <- hs]
        omega
theorem size_all (l : List V) : SizeAt l := size_of l fun v _ => V.ind (P := fun v => SizeAt v.keys /\ SizeAt v.items) (fun _v h1 h2 => ⟨size_of _ h1, size_of _ h2⟩) v
theorem c70 (l : List V) (most : Int) (H : Heap) (h1 : -1000000000 ≤ most) (h2 : most ≤ 1000000000) : Call CC 70 [.list (avs l) none, .int .i64 most] H = some (.ok (.int .i64 (szF (cnts l) most)), H) := size_all l most H h1 h2
def IDeep (l : List V) (i : Nat) (t : List AV) (_H : Heap) : Prop := i ≤ l.length /\ Fit [some (.list (avs l) none), none, some (.int .i64 0), some (.int .i64 (deps (l.take i))), some (.int .i64 i), none, none, none, none, none, none, none, none, none, none, none, none, none, none, none, none, none, none, none, none, none, none, none] t
def DeepAt (l : List V) : Prop := ∀ (H : Heap), cnts l ≤ 1000000000 -> Call CC 71 [.list (avs l) none] H = some (.ok (.int .i64 (deps l)), H)
theorem deep_of (l : List V) (h : ∀ v ∈ l, DeepAt v.keys /\ DeepAt v.items) : DeepAt l := by
  intro H hc
  refine cwp (fn := Tryz.f71) rfl (by kernel_rfl) rfl rfl rfl rfl (by simp) rfl ?_ H
  simp
  refine st_iter (IDeep l) l.length ?_ ?_
  . simp [IDeep, deps]
  . rintro i t H ⟨hi, ht⟩
    obtain ⟨d, rfl⟩ := ht.elim
    refine ⟨hi, ?_⟩
    simp
    cases hb : decide (i < l.length)
    . have hb' : i = l.length := by have : ¬ i < l.length := by simpa using hb
                                    omega
      simp [hb']
    . have hb' : i < l.length := by simpa using hb
      have q1 := cnt_mem (List.getElem_mem hb')
      have q2 := cnt_keys l[i]
      have q3 := cnt_items l[i]
      have q4 := deps_cnts l[i].keys
      have q5 := deps_cnts l[i].items
      have q6 := len_cnts l
      have g1 := fun H => (h l[i] (List.getElem_mem hb')).1 H (by omega)
      have g2 := fun H => (h l[i] (List.getElem_mem hb')).2 H (by omega)
      have w1 := wrapI (i := 1 + deps l[i].keys) (by omega) (by omega)
      have w2 := wrapI (i := 1 + deps l[i].items) (by omega) (by omega)
      have w3 := wrapI (i := i + 1) (by omega) (by omega)
      simp [hb', V.av_eq, w1, w2, w3, g1, g2, ints]
      refine ⟨by kernel_rfl, ?_⟩
      have hd := deps_take l i hb'
      rw [V.dep_eq] at hd
      simp [IDeep, hd]
      refine ⟨by omega, ?_⟩
      split <;> split <;> omega
theorem deep_all (l : List V) : DeepAt l := deep_of l fun v _ => V.ind (P := fun v => DeepAt v.keys /\ DeepAt v.items) (fun _v h1 h2 => ⟨deep_of _ h1, deep_of _ h2⟩) v
theorem c71 (l : List V) (H : Heap) (h : cnts l ≤ 1000000000) : Call CC 71 [.list (avs l) none] H = some (.ok (.int .i64 (deps l)), H) := deep_all l H h
end Go.Tv
namespace Go.Tv
open Go.Proofs
theorem avs_append : ∀ (a b : List V), avs (a ++ b) = avs a ++ avs b
  | [], b => rfl
  | v :: r, b => by simp [avs, avs_append r b]
theorem avs_take (l : List V) (i : Nat) (h : i < l.length) : avs (l.take (i + 1)) = avs (l.take i) ++ [l[i].av] := by
  rw [take_succ l i h, avs_append]; rfl
theorem room24X {z a : Bool} {al : FuncId -> FuncId} (n : Nat) (h : n ≤ 1000000000) : roomOk (CX z a al) 24 n = true := by
  have hb : (Tryz.prog.info? 24).map (fun i => (i.bytes, i.zero.isSome)) = some (80, true) := by kernel_rfl
  unfold roomOk
  rw [cc_P]
  cases hi : Tryz.prog.info? 24 with
  | none => rw [hi] at hb; cases hb
  | some i =>
    rw [hi] at hb
    simp only [Option.map_some, Option.some.injEq, Prod.mk.injEq] at hb
    simp only [hb.1, hb.2, Bool.and_true, decide_eq_true_eq]
    refine ⟨?_, ?_, by omega⟩ <;> omega
theorem room24 (n : Nat) (h : n ≤ 1000000000) : roomOk CC 24 n = true := room24X n h
attribute [simp] aappB aappend news newsH
def OwnV (v : V) : Prop := ∀ (H : Heap), v.cnt ≤ 1000000000 -> Call CC 16 [v.av] H = some (.ok v.av, H)
def OwnAt (l : List V) : Prop := ∀ (H : Heap), cnts l ≤ 1000000000 -> Call CC 78 [.list (avs l) none] H = some (.ok (.list (avs l) none), H)
def IOwn (l : List V) (tok : Nat) (i : Nat) (t : List AV) (H : Heap) : Prop := i ≤ l.length /\ (i ≠ 0 -> H[tok]? = some (.tail i 5)) /\ Fit [some (.list (avs l) none), none, some (.empty), some (if i = 0 then .empty else .list (avs (l.take i)) (some tok)), some (.int .i64 i), none, none, none, none, none, none, none, none, none, none, none, none, none, none, none] t
theorem own_of (l : List V) (h : ∀ v ∈ l, OwnV v) : OwnAt l := by
  intro H hc
  have q6 := len_cnts l
  refine cwp (fn := Tryz.f78) rfl (by kernel_rfl) rfl rfl rfl rfl (by simp) (by simp) ?_ H
  simp
  refine st_iter (fun i t H => ∃ tok, IOwn l tok i t H) l.length ?_ ?_
  . exact ⟨0, by simp [IOwn]⟩
  . rintro i t H ⟨tok, hi, htok, ht⟩
    obtain ⟨d, rfl⟩ := ht.elim
    clear ht
    refine ⟨hi, ?_⟩
    simp
    cases hb : decide (i < l.length)
    . have hb' : i = l.length := by have : ¬ i < l.length := by simpa using hb
                                    omega
      simp [hb']
      split <;> simp_all [avs]
    . have hb' : i < l.length := by simpa using hb
      have q1 := cnt_mem (List.getElem_mem hb')
      have g1 := fun H => h l[i] (List.getElem_mem hb') H (by omega)
      rw [V.av_eq] at g1
      have w1 := wrapI (i := i + 1) (by omega) (by omega)
      have r1 := room24 1 (by omega)
      have r2 := room24 (i + 1) (by omega)
      have ha := avs_take l i hb'
      rw [V.av_eq] at ha
      by_cases hz : i = 0
      . rw [if_pos hz]
        simp [hb', V.av_eq, g1, r1, w1]
        refine ⟨H.length, ?_⟩
        simp [IOwn, ha]
        simp [hz, avs]
        omega
      . have ht2 := htok hz
        have hm : min i l.length = i := Nat.min_eq_left hi
        rw [if_neg hz]
        simp [hb', V.av_eq, g1, r2, w1, ht2, hm]
        refine ⟨H.length, ?_⟩
        simp [IOwn, ha]
        omega
theorem ownV_of (v : V) (hk : OwnAt v.keys) (hi : OwnAt v.items) : OwnV v := by
  intro H hc
  have q1 := cnt_keys v
  have q2 := cnt_items v
  have g1 := fun H => hk H (by omega)
  have g2 := fun H => hi H (by omega)
  refine cwp (fn := Tryz.f16) rfl (by kernel_rfl) rfl rfl rfl rfl (by simp) (by simp) ?_ H
  simp [V.av_eq, g1, g2]
  kernel_rfl
theorem own_all (v : V) : OwnV v := V.ind (P := OwnV) (fun v h1 h2 => ownV_of v (own_of _ h1) (own_of _ h2)) v
theorem c16 (v : V) (H : Heap) (h : v.cnt ≤ 1000000000) : Call CC 16 [v.av] H = some (.ok v.av, H) := own_all v H h
theorem szF_iff (c : Nat) (most : Int) (h : 0 ≤ most) : decide (szF c most ≤ most) = decide ((c : Int) ≤ most) := by
  unfold szF; split <;> simp <;> omega
def fewB (l : List V) : Bool := decide (l.length ≤ 320) && decide (cnts l ≤ 700) && decide (deps l ≤ 40)
theorem c14 (l : List V) (H : Heap) : Call CC 14 [.list (avs l) none] H = some (.ok (.bool (fewB l)), H) := by
  refine cwp (fn := Tryz.f14) rfl (by kernel_rfl) rfl rfl rfl rfl (by simp) rfl ?_ H
  have g1 := fun H => c70 l 700 H (by omega) (by omega)
  have e1 := szF_iff (cnts l) 700 (by omega)
  simp
  cases hb : decide ((l.length : Int) ≤ 320)
  . have : ¬ l.length ≤ 320 := by intro h; simp at hb; omega
    simp [fewB, this]
  . have h1 : l.length ≤ 320 := by simp at hb; omega
    simp [g1, e1]
    cases hc : decide ((cnts l : Int) ≤ 700)
    . have : ¬ cnts l ≤ 700 := by intro h; simp at hc; omega
      simp [fewB, this]
    . have h2 : cnts l ≤ 700 := by simp at hc; omega
      have g2 := fun H => c71 l H (by omega)
      simp [g2, fewB, h1, h2]
      omega
theorem c28 (v : V) (H : Heap) : Call CC 28 [v.av] H = some (.ok (.bool (v.small 300 8)), H) := by
  refine cwp (fn := Tryz.f28) rfl (by kernel_rfl) rfl rfl rfl rfl (by simp) rfl ?_ H
  have g1 := fun H => c70 [v] 300 H (by omega) (by omega)
  have e1 := szF_iff (cnts [v]) 300 (by omega)
  have ec : cnts [v] = v.cnt := by simp [cnts]
  have ed : deps [v] = v.dep := by simp [deps]
  simp [avs, V.av_eq, ec] at g1
  rw [ec] at e1
  simp [V.av_eq, g1, e1]
  cases hc : decide ((v.cnt : Int) ≤ 300)
  . have : ¬ v.cnt ≤ 300 := by intro h; simp at hc; omega
    simp [V.small, this]
  . have h2 : v.cnt ≤ 300 := by simp at hc; omega
    have g2 := fun H => c71 [v] H (by rw [ec]; omega)
    simp [avs, V.av_eq, ed] at g2
    simp [g2, V.small, h2]
    omega
end Go.Tv
namespace Go.Tv
open Go.Proofs
def CmpV (a : V) : Prop := ∀ (b : V) (H : Heap), a.cnt ≤ 1000000000 -> Call CC 23 [a.av, b.av] H = some (.ok (.int .i64 (cmpV a b)), H)
def CmpAt (a : List V) : Prop := ∀ (b : List V) (H : Heap), cnts a ≤ 1000000000 -> Call CC 85 [.list (avs a) none, .list (avs b) none] H = some (.ok (.int .i64 (cmpVs a b)), H)
theorem cmpV_def (a b : V) : cmpV a b = if a.kind = b.kind then if a.num = b.num then if a.s = b.s then (if cmpVs a.keys b.keys = 0 then cmpVs a.items b.items else cmpVs a.keys b.keys) else cmpB a.s b.s else cmpI a.num b.num else cmpI a.kind b.kind := by
  cases a; cases b; rw [cmpV]; rfl
theorem cmpI_bit (a b : Int) (h : a ≠ b) : cmpI a b = 1 - 2 * (if decide (a < b) then 1 else 0) := by
  unfold cmpI
  by_cases h2 : a < b
  . simp [h2]
  . simp [h, h2]
theorem cmpB_bit (a b : List UInt8) (h : a ≠ b) : cmpB a b = 1 - 2 * (if Op.bytesLess a b then 1 else 0) := by
  rw [less_cmp]
  have h0 : cmpB a b ≠ 0 := fun e => h (cmpB_eq.1 e)
  rcases cmpB_rng a b with e | e | e
  . simp [e]
  . exact absurd e h0
  . simp [e]
theorem cmpVs_cons (a b : List V) (i : Nat) (h1 : i < a.length) (h2 : i < b.length) : cmpVs (a.drop i) (b.drop i) = if cmpV a[i] b[i] = 0 then cmpVs (a.drop (i + 1)) (b.drop (i + 1)) else cmpV a[i] b[i] := by
  rw [List.drop_eq_getElem_cons h1, List.drop_eq_getElem_cons h2, cmpVs]
theorem cmpVs_end (a b : List V) (i : Nat) (hi : i ≤ a.length) (hi2 : i ≤ b.length) (h : i = a.length \/ i = b.length) : cmpVs (a.drop i) (b.drop i) = (if decide (b.length < a.length) then 1 else 0) - (if decide (a.length < b.length) then 1 else 0) := by
  rcases h with h | h
  . have e : a.drop i = [] := List.drop_eq_nil_of_le (by omega)
    rw [e]
    cases hb : b.drop i with
    | nil =>
      have := List.drop_eq_nil_iff.1 hb
      have h1 : ¬ a.length < b.length := by omega
      have h2 : ¬ b.length < a.length := by omega
      simp [cmpVs, h1, h2]
    | cons x y =>
      have h3 : ¬ b.length ≤ i := fun h => by rw [List.drop_eq_nil_of_le h] at hb; cases hb
      have h1 : a.length < b.length := by omega
      have h2 : ¬ b.length < a.length := by omega
      simp [cmpVs, h1, h2]
  . have e : b.drop i = [] := List.drop_eq_nil_of_le (by omega)
    rw [e]
    cases hb : a.drop i with
    | nil =>
      have := List.drop_eq_nil_iff.1 hb
      have h1 : ¬ a.length < b.length := by omega
      have h2 : ¬ b.length < a.length := by omega
      simp [cmpVs, h1, h2]
    | cons x y =>
      have h3 : ¬ a.length ≤ i := fun h => by rw [List.drop_eq_nil_of_le h] at hb; cases hb
      have h1 : b.length < a.length := by omega
      have h2 : ¬ a.length < b.length := by omega
      simp [cmpVs, h1, h2]
def ICmp (a b : List V) (i : Nat) (t : List AV) (_H : Heap) : Prop := i ≤ a.length /\ i ≤ b.length /\ cmpVs a b = cmpVs (a.drop i) (b.drop i) /\ Fit [some (.list (avs a) none), some (.list (avs b) none), none, none, some (.int .i64 0), some (.int .i64 i), none, none, none, none, none, none, none, none, none, none, none, none, none, none, none, none, none, none, none, none, none, none, none, none, none, none, none, none, none, none, none, none, none, none, none, none, none, none] t
theorem cmp_of (a : List V) (h : ∀ v ∈ a, CmpV v) : CmpAt a := by
  intro b H hc
  have q6 := len_cnts a
  refine cwp (fn := Tryz.f85) rfl (by kernel_rfl) rfl rfl rfl rfl (by simp) rfl ?_ H
  simp
  refine st_iter (ICmp a b) a.length ?_ ?_
  . simp [ICmp]
  . rintro i t H ⟨hi, hi2, hd, ht⟩
    obtain ⟨d, rfl⟩ := ht.elim
    clear ht
    refine ⟨hi, ?_⟩
    have fin : (i = a.length \/ i = b.length) -> cmpVs a b = (if decide (b.length < a.length) then 1 else 0) - (if decide (a.length < b.length) then 1 else 0) := fun he => by rw [hd, cmpVs_end a b i hi hi2 he]
    have w0 : ∀ x y : Bool, IntKind.i64.wrap ((if x then 1 else 0) - (if y then 1 else 0)) = (if x then 1 else 0) - (if y then 1 else 0) := fun x y => wrapI (by cases x <;> cases y <;> decide) (by cases x <;> cases y <;> decide)
    simp
    cases hb : decide (i < a.length)
    . have hb' : i = a.length := by have : ¬ i < a.length := by simpa using hb
                                    omega
      have fin := fin (Or.inl hb')
      simp only [fin]
      simp [c84]
      exact wrapI (by split <;> split <;> omega) (by split <;> split <;> omega)
    . have hb' : i < a.length := by simpa using hb
      simp
      cases hb2 : decide (i < b.length)
      . have hb2' : i = b.length := by have : ¬ i < b.length := by simpa using hb2
                                       omega
        have fin := fin (Or.inr hb2')
        simp only [fin]
        simp [c84]
        exact wrapI (by split <;> split <;> omega) (by split <;> split <;> omega)
      . have hb2' : i < b.length := by simpa using hb2
        have q1 := cnt_mem (List.getElem_mem hb')
        have g1 := fun H => h a[i] (List.getElem_mem hb') b[i] H (by omega)
        rw [V.av_eq, V.av_eq] at g1
        have w1 := wrapI (i := i + 1) (by omega) (by omega)
        have e1 := cmpVs_cons a b i hb' hb2'
        simp [hb', hb2', V.av_eq, g1]
        refine ⟨by kernel_rfl, ?_⟩
        cases he : decide (cmpV a[i] b[i] = 0)
        . have he' : ¬ cmpV a[i] b[i] = 0 := by simpa using he
          rw [if_neg he'] at e1
          simp [hd, e1]
        . have he' : cmpV a[i] b[i] = 0 := by simpa using he
          rw [if_pos he'] at e1
          simp [ICmp, w1]
          rw [hd, e1]
          simp
          omega
theorem cmpV_of (a : V) (hk : CmpAt a.keys) (hi : CmpAt a.items) : CmpV a := by
  intro b H hc
  have q1 := cnt_keys a
  have q2 := cnt_items a
  have g1 := fun H => hk b.keys H (by omega)
  have g2 := fun H => hi b.items H (by omega)
  refine cwp (fn := Tryz.f23) rfl (by kernel_rfl) rfl rfl rfl rfl (by simp) rfl ?_ H
  have wb : ∀ x : Bool, IntKind.i64.wrap (1 - IntKind.i64.wrap (2 * (if x then 1 else 0))) = 1 - 2 * (if x then 1 else 0) := fun x => by cases x <;> rfl
  rw [cmpV_def]
  by_cases h1 : a.kind = b.kind
  . by_cases h2 : a.num = b.num
    . by_cases h3 : a.s = b.s
      . by_cases h4 : cmpVs a.keys b.keys = 0
        . simp [V.av_eq, h1, h2, h3, h4, g1, g2]
        . simp [V.av_eq, h1, h2, h3, h4, g1]
      . rw [if_pos h1, if_pos h2, if_neg h3, cmpB_bit _ _ h3, <- wb]
        simp [V.av_eq, h1, h2, h3, c84]
    . rw [if_pos h1, if_neg h2, cmpI_bit _ _ h2, <- wb]
      simp [V.av_eq, h1, h2, c84]
  . rw [if_neg h1, cmpI_bit _ _ h1, <- wb]
    simp [V.av_eq, h1, c84]
theorem cmp_all (v : V) : CmpV v := V.ind (P := CmpV) (fun v h1 h2 => cmpV_of v (cmp_of _ h1) (cmp_of _ h2)) v
theorem c23 (a b : V) (H : Heap) (h : a.cnt ≤ 1000000000) : Call CC 23 [a.av, b.av] H = some (.ok (.int .i64 (cmpV a b)), H) := cmp_all a b H h
theorem c21 (a b : V) (H : Heap) (h : a.cnt ≤ 1000000000) : Call CC 21 [a.av, b.av] H = some (.ok (.bool (decide (cmpV a b = 0))), H) := by
  refine cwp (fn := Tryz.f21) rfl (by kernel_rfl) rfl rfl rfl rfl (by simp) rfl ?_ H
  have g := fun H => c23 a b H h
  simp only [V.av_eq] at g
  simp [V.av_eq, g]
end Go.Tv
namespace Go.Tv
open Go.Proofs
variable {z : Bool}
def il : List Int -> List AV
  | [] => []
  | n :: r => .int .i64 n :: il r
theorem il_map : ∀ l : List Int, il l = l.map (.int .i64)
  | [] => rfl
  | n :: r => by simp [il, il_map r]
theorem il_len (l : List Int) : (il l).length = l.length := by simp [il_map]
theorem il_erase : ∀ l : List Int, eraseL (il l) = il l
  | [] => rfl
  | n :: r => by simp [il, il_erase r]
theorem il_tree : ∀ l : List Int, treeL (il l) = true
  | [] => rfl
  | n :: r => by simp [il, il_tree r]
theorem il_cells (l : List Int) : (il l).all (fun v => decide (v.cells.length = 1)) = true := by simp [il_map]
theorem il_at? (l : List Int) (i : Nat) : (il l)[i]? = l[i]?.map (.int .i64) := by simp [il_map]
theorem il_at (l : List Int) (i : Nat) (h : i < (il l).length) : (il l)[i] = .int .i64 (l[i]'(by rwa [il_len] at h)) := by simp [il_map]
attribute [simp] il_len il_erase il_tree il_cells il_at? il_at
def firstNZ : List Int -> Int
  | [] => 0
  | n :: r => if n = 0 then firstNZ r else n
theorem firstNZ_drop (l : List Int) (i : Nat) (h : i < l.length) : firstNZ (l.drop i) = if l[i] = 0 then firstNZ (l.drop (i + 1)) else l[i] := by
  rw [List.drop_eq_getElem_cons h, firstNZ]
theorem c208z (a : Int) (H : Heap) : Call (CZ z) 208 [.int .i64 a] H = some (.ok (.bool false), H) := by
  refine cwp (fn := Tryz.f208) rfl (by kernel_rfl) rfl rfl rfl rfl rfl rfl ?_ H
  simp
theorem c138z (a b : Int) (H : Heap) : Call (CZ z) 138 [.int .i64 a, .int .i64 b] H = some (.ok (.int .i64 (cmpI a b)), H) := by
  refine cwp (fn := Tryz.f138) rfl (by kernel_rfl) rfl rfl rfl rfl rfl rfl ?_ H
  unfold cmpI
  by_cases h : a < b
  . simp [c208z, h]
  . by_cases h2 : a = b
    . simp [c208z, h2]
    . have h3 : b < a := by omega
      simp [c208z, h, h2, h3]
theorem c209z (a b : List UInt8) (H : Heap) : Call (CZ z) 209 [.str a, .str b] H = some (.ok (.int .i64 (cmpB a b)), H) := by
  refine cwp (fn := Tryz.f209) rfl (by kernel_rfl) rfl rfl rfl rfl rfl rfl ?_ H
  simp
theorem c139z (a b : List UInt8) (H : Heap) : Call (CZ z) 139 [.str a, .str b] H = some (.ok (.int .i64 (cmpB a b)), H) := by
  refine cwp (fn := Tryz.f139) rfl (by kernel_rfl) rfl rfl rfl rfl rfl rfl ?_ H
  simp [c209z]
def IOr (l : List Int) (i : Nat) (t : List AV) (_H : Heap) : Prop := i ≤ l.length /\ firstNZ l = firstNZ (l.drop i) /\ Fit [some (.list (il l) none), none, some (.int .i64 0), some (.int .i64 0), none, none, some (.list (il l) none), some (.int .i64 l.length), some (.int .i64 i), none, none, none, none, none, none, none, none, none] t
theorem c137z (l : List Int) (H : Heap) (hl : l.length ≤ 1000000000) : Call (CZ z) 137 [.list (il l) none] H = some (.ok (.int .i64 (firstNZ l)), H) := by
  refine cwp (fn := Tryz.f137) rfl (by kernel_rfl) rfl rfl rfl rfl (by simp) rfl ?_ H
  simp
  refine st_iter (IOr l) l.length ?_ ?_
  . simp [IOr]
  . rintro i t H ⟨hi, hd, ht⟩
    obtain ⟨d, rfl⟩ := ht.elim
    clear ht
    refine ⟨hi, ?_⟩
    simp
    cases hb : decide (i < l.length)
    . have hb' : i = l.length := by have : ¬ i < l.length := by simpa using hb
                                    omega
      simp [hd, hb', firstNZ]
    . have hb' : i < l.length := by simpa using hb
      have e1 := firstNZ_drop l i hb'
      have w1 := wrapI (i := i + 1) (by omega) (by omega)
      cases he : decide (l[i] = 0)
      . have he' : ¬ l[i] = 0 := by simpa using he
        rw [if_neg he'] at e1
        simp [hb', he', hd, e1]
      . have he' : l[i] = 0 := by simpa using he
        rw [if_pos he'] at e1
        simp [hb', he', w1, IOr, hd, e1]
        omega
def CmpF (z : Bool) (a : V) : Prop := ∀ (b : V) (H : Heap), a.cnt ≤ 1000000000 -> Call (CZ z) 83 [a.av, b.av] H = some (.ok (.int .i64 (cmpV a b)), H)
def CmpFs (z : Bool) (a : List V) : Prop := ∀ (b : List V) (H : Heap), cnts a ≤ 1000000000 -> Call (CZ z) 140 [.list (avs a) none, .list (avs b) none, .fn (.func 83) [] []] H = some (.ok (.int .i64 (cmpVs a b)), H)
def ICmpF (a b : List V) (i : Nat) (t : List AV) (_H : Heap) : Prop := i ≤ a.length /\ i ≤ b.length /\ cmpVs a b = cmpVs (a.drop i) (b.drop i) /\ Fit [some (.list (avs a) none), some (.list (avs b) none), some (.fn (.func 83) [] []), none, none, none, some (.int .i64 0), none, none, none, none, some (.list (avs a) none), some (.int .i64 a.length), some (.int .i64 i), none, none, none, none, none, none, none, none, none, none, none, none, none, none, none, none, none, none, none, none, none, none, none, none, none] t
theorem cmpf_of (a : List V) (h : ∀ v ∈ a, CmpF z v) : CmpFs z a := by
  intro b H hc
  have q6 := len_cnts a
  refine cwp (fn := Tryz.f140) rfl (by kernel_rfl) rfl rfl rfl rfl (by simp) rfl ?_ H
  simp
  refine st_iter (ICmpF a b) a.length ?_ ?_
  . simp [ICmpF]
  . rintro i t H ⟨hi, hi2, hd, ht⟩
    obtain ⟨d, rfl⟩ := ht.elim
    clear ht
    refine ⟨hi, ?_⟩
    have fin : (i = a.length \/ i = b.length) -> cmpVs a b = (if decide (b.length < a.length) then 1 else 0) - (if decide (a.length < b.length) then 1 else 0) := fun he => by rw [hd, cmpVs_end a b i hi hi2 he]
    simp
    cases hb : decide (i < a.length)
    . have hb' : i = a.length := by have : ¬ i < a.length := by simpa using hb
                                    omega
      have fin := fin (Or.inl hb')
      have h2 : ¬ b.length < a.length := by omega
      simp only [fin]
      simp [h2]
      by_cases hx : a.length < b.length
      . simp [hx]
      . simp [hx]
    . have hb' : i < a.length := by simpa using hb
      simp [hb', V.av_eq]
      cases hb2 : decide (b.length ≤ i)
      . have hb2' : i < b.length := by simp at hb2; omega
        have q1 := cnt_mem (List.getElem_mem hb')
        have g1 := fun H => h a[i] (List.getElem_mem hb') b[i] H (by omega)
        rw [V.av_eq, V.av_eq] at g1
        have w1 := wrapI (i := i + 1) (by omega) (by omega)
        have e1 := cmpVs_cons a b i hb' hb2'
        simp [hb2', V.av_eq, g1]
        cases he : decide (cmpV a[i] b[i] = 0)
        . have he' : ¬ cmpV a[i] b[i] = 0 := by simpa using he
          rw [if_neg he'] at e1
          simp [hd, e1]
        . have he' : cmpV a[i] b[i] = 0 := by simpa using he
          rw [if_pos he'] at e1
          simp [ICmpF, w1]
          rw [hd, e1]
          simp
          omega
      . have hb2' : i = b.length := by simp at hb2; omega
        have fin := fin (Or.inr hb2')
        have h2 : ¬ a.length < b.length := by omega
        have h3 : b.length < a.length := by omega
        simp only [fin]
        simp [h2, h3]
theorem cmpF_of (a : V) (hk : CmpFs z a.keys) (hi : CmpFs z a.items) : CmpF z a := by
  intro b H hc
  have q1 := cnt_keys a
  have q2 := cnt_items a
  have g1 := fun H => hk b.keys H (by omega)
  have g2 := fun H => hi b.items H (by omega)
  have g3 := fun H => c137z (z := z) [cmpI a.kind b.kind, cmpI a.num b.num, cmpB a.s b.s, cmpVs a.keys b.keys, cmpVs a.items b.items] H (by simp)
  simp only [il] at g3
  refine cwp (fn := Tryz.f83) rfl (by kernel_rfl) rfl rfl rfl rfl (by simp) rfl ?_ H
  have e : cmpV a b = firstNZ [cmpI a.kind b.kind, cmpI a.num b.num, cmpB a.s b.s, cmpVs a.keys b.keys, cmpVs a.items b.items] := by
    rw [cmpV_def]
    simp only [firstNZ, cmpI_eq, cmpB_eq]
    by_cases h1 : a.kind = b.kind <;> by_cases h2 : a.num = b.num <;> by_cases h3 : a.s = b.s <;> by_cases h4 : cmpVs a.keys b.keys = 0 <;> by_cases h5 : cmpVs a.items b.items = 0 <;> simp [h1, h2, h3, h4, h5]
  rw [e]
  simp [V.av_eq, c138z, c139z, g1, g2, g3]
  refine (?_ : drawE _ _ _ = true)
  kernel_rfl
theorem cmpf_all (v : V) : CmpF z v := V.ind (P := CmpF z) (fun v h1 h2 => cmpF_of v (cmpf_of _ h1) (cmpf_of _ h2)) v
theorem c83z (a b : V) (H : Heap) (h : a.cnt ≤ 1000000000) : Call (CZ z) 83 [a.av, b.av] H = some (.ok (.int .i64 (cmpV a b)), H) := cmpf_all a b H h
theorem c83 (a b : V) (H : Heap) (h : a.cnt ≤ 1000000000) : Call CC 83 [a.av, b.av] H = some (.ok (.int .i64 (cmpV a b)), H) := c83z a b H h
end Go.Tv
namespace Go.Tv
open Go.Proofs
theorem sz143 : szOf CC 143 = some 1 := by kernel_rfl
theorem ag143 : aggT CC 143 = some false := by kernel_rfl
theorem sz145 : szOf CC 145 = some 1 := by kernel_rfl
theorem ag145 : aggT CC 145 = some true := by kernel_rfl
theorem fo145 : fieldOf CC 145 0 = some (fld 145 0) := by kernel_rfl
theorem ft145 : (fld 145 0).type = 3 := by kernel_rfl
theorem fx145 : (fld 145 0).offset = 0 := by kernel_rfl
theorem zero145 : zeroOf CC 145 = some (.agg [.int .i64 0]) := by kernel_rfl
attribute [simp] sz143 ag143 sz145 ag145 fo145 ft145 fx145 zero145
theorem app_get {α : Type} {M : List α} {j : Nat} {o : α} (h : M[j]? = some o) (L : List α) : (M ++ L)[j]? = some o := by
  have : j < M.length := (List.getElem?_eq_some_iff.1 h).1
  rw [List.getElem?_append_left this, h]
theorem lt_of_get {α : Type} {M : List α} {j : Nat} {o : α} (h : M[j]? = some o) : j < M.length := (List.getElem?_eq_some_iff.1 h).1
structure Keep (id : Nat) (H H' : Heap) : Prop where
  len : H.length ≤ H'.length
  get : ∀ j, j < H.length -> j ≠ id -> H'[j]? = H[j]?
theorem Keep.at {id j : Nat} {H H' : Heap} {o : AObj} (k : Keep id H H') (h : H[j]? = some o) (hj : j ≠ id) : H'[j]? = some o := by
  rw [k.get j (lt_of_get h) hj, h]
theorem Keep.trans {id : Nat} {A B C : Heap} (h : Keep id A B) (k : Keep id B C) : Keep id A C :=
  ⟨Nat.le_trans h.len k.len, fun j hj hn => by rw [k.get j (Nat.lt_of_lt_of_le hj h.len) hn, h.get j hj hn]⟩
structure Cnt (id pb pd : Nat) (l d : Int) (T T1 T2 : TypeId) (H : Heap) : Prop where
  c : H[id]? = some (.cells [.int .i64 l] T)
  b : H[pb]? = some (.cells [.ptr id 0] T1)
  d : H[pd]? = some (.cells [.int .i64 d] T2)
theorem Cnt.keep {id pb pd : Nat} {l d l' : Int} {T T1 T2 : TypeId} {H H' : Heap} (h : Cnt id pb pd l d T T1 T2 H) (k : Keep id H H') (h1 : pb ≠ id) (h2 : pd ≠ id) (hc : H'[id]? = some (.cells [.int .i64 l'] T)) : Cnt id pb pd l' d T T1 T2 H' :=
  ⟨hc, k.at h.b h1, k.at h.d h2⟩
def FitV (v : V) : Prop := ∀ (H : Heap) (id : Nat) (l d : Int) (T : TypeId), H[id]? = some (.cells [.int .i64 l] T) -> 0 ≤ l -> l ≤ 1000000 -> -1000000 ≤ d -> d ≤ 1000000 -> v.cnt ≤ 1000000000 ->
  ∃ H', Call CC 131 [.ptr id 0, v.av, .int .i64 d] H = some (.ok (.bool (fitV v d l).1), H') /\ H'[id]? = some (.cells [.int .i64 (fitV v d l).2] T) /\ Keep id H H'
def FitC (v : V) : Prop := ∀ (H : Heap) (id pb pd : Nat) (l d : Int) (T T1 T2 : TypeId), Cnt id pb pd l d T T1 T2 H -> pb ≠ id -> pd ≠ id -> pb ≠ pd -> 0 ≤ l -> l ≤ 1000000 -> -999999 ≤ d -> d ≤ 1000000 -> v.cnt ≤ 1000000000 ->
  ∃ H', Call CC 199 [v.av, .ptr pb 0, .ptr pd 0] H = some (.ok (.bool (!(fitV v (d - 1) l).1)), H') /\ H'[id]? = some (.cells [.int .i64 (fitV v (d - 1) l).2] T) /\ Keep id H H'
theorem reach3 {id pb pd : Nat} {l d : Int} {T T1 T2 : TypeId} {H : Heap} (h : Cnt id pb pd l d T T1 T2 H) (h1 : pb ≠ id) (h2 : pd ≠ id) (h3 : pb ≠ pd) (args : List AV) (ha : idsL args = [pb, pd]) :
    reachL H args = [pd, id, pb] /\ (closed H [pd, id, pb] && (idsL args).all [pd, id, pb].contains) = true := by
  have e1 : ¬ id = pb := fun e => h1 e.symm
  have e2 : ¬ pd = pb := fun e => h3 e.symm
  constructor
  . unfold reachL
    rw [ha]
    simp [reach, h.b, h.c, h.d, AObj.ids, idsL, AV.ids, e1, e2, h2]
  . rw [ha]
    simp [closed, h.b, h.c, h.d, AObj.ids, idsL, AV.ids]
theorem fitC_of (v : V) (h : FitV v) : FitC v := by
  intro H id pb pd l d T T1 T2 hc h1 h2 h3 hl0 hl1 hd0 hd1 hv
  have ha : idsL [v.av, .ptr pb 0, .ptr pd 0] = [pb, pd] := by simp [idsL, AV.ids, ids_av]
  obtain ⟨hR, hcl⟩ := reach3 hc h1 h2 h3 _ ha
  have key := cwpo (f := 199) (fn := Tryz.f199) (P := fun w H1 => w = .bool (!(fitV v (d - 1) l).1) /\ H1[id]? = some (.cells [.int .i64 (fitV v (d - 1) l).2] T) /\ pb < H1.length /\ H1[pb]? = H[pb]? /\ H1[pd]? = H[pd]?) (args := [v.av, .ptr pb 0, .ptr pd 0]) (H := H) rfl (by kernel_rfl) rfl rfl rfl rfl (by simp) hR hcl ?_
  . obtain ⟨w, H1, H', k1, ⟨k2, k3, _, k4, k5⟩, k6, k7, k8, k9⟩ := key
    subst k2
    refine ⟨H', k1, by rw [k8 id (by simp), k3], by omega, fun j hj hn => ?_⟩
    by_cases e1 : j = pb
    . subst e1; rw [k8 _ (by simp), k4]
    . by_cases e2 : j = pd
      . subst e2; rw [k8 _ (by simp), k5]
      . exact k9 j hj (by simp [e1, e2, hn])
  . intro M hM hR
    have m1 : M[id]? = some (.cells [.int .i64 l] T) := by rw [hR id (by simp), hc.c]
    have m2 : M[pb]? = some (.cells [.ptr id 0] T1) := by rw [hR pb (by simp), hc.b]
    have m3 : M[pd]? = some (.cells [.int .i64 d] T2) := by rw [hR pd (by simp), hc.d]
    obtain ⟨H2, s1, s2, s3⟩ := h (M ++ [.cells [.int .i64 v.kind, .int .i64 v.num, .str v.s, .list (avs v.keys) none, .list (avs v.items) none] 24]) id l (d - 1) T (app_get m1 _) hl0 hl1 (by omega) (by omega) hv
    have w1 := wrapI (i := d - 1) (by omega) (by omega)
    rw [V.av_eq] at s1
    have n2 := app_get m2; have n3 := app_get m3
    simp [V.av_eq, n2, n3, w1, s1, s2]
    have := s3.len
    have b1 := s3.at (n2 _) h1
    have b2 := s3.at (n3 _) h2
    have b3 := lt_of_get b1
    simp at this
    refine ⟨by omega, by omega, ?_, ?_⟩
    . rw [b1, hc.b]
    . rw [b2, hc.d]
theorem fitL_drop (l : List V) (i : Nat) (h : i < l.length) (d c : Int) : fitL (l.drop i) d c = if (fitV l[i] d c).1 then fitL (l.drop (i + 1)) d (fitV l[i] d c).2 else fitV l[i] d c := by
  rw [List.drop_eq_getElem_cons h, fitL]
def FitI (ks : List V) : Prop := ∀ (H : Heap) (id pb pd : Nat) (l d : Int) (T T1 T2 : TypeId), Cnt id pb pd l d T T1 T2 H -> pb ≠ id -> pd ≠ id -> pb ≠ pd -> 0 ≤ l -> l ≤ 1000000 -> -999999 ≤ d -> d ≤ 1000000 -> cnts ks ≤ 1000000000 ->
  ∃ r H', Call CC 182 [.list (avs ks) none, .fn (.func 199) [] [.ptr pb 0, .ptr pd 0]] H = some (.ok (.int .i64 r), H') /\ decide (0 ≤ r) = (!(fitL ks (d - 1) l).1) /\ H'[id]? = some (.cells [.int .i64 (fitL ks (d - 1) l).2] T) /\ Keep id H H'
def IFit (ks : List V) (M : Heap) (id pb pd : Nat) (l d : Int) (T T1 T2 : TypeId) (i : Nat) (t : List AV) (H : Heap) : Prop := i ≤ ks.length /\ ∃ li, 0 ≤ li /\ li ≤ 1000000 /\ fitL ks (d - 1) l = fitL (ks.drop i) (d - 1) li /\ Cnt id pb pd li d T T1 T2 H /\ Keep id M H /\ Fit [some (.list (avs ks) none), some (.fn (.func 199) [] [.ptr pb 0, .ptr pd 0]), none, none, some (.int .i64 0), none, some (.list (avs ks) none), some (.int .i64 ks.length), some (.int .i64 i), none, none, none, none, none, none, none, none, none, none] t
theorem fitI_of (ks : List V) (h : ∀ v ∈ ks, FitV v) : FitI ks := by
  intro H id pb pd l d T T1 T2 hc h1 h2 h3 hl0 hl1 hd0 hd1 hv
  have q6 := len_cnts ks
  have ha : idsL [.list (avs ks) none, .fn (.func 199) [] [.ptr pb 0, .ptr pd 0]] = [pb, pd] := by simp [idsL, AV.ids, ids_avs]
  obtain ⟨hR, hcl⟩ := reach3 hc h1 h2 h3 _ ha
  have key := cwpo (f := 182) (fn := Tryz.f182) (P := fun w H1 => ∃ r, w = .int .i64 r /\ decide (0 ≤ r) = (!(fitL ks (d - 1) l).1) /\ H1[id]? = some (.cells [.int .i64 (fitL ks (d - 1) l).2] T) /\ pb < H1.length /\ H1[pb]? = H[pb]? /\ H1[pd]? = H[pd]?) (args := [.list (avs ks) none, .fn (.func 199) [] [.ptr pb 0, .ptr pd 0]]) (H := H) rfl (by kernel_rfl) rfl rfl rfl rfl (by simp) hR hcl ?_
  . obtain ⟨w, H1, H', k1, ⟨r, k2, k3, k3', _, k4, k5⟩, k6, k7, k8, k9⟩ := key
    subst k2
    refine ⟨r, H', k1, k3, by rw [k8 id (by simp), k3'], by omega, fun j hj hn => ?_⟩
    by_cases e1 : j = pb
    . subst e1; rw [k8 _ (by simp), k4]
    . by_cases e2 : j = pd
      . subst e2; rw [k8 _ (by simp), k5]
      . exact k9 j hj (by simp [e1, e2, hn])
  . intro M hM hR
    have mc : Cnt id pb pd l d T T1 T2 M := ⟨by rw [hR id (by simp), hc.c], by rw [hR pb (by simp), hc.b], by rw [hR pd (by simp), hc.d]⟩
    simp
    refine st_iter (IFit ks M id pb pd l d T T1 T2) ks.length ?_ ?_
    . simp only [IFit]
      refine ⟨by omega, l, hl0, hl1, by simp, mc, ⟨Nat.le_refl _, fun _ _ _ => rfl⟩, ?_⟩
      simp
    . rintro i t Hi ⟨hi, li, hli0, hli1, hd, hci, hk, ht⟩
      obtain ⟨dd, rfl⟩ := ht.elim
      clear ht
      refine ⟨hi, ?_⟩
      have b1 := lt_of_get hci.b
      have hkl := hk.len
      simp
      cases hb : decide (i < ks.length)
      . have hb' : i = ks.length := by have : ¬ i < ks.length := by simpa using hb
                                       omega
        have hd' : fitL ks (d - 1) l = (true, li) := by rw [hd, hb', List.drop_length, fitL]
        simp [hd', hci.c, hci.b, hci.d, hc.b, hc.d]
        omega
      . have hb' : i < ks.length := by simpa using hb
        have q1 := cnt_mem (List.getElem_mem hb')
        obtain ⟨H2, s1, s2, s3⟩ := fitC_of _ (h ks[i] (List.getElem_mem hb')) Hi id pb pd li d T T1 T2 hci h1 h2 h3 hli0 hli1 hd0 hd1 (by omega)
        have e1 := fitL_drop ks i hb' (d - 1) li
        have r1 := fitV_rng ks[i] (d - 1) li hli0
        have w1 := wrapI (i := i + 1) (by omega) (by omega)
        have c2 := hci.keep s3 h1 h2 s2
        have l2 := s3.len
        rw [V.av_eq] at s1
        simp [hb', V.av_eq, s1]
        cases hf : (fitV ks[i] (d - 1) li).1
        . rw [hf] at e1
          simp only [Bool.false_eq_true, if_false] at e1
          have hd' : fitL ks (d - 1) l = fitV ks[i] (d - 1) li := by rw [hd, e1]
          simp [hd', hf, s2, c2.b, c2.d, hc.b, hc.d]
          omega
        . rw [hf] at e1
          simp only [if_true] at e1
          simp [w1, IFit]
          exact ⟨by omega, _, r1.2.2 hf, by omega, by rw [hd, e1], c2, hk.trans s3⟩
theorem fitA_of (ks : List V) (h : FitI ks) : ∀ (H : Heap) (id pb pd : Nat) (l d : Int) (T T1 T2 : TypeId), Cnt id pb pd l d T T1 T2 H -> pb ≠ id -> pd ≠ id -> pb ≠ pd -> 0 ≤ l -> l ≤ 1000000 -> -999999 ≤ d -> d ≤ 1000000 -> cnts ks ≤ 1000000000 ->
    ∃ H', Call CC 111 [.list (avs ks) none, .fn (.func 199) [] [.ptr pb 0, .ptr pd 0]] H = some (.ok (.bool (!(fitL ks (d - 1) l).1)), H') /\ H'[id]? = some (.cells [.int .i64 (fitL ks (d - 1) l).2] T) /\ Keep id H H' := by
  intro H id pb pd l d T T1 T2 hc h1 h2 h3 hl0 hl1 hd0 hd1 hv
  have ha : idsL [.list (avs ks) none, .fn (.func 199) [] [.ptr pb 0, .ptr pd 0]] = [pb, pd] := by simp [idsL, AV.ids, ids_avs]
  obtain ⟨hR, hcl⟩ := reach3 hc h1 h2 h3 _ ha
  have key := cwpo (f := 111) (fn := Tryz.f111) (P := fun w H1 => w = .bool (!(fitL ks (d - 1) l).1) /\ H1[id]? = some (.cells [.int .i64 (fitL ks (d - 1) l).2] T) /\ pb < H1.length /\ H1[pb]? = H[pb]? /\ H1[pd]? = H[pd]?) (args := [.list (avs ks) none, .fn (.func 199) [] [.ptr pb 0, .ptr pd 0]]) (H := H) rfl (by kernel_rfl) rfl rfl rfl rfl (by simp) hR hcl ?_
  . obtain ⟨w, H1, H', k1, ⟨k2, k3, _, k4, k5⟩, k6, k7, k8, k9⟩ := key
    subst k2
    refine ⟨H', k1, by rw [k8 id (by simp), k3], by omega, fun j hj hn => ?_⟩
    by_cases e1 : j = pb
    . subst e1; rw [k8 _ (by simp), k4]
    . by_cases e2 : j = pd
      . subst e2; rw [k8 _ (by simp), k5]
      . exact k9 j hj (by simp [e1, e2, hn])
  . intro M hM hR
    have mc : Cnt id pb pd l d T T1 T2 M := ⟨by rw [hR id (by simp), hc.c], by rw [hR pb (by simp), hc.b], by rw [hR pd (by simp), hc.d]⟩
    obtain ⟨r, H2, s1, s2, s3, s4⟩ := h M id pb pd l d T T1 T2 mc h1 h2 h3 hl0 hl1 hd0 hd1 hv
    have l2 := s4.len
    have c2 := mc.keep s4 h1 h2 s3
    have b1 := lt_of_get c2.b
    have b0 := lt_of_get mc.b
    simp [s1, s3, s2, c2.b, c2.d, hc.b, hc.d]
    omega
theorem app_set {α : Type} {M : List α} {j : Nat} {o : α} (h : M[j]? = some o) (L : List α) (x : α) : (M ++ L).set j x = M.set j x ++ L :=
  List.set_append_left j x (lt_of_get h)
theorem fitV_def (v : V) (d l : Int) : fitV v d l = if d < 1 \/ l - 1 < 0 then (false, l - 1) else if (fitL v.keys (d - 1) (l - 1)).1 then fitL v.items (d - 1) (fitL v.keys (d - 1) (l - 1)).2 else fitL v.keys (d - 1) (l - 1) := by
  cases v; rw [fitV]; rfl
set_option maxRecDepth 8000 in
theorem fit1_of (v : V) (hk : FitI v.keys) (hi : FitI v.items) : FitV v := by
  intro H id l d T hc hl0 hl1 hd0 hd1 hv
  have q1 := cnt_keys v
  have q2 := cnt_items v
  have ha : idsL [.ptr id 0, v.av, .int .i64 d] = [id] := by simp [idsL, AV.ids, ids_av]
  have hR : reachL H [.ptr id 0, v.av, .int .i64 d] = [id] := by
    unfold reachL
    rw [ha]
    simp [reach, hc, AObj.ids, idsL, AV.ids]
  have hcl : (closed H [id] && (idsL [.ptr id 0, v.av, .int .i64 d]).all [id].contains) = true := by
    rw [ha]
    simp [closed, hc, AObj.ids, idsL, AV.ids]
  have key := cwpo (f := 131) (fn := Tryz.f131) (P := fun w H1 => w = .bool (fitV v d l).1 /\ H1[id]? = some (.cells [.int .i64 (fitV v d l).2] T)) (args := [.ptr id 0, v.av, .int .i64 d]) (H := H) rfl (by kernel_rfl) rfl rfl rfl rfl (by simp) hR hcl ?_
  . obtain ⟨w, H1, H', k1, ⟨k2, k3⟩, k6, k7, k8, k9⟩ := key
    subst k2
    exact ⟨H', k1, by rw [k8 id (by simp), k3], by omega, fun j hj hn => k9 j hj (by simp [hn])⟩
  . intro M hM hR
    have m1 : M[id]? = some (.cells [.int .i64 l] T) := by rw [hR id (by simp), hc]
    have n1 := app_get m1
    have n2 := app_set m1
    have b1 := lt_of_get m1
    have w1 := wrapI (i := l - 1) (by omega) (by omega)
    have x0 : ∀ L, (M.set id (.cells [.int .i64 (l - 1)] T) ++ L)[M.length]? = L[0]? := fun L => by simpa using hget (M.set id (.cells [.int .i64 (l - 1)] T)) L 0
    have x1 : ∀ L, (M.set id (.cells [.int .i64 (l - 1)] T) ++ L)[M.length + 1]? = L[1]? := fun L => by simpa using hget (M.set id (.cells [.int .i64 (l - 1)] T)) L 1
    have x2 : ∀ L, (M.set id (.cells [.int .i64 (l - 1)] T) ++ L)[M.length + 2]? = L[2]? := fun L => by simpa using hget (M.set id (.cells [.int .i64 (l - 1)] T)) L 2
    have x3 : ∀ L, (M.set id (.cells [.int .i64 (l - 1)] T) ++ L)[id]? = some (.cells [.int .i64 (l - 1)] T) := fun L => app_get (by simp [b1]) L
    have e0 := fitV_def v d l
    simp [V.av_eq, n1, n2, w1, x2, -List.length_set]
    by_cases hd : d < 1
    . rw [if_pos (Or.inl hd)] at e0
      simp [hd, e0, x3]
      omega
    . by_cases hl : l - 1 < 0
      . rw [if_pos (Or.inr hl)] at e0
        simp [hd, hl, e0, x3]
        omega
      . rw [if_neg (by omega)] at e0
        simp [hd, hl, x3]
        generalize hM3 : M.set id (.cells [.int .i64 (l - 1)] T) ++ [.cells [.ptr id 0] 143, .cells [.int .i64 v.kind, .int .i64 v.num, .str v.s, .list (avs v.keys) none, .list (avs v.items) none] 24, .cells [.int .i64 d] 3] = M3
        have y0 : M3[M.length]? = some (.cells [.ptr id 0] 143) := by rw [<- hM3, x0]; rfl
        have y1 : M3[M.length + 1]? = some (.cells [.int .i64 v.kind, .int .i64 v.num, .str v.s, .list (avs v.keys) none, .list (avs v.items) none] 24) := by rw [<- hM3, x1]; rfl
        have y2 : M3[M.length + 2]? = some (.cells [.int .i64 d] 3) := by rw [<- hM3, x2]; rfl
        have y3 : M3[id]? = some (.cells [.int .i64 (l - 1)] T) := by rw [<- hM3, x3]
        have c3 : Cnt id M.length (M.length + 2) (l - 1) d T 143 3 M3 := ⟨y3, y0, y2⟩
        have z1 : M.length ≠ id := by omega
        have z2 : M.length + 2 ≠ id := by omega
        have z3 : M.length + 1 ≠ id := by omega
        obtain ⟨H4, s1, s2, s3⟩ := fitA_of _ hk M3 id M.length (M.length + 2) (l - 1) d T 143 3 c3 z1 z2 (by omega) (by omega) (by omega) (by omega) hd1 (by omega)
        have c4 := c3.keep s3 z1 z2 s2
        have y4 := s3.at y1 z3
        have r1 := fitL_rng v.keys (d - 1) (l - 1) (by omega)
        have u1 := lt_of_get y2
        have u2 := s3.len
        simp [s1]
        cases hf : (fitL v.keys (d - 1) (l - 1)).1
        . rw [hf] at e0
          simp only [Bool.false_eq_true, if_false] at e0
          simp [e0, hf, s2]
          omega
        . rw [hf] at e0
          simp only [if_true] at e0
          obtain ⟨H5, t1, t2, t3⟩ := fitA_of _ hi H4 id M.length (M.length + 2) _ d T 143 3 c4 z1 z2 (by omega) (r1.2.2 hf) (by omega) (by omega) hd1 (by omega)
          have u3 := t3.len
          simp [y4, t1, e0, t2]
          omega
theorem fit1_all (v : V) : FitV v := V.ind (P := FitV) (fun v h1 h2 => fit1_of v (fitI_of _ h1) (fitI_of _ h2)) v
noncomputable def fs145 : Array Field := match CC.P.underlying 145 with | some (.struct fs) => fs | _ => #[]
theorem und145 : CC.P.underlying 145 = some (.struct fs145) := by kernel_rfl
theorem fs145_all : fs145.toList.all (fun f => (CC.P.info? f.type).isSome) = true := by kernel_rfl
theorem fs145_0 : fs145[0]? = some (fld 145 0) := by kernel_rfl
theorem c72 (v : V) (H : Heap) (h : v.cnt ≤ 1000000000) : Call CC 72 [v.av] H = some (.ok (.bool (v.small 300 8)), H) := by
  refine cwp (fn := Tryz.f72) rfl (by kernel_rfl) rfl rfl rfl rfl (by simp) rfl ?_ H
  obtain ⟨H5, t1, t2, t3⟩ := fit1_all v [.cells [.int .i64 v.kind, .int .i64 v.num, .str v.s, .list (avs v.keys) none, .list (avs v.items) none] 24, .cells [.int .i64 300] 145] 1 300 8 145 rfl (by omega) (by omega) (by omega) (by omega) h
  have e := fit_small v 8 300
  rw [show ((8 : Nat) : Int) = 8 from rfl, show ((300 : Nat) : Int) = 300 from rfl] at e
  rw [V.av_eq, e] at t1
  have ha := fs145_all
  rw [List.all_eq_true] at ha
  have ha2 : ∀ (i : Nat) (x : i < fs145.size), (CC.P.info? fs145[i].type).isSome = true := fun i x => ha _ (by simp)
  simp [V.av_eq, und145, fs145_0, t1, ha2]
end Go.Tv
namespace Go.Tv
open Go.Proofs
theorem und101 : CC.P.underlying 101 = some (.slice 5) := by kernel_rfl
theorem und5 : CC.P.underlying 5 = some (.int .u8) := by kernel_rfl
theorem el101 : elemT CC 101 = some 5 := by kernel_rfl
theorem sz5 : szOf CC 5 = some 1 := by kernel_rfl
theorem ag5 : aggT CC 5 = some false := by kernel_rfl
attribute [simp] und101 und5 el101 sz5 ag5 aconv
theorem ob_len (s : List UInt8) : (ofBytes s).length = s.length := by simp [ofBytes]
theorem ob_tree (s : List UInt8) : treeL (ofBytes s) = true := by induction s with | nil => rfl | cons b r ih => simpa [ofBytes, treeL, AV.tree] using ih
theorem ob_erase (s : List UInt8) : eraseL (ofBytes s) = ofBytes s := by induction s with | nil => rfl | cons b r ih => simpa [ofBytes, eraseL, AV.erase] using ih
theorem ob_cells (s : List UInt8) : (ofBytes s).all (fun v => decide (v.cells.length = 1)) = true := by simp [ofBytes]
theorem ob_at? (s : List UInt8) (i : Nat) : (ofBytes s)[i]? = s[i]?.map (fun b => .int .u8 b.toNat) := by simp [ofBytes]
theorem ob_at (s : List UInt8) (i : Nat) (h : i < (ofBytes s).length) : (ofBytes s)[i] = .int .u8 ((s[i]'(by rwa [ob_len] at h)).toNat) := by simp [ofBytes]
attribute [simp] ob_len ob_tree ob_erase ob_cells ob_at? ob_at
theorem c204 (c : Int) (H : Heap) : Call CC 204 [.int .u8 c] H = some (.ok (.bool (letterB c)), H) := by
  refine cwp (fn := Tryz.f204) rfl (by kernel_rfl) rfl rfl rfl rfl rfl rfl ?_ H
  unfold letterB
  simp
  cases h1 : decide (97 ≤ c) <;> cases h2 : decide (c ≤ 122) <;> cases h3 : decide (65 ≤ c) <;> simp [h2, h3]
theorem c170 (c : Int) (H : Heap) : Call CC 170 [.int .u8 c] H = some (.ok (.bool (letterB c)), H) := by
  refine cwp (fn := Tryz.f170) rfl (by kernel_rfl) rfl rfl rfl rfl rfl rfl ?_ H
  unfold letterB
  simp
  cases h1 : decide (97 ≤ c) <;> cases h2 : decide (c ≤ 122) <;> cases h3 : decide (65 ≤ c) <;> simp [h2, h3]
theorem c258 (c : Int) (H : Heap) : Call CC 258 [.int .u8 c] H = some (.ok (.bool (digitB c)), H) := by
  refine cwp (fn := Tryz.f258) rfl (by kernel_rfl) rfl rfl rfl rfl rfl rfl ?_ H
  unfold digitB
  simp
  cases h1 : decide (48 ≤ c) <;> simp
theorem c171 (c : Int) (H : Heap) : Call CC 171 [.int .u8 c] H = some (.ok (.bool (digitB c)), H) := by
  refine cwp (fn := Tryz.f171) rfl (by kernel_rfl) rfl rfl rfl rfl rfl rfl ?_ H
  unfold digitB
  simp
  cases h1 : decide (48 ≤ c) <;> simp
theorem c203 (c : Int) (H : Heap) : Call CC 203 [.int .u8 c] H = some (.ok (.bool (partB c)), H) := by
  refine cwp (fn := Tryz.f203) rfl (by kernel_rfl) rfl rfl rfl rfl rfl rfl ?_ H
  unfold partB
  simp [c204]
  cases h1 : letterB c <;> cases h2 : digitB c <;> simp [c258, h2]
theorem c202 (c : Int) (H : Heap) : Call CC 202 [.int .u8 c] H = some (.ok (.bool (!partB c)), H) := by
  refine cwp (fn := Tryz.f202) rfl (by kernel_rfl) rfl rfl rfl rfl rfl rfl ?_ H
  simp [c203]
def shownC (c : Int) : Bool := decide (32 ≤ c) && decide (c ≤ 126)
theorem c201 (c : Int) (H : Heap) : Call CC 201 [.int .u8 c] H = some (.ok (.bool (!shownC c)), H) := by
  refine cwp (fn := Tryz.f201) rfl (by kernel_rfl) rfl rfl rfl rfl rfl rfl ?_ H
  unfold shownC
  simp
  cases h1 : decide (c < 32)
  . have : 32 ≤ c := by simp at h1; omega
    simp [this]
    by_cases h2 : c ≤ 126
    . simp [h2]; try omega
    . simp [h2]; try omega
  . have : ¬ 32 ≤ c := by simp at h1; omega
    simp [this]
def fstI (p : Int -> Bool) : List UInt8 -> Int -> Int
  | [], _ => -1
  | b :: r, i => if p (u8i b) then i else fstI p r (i + 1)
theorem fstI_drop (p : Int -> Bool) (s : List UInt8) (i : Nat) (h : i < s.length) (k : Int) : fstI p (s.drop i) k = if p (u8i s[i]) then k else fstI p (s.drop (i + 1)) (k + 1) := by
  rw [List.drop_eq_getElem_cons h, fstI]
theorem fstI_any (p : Int -> Bool) : ∀ (s : List UInt8) (i : Int), 0 ≤ i -> decide (0 ≤ fstI p s i) = s.any fun b => p (u8i b)
  | [], i, h => by simp [fstI]
  | b :: r, i, h => by
    have := fstI_any p r (i + 1) (by omega)
    by_cases hp : p (u8i b) = true
    . have e : fstI p (b :: r) i = i := by rw [fstI, if_pos hp]
      rw [e, List.any_cons, hp]; simpa using h
    . have e : fstI p (b :: r) i = fstI p r (i + 1) := by rw [fstI, if_neg hp]
      rw [e, List.any_cons, this]; simp [hp]
def IIdx (s : List UInt8) (g : Nat) (p : Int -> Bool) (i : Nat) (t : List AV) (_H : Heap) : Prop := i ≤ s.length /\ fstI p s 0 = fstI p (s.drop i) i /\ Fit [some (.list (ofBytes s) none), some (.fn (.func g) [] []), none, none, some (.int .i64 0), none, some (.list (ofBytes s) none), some (.int .i64 s.length), some (.int .i64 i), none, none, none, none, none, none, none, none, none, none] t
theorem c257 (g : Nat) (hg : extF g = none /\ g < 10000) (p : Int -> Bool) (hp : ∀ c H, Call CC g [.int .u8 c] H = some (.ok (.bool (p c)), H)) (s : List UInt8) (H : Heap) (hs : s.length ≤ 9223372036854775807) :
    Call CC 257 [.list (ofBytes s) none, .fn (.func g) [] []] H = some (.ok (.int .i64 (fstI p s 0)), H) := by
  have hx : CC.ext g = none := hg.1
  have hal : g < 10000 := hg.2
  refine cwp (fn := Tryz.f257) rfl (by kernel_rfl) rfl rfl rfl rfl (by simp) rfl ?_ H
  simp [-cc_ext, -extF]
  refine st_iter (IIdx s g p) s.length ?_ ?_
  . simp [IIdx]
  . rintro i t H ⟨hi, hd, ht⟩
    obtain ⟨d, rfl⟩ := ht.elim
    clear ht
    refine ⟨hi, ?_⟩
    simp [-cc_ext, -extF]
    cases hb : decide (i < s.length)
    . have hb' : i = s.length := by have : ¬ i < s.length := by simpa using hb
                                    omega
      simp [hd, hb', fstI]
    . have hb' : i < s.length := by simpa using hb
      have e1 := fstI_drop p s i hb' i
      have w1 := wrapI (i := i + 1) (by omega) (by omega)
      simp [-cc_ext, -extF, hb', hp, hx, hal]
      cases he : p (s[i].toNat : Int)
      . have he' : ¬ p (u8i s[i]) = true := by rw [show p (u8i s[i]) = false from he]; simp
        rw [if_neg he'] at e1
        simp [w1, IIdx, hd, e1]
        omega
      . have he' : p (u8i s[i]) = true := he
        rw [if_pos he'] at e1
        simp [hd, e1]
theorem c200 (g : Nat) (hg : extF g = none /\ g < 10000) (p : Int -> Bool) (hp : ∀ c H, Call CC g [.int .u8 c] H = some (.ok (.bool (p c)), H)) (s : List UInt8) (H : Heap) (hs : s.length ≤ 9223372036854775807) :
    Call CC 200 [.list (ofBytes s) none, .fn (.func g) [] []] H = some (.ok (.bool (s.any fun b => p (u8i b))), H) := by
  have g1 := fun H => c257 g hg p hp s H hs
  have e := fstI_any p s 0 (by omega)
  refine cwp (fn := Tryz.f200) rfl (by kernel_rfl) rfl rfl rfl rfl (by simp) rfl ?_ H
  rw [<- e]
  simp [g1]
theorem any_not (p : Int -> Bool) (s : List UInt8) : (s.any fun b => !p (u8i b)) = !(s.all fun b => p (u8i b)) := by
  induction s with
  | nil => rfl
  | cons b r ih => simp only [List.any_cons, List.all_cons, ih, Bool.not_and]
theorem c132 (s : List UInt8) (H : Heap) (hs : s.length ≤ 9223372036854775807) : Call CC 132 [.str s] H = some (.ok (.bool (shownB s)), H) := by
  have g1 := fun H => c200 201 ⟨rfl, by decide⟩ (fun c => !shownC c) c201 s H hs
  refine cwp (fn := Tryz.f132) rfl (by kernel_rfl) rfl rfl rfl rfl (by simp) rfl ?_ H
  have e := any_not shownC s
  have e2 : shownB s = s.all fun b => shownC (u8i b) := rfl
  rw [e] at g1
  simp [-List.any_eq_true, -List.all_eq_true, g1, e2]
def IShown (s : List UInt8) (most : Int) (i : Nat) (t : List AV) (_H : Heap) : Prop := i ≤ s.length /\ shownB s = shownB (s.drop i) /\ Fit [some (.str s), some (.int .i64 most), none, none, some (.bool false), some (.int .i64 i), none, none, none, none, none, none, none, none, none, none, none, none, none, none, none, none, none, none, none, none] t
theorem shown_drop (s : List UInt8) (i : Nat) (h : i < s.length) : shownB (s.drop i) = (shownC (u8i s[i]) && shownB (s.drop (i + 1))) := by
  rw [List.drop_eq_getElem_cons h]; rfl
theorem c207 (s : List UInt8) (most : Int) (H : Heap) (hs : s.length ≤ 9223372036854775807) : Call CC 207 [.str s, .int .i64 most] H = some (.ok (.bool (decide ((s.length : Int) ≤ most) && shownB s)), H) := by
  refine cwp (fn := Tryz.f207) rfl (by kernel_rfl) rfl rfl rfl rfl (by simp) rfl ?_ H
  simp
  cases hm : decide (most < (s.length : Int))
  . have hm' : (s.length : Int) ≤ most := by simp at hm; omega
    simp [hm']
    refine st_iter (IShown s most) s.length ?_ ?_
    . simp [IShown]
    . rintro i t H ⟨hi, hd, ht⟩
      obtain ⟨d, rfl⟩ := ht.elim
      clear ht
      refine ⟨hi, ?_⟩
      simp
      cases hb : decide (i < s.length)
      . have hb' : i = s.length := by have : ¬ i < s.length := by simpa using hb
                                      omega
        have hd' : shownB s = true := by rw [hd, hb', List.drop_length]; rfl
        simp [hd']
      . have hb' : i < s.length := by simpa using hb
        have e1 := shown_drop s i hb'
        have w1 := wrapI (i := i + 1) (by omega) (by omega)
        simp only [u8i] at e1
        simp [hb']
        cases h1 : decide ((s[i].toNat : Int) < 32)
        . have h1' : (32 : Int) ≤ s[i].toNat := by simp at h1; omega
          simp [hb']
          cases h2 : decide ((126 : Int) < s[i].toNat)
          . have h2' : (s[i].toNat : Int) ≤ 126 := by simp at h2; omega
            have e2 : shownC (s[i].toNat : Int) = true := by simp [shownC]; omega
            rw [e2] at e1
            simp [w1, IShown, hd, e1]
            omega
          . have h2' : ¬ (s[i].toNat : Int) ≤ 126 := by simp at h2; omega
            have e2 : shownC (s[i].toNat : Int) = false := by simp [shownC]; omega
            rw [e2] at e1
            simp [hd, e1]
        . have h1' : ¬ (32 : Int) ≤ s[i].toNat := by simp at h1; omega
          have e2 : shownC (s[i].toNat : Int) = false := by simp [shownC]; omega
          rw [e2] at e1
          simp [hd, e1]
  . have hm' : ¬ (s.length : Int) ≤ most := by simp at hm; omega
    simp [hm']
end Go.Tv
namespace Go.Tv
open Go.Proofs
theorem und105 : CC.P.underlying 105 = some (.slice 9) := by kernel_rfl
theorem el105 : elemT CC 105 = some 9 := by kernel_rfl
attribute [simp] und105 el105
def sl : List (List UInt8) -> List AV
  | [] => []
  | s :: r => .str s :: sl r
theorem sl_map : ∀ l, sl l = l.map .str
  | [] => rfl
  | s :: r => by simp [sl, sl_map r]
theorem sl_len (l : List (List UInt8)) : (sl l).length = l.length := by simp [sl_map]
theorem sl_erase : ∀ l, eraseL (sl l) = sl l
  | [] => rfl
  | n :: r => by simp [sl, sl_erase r]
theorem sl_tree : ∀ l, treeL (sl l) = true
  | [] => rfl
  | n :: r => by simp [sl, sl_tree r]
theorem sl_cells (l : List (List UInt8)) : (sl l).all (fun v => decide (v.cells.length = 1)) = true := by simp [sl_map]
theorem sl_at? (l : List (List UInt8)) (i : Nat) : (sl l)[i]? = l[i]?.map .str := by simp [sl_map]
theorem sl_at (l : List (List UInt8)) (i : Nat) (h : i < (sl l).length) : (sl l)[i] = .str (l[i]'(by rwa [sl_len] at h)) := by simp [sl_map]
attribute [simp] sl_len sl_erase sl_tree sl_cells sl_at? sl_at
theorem hp_ok (z : Bool) : HpOk (CZ z) := by
  intro f h hf args H v H' hv
  have hf' : hprF z f = some h := hf
  unfold hprF at hf'
  split at hf'
  . cases hf'
  split at hf'
  . injection hf' with hf'; subst hf'; exact replF_frame hv
  split at hf'
  . injection hf' with hf'; subst hf'; exact sortG_frame (sortH_inv hv).2
  split at hf'
  . injection hf' with hf'; subst hf'; exact sortG_frame (sortH_inv hv).2
  . cases hf'
theorem acall_nil {n : Nat} {f : FuncId} {r : ARet} {H0 : Heap} (hm : makesF f = false) (h : acall CC n f [] [] = some (r, H0)) (H : Heap) : Call CC f [] H = some (r, H) := by
  exact Call_of (((acall_pure (C := CC) (hp_ok false) n).pure f [] [] r H0 rfl hm h).2 H)
theorem c169 (H : Heap) : Call CC 169 [] H = some (.ok (.list (sl wordsL) none), H) := acall_nil (n := 3) (H0 := []) rfl (by kernel_rfl) H
def IHas (l : List (List UInt8)) (s : List UInt8) (i : Nat) (t : List AV) (_H : Heap) : Prop := i ≤ l.length /\ l.contains s = (l.drop i).contains s /\ Fit [some (.list (sl l) none), some (.str s), none, none, some (.bool false), some (.int .i64 i), none, none, none, none, none, none, none, none, none, none, none, none] t
theorem has_drop (l : List (List UInt8)) (s : List UInt8) (i : Nat) (h : i < l.length) : (l.drop i).contains s = ((l[i] == s) || (l.drop (i + 1)).contains s) := by
  rw [List.drop_eq_getElem_cons h, List.contains_cons]
  congr 1
  rw [Bool.eq_iff_iff, beq_iff_eq, beq_iff_eq]; exact eq_comm
theorem c119 (l : List (List UInt8)) (s : List UInt8) (H : Heap) (hl : l.length ≤ 1000000000) : Call CC 119 [.list (sl l) none, .str s] H = some (.ok (.bool (l.contains s)), H) := by
  refine cwp (fn := Tryz.f119) rfl (by kernel_rfl) rfl rfl rfl rfl (by simp) rfl ?_ H
  simp [-List.contains_eq_mem]
  refine st_iter (IHas l s) l.length ?_ ?_
  . simp [IHas]
  . rintro i t H ⟨hi, hd, ht⟩
    obtain ⟨d, rfl⟩ := ht.elim
    clear ht
    refine ⟨hi, ?_⟩
    simp [-List.contains_eq_mem]
    cases hb : decide (i < l.length)
    . have hb' : i = l.length := by have : ¬ i < l.length := by simpa using hb
                                    omega
      have hd' : l.contains s = false := by rw [hd, hb', List.drop_length]; rfl
      simp [-List.contains_eq_mem, hd']
    . have hb' : i < l.length := by simpa using hb
      have e1 := has_drop l s i hb'
      have w1 := wrapI (i := i + 1) (by omega) (by omega)
      simp [-List.contains_eq_mem, hb']
      cases he : l[i] == s
      . rw [he] at e1
        simp [-List.contains_eq_mem, w1, IHas, hd, e1]
        omega
      . rw [he] at e1
        simp [-List.contains_eq_mem, hd, e1]
def INam (s : List UInt8) (i : Nat) (t : List AV) (_H : Heap) : Prop := i ≤ s.length /\ (s.take i).all (fun b => partB (u8i b)) = true /\ Fit [some (.str s), none, some (.bool false), some (.bool ((s.take i).any fun b => letterB (u8i b))), some (.int .i64 i), none, none, none, none, none, none, none, none, none, none, none, none, none, none, none, none, none, none, none, none, none, none, none, none, none, none, none, none, none, none, none, none, none, none, none, none, none, none, none, none, none] t
theorem all_take (p : UInt8 -> Bool) (s : List UInt8) (i : Nat) (h : i < s.length) : (s.take (i + 1)).all p = ((s.take i).all p && p s[i]) := by
  rw [take_succ s i h, List.all_append]; simp
theorem any_take (p : UInt8 -> Bool) (s : List UInt8) (i : Nat) (h : i < s.length) : (s.take (i + 1)).any p = ((s.take i).any p || p s[i]) := by
  rw [take_succ s i h, List.any_append]; simp
theorem all_not {p : UInt8 -> Bool} {s : List UInt8} {i : Nat} (h : i < s.length) (hp : p s[i] = false) : s.all p = false := by
  rw [List.all_eq_false]; exact ⟨s[i], List.getElem_mem h, by simp [hp]⟩
theorem c99 (s : List UInt8) (H : Heap) (hs : s.length ≤ 9223372036854775807) : Call CC 99 [.str s] H = some (.ok (.bool (nameB s)), H) := by
  have g1 := c169
  have g2 := fun H => c119 wordsL s H (by decide)
  refine cwp (fn := Tryz.f99) rfl (by kernel_rfl) rfl rfl rfl rfl (by simp) rfl ?_ H
  by_cases h1 : 1 ≤ s.length
  . have h1' : (1 : Int) ≤ s.length := by omega
    by_cases h2 : s.length ≤ 24
    . have h2' : (s.length : Int) ≤ 24 := by omega
      simp [c29, -List.contains_eq_mem, h1', h2', g1, g2]
      cases hw : wordsL.contains s
      . simp [-List.contains_eq_mem]
        refine st_iter (INam s) s.length ?_ ?_
        . simp [INam]
        . rintro i t H ⟨hi, hd, ht⟩
          obtain ⟨d, rfl⟩ := ht.elim
          clear ht
          refine ⟨hi, ?_⟩
          have e3 : nameB s = ((s.all fun b => partB (u8i b)) && s.any fun b => letterB (u8i b)) := by unfold nameB; rw [hw]; simp [h1, h2]
          simp [-List.any_eq_true, -List.all_eq_true]
          cases hb : decide (i < s.length)
          . have hb' : i = s.length := by have : ¬ i < s.length := by simpa using hb
                                          omega
            rw [hb', List.take_length] at hd
            simp [-List.any_eq_true, -List.all_eq_true, hb', e3, hd]
          . have hb' : i < s.length := by simpa using hb
            have a1 := all_take (fun b => partB (u8i b)) s i hb'
            have a2 := any_take (fun b => letterB (u8i b)) s i hb'
            have a3 := fun h => all_not (p := fun b => partB (u8i b)) (s := s) hb' h
            have w1 := wrapI (i := i + 1) (by omega) (by omega)
            rw [hd, Bool.true_and] at a1
            replace a1 : ((s.take (i + 1)).all fun b => partB (u8i b)) = partB (s[i].toNat : Int) := a1
            replace a2 : ((s.take (i + 1)).any fun b => letterB (u8i b)) = (((s.take i).any fun b => letterB (u8i b)) || letterB (s[i].toNat : Int)) := a2
            replace a3 : partB (s[i].toNat : Int) = false -> (s.all fun b => partB (u8i b)) = false := a3
            simp [-List.any_eq_true, -List.all_eq_true, hb', c170]
            cases l1 : letterB (s[i].toNat : Int)
            . simp [-List.any_eq_true, -List.all_eq_true, hb', c171]
              rw [l1, Bool.or_false] at a2
              cases l2 : digitB (s[i].toNat : Int)
              . simp [-List.any_eq_true, -List.all_eq_true, hb']
                cases l3 : decide ((s[i].toNat : Int) = 95)
                . have a4 := a3 (by unfold partB; rw [l1, l2, l3]; rfl)
                  simp [-List.any_eq_true, -List.all_eq_true, e3, a4]
                . have a5 : partB (s[i].toNat : Int) = true := by unfold partB; rw [l1, l2, l3]; rfl
                  rw [a5] at a1
                  cases la : ((s.take i).any fun b => letterB (u8i b)) <;> rw [la] at a2
                  . simp [-List.any_eq_true, -List.all_eq_true, hb', c170, l1, w1, INam, a1, a2]
                    omega
                  . simp [-List.any_eq_true, -List.all_eq_true, w1, INam, a1, a2]
                    omega
              . have a5 : partB (s[i].toNat : Int) = true := by unfold partB; rw [l1, l2]; rfl
                rw [a5] at a1
                cases la : ((s.take i).any fun b => letterB (u8i b)) <;> rw [la] at a2
                . simp [-List.any_eq_true, -List.all_eq_true, hb', c170, l1, w1, INam, a1, a2]
                  omega
                . simp [-List.any_eq_true, -List.all_eq_true, w1, INam, a1, a2]
                  omega
            . have a5 : partB (s[i].toNat : Int) = true := by unfold partB; rw [l1]; rfl
              rw [a5] at a1
              rw [l1, Bool.or_true] at a2
              cases la : ((s.take i).any fun b => letterB (u8i b))
              . simp [-List.any_eq_true, -List.all_eq_true, hb', c170, l1, w1, INam, a1, a2]
                omega
              . simp [-List.any_eq_true, -List.all_eq_true, w1, INam, a1, a2]
                omega
      . have e3 : nameB s = false := by unfold nameB; rw [hw]; simp
        simp [-List.contains_eq_mem, e3]
    . have h2' : ¬ (s.length : Int) ≤ 24 := by omega
      have e3 : nameB s = false := by unfold nameB; simp [h2]
      simp [c29, h2', e3]
  . have h1' : ¬ (1 : Int) ≤ s.length := by omega
    have e3 : nameB s = false := by unfold nameB; simp [h1]
    simp [c29, h1', e3]
end Go.Tv
namespace Go.Tv
open Go.Proofs
theorem c205 (a b : List UInt8) (H : Heap) (h : a.length < 4294967281) : Call CC 205 [.str a, .str b] H = some (.ok (.bool (Lib.contains a b)), H) :=
  call_prim (g := containsF) rfl (by simp [containsF, h]) rfl
theorem words_ok : wordsL.all (fun w => w.all fun c => decide (c ≠ 32)) = true := by decide +kernel
theorem len_res : (32 :: bodyW wordsL).length < 4294967281 := by decide +kernel
theorem part_ne {s : List UInt8} (h : (s.all fun b => partB (u8i b)) = true) : ∀ c ∈ s, c ≠ 32 := by
  intro c hc e
  rw [List.all_eq_true] at h
  have := h c hc
  subst e
  exact absurd this (by decide)
theorem res_has {s : List UInt8} (h : (s.all fun b => partB (u8i b)) = true) : Lib.contains (32 :: bodyW wordsL) (32 :: (s ++ [32])) = wordsL.contains s := by
  refine words_in wordsL s (fun w hw c hc => ?_) (part_ne h)
  have := List.all_eq_true.1 words_ok w hw
  simpa using List.all_eq_true.1 this c hc
set_option maxRecDepth 100000 in
theorem c133 (s : List UInt8) (H : Heap) (hs : s.length ≤ 9223372036854775807) : Call CC 133 [.str s] H = some (.ok (.bool (nameB s)), H) := by
  have g1 := fun H => c200 202 ⟨rfl, by decide⟩ (fun c => !partB c) c202 s H (by omega)
  rw [any_not] at g1
  have g2 := fun H => c200 204 ⟨rfl, by decide⟩ letterB c204 s H (by omega)
  have g3 := fun x H => c205 (32 :: bodyW wordsL) x H len_res
  refine cwp (fn := Tryz.f133) rfl (by kernel_rfl) rfl rfl rfl rfl (by simp) rfl ?_ H
  simp [-os_str, -List.any_eq_true, -List.all_eq_true, g1]
  cases h1 : (s.all fun b => partB (u8i b))
  . have e : nameB s = false := by unfold nameB; rw [h1]; simp
    simp [-os_str, -List.any_eq_true, -List.all_eq_true, e]
  . simp [-os_str, -List.any_eq_true, -List.all_eq_true, g2]
    cases h2 : (s.any fun b => letterB (u8i b))
    . have e : nameB s = false := by unfold nameB; rw [h2]; simp
      simp [-os_str, -List.any_eq_true, -List.all_eq_true, e]
    . have hp : 1 ≤ s.length := by
        cases s with
        | nil => simp at h2
        | cons a r => simp
      simp [-os_str, -List.any_eq_true, -List.all_eq_true]
      cases h3 : decide ((s.length : Int) ≤ 24)
      . have h3' : ¬ s.length ≤ 24 := by intro h; simp at h3; omega
        have e : nameB s = false := by unfold nameB; simp [h3']
        simp [-os_str, -List.any_eq_true, -List.all_eq_true, e]
      . have h3' : s.length ≤ 24 := by simp at h3; omega
        have e : nameB s = !Lib.contains (32 :: bodyW wordsL) (32 :: (s ++ [32])) := by
          unfold nameB; rw [h1, h2, res_has h1]; simp [h3', hp]
        have o1 : ofScalar (Value.string { data := #[32] }) = some (.str [32]) := rfl
        have l1 : 1 + s.length ≤ 4611686018427387904 := by omega
        have l2 : s.length + 1 + 1 ≤ 4611686018427387904 := by omega
        simp [-os_str, -List.any_eq_true, -List.all_eq_true, o1, l1, l2]
        rw [os_str' (l := 32 :: bodyW wordsL) (by kernel_rfl)]
        simp [-os_str, -List.any_eq_true, -List.all_eq_true, g3, e]
end Go.Tv
namespace Go.Tv
open Go.Proofs
theorem asc_drop (l : List V) (i : Nat) (h : i + 1 < l.length) : ascL (l.drop i) = (decide (cmpV l[i] l[i + 1] < 0) && ascL (l.drop (i + 1))) := by
  rw [List.drop_eq_getElem_cons (by omega), List.drop_eq_getElem_cons h, ascL]
theorem asc_end (l : List V) (i : Nat) (h : l.length ≤ i + 1) : ascL (l.drop i) = true := by
  by_cases h2 : i < l.length
  . rw [List.drop_eq_getElem_cons h2, List.drop_eq_nil_of_le h]; rfl
  . rw [List.drop_eq_nil_of_le (by omega)]; rfl
def IAsc (l : List V) (i : Nat) (t : List AV) (_H : Heap) : Prop := i ≤ l.length /\ ascL l = ascL (l.drop i) /\ Fit [some (.list (avs l) none), none, some (.bool false), some (.int .i64 (i + 1)), none, none, none, none, none, none, none, none, none, none, none, none, none, none, none, none, none] t
theorem c198 (l : List V) (H : Heap) (hc : cnts l ≤ 1000000000) : Call CC 198 [.list (avs l) none] H = some (.ok (.bool (ascL l)), H) := by
  have q6 := len_cnts l
  refine cwp (fn := Tryz.f198) rfl (by kernel_rfl) rfl rfl rfl rfl (by simp) rfl ?_ H
  simp
  refine st_iter (IAsc l) l.length ?_ ?_
  . simp [IAsc]
  . rintro i t H ⟨hi, hd, ht⟩
    obtain ⟨d, rfl⟩ := ht.elim
    clear ht
    refine ⟨hi, ?_⟩
    simp
    cases hb : decide ((i : Int) + 1 < l.length)
    . have hb' : l.length ≤ i + 1 := by simp at hb; omega
      have hd' : ascL l = true := by rw [hd, asc_end l i hb']
      simp [hd']
    . have hb' : i + 1 < l.length := by simp at hb; omega
      have e1 := asc_drop l i hb'
      have q1 := cnt_mem (List.getElem_mem (show i < l.length by omega))
      have g1 := fun H => c23 l[i] l[i + 1] H (by omega)
      rw [V.av_eq, V.av_eq] at g1
      have w1 := wrapI (i := (i : Int) + 1 - 1) (by omega) (by omega)
      rw [show (i : Int) + 1 - 1 = i by omega] at w1
      have w2 := wrapI (i := (i : Int) + 1 + 1) (by omega) (by omega)
      have x1 := idx_nat .i64 (i + 1) l.length
      rw [if_pos hb', show (((i + 1 : Nat)) : Int) = (i : Int) + 1 by omega] at x1
      have hb2 : i < l.length := by omega
      simp [hb', hb2, V.av_eq, g1, w1, x1]
      refine ⟨by kernel_rfl, ?_⟩
      cases he : decide (0 ≤ cmpV l[i] l[i + 1])
      . have he' : cmpV l[i] l[i + 1] < 0 := by simp at he; omega
        rw [decide_eq_true he'] at e1
        simp [w2, IAsc, hd, e1]
        omega
      . have he' : ¬ cmpV l[i] l[i + 1] < 0 := by simp at he; omega
        rw [decide_eq_false he'] at e1
        simp [hd, e1]
def IAsc2 (l : List V) (i : Nat) (t : List AV) (_H : Heap) : Prop := i ≤ l.length /\ ascL l = ascL (l.drop (i - 1)) /\ Fit [some (.list (avs l) none), none, some (.bool false), none, some (.list (avs l) none), some (.int .i64 l.length), some (.int .i64 i), none, none, none, none, none, none, none, none, none, none, none, none, none, none, none, none, none, none] t
theorem c134 (l : List V) (H : Heap) (hc : cnts l ≤ 1000000000) : Call CC 134 [.list (avs l) none] H = some (.ok (.bool (ascL l)), H) := by
  have q6 := len_cnts l
  refine cwp (fn := Tryz.f134) rfl (by kernel_rfl) rfl rfl rfl rfl (by simp) rfl ?_ H
  simp
  refine st_iter (IAsc2 l) l.length ?_ ?_
  . simp [IAsc2]
  . rintro i t H ⟨hi, hd, ht⟩
    obtain ⟨d, rfl⟩ := ht.elim
    clear ht
    refine ⟨hi, ?_⟩
    simp
    cases hb : decide (i < l.length)
    . have hb' : i = l.length := by have : ¬ i < l.length := by simpa using hb
                                    omega
      have hd' : ascL l = true := by rw [hd, asc_end l (i - 1) (by omega)]
      simp [hd']
    . have hb' : i < l.length := by simpa using hb
      have w2 := wrapI (i := (i : Int) + 1) (by omega) (by omega)
      by_cases hz : i = 0
      . have hz' : ¬ 0 < i := by omega
        simp [hz']
        refine ⟨by kernel_rfl, ?_⟩
        simp [w2, IAsc2]
        exact ⟨by omega, by simp [hz]⟩
      . have hz' : 0 < i := by omega
        have e1 := asc_drop l (i - 1) (by omega)
        have q1 := cnt_mem (List.getElem_mem (show i - 1 < l.length by omega))
        have ei : i - 1 + 1 = i := by omega
        simp only [ei] at e1
        have g1 := fun H => c83 l[i - 1] l[i] H (by omega)
        rw [V.av_eq, V.av_eq] at g1
        have w1 := wrapI (i := (i : Int) - 1) (by omega) (by omega)
        rw [show (i : Int) - 1 = ((i - 1 : Nat) : Int) by omega] at w1
        have hb2 : i - 1 < l.length := by omega
        have w1' : IntKind.i64.wrap ((i : Int) - 1) = ((i - 1 : Nat) : Int) := by rw [show (i : Int) - 1 = ((i - 1 : Nat) : Int) by omega]; exact w1
        simp [hz', hb', hb2, V.av_eq, g1, w1']
        refine ⟨by kernel_rfl, ?_⟩
        cases he : decide (0 ≤ cmpV l[i - 1] l[i])
        . have he' : cmpV l[i - 1] l[i] < 0 := by simp at he; omega
          rw [decide_eq_true he'] at e1
          simp [w2, IAsc2, hd, e1]
          omega
        . have he' : ¬ cmpV l[i - 1] l[i] < 0 := by simp at he; omega
          rw [decide_eq_false he'] at e1
          simp [hd, e1]
end Go.Tv
namespace Go.Tv
open Go.Proofs
set_option maxHeartbeats 4000000
section
variable {z a : Bool} {al : FuncId -> FuncId}
theorem sz175 : szOf (CX z a al) 175 = some 10 := by kernel_rfl
theorem ag175 : aggT (CX z a al) 175 = some true := by kernel_rfl
noncomputable def fld175 (j : Nat) : Field := (fieldOf (CX false false al0) 175 j).getD default
theorem fo175_0 : fieldOf (CX z a al) 175 0 = some (fld175 0) := by kernel_rfl
theorem fo175_1 : fieldOf (CX z a al) 175 1 = some (fld175 1) := by kernel_rfl
theorem ft175_0 : (fld175 0).type = 24 := by kernel_rfl
theorem ft175_1 : (fld175 1).type = 24 := by kernel_rfl
theorem fx175_0 : (fld175 0).offset = 0 := by kernel_rfl
theorem fx175_1 : (fld175 1).offset = 5 := by kernel_rfl
theorem zero175 : zeroOf (CX z a al) 175 = some (.agg [.int .i64 0, .int .i64 0, .str [], .empty, .empty, .int .i64 0, .int .i64 0, .str [], .empty, .empty]) := by kernel_rfl
theorem sz173 : szOf (CX z a al) 173 = some 1 := by kernel_rfl
theorem el173 : elemT (CX z a al) 173 = some 175 := by kernel_rfl
theorem int173 : isIntT (CX z a al) 173 = false := by kernel_rfl
theorem und173 : (CX z a al).P.underlying 173 = some (.slice 175) := by kernel_rfl
end
attribute [simp] sz175 ag175 fo175_0 fo175_1 ft175_0 ft175_1 fx175_0 fx175_1 zero175 sz173 el173 int173 und173
theorem p2_eq (p : V × V) : P2.cells p = [.int .i64 p.1.kind, .int .i64 p.1.num, .str p.1.s, .list (avs p.1.keys) none, .list (avs p.1.items) none, .int .i64 p.2.kind, .int .i64 p.2.num, .str p.2.s, .list (avs p.2.keys) none, .list (avs p.2.items) none] := by
  simp [P2.cells, V.av_eq]
theorem c177z {z : Bool} (p q : V × V) (H : Heap) (h1 : p.1.cnt ≤ 1000000000) (h2 : p.2.cnt ≤ 1000000000) : Call (CZ z) 177 [.agg (P2.cells p), .agg (P2.cells q)] H = some (.ok (.int .i64 (cmpP p q)), H) := by
  have g1 := fun H => c83z (z := z) p.1 q.1 H h1
  have g2 := fun H => c83z (z := z) p.2 q.2 H h2
  have g3 := fun H => c137z (z := z) [cmpV p.1 q.1, cmpV p.2 q.2] H (by simp)
  have e : cmpP p q = firstNZ [cmpV p.1 q.1, cmpV p.2 q.2] := by
    simp only [cmpP, firstNZ]; split <;> simp_all
  simp only [il] at g3
  rw [V.av_eq, V.av_eq] at g1 g2
  rw [e, p2_eq, p2_eq]
  refine cwp (fn := Tryz.f177) rfl (by kernel_rfl) rfl rfl rfl rfl (by simp) rfl ?_ H
  simp [g1, g2, g3]
  refine (?_ : drawE _ _ _ = true)
  kernel_rfl
end Go.Tv
