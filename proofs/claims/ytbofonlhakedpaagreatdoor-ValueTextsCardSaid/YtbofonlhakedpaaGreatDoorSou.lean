/-
  The evaluator is sound over this program; values that come in are trees; a call that answers true answers true in every world.
-/
import Derived.Test.YtbofonlhakedpaaGreatDoorRep
import Derived.Test.YtbofonlhakedpaaGreatDoorPla
import Derived.Test.YtbofonlhakedpaaGreatDoorTvd
import Derived.Test.YtbofonlhakedpaaGreatDoorCfg
import Derived.ProofKit
import Derived.Shelf.Vars
import Derived.Lib.LaidTab
namespace Go.Tv
open Go.Proofs
open Go.RowKit (Below)
theorem cc_ok : CfgOk CC := by
  refine cz_ok fun f h hf => ?_
  unfold hprF at hf
  split at hf
  . cases hf
  split at hf
  . rename_i e; subst e; injection hf with hf; subst hf
    exact ⟨⟨_, _, Tryz.func145, rfl⟩, fun args H v H' hv => repl_ok hv⟩
  split at hf
  . rename_i e; subst e; injection hf with hf; subst hf
    refine ⟨⟨_, _, Tryz.func173, rfl⟩, fun args H v H' hv => ?_⟩
    obtain ⟨rfl, hv1⟩ := sortH_inv hv
    obtain ⟨q1, q2⟩ := sortG_ok Tryz.sortV sortV_ok unV_dec hv1
    exact ⟨q1, fun E w vs hr _ hH => q2 E w vs hr hH⟩
  split at hf
  . rename_i e; subst e; injection hf with hf; subst hf
    refine ⟨⟨_, _, Tryz.func176, rfl⟩, fun args H v H' hv => ?_⟩
    obtain ⟨rfl, hv1⟩ := sortH_inv hv
    obtain ⟨q1, q2⟩ := sortG_ok Tryz.sortP sortP_ok unP_inv hv1
    exact ⟨q1, fun E w vs hr _ hH => q2 E w vs hr hH⟩
  . cases hf
theorem cc_calls (n : Nat) : CallOk CC (acall CC n) := acall_ok cc_ok n
end Go.Tv
namespace Go.Tv
open Go.Proofs
noncomputable def fs24 : Array Field := match Tryz.prog.underlying 24 with | some (.struct fs) => fs | _ => #[]
theorem und24 : Tryz.prog.underlying 24 = some (.struct fs24) := by kernel_rfl
theorem fs24_map : fs24.toList.map (fun f => (f.type, f.offset)) = [(3, 0), (3, 1), (9, 2), (22, 3), (22, 4)] := by kernel_rfl
theorem und22p : Tryz.prog.underlying 22 = some (.slice 24) := by kernel_rfl
theorem und3p : Tryz.prog.underlying 3 = some (.int .i64) := by kernel_rfl
theorem und9p : Tryz.prog.underlying 9 = some .string := by kernel_rfl
theorem und4p : Tryz.prog.underlying 4 = some .bool := by kernel_rfl
theorem cells3 : Tryz.prog.cellsOf 3 = 1 := by kernel_rfl
theorem cells9 : Tryz.prog.cellsOf 9 = 1 := by kernel_rfl
theorem cells22 : Tryz.prog.cellsOf 22 = 1 := by kernel_rfl
theorem cells24 : Tryz.prog.cellsOf 24 = 5 := by kernel_rfl
theorem five_of : ∀ {cs : List AV}, cs.length = 5 -> ∃ a b c d e, cs = [a, b, c, d, e]
  | [a, b, c, d, e], _ => ⟨a, b, c, d, e, rfl⟩
theorem maxLen_eq : maxLen = 9223372036854775807 := by unfold maxLen; omega
theorem avs_of : ∀ (els : List AV), (∀ x ∈ els, ∃ v : V, x = v.av /\ v.str) -> ∃ l : List V, els = avs l /\ strs' l
  | [], _ => ⟨[], rfl, trivial⟩
  | a :: r, h => by
    obtain ⟨v, hv, hs⟩ := h a (by simp)
    obtain ⟨l, hl, hs2⟩ := avs_of r fun x hx => h x (by simp [hx])
    exact ⟨v :: l, by simp [avs, hv, hl], hs, hs2⟩
set_option maxRecDepth 100000 in
theorem conf_V : ∀ n, (∀ v, Conf Tryz.prog n 24 v -> ∃ x : V, v = x.av /\ x.str) /\ (∀ v, Conf Tryz.prog n 22 v -> ∃ l : List V, v = .list (avs l) none /\ strs' l)
  | 0 => ⟨fun v h => h.elim, fun v h => h.elim⟩
  | n + 1 => by
    obtain ⟨ih1, ih2⟩ := conf_V n
    constructor
    . intro v h
      simp only [Conf, und24] at h
      obtain ⟨cs, rfl, hlen, hf⟩ := h
      rw [cells24] at hlen
      have hf' : ∀ p ∈ fs24.toList.map (fun f => (f.type, f.offset)), ∃ x, Conf Tryz.prog n p.1 x /\ x.cells = (cs.drop p.2).take (Tryz.prog.cellsOf p.1) := by
        intro p hp
        obtain ⟨f, h1, rfl⟩ := List.mem_map.1 hp
        exact hf f h1
      rw [fs24_map] at hf'
      obtain ⟨c0, c1, c2, c3, c4, rfl⟩ := five_of hlen
      cases n with
      | zero => obtain ⟨x, hx, _⟩ := hf' (3, 0) (by simp); exact hx.elim
      | succ n =>
        obtain ⟨x0, h0, e0⟩ := hf' (3, 0) (by simp)
        obtain ⟨x1, h1, e1⟩ := hf' (3, 1) (by simp)
        obtain ⟨x2, h2, e2⟩ := hf' (9, 2) (by simp)
        obtain ⟨x3, h3, e3⟩ := hf' (22, 3) (by simp)
        obtain ⟨x4, h4, e4⟩ := hf' (22, 4) (by simp)
        dsimp only at h0 h1 h2 h3 h4 e0 e1 e2 e3 e4
        obtain ⟨l3, rfl, k3⟩ := ih2 _ h3
        obtain ⟨l4, rfl, k4⟩ := ih2 _ h4
        simp only [Conf, und3p, und9p] at h0 h1 h2
        obtain ⟨z0, rfl, _⟩ := h0
        obtain ⟨z1, rfl, _⟩ := h1
        obtain ⟨s, rfl, hs⟩ := h2
        simp [AV.cells, cells3, cells9, cells22] at e0 e1 e2 e3 e4
        exact ⟨.mk z0 z1 s l3 l4, by simp [V.av, e0, e1, e2, e3, e4], by rw [maxLen_eq] at hs; exact hs, k3, k4⟩
    . intro v h
      simp only [Conf, und22p] at h
      obtain ⟨els, rfl, _, hel⟩ := h
      obtain ⟨l, rfl, hl⟩ := avs_of els fun x hx => ih1 x (hel x hx).1
      exact ⟨l, rfl, hl⟩
end Go.Tv
namespace Go.Tv
open Go.Proofs
open Go.ChangeShapes Go.WideShapes Go.ChangeAt Go.RowKit
set_option maxRecDepth 100000
theorem treeT_ok : ∀ t ∈ [24, 22, 9, 3], TreeT Tryz.prog [24, 22, 9, 3] t := by
  intro t ht
  simp only [List.mem_cons, List.mem_nil_iff, or_false] at ht
  rcases ht with rfl | rfl | rfl | rfl
  . unfold TreeT
    rw [und24]
    refine ⟨fun f hf => ?_, by kernel_rfl⟩
    have : (f.type, f.offset) ∈ fs24.toList.map (fun f => (f.type, f.offset)) := List.mem_map.2 ⟨f, hf, rfl⟩
    rw [fs24_map] at this
    simp only [List.mem_cons, Prod.mk.injEq, List.mem_nil_iff, or_false] at this
    rcases this with h | h | h | h | h <;> simp [h.1]
  . unfold TreeT
    rw [und22p]
    simp
  . unfold TreeT
    rw [und9p]
    trivial
  . unfold TreeT
    rw [und3p]
    trivial
theorem arg24 {H : Type} {enc : TypeId × Value -> H} {W : World} {sp : Nat -> Bool} {held : Bool} {r : Reach} {base b2 : Nat} {v : Value} {d : DataW H} {p : List MemPlace}
    (h : DataW.Trod enc Tryz.prog W base sp held 24 v d p) (hv : Value.okWide Tryz.prog W r b2 24 v) : ∃ x : V, Rep (Env.all W) x.av v /\ x.str := by
  obtain ⟨n, hn⟩ := h
  obtain ⟨x, h1, h2, h3⟩ := trod_rep treeT_ok n 24 _ _ _ (by simp) hn
  obtain ⟨y, rfl, hs⟩ := (conf_V n).1 x h3
  obtain ⟨cs, rfl, _⟩ := okWide_struct und24 hv
  refine ⟨y, ?_, hs⟩
  have h2' : RepL (Env.all W) y.av.cells cs := by simpa [Value.cells] using h2
  cases y with
  | mk k n s ks is => exact .agg _ _ h2'.size h2'.get
theorem int_cell {W : World} (h : W.ShapedOpen Tryz.prog) : ∃ n, W.cell? ⟨0, 0, none⟩ = some (.int .i64 n) :=
  cell_of_shapedOpen_int (t := 3) (zero := #[.int .i64 0]) h (by decide +kernel) (by kernel_rfl) rfl (by kernel_rfl) (by kernel_rfl) und3p
def TabAt (W : World) : Prop := ∃ T z, W.heap[4]? = some (.cells (Lib.pow10Tab.map fun z => Value.int .u64 z).toArray T z)
theorem laid_reads {P : Program} {w : World} : ∀ {l : List (String × DataW Unit)} {ps : List MemPlace}, DataW.LaidVars P w l ps -> ∀ n d, (n, d) ∈ l ->
    ∃ g t cs fuel p, P.globalNamed n = some g /\ (P.globals[g]?).map (·.type) = some t /\ w.var? P n = some cs /\ DataW.trod (fun _ => ()) P w 0 (fun _ => true) false fuel t cs.toList = some (d, p)
  | [], _, _, _, _, hm => by cases hm
  | (n', d') :: r, ps, h, n, d, hm => by
    obtain ⟨g, t, cs, fuel, p, q, h1, h2, h3, h4, h5, _⟩ := h
    rcases List.mem_cons.1 hm with e | e
    . cases e
      exact ⟨g, t, cs, fuel, p, h1, h2, h3, h4⟩
    . exact laid_reads h5 n d e
theorem g4_name : Tryz.prog.globalNamed "internal/strconv.uint64pow10" = some 4 := by kernel_rfl
theorem g4_type : (Tryz.prog.globals[4]?).map (·.type) = some 317 := by kernel_rfl
theorem g4_und : Tryz.prog.underlying 317 = some (.array 20 265) := by kernel_rfl
theorem g4_el : Tryz.prog.underlying 265 = some (.int .u64) := by kernel_rfl
theorem g4_c1 : Tryz.prog.cellsOf 265 = 1 := by kernel_rfl
theorem g4_c20 : Tryz.prog.cellsOf 317 = 20 := by kernel_rfl
theorem tab_of_laid {l : List (String × DataW Unit)} {W W' : World} (hW : W'.heap = W.heap) (h : laidMet Tryz.prog l W') (hm : ("internal/strconv.uint64pow10", Lib.tabData .u64 Lib.pow10Tab) ∈ l) : TabAt W := by
  obtain ⟨ps, hv, _⟩ := h
  obtain ⟨g, t, cs, fuel, p, h1, h2, h3, h4⟩ := laid_reads hv _ _ hm
  obtain rfl := Option.some.inj (g4_name.symm.trans h1)
  obtain rfl := Option.some.inj (g4_type.symm.trans h2)
  have hc := Lib.cells_of_tab g4_und g4_el g4_c1 g4_c20 h4
  unfold World.var? at h3
  rw [g4_name, Option.bind_some, hW] at h3
  unfold TabAt
  cases ho : W.heap[4]? with
  | none => rw [ho] at h3; cases h3
  | some o =>
    rw [ho] at h3
    cases o with
    | cells cs' T z =>
      simp only [Option.some.injEq] at h3
      subst h3
      exact ⟨T, z, by rw [<- hc]⟩
    | _ => cases h3
theorem globs {W : World} (h : W.ShapedOpen Tryz.prog) (hT : TabAt W) : GlobOk CC (Env.all W) :=
  ⟨fun g cs hc => (by cases hc), fun g hg => (by
    obtain rfl : g = 0 := by simpa [CX] using hg
    exact int_cell h), fun h => h.elim, fun g p hp => by
    by_cases hg : g = 4
    . subst hg
      obtain ⟨T, z, ho⟩ := hT
      obtain rfl := Option.some.inj (show some (fun o => ∃ T z, o = Obj.cells (Lib.pow10Tab.map fun z => Value.int .u64 z).toArray T z) = some p from hp)
      exact ⟨_, ho, T, z, rfl⟩
    . have : (CC.tab g) = none := by show tabF false g = none; unfold tabF; rw [if_neg (by simp), if_neg hg]
      rw [this] at hp; cases hp⟩
theorem run_true {f : FuncId} {args : List AV} {W : World} {vs : Array Value} (hf : CC.real f = f) (hc : Call CC f args [] = some (.ok (.bool true), [])) (hS : W.ShapedOpen Tryz.prog) (hT : TabAt W) (hr : RepL (Env.all W) args vs) :
    Calls Tryz.prog f vs W fun e w' => e = .returned (.bool true) /\ Below W.heap.size W w' := by
  obtain ⟨n, hn⟩ := Call_ex hc
  have h0 := (cc_calls n).run f args [] _ _ hn (Env.all W) W vs hr (globs hS hT) (Holds.all W)
  rw [hf] at h0
  refine h0.mono ?_
  rintro e w' ⟨E', hE, _, hret⟩
  cases e with
  | returned c =>
    refine ⟨by rw [Rep.inv_bool hret], hE.os, hE.tape, hE.output, hE.size, fun b hb => hE.keep b hb fun i p hp => ?_⟩
    cases hp
  | _ => exact hret.elim
end Go.Tv
