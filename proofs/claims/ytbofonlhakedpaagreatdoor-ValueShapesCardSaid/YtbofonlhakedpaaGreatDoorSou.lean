/-
  The evaluator is sound over this program; values that come in are trees; a call that answers true answers true in every world.
-/
import Derived.Test.YtbofonlhakedpaaGreatDoorCfg
import Derived.Test.YtbofonlhakedpaaGreatDoorShelf
import Derived.Test.YtbofonlhakedpaaGreatDoorPla
import Derived.Test.YtbofonlhakedpaaGreatDoorTvd
import Derived.ProofKit
import Derived.Shelf.Vars
/- The evaluator over seat ZD's program is sound. -/
namespace Go.Tv
open Go.Proofs
open Go.RowKit (Below)

theorem rep_str_inv {E : Env} {s : List UInt8} {c : Value} (h : Rep E (.str s) c) : c = .string ⟨s.toArray⟩ := by
  obtain ⟨b, rfl, rfl⟩ := h.inv_str
  congr 1

theorem repL_one {E : Env} {a : AV} {vs : Array Value} (h : RepL E [a] vs) : ∃ c, vs = #[c] ∧ Rep E a c := by
  have hs := h.size
  match vs, hs with
  | ⟨[c]⟩, _ => exact ⟨c, rfl, by simpa using h.get 0 (by simp)⟩

theorem repL_two {E : Env} {a b : AV} {vs : Array Value} (h : RepL E [a, b] vs) : ∃ c d, vs = #[c, d] ∧ Rep E a c ∧ Rep E b d := by
  have hs := h.size
  match vs, hs with
  | ⟨[c, d]⟩, _ => exact ⟨c, d, rfl, by simpa using h.get 0 (by simp), by simpa using h.get 1 (by simp)⟩

theorem strs_flat : ∀ {l : List AV} {x : List (List UInt8)}, strs l = some x → l = x.map .str ∧ flat l = l
  | [], x, h => by simp [strs] at h; subst h; exact ⟨rfl, rfl⟩
  | v :: r, x, h => by
    cases v <;> simp only [strs] at h <;> try (cases h; done)
    split at h <;> try (cases h; done)
    rename_i s y hy; injection h with h; subst h
    obtain ⟨h1, h2⟩ := strs_flat hy
    exact ⟨by simp [← h1], by rw [flat_cons, h2]; rfl⟩

theorem below_refl (w : World) : Below w.heap.size w w := Below.refl _ _

theorem cc_names : ∀ (f : FuncId) (fn : Func), Tryz.prog.funcs[f]? = some fn → (fn.name == "runtime.NumGoroutine") = false := by
  intro f fn h
  have hall : (Tryz.prog.funcs.toList.all fun fn => !(fn.name == "runtime.NumGoroutine")) = true := by kernel_rfl
  rw [List.all_eq_true] at hall
  have hm : fn ∈ Tryz.prog.funcs.toList := by
    have := (Array.getElem?_eq_some_iff.1 h)
    obtain ⟨hlt, he⟩ := this
    rw [← he]; exact Array.getElem_mem_toList hlt
  simpa using hall fn hm

theorem contains_ok {args : List AV} {v : AV} (h : containsF args = some v) {E : Env} {w : World} {vs : Array Value} (hr : RepL E args vs) (hg : GlobOk CC E) (hst : ∀ b o v, E.st b o = some v → w.cell? ⟨b, o, none⟩ = some v) :
    Calls CC.P 205 vs w fun e w' => ∃ c, e = .returned c ∧ Below w.heap.size w w' ∧ Rep E v c := by
  unfold containsF at h
  split at h <;> try (cases h; done)
  rename_i s t
  split at h <;> try (cases h; done)
  rename_i hs; injection h with h; subst h
  obtain ⟨c, d, rfl, h1, h2⟩ := repL_two hr
  have e1 := rep_str_inv h1; have e2 := rep_str_inv h2; subst e1 e2
  obtain ⟨n, hn⟩ := hg.ints 0 (by simp [CC])
  refine (Tryz.strings_Contains ⟨s.toArray⟩ ⟨t.toArray⟩ n w (by simpa [ByteArray.size] using hs) (hst _ _ _ hn)).mono ?_
  rintro e w' ⟨rfl, rfl⟩
  exact ⟨_, rfl, below_refl _, by simpa using Rep.bool (E := E) (Lib.contains s t)⟩

theorem itoa_ok {args : List AV} {v : AV} (h : itoaF args = some v) {E : Env} {w : World} {vs : Array Value} (hr : RepL E args vs) :
    Calls CC.P 143 vs w fun e w' => ∃ c, e = .returned c ∧ Below w.heap.size w w' ∧ Rep E v c := by
  unfold itoaF at h
  split at h <;> try (cases h; done)
  rename_i n
  split at h <;> try (cases h; done)
  rename_i hn; injection h with h; subst h
  obtain ⟨c, rfl, h1⟩ := repL_one hr
  have e1 := h1.inv_int; subst e1
  obtain ⟨m, rfl⟩ : ∃ m : Nat, n = m := ⟨n.toNat, (Int.toNat_of_nonneg hn.1).symm⟩
  refine (Tryz.strconv_Itoa_small m (by omega) w).mono ?_
  rintro e w' ⟨rfl, rfl⟩
  exact ⟨_, rfl, below_refl _, str_rep _⟩

theorem upper_ok {args : List AV} {v : AV} (h : upperF args = some v) {E : Env} {w : World} {vs : Array Value} (hr : RepL E args vs) :
    Calls CC.P 141 vs w fun e w' => ∃ c, e = .returned c ∧ Below w.heap.size w w' ∧ Rep E v c := by
  unfold upperF at h
  split at h <;> try (cases h; done)
  rename_i s
  split at h <;> try (cases h; done)
  rename_i hs; injection h with h; subst h
  simp only [Bool.and_eq_true, decide_eq_true_eq, List.all_eq_true] at hs
  obtain ⟨c, rfl, h1⟩ := repL_one hr
  have e1 := rep_str_inv h1; subst e1
  refine (Tryz.strings_ToUpper_ascii ⟨s.toArray⟩ w (by simpa [ByteArray.size] using hs.1) (fun j b hb => hs.2 b (List.mem_of_getElem? (by simpa using hb)))).mono ?_
  rintro e w' ⟨rfl, hb⟩
  exact ⟨_, rfl, hb, by simpa using str_rep (E := E) (Lib.toUpperA s)⟩

theorem join_ok {args : List AV} {v : AV} (h : joinF args = some v) {E : Env} {w : World} {vs : Array Value} (hr : RepL E args vs) (hst : ∀ b o v, E.st b o = some v → w.cell? ⟨b, o, none⟩ = some v) :
    Calls CC.P 195 vs w fun e w' => ∃ c, e = .returned c ∧ Below w.heap.size w w' ∧ Rep E v c := by
  unfold joinF at h
  split at h <;> try (cases h; done)
  rename_i l t
  split at h <;> try (cases h; done)
  rename_i x hx
  split at h <;> try (cases h; done)
  rename_i hs; injection h with h; subst h
  simp only [Bool.and_eq_true, decide_eq_true_eq] at hs
  obtain ⟨c, d, rfl, h1, h2⟩ := repL_two hr
  have e2 := rep_str_inv h2; subst e2
  obtain ⟨base, cap, rfl, hL⟩ := h1.inv_list
  obtain ⟨hl, hfl⟩ := strs_flat hx
  have hlen : l.length = x.length := by rw [hl]; simp
  cases hxs : x with
  | nil =>
    subst hxs
    rw [hlen]
    refine (Tryz.strings_Join_none base cap ⟨t.toArray⟩ w).mono ?_
    rintro e w' ⟨rfl, rfl⟩
    exact ⟨_, rfl, below_refl _, by have := str_rep (E := E) []; simpa [Lib.join] using this⟩
  | cons y ys =>
    have hpos : 0 < l.length := by rw [hlen, hxs]; simp
    obtain ⟨a, v0, ea, ha, hv0, _⟩ := hL.cells 0 (by rw [hfl]; exact hpos)
    subst ea
    obtain ⟨bk, o, sp⟩ := a
    simp only at ha; subst ha
    have hxl : (x.map fun s => (⟨s.toArray⟩ : ByteArray)).length = l.length := by simp [hlen]
    have hxm : (x.map fun s => (⟨s.toArray⟩ : ByteArray)).map (·.data.toList) = x := by
      rw [List.map_map]; exact (List.map_congr_left (fun a _ => rfl)).trans (List.map_id x)
    have := Tryz.strings_Join bk o cap (x.map fun s => ⟨s.toArray⟩) ⟨t.toArray⟩ w (fun j z hz => ?_) (by have := w.block_lt_of_cell? _ (hst _ _ _ hv0); exact this) (by rw [hxl]; exact hs.2) (by rw [hxl]; exact hL.capLe)
      (by rw [hxm]; simpa using hs.1)
    · rw [hxl] at this
      refine this.mono ?_
      rintro e w' ⟨rfl, hb⟩
      refine ⟨_, rfl, hb, ?_⟩
      rw [hxm, ← hxs]
      exact str_rep _
    · simp only [List.getElem?_map, Option.map_eq_some_iff] at hz
      obtain ⟨s, hs', rfl⟩ := hz
      have hj : j < x.length := (List.getElem?_eq_some_iff.1 hs').1
      obtain ⟨a, v, ea, ha, hv, hrv⟩ := hL.cells j (by rw [hfl, hlen]; exact hj)
      injection ea with ea; subst ea
      rw [hst _ _ _ hv]
      rw [hfl, hl] at hrv
      have : (x.map AV.str).getD j .empty = .str s := by simp [List.getD_eq_getElem?_getD, hs']
      rw [this] at hrv
      rw [rep_str_inv hrv]

theorem cc_ok : CfgOk CC := by
  refine ⟨cc_names, by kernel_rfl, ?_, ?_, ?_⟩
  · intro f h hf args v hv E w vs hr
    have hf' : extF f = some h := hf
    unfold extF at hf'
    split at hf' <;> try (cases hf'; done)
    rename_i e; subst e; injection hf' with hf'; subst hf'
    simp only at hv
    split at hv <;> try (cases hv; done)
    rename_i a b
    injection hv with hv; subst hv
    obtain ⟨c, d, rfl, h1, h2⟩ := repL_two hr
    have e1 := rep_str_inv h1; have e2 := rep_str_inv h2; subst e1 e2
    exact ⟨_, ext_run ⟨a.toArray⟩ ⟨b.toArray⟩ w, by simpa using Rep.int (E := E) .i64 (cmpB a b)⟩
  · intro f h hf
    have hf' : primF f = some h := hf
    unfold primF at hf'
    split at hf'
    · rename_i e; subst e; exact ⟨_, _, (by kernel_rfl : Tryz.prog.funcs[205]? = some Tryz.f205), rfl⟩
    split at hf'
    · rename_i e; subst e; exact ⟨_, _, (by kernel_rfl : Tryz.prog.funcs[195]? = some Tryz.f195), rfl⟩
    split at hf'
    · rename_i e; subst e; exact ⟨_, _, (by kernel_rfl : Tryz.prog.funcs[141]? = some Tryz.f141), rfl⟩
    split at hf'
    · rename_i e; subst e; exact ⟨_, _, (by kernel_rfl : Tryz.prog.funcs[143]? = some Tryz.f143), rfl⟩
    · cases hf'
  · intro f h hf args v hv E w vs hr hg hst
    have hf' : primF f = some h := hf
    unfold primF at hf'
    split at hf'
    · rename_i e; subst e; injection hf' with hf'; subst hf'; exact contains_ok hv hr hg hst
    split at hf'
    · rename_i e; subst e; injection hf' with hf'; subst hf'; exact join_ok hv hr hst
    split at hf'
    · rename_i e; subst e; injection hf' with hf'; subst hf'; exact upper_ok hv hr
    split at hf'
    · rename_i e; subst e; injection hf' with hf'; subst hf'; exact itoa_ok hv hr
    · cases hf'

theorem cc_calls (n : Nat) : CallOk CC (acall CC n) := acall_ok cc_ok n
end Go.Tv

/- What comes in as a value of chapter 8 is a tree. -/
namespace Go.Tv
open Go.Proofs

noncomputable def fs24 : Array Field := match Tryz.prog.underlying 24 with | some (.struct fs) => fs | _ => #[]
theorem und24 : Tryz.prog.underlying 24 = some (.struct fs24) := by kernel_rfl
theorem fs24_map : fs24.toList.map (fun f => (f.type, f.offset)) = [(3, 0), (3, 1), (9, 2), (22, 3), (22, 4)] := by kernel_rfl
theorem und22p : Tryz.prog.underlying 22 = some (.slice 24) := by kernel_rfl
theorem und3p : Tryz.prog.underlying 3 = some (.int .i64) := by kernel_rfl
theorem und9p : Tryz.prog.underlying 9 = some .string := by kernel_rfl
theorem und4p : Tryz.prog.underlying 4 = some .bool := by kernel_rfl
theorem cells3 : Tryz.prog.cellsOf 3 = 1 := by kernel_rfl
theorem cells9 : Tryz.prog.cellsOf 9 = 1 := by kernel_rfl
theorem cells22 : Tryz.prog.cellsOf 22 = 1 := by kernel_rfl
theorem cells24 : Tryz.prog.cellsOf 24 = 5 := by kernel_rfl

theorem five_of : ∀ {cs : List AV}, cs.length = 5 → ∃ a b c d e, cs = [a, b, c, d, e]
  | [a, b, c, d, e], _ => ⟨a, b, c, d, e, rfl⟩
theorem maxLen_eq : maxLen = 9223372036854775807 := by unfold maxLen; omega
theorem avs_of : ∀ (els : List AV), (∀ x ∈ els, ∃ v : V, x = v.av ∧ v.str) → ∃ l : List V, els = avs l ∧ strs' l
  | [], _ => ⟨[], rfl, trivial⟩
  | a :: r, h => by
    obtain ⟨v, hv, hs⟩ := h a (by simp)
    obtain ⟨l, hl, hs2⟩ := avs_of r fun x hx => h x (by simp [hx])
    exact ⟨v :: l, by simp [avs, hv, hl], hs, hs2⟩

set_option maxRecDepth 100000 in
theorem conf_V : ∀ n, (∀ v, Conf Tryz.prog n 24 v → ∃ x : V, v = x.av ∧ x.str) ∧ (∀ v, Conf Tryz.prog n 22 v → ∃ l : List V, v = .list (avs l) none ∧ strs' l)
  | 0 => ⟨fun v h => h.elim, fun v h => h.elim⟩
  | n + 1 => by
    obtain ⟨ih1, ih2⟩ := conf_V n
    constructor
    · intro v h
      simp only [Conf, und24] at h
      obtain ⟨cs, rfl, hlen, hf⟩ := h
      rw [cells24] at hlen
      have hf' : ∀ p ∈ fs24.toList.map (fun f => (f.type, f.offset)), ∃ x, Conf Tryz.prog n p.1 x ∧ x.cells = (cs.drop p.2).take (Tryz.prog.cellsOf p.1) := by
        intro p hp
        obtain ⟨f, h1, rfl⟩ := List.mem_map.1 hp
        exact hf f h1
      rw [fs24_map] at hf'
      obtain ⟨c0, c1, c2, c3, c4, rfl⟩ := five_of hlen
      cases n with
      | zero => obtain ⟨x, hx, _⟩ := hf' (3, 0) (by simp); exact hx.elim
      | succ n =>
        obtain ⟨x0, h0, e0⟩ := hf' (3, 0) (by simp)
        obtain ⟨x1, h1, e1⟩ := hf' (3, 1) (by simp)
        obtain ⟨x2, h2, e2⟩ := hf' (9, 2) (by simp)
        obtain ⟨x3, h3, e3⟩ := hf' (22, 3) (by simp)
        obtain ⟨x4, h4, e4⟩ := hf' (22, 4) (by simp)
        dsimp only at h0 h1 h2 h3 h4 e0 e1 e2 e3 e4
        obtain ⟨l3, rfl, k3⟩ := ih2 _ h3
        obtain ⟨l4, rfl, k4⟩ := ih2 _ h4
        simp only [Conf, und3p, und9p] at h0 h1 h2
        obtain ⟨z0, rfl, _⟩ := h0
        obtain ⟨z1, rfl, _⟩ := h1
        obtain ⟨s, rfl, hs⟩ := h2
        simp [AV.cells, cells3, cells9, cells22] at e0 e1 e2 e3 e4
        exact ⟨.mk z0 z1 s l3 l4, by simp [V.av, e0, e1, e2, e3, e4], by rw [maxLen_eq] at hs; exact hs, k3, k4⟩
    · intro v h
      simp only [Conf, und22p] at h
      obtain ⟨els, rfl, _, hel⟩ := h
      obtain ⟨l, rfl, hl⟩ := avs_of els fun x hx => ih1 x (hel x hx).1
      exact ⟨l, rfl, hl⟩
end Go.Tv

/- From a row's world to the evaluator: values of chapter 8 that come in, and the call's end. -/
namespace Go.Tv
open Go.Proofs
open Go.ChangeShapes Go.WideShapes Go.ChangeAt Go.RowKit

set_option maxRecDepth 100000
theorem treeT_ok : ∀ t ∈ [24, 22, 9, 3], TreeT Tryz.prog [24, 22, 9, 3] t := by
  intro t ht
  simp only [List.mem_cons, List.mem_nil_iff, or_false] at ht
  rcases ht with rfl | rfl | rfl | rfl
  · unfold TreeT
    rw [und24]
    refine ⟨fun f hf => ?_, by kernel_rfl⟩
    have : (f.type, f.offset) ∈ fs24.toList.map (fun f => (f.type, f.offset)) := List.mem_map.2 ⟨f, hf, rfl⟩
    rw [fs24_map] at this
    simp only [List.mem_cons, Prod.mk.injEq, List.mem_nil_iff, or_false] at this
    rcases this with h | h | h | h | h <;> simp [h.1]
  · unfold TreeT
    rw [und22p]
    simp
  · unfold TreeT
    rw [und9p]
    trivial
  · unfold TreeT
    rw [und3p]
    trivial

theorem arg24 {H : Type} {enc : TypeId × Value → H} {W : World} {sp : Nat → Bool} {held : Bool} {r : Reach} {base b2 : Nat} {v : Value} {d : DataW H} {p : List MemPlace}
    (h : DataW.Trod enc Tryz.prog W base sp held 24 v d p) (hv : Value.okWide Tryz.prog W r b2 24 v) : ∃ x : V, Rep (Env.all W) x.av v ∧ x.str := by
  obtain ⟨n, hn⟩ := h
  obtain ⟨x, h1, h2, h3⟩ := trod_rep treeT_ok n 24 _ _ _ (by simp) hn
  obtain ⟨y, rfl, hs⟩ := (conf_V n).1 x h3
  obtain ⟨cs, rfl, _⟩ := okWide_struct und24 hv
  refine ⟨y, ?_, hs⟩
  have h2' : RepL (Env.all W) y.av.cells cs := by simpa [Value.cells] using h2
  cases y with
  | mk k n s ks is => exact .agg _ _ h2'.size h2'.get

theorem int_cell {W : World} (h : W.ShapedOpen Tryz.prog) : ∃ n, W.cell? ⟨0, 0, none⟩ = some (.int .i64 n) :=
  cell_of_shapedOpen_int (t := 3) (zero := #[.int .i64 0]) h (by decide +kernel) (by kernel_rfl) rfl (by kernel_rfl) (by kernel_rfl) und3p

theorem globs {W : World} (h : W.ShapedOpen Tryz.prog) : GlobOk CC (Env.all W) :=
  ⟨fun g cs hc => (by cases hc), fun g hg => (by
    obtain rfl : g = 0 := by simpa [CC] using hg
    exact int_cell h)⟩

/-- A call of the seat that answers true answers true in every world. -/
theorem run_true {f : FuncId} {args : List AV} {W : World} {vs : Array Value} (hc : Call CC f args [] = some (.ok (.bool true), [])) (hS : W.ShapedOpen Tryz.prog) (hr : RepL (Env.all W) args vs) :
    Calls Tryz.prog f vs W fun e w' => e = .returned (.bool true) ∧ Below W.heap.size W w' := by
  obtain ⟨n, hn⟩ := Call_ex hc
  refine ((cc_calls n).run f args [] _ _ hn (Env.all W) W vs hr (globs hS) (Holds.all W)).mono ?_
  rintro e w' ⟨E', hE, _, hret⟩
  cases e with
  | returned c =>
    refine ⟨by rw [Rep.inv_bool hret], hE.os, hE.tape, hE.output, hE.size, fun b hb => hE.keep b hb fun i p hp => ?_⟩
    cases hp
  | _ => exact hret.elim
end Go.Tv
