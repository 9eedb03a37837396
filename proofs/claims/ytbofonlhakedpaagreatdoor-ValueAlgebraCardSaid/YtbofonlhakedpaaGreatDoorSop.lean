/-
  Names that come in are trees.
-/
import Derived.Test.YtbofonlhakedpaaGreatDoorSou
import Derived.Test.YtbofonlhakedpaaGreatDoorPla
/- What comes in as names that become others is a tree. -/
namespace Go.Tv
open Go.Proofs
noncomputable def fs65 : Array Field := match Tryz.prog.underlying 65 with | some (.struct fs) => fs | _ => #[]
theorem und65p : Tryz.prog.underlying 65 = some (.struct fs65) := by kernel_rfl
theorem fs65_map : fs65.toList.map (fun f => (f.type, f.offset)) = [(9, 0), (9, 1)] := by kernel_rfl
theorem und63p : Tryz.prog.underlying 63 = some (.slice 65) := by kernel_rfl
theorem cells65 : Tryz.prog.cellsOf 65 = 2 := by kernel_rfl
theorem cells63 : Tryz.prog.cellsOf 63 = 1 := by kernel_rfl
theorem twoN_of : ∀ {cs : List AV}, cs.length = 2 → ∃ a b, cs = [a, b]
  | [a, b], _ => ⟨a, b, rfl⟩
theorem ravs_of : ∀ (els : List AV), (∀ x ∈ els, ∃ p : Ren, x = rav p ∧ p.1.length ≤ 9223372036854775807 ∧ p.2.length ≤ 9223372036854775807) → ∃ l : List Ren, els = ravs l ∧ rstr l
  | [], _ => ⟨[], rfl, fun p hp => by simp at hp⟩
  | a :: r, h => by
    obtain ⟨p, hp, hs⟩ := h a (by simp)
    obtain ⟨l, hl, hs2⟩ := ravs_of r fun x hx => h x (by simp [hx])
    refine ⟨p :: l, by simp [ravs, hp, hl], fun q hq => ?_⟩
    rcases List.mem_cons.1 hq with e | hq
    · subst e; exact hs
    · exact hs2 q hq
set_option maxRecDepth 100000 in
theorem conf_R (n : Nat) (v : AV) (h : Conf Tryz.prog n 65 v) : ∃ p : Ren, v = rav p ∧ p.1.length ≤ 9223372036854775807 ∧ p.2.length ≤ 9223372036854775807 := by
  cases n with
  | zero => exact h.elim
  | succ n =>
    simp only [Conf, und65p] at h
    obtain ⟨cs, rfl, hlen, hf⟩ := h
    rw [cells65] at hlen
    have hf' : ∀ p ∈ fs65.toList.map (fun f => (f.type, f.offset)), ∃ x, Conf Tryz.prog n p.1 x ∧ x.cells = (cs.drop p.2).take (Tryz.prog.cellsOf p.1) := by
      intro p hp
      obtain ⟨f, h1, rfl⟩ := List.mem_map.1 hp
      exact hf f h1
    rw [fs65_map] at hf'
    obtain ⟨c0, c1, rfl⟩ := twoN_of hlen
    cases n with
    | zero => obtain ⟨x, hx, _⟩ := hf' (9, 0) (by simp); exact hx.elim
    | succ n =>
      obtain ⟨x0, h0, e0⟩ := hf' (9, 0) (by simp)
      obtain ⟨x1, h1, e1⟩ := hf' (9, 1) (by simp)
      dsimp only at h0 h1 e0 e1
      simp only [Conf, und9p] at h0 h1
      obtain ⟨s0, rfl, k0⟩ := h0
      obtain ⟨s1, rfl, k1⟩ := h1
      simp [AV.cells, cells9] at e0 e1
      exact ⟨(s0, s1), by simp [rav, e0, e1], by rw [maxLen_eq] at k0; exact k0, by rw [maxLen_eq] at k1; exact k1⟩
theorem conf_Rs (n : Nat) (v : AV) (h : Conf Tryz.prog n 63 v) : ∃ l : List Ren, v = .list (ravs l) none ∧ rstr l := by
  cases n with
  | zero => exact h.elim
  | succ n =>
    simp only [Conf, und63p] at h
    obtain ⟨els, rfl, _, hel⟩ := h
    obtain ⟨l, rfl, hl⟩ := ravs_of els fun x hx => conf_R n x (hel x hx).1
    exact ⟨l, rfl, hl⟩
end Go.Tv

/- Names that come in. -/
namespace Go.Tv
open Go.Proofs
open Go.ChangeShapes Go.WideShapes Go.ChangeAt Go.RowKit
set_option maxRecDepth 100000
theorem treeT_okR : ∀ t ∈ [63, 65, 9], TreeT Tryz.prog [63, 65, 9] t := by
  intro t ht
  simp only [List.mem_cons, List.mem_nil_iff, or_false] at ht
  rcases ht with rfl | rfl | rfl
  · unfold TreeT
    rw [und63p]
    simp
  · unfold TreeT
    rw [und65p]
    refine ⟨fun f hf => ?_, by kernel_rfl⟩
    have : (f.type, f.offset) ∈ fs65.toList.map (fun f => (f.type, f.offset)) := List.mem_map.2 ⟨f, hf, rfl⟩
    rw [fs65_map] at this
    simp only [List.mem_cons, Prod.mk.injEq, List.mem_nil_iff, or_false] at this
    rcases this with h | h <;> simp [h.1]
  · unfold TreeT
    rw [und9p]
    trivial
theorem arg63 {H : Type} {enc : TypeId × Value → H} {W : World} {sp : Nat → Bool} {held : Bool} {r : Reach} {base b2 : Nat} {v : Value} {d : DataW H} {p : List MemPlace}
    (h : DataW.Trod enc Tryz.prog W base sp held 63 v d p) (hv : Value.okWide Tryz.prog W r b2 63 v) : ∃ l : List Ren, Rep (Env.all W) (.list (ravs l) none) v ∧ rstr l := by
  obtain ⟨n, hn⟩ := h
  obtain ⟨x, h1, h2, h3⟩ := trod_rep treeT_okR n 63 _ _ _ (by simp) hn
  obtain ⟨l, rfl, hs⟩ := conf_Rs n x h3
  obtain ⟨a, b, c, rfl⟩ := okWide_slice und63p hv
  refine ⟨l, ?_, hs⟩
  have := h2.get 0 (by simp [AV.cells])
  simpa [Value.cells, AV.cells] using this
end Go.Tv
