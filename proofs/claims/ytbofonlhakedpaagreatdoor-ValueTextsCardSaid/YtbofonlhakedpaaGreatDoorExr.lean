/-
  Rows of any elements that grow.
-/
import Derived.Test.YtbofonlhakedpaaGreatDoorExl
import Derived.Test.YtbofonlhakedpaaGreatDoorPla
namespace Go.Tv
open Go.Proofs
set_option maxHeartbeats 4000000
def TokY (sz : Nat) (H : Heap) (els : List AV) (tok : Nat) : Prop := els ≠ [] -> H[tok]? = some (.tail els.length sz)
theorem TokY.app {sz : Nat} {H : Heap} {l : List AV} {tok : Nat} (h : TokY sz H l tok) (L : Heap) : TokY sz (H ++ L) l tok := fun hl => by rw [List.getElem?_append_left (List.getElem?_eq_some_iff.1 (h hl)).1]; exact h hl
theorem app_LY1 {T e : TypeId} {sz : Nat} {z : AV} (hel : elemT CC T = some e) (hint : isIntT CC T = false) (hsz : szOf CC e = some sz) (hz : zeroOf CC e = some z) (hzl : z.cells.length = sz) (hzo : z.cells.all AV.one = true) (hpos : 0 < sz) (hroom : ∀ n, n ≤ 1000000000 -> roomOk CC e n = true)
    (H : Heap) (a : List AV) (x : AV) (tok : Nat) (ht : TokY sz H a tok) (ha5 : a.all (fun v => decide (v.cells.length = sz)) = true) (hb5 : [x].all (fun v => decide (v.cells.length = sz) && v.cells.all AV.one) = true) (hc : a.length + 1 ≤ 1000000000) :
    ∃ H', aappB CC [T, T] [LX a tok, .list [x] none] H = some (.list (a ++ [x]) (some H.length), H') /\ H'.length = H.length + 1 /\ TokY sz H' (a ++ [x]) H.length /\ ∀ j, j < H.length -> (a ≠ [] -> j ≠ tok) -> H'[j]? = H[j]? := by
  by_cases ha : a = []
  . subst ha
    have r1 := hroom 1 (by omega)
    refine ⟨H ++ [.tail 1 sz], ?_, by simp, fun _ => by simp, fun j hj _ => List.getElem?_append_left hj⟩
    rw [lx_nil]
    simp only [aappB, aappend, hel, hint, newsH, news, hsz, hz]
    rw [if_pos ⟨hzl, hpos, hzo, hb5⟩]
    simp only [List.nil_append, List.length_cons, List.length_nil, Nat.zero_add, r1, if_true, cc_arr, Bool.false_eq_true, if_false]
  . have r1 := hroom (a.length + 1) hc
    have hta := ht ha
    refine ⟨H.set tok .dead ++ [.tail (a.length + 1) sz], ?_, by simp, fun _ => by simp, fun j hj hne => ?_⟩
    . rw [lx_cons ha]
      simp only [aappB, aappend, hel, hint, newsH, news, hsz, hz]
      rw [if_pos ⟨hzl, hpos, hzo, hb5⟩]
      simp only [List.length_cons, List.length_nil, Nat.zero_add, hta]
      rw [if_pos ⟨trivial, trivial, r1, ha5⟩]
    . rw [List.getElem?_append_left (by simpa using hj), List.getElem?_set_ne (fun e => hne ha e.symm)]
theorem zero9 {z a : Bool} {al : FuncId -> FuncId} : zeroOf (CX z a al) 9 = some (.str []) := by kernel_rfl
attribute [simp] zero9
theorem int105 : isIntT CC 105 = false := by kernel_rfl
theorem room9 (n : Nat) (h : n ≤ 1000000000) : roomOk CC 9 n = true := by
  have hb : (Tryz.prog.info? 9).map (fun i => (i.bytes, i.zero.isSome)) = some (16, true) := by kernel_rfl
  unfold roomOk
  rw [cc_P]
  cases hi : Tryz.prog.info? 9 with
  | none => rw [hi] at hb; cases hb
  | some i =>
    rw [hi] at hb
    simp only [Option.map_some, Option.some.injEq, Prod.mk.injEq] at hb
    simp only [hb.1, hb.2, Bool.and_true, decide_eq_true_eq]
    refine ⟨?_, ?_, by omega⟩ <;> omega
theorem sl_app (a : List (List UInt8)) (x : List UInt8) : sl (a ++ [x]) = sl a ++ [.str x] := by simp [sl_map]
end Go.Tv
