/-
  ValueCombines, from every world that fits: it returns true, and its arguments read as before.
-/
import Derived.Test.YtbofonlhakedpaaGreatDoorCards
import Derived.Test.YtbofonlhakedpaaGreatDoorTie
import Derived.Test.YtbofonlhakedpaaGreatDoorCombinesA
import Derived.Test.YtbofonlhakedpaaGreatDoorAwa
import Derived.Test.YtbofonlhakedpaaGreatDoorSou
import Derived.Lay
import Derived.LaidMore
import Derived.Deep.DeepHandedRow
/- ValueCombines: the row's contract and its witness. -/
namespace Go.Proofs.YtbofonlhakedpaaGreatDoor
open Go.ChangeShapes Go.WideShapes Go.ChangeAt Go.RowKit Go.Tv
set_option maxRecDepth 100000
set_option maxHeartbeats 100000000

theorem own : ownKnob Tryz.prog.godebug = none := by kernel_rfl
theorem laidOut : laidOutB Tryz.prog = true := by kernel_rfl
theorem read24 : Tryz.prog.readableRec 24 = true := by kernel_rfl
theorem row24 : 24 < Tryz.prog.types.size := by decide +kernel
theorem read22 : Tryz.prog.readableRec 22 = true := by kernel_rfl
theorem row22 : 22 < Tryz.prog.types.size := by decide +kernel

theorem combines_contract (H : Type) (enc : TypeId × Value → H) (W : World) (base : Nat) (args : Array Value) (ds gs : List (DataW H)) (before : List MemPlace)
    (hval : ∀ (j : Nat) t v, Tryz.f9.params[j]? = some t → args[j]? = some v → Value.okWide Tryz.prog W .any base t v)
    (hW : DataW.Whole enc Tryz.prog Tryz.f9.params.toList Rows.valueCombinesSpec.vars false W args.toList ds gs before) (hS : W.ShapedOpen Tryz.prog) :
    Calls Tryz.prog 9 args W fun e W' => ∃ v, e = .returned v ∧ Rows.valueCombinesSpec.post enc Tryz.prog Tryz.f9 false true false false W args v W' := by
  have hW' := hW
  have hlt := hW.lt
  obtain ⟨p, q, hA0, hV, rfl, hfz, hnd⟩ := hW
  have hA : DataW.TrodAll enc Tryz.prog W 0 (fun _ => true) true Tryz.f9.params.toList args.toList ds p := hA0
  rw [Tryz.params9] at hA hval
  obtain ⟨v0, v1, v2, d0, d1, d2, p0, p1, p2, rfl, rfl, rfl, h0, h1, h2⟩ := trodAll_three hA
  obtain ⟨rfl, rfl⟩ := trodVars_none hV
  obtain ⟨x0, rfl, rfl, rfl, s0⟩ := open_int und3p (hval 0 3 v0 rfl rfl) h0
  obtain ⟨x1, r1, s1⟩ := arg24 h1 (hval 1 24 v1 rfl rfl)
  obtain ⟨x2, r2, s2⟩ := arg24 h2 (hval 2 24 v2 rfl rfl)
  have hc := c9 (acall_nil rfl awake08) x0 x1 x2 [] s1 s2
  have hr : RepL (Env.all W) [.int .i64 x0, x1.av, x2.av] #[.int .i64 x0, v1, v2] := ⟨rfl, fun i hi => by
    match i, hi with
    | 0, _ => exact .int _ _
    | 1, _ => exact r1
    | 2, _ => exact r2⟩
  refine (run_true rfl hc hS hr).mono fun e W' ⟨he, hb⟩ => ?_
  subst he
  have t1 := Below.trod laidOut read24 row24 h1 hb fun y hy => hlt y (by simp [hy])
  have t2 := Below.trod laidOut read24 row24 h2 hb fun y hy => hlt y (by simp [hy])
  exact ⟨_, rfl, _, _, _, [], ([] ++ (p1 ++ p2)), [], hW', trodAll_mk1 (shut_bool und4p _), trodAll_mk3 (shut_int und3p s0) t1 t2, rfl, hb.frame _, fun h => by cases h⟩

theorem witness_laid (os : Os) (args : Array Value) : laidMetH Tryz.prog Rows.valueCombinesRow.laid ((World.laidAll Tryz.prog os Rows.valueCombinesRow.laid).forCall (fun _ _ => 0) ⟨#[], args, []⟩).memory := by
  rw [MakeChecks.laidMetH_plain _ _ _ (by kernel_rfl)]
  exact laidMet_laidAll _ (by kernel_rfl) (by kernel_rfl)
noncomputable def zeroArgs : Array Value := #[.int .i64 0, .agg #[.int .i64 0, .int .i64 0, .string ⟨#[]⟩, .slice none 0 0, .slice none 0 0], .agg #[.int .i64 0, .int .i64 0, .string ⟨#[]⟩, .slice none 0 0, .slice none 0 0]]

theorem combines_lifted (os : Os) (started : os.Started) (H : Type) (enc : TypeId × Value → H) (F : Stop.Interp) :
    ReturnsInHanded {} Tryz.checked os 9 .any ((OpenSpec.ofChange Rows.valueCombinesSpec).preRow enc Tryz.prog Tryz.f9 Rows.valueCombinesRow.domain false Rows.valueCombinesRow.laid) (((OpenSpec.ofChange Rows.valueCombinesSpec).at F).post enc Tryz.prog Tryz.f9 false true false false) := by
  refine returnsInHanded_of_row (C := Tryz.checked) (s := OpenSpec.ofChange Rows.valueCombinesSpec) own started (by kernel_rfl) Tryz.func9
    (ChangeSpec.witness_shaped (enc := enc) (C := Tryz.checked) (os := os) (X := fun w _ => laidMetH Tryz.prog Rows.valueCombinesRow.laid w) false (World.laidAll Tryz.prog os Rows.valueCombinesRow.laid) zeroArgs 8 (World.laidAll_os _ _ _)
      (World.shaped_of_ZipB (by kernel_rfl) (by kernel_rfl)) (by kernel_rfl) (by kernel_rfl) (by kernel_rfl) (witness_laid os _)) ?_
  intro W base args ds gs before hval hW _ _ _ hL hS _
  exact combines_contract H enc W base args ds gs before hval hW hS
end Go.Proofs.YtbofonlhakedpaaGreatDoor
