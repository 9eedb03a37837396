/-
  ValueAlgebra, from every world that fits: it returns true, and its arguments read as before.
-/
import Derived.Test.YtbofonlhakedpaaGreatDoorCards
import Derived.Test.YtbofonlhakedpaaGreatDoorTie
import Derived.Test.YtbofonlhakedpaaGreatDoorAlgebraA
import Derived.Test.YtbofonlhakedpaaGreatDoorAwa
import Derived.Test.YtbofonlhakedpaaGreatDoorSop
import Derived.Lay
import Derived.LaidMore
import Derived.Deep.DeepHandedRow
/- ValueAlgebra: the row's contract and its witness. -/
namespace Go.Proofs.YtbofonlhakedpaaGreatDoor
open Go.ChangeShapes Go.WideShapes Go.ChangeAt Go.RowKit Go.Tv
set_option maxRecDepth 100000
set_option maxHeartbeats 100000000

theorem own : ownKnob Tryz.prog.godebug = none := by kernel_rfl
theorem laidOut : laidOutB Tryz.prog = true := by kernel_rfl
theorem read24 : Tryz.prog.readableRec 24 = true := by kernel_rfl
theorem row24 : 24 < Tryz.prog.types.size := by decide +kernel
theorem read22 : Tryz.prog.readableRec 22 = true := by kernel_rfl
theorem row22 : 22 < Tryz.prog.types.size := by decide +kernel
theorem read63 : Tryz.prog.readableRec 63 = true := by kernel_rfl
theorem row63 : 63 < Tryz.prog.types.size := by decide +kernel

theorem algebra_contract (H : Type) (enc : TypeId × Value → H) (W : World) (base : Nat) (args : Array Value) (ds gs : List (DataW H)) (before : List MemPlace)
    (hval : ∀ (j : Nat) t v, Tryz.f11.params[j]? = some t → args[j]? = some v → Value.okWide Tryz.prog W .any base t v)
    (hW : DataW.Whole enc Tryz.prog Tryz.f11.params.toList Rows.valueAlgebraSpec.vars false W args.toList ds gs before) (hS : W.ShapedOpen Tryz.prog) :
    Calls Tryz.prog 11 args W fun e W' => ∃ v, e = .returned v ∧ Rows.valueAlgebraSpec.post enc Tryz.prog Tryz.f11 false true false false W args v W' := by
  have hW' := hW
  have hlt := hW.lt
  obtain ⟨p, q, hA0, hV, rfl, hfz, hnd⟩ := hW
  have hA : DataW.TrodAll enc Tryz.prog W 0 (fun _ => true) true Tryz.f11.params.toList args.toList ds p := hA0
  rw [Tryz.params11] at hA hval
  obtain ⟨v0, v1, v2, d0, d1, d2, p0, p1, p2, rfl, rfl, rfl, h0, h1, h2⟩ := trodAll_three hA
  obtain ⟨rfl, rfl⟩ := trodVars_none hV
  obtain ⟨x0, r0, s0⟩ := arg24 h0 (hval 0 24 v0 rfl rfl)
  obtain ⟨x1, r1, s1⟩ := arg24 h1 (hval 1 24 v1 rfl rfl)
  obtain ⟨x2, r2, s2⟩ := arg63 h2 (hval 2 63 v2 rfl rfl)
  have hc := c11 (acall_nil rfl awake08) x0 x1 x2 [] s0 s1 s2
  have hr : RepL (Env.all W) [x0.av, x1.av, .list (ravs x2) none] #[v0, v1, v2] := ⟨rfl, fun i hi => by
    match i, hi with
    | 0, _ => exact r0
    | 1, _ => exact r1
    | 2, _ => exact r2⟩
  refine (run_true rfl hc hS hr).mono fun e W' ⟨he, hb⟩ => ?_
  subst he
  have t0 := Below.trod laidOut read24 row24 h0 hb fun y hy => hlt y (by simp [hy])
  have t1 := Below.trod laidOut read24 row24 h1 hb fun y hy => hlt y (by simp [hy])
  have t2 := Below.trod laidOut read63 row63 h2 hb fun y hy => hlt y (by simp [hy])
  exact ⟨_, rfl, _, _, _, [], (p0 ++ (p1 ++ p2)), [], hW', trodAll_mk1 (shut_bool und4p _), trodAll_mk3 t0 t1 t2, rfl, hb.frame _, fun h => by cases h⟩

theorem witness_laid (os : Os) (args : Array Value) : laidMetH Tryz.prog Rows.valueAlgebraRow.laid ((World.laidAll Tryz.prog os Rows.valueAlgebraRow.laid).forCall (fun _ _ => 0) ⟨#[], args, []⟩).memory := by
  rw [MakeChecks.laidMetH_plain _ _ _ (by kernel_rfl)]
  exact laidMet_laidAll _ (by kernel_rfl) (by kernel_rfl)
noncomputable def zeroArgs : Array Value := #[.agg #[.int .i64 0, .int .i64 0, .string ⟨#[]⟩, .slice none 0 0, .slice none 0 0], .agg #[.int .i64 0, .int .i64 0, .string ⟨#[]⟩, .slice none 0 0, .slice none 0 0], .slice none 0 0]

theorem algebra_lifted (os : Os) (started : os.Started) (H : Type) (enc : TypeId × Value → H) (F : Stop.Interp) :
    ReturnsInHanded {} Tryz.checked os 11 .any ((OpenSpec.ofChange Rows.valueAlgebraSpec).preRow enc Tryz.prog Tryz.f11 Rows.valueAlgebraRow.domain false Rows.valueAlgebraRow.laid) (((OpenSpec.ofChange Rows.valueAlgebraSpec).at F).post enc Tryz.prog Tryz.f11 false true false false) := by
  refine returnsInHanded_of_row (C := Tryz.checked) (s := OpenSpec.ofChange Rows.valueAlgebraSpec) own started (by kernel_rfl) Tryz.func11
    (ChangeSpec.witness_shaped (enc := enc) (C := Tryz.checked) (os := os) (X := fun w _ => laidMetH Tryz.prog Rows.valueAlgebraRow.laid w) false (World.laidAll Tryz.prog os Rows.valueAlgebraRow.laid) zeroArgs 8 (World.laidAll_os _ _ _)
      (World.shaped_of_ZipB (by kernel_rfl) (by kernel_rfl)) (by kernel_rfl) (by kernel_rfl) (by kernel_rfl) (witness_laid os _)) ?_
  intro W base args ds gs before hval hW _ _ _ hL hS _
  exact algebra_contract H enc W base args ds gs before hval hW hS
end Go.Proofs.YtbofonlhakedpaaGreatDoor
