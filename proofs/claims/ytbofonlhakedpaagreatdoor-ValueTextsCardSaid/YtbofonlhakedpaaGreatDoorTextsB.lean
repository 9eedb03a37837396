/-
  ValueTexts, from every world that fits: it returns true, and its arguments read as before.
-/
import Derived.Test.YtbofonlhakedpaaGreatDoorCards
import Derived.Test.YtbofonlhakedpaaGreatDoorTie
import Derived.Test.YtbofonlhakedpaaGreatDoorTextsA
import Derived.Test.YtbofonlhakedpaaGreatDoorAwa
import Derived.Test.YtbofonlhakedpaaGreatDoorSou
import Derived.Lay
import Derived.LaidMore
import Derived.ChangeMaps5
import Derived.Deep.DeepHandedRow
namespace Go.Proofs.YtbofonlhakedpaaGreatDoor
open Go.ChangeShapes Go.WideShapes Go.ChangeAt Go.RowKit Go.Tv
set_option maxRecDepth 100000
set_option maxHeartbeats 100000000
theorem own : ownKnob Tryz.prog.godebug = none := by kernel_rfl
theorem laidOut : laidOutB Tryz.prog = true := by kernel_rfl
theorem read24 : Tryz.prog.readableRec 24 = true := by kernel_rfl
theorem row24 : 24 < Tryz.prog.types.size := by decide +kernel
theorem texts_contract (H : Type) (enc : TypeId × Value -> H) (W : World) (base : Nat) (args : Array Value) (ds gs : List (DataW H)) (before : List MemPlace)
    (hval : ∀ (j : Nat) t v, Tryz.f5.params[j]? = some t -> args[j]? = some v -> Value.okWide Tryz.prog W .any base t v)
    (hW : DataW.Whole enc Tryz.prog Tryz.f5.params.toList Rows.valueTextsSpec.vars false W args.toList ds gs before) (hS : W.ShapedOpen Tryz.prog) (hT : TabAt W) :
    Calls Tryz.prog 5 args W fun e W' => ∃ v, e = .returned v /\ Rows.valueTextsSpec.post enc Tryz.prog Tryz.f5 false true false false W args v W' := by
  have hW' := hW
  have hlt := hW.lt
  obtain ⟨p, q, hA0, hV, rfl, hfz, hnd⟩ := hW
  have hA : DataW.TrodAll enc Tryz.prog W 0 (fun _ => true) true Tryz.f5.params.toList args.toList ds p := hA0
  rw [Tryz.params5] at hA hval
  obtain ⟨v0, v1, v2, d0, d1, d2, p0, p1, p2, rfl, rfl, rfl, h0, h1, h2⟩ := trodAll_three hA
  obtain ⟨rfl, rfl⟩ := trodVars_none hV
  obtain ⟨x0, r0, s0⟩ := arg24 h0 (hval 0 24 v0 rfl rfl)
  obtain ⟨x1, rfl, rfl, rfl, s1⟩ := open_int und3p (hval 1 3 v1 rfl rfl) h1
  obtain ⟨x2, rfl, rfl, rfl, s2⟩ := Go.ChangeMaps.open_string und9p (hval 2 9 v2 rfl rfl) h2
  have hc := c5 (acall_nil rfl awake08) x0 x1 x2.data.toList [] s0
  have hr : RepL (Env.all W) [x0.av, .int .i64 x1, .str x2.data.toList] #[v0, .int .i64 x1, .string x2] := ⟨rfl, fun i hi => by
    match i, hi with
    | 0, _ => exact r0
    | 1, _ => exact .int _ _
    | 2, _ => exact .str _⟩
  refine (run_true rfl hc hS hT hr).mono fun e W' ⟨he, hb⟩ => ?_
  subst he
  have t0 := Below.trod laidOut read24 row24 h0 hb fun y hy => hlt y (by simp [hy])
  exact ⟨_, rfl, _, _, _, [], (p0 ++ ([] ++ [])), [], hW', trodAll_mk1 (shut_bool und4p _), trodAll_mk3 t0 (shut_int und3p s1) (Go.ChangeMaps.shut_string und9p s2), rfl, hb.frame _, fun h => by cases h⟩
theorem pow_data : (Rows.laid_internal_strconv_uint64pow10 : DataW Unit) = Lib.tabData .u64 Lib.pow10Tab := by kernel_rfl
theorem texts_lists : ("internal/strconv.uint64pow10", (Rows.laid_internal_strconv_uint64pow10 : DataW Unit)) ∈ Rows.valueTextsRow.laid := by
  unfold Rows.valueTextsRow; simp
theorem witness_laid (os : Os) (args : Array Value) : laidMetH Tryz.prog Rows.valueTextsRow.laid ((World.laidAll Tryz.prog os Rows.valueTextsRow.laid).forCall (fun _ _ => 0) ⟨#[], args, []⟩).memory := by
  rw [MakeChecks.laidMetH_plain _ _ _ (by kernel_rfl)]
  exact laidMet_laidAll _ (by kernel_rfl) (by kernel_rfl)
noncomputable def zeroArgs : Array Value := #[.agg #[.int .i64 0, .int .i64 0, .string ⟨#[]⟩, .slice none 0 0, .slice none 0 0], .int .i64 0, .string ⟨#[]⟩]
theorem texts_lifted (os : Os) (started : os.Started) (H : Type) (enc : TypeId × Value -> H) (F : Stop.Interp) :
    ReturnsInHanded {} Tryz.checked os 5 .any ((OpenSpec.ofChange Rows.valueTextsSpec).preRow enc Tryz.prog Tryz.f5 Rows.valueTextsRow.domain false Rows.valueTextsRow.laid) (((OpenSpec.ofChange Rows.valueTextsSpec).at F).post enc Tryz.prog Tryz.f5 false true false false) := by
  refine returnsInHanded_of_row (C := Tryz.checked) (s := OpenSpec.ofChange Rows.valueTextsSpec) own started (by kernel_rfl) Tryz.func5
    (ChangeSpec.witness_shaped (enc := enc) (C := Tryz.checked) (os := os) (X := fun w _ => laidMetH Tryz.prog Rows.valueTextsRow.laid w) false (World.laidAll Tryz.prog os Rows.valueTextsRow.laid) zeroArgs 8 (World.laidAll_os _ _ _)
      (World.shaped_of_ZipB (by kernel_rfl) (by kernel_rfl)) (by kernel_rfl) (by kernel_rfl) (by kernel_rfl) (witness_laid os _)) ?_
  intro W base args ds gs before hval hW _ _ _ hL hS _
  exact texts_contract H enc W base args ds gs before hval hW hS (tab_of_laid rfl (by rw [MakeChecks.laidMetH_plain _ _ _ (by kernel_rfl)] at hL; exact hL) (pow_data ▸ texts_lists))
end Go.Proofs.YtbofonlhakedpaaGreatDoor
