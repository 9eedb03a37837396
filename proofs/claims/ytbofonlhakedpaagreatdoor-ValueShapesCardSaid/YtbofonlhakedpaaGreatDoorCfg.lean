/-
  The configuration of the evaluator for this program.
-/
import Derived.Test.YtbofonlhakedpaaGreatDoorPla
import Derived.Lib.Join
import Derived.Lib.Case
import Derived.Lib.ItoaNum
import Derived.Lib.IndexMore
import Derived.Test.YtbofonlhakedpaaGreatDoorProg
/- The functions of the library that the program calls, as the evaluator takes them (seat ZD). -/
namespace Go.Tv
open Go.Proofs
open Go.RowKit (Below)

def extF (f : FuncId) : Option (List AV → Option AV) := if f = 260 then some fun | [.str a, .str b] => some (.int .i64 (cmpB a b)) | _ => none else none
def strs : List AV → Option (List (List UInt8))
  | [] => some []
  | .str s :: r => match strs r with | some l => some (s :: l) | none => none
  | _ => none
def containsF : List AV → Option AV
  | [.str s, .str t] => if s.length < 4294967281 then some (.bool (Lib.contains s t)) else none
  | _ => none
def joinF : List AV → Option AV
  | [.list l none, .str t] => match strs l with
    | some x => if (Lib.join x t).length ≤ 140737488355328 && decide (l.length ≤ 140737488355328) then some (.str (Lib.join x t)) else none
    | none => none
  | _ => none
def upperF : List AV → Option AV
  | [.str s] => if s.length ≤ 140737488355328 && s.all (fun b => decide (b.toNat < 128)) then some (.str (Lib.toUpperA s)) else none
  | _ => none
def itoaF : List AV → Option AV
  | [.int .i64 n] => if 0 ≤ n ∧ n < 100 then some (.str (Lib.decDigits n.toNat)) else none
  | _ => none
def primF (f : FuncId) : Option (List AV → Option AV) :=
  if f = 205 then some containsF else if f = 195 then some joinF else if f = 141 then some upperF else if f = 143 then some itoaF else none

noncomputable def CC : Cfg := { P := Tryz.prog, makes := fun f => f = 172, glob := fun _ => none, ext := extF, prim := primF, ints := [0], arrs := fun f => f = 172, frz := fun f => f = 100, arr := false, clone := fun f => f = 172 }

theorem ext_run (a b : ByteArray) (w : World) : (callFunc 260 #[.string a, .string b]).run Tryz.prog w = .ok (.value (.int .i64 (cmpB a.data.toList b.data.toList))) w := by
  rw [← cmp_eq]
  have h1 : Tryz.prog.funcs[260]? = some Tryz.f260 := by kernel_rfl
  have h2 : (Tryz.f260.name == "runtime.NumGoroutine") = false := by kernel_rfl
  have h3 : Tryz.f260.body.isNone = true := by kernel_rfl
  have h4 : Extern.findNext Tryz.f260 = none := by kernel_rfl
  have h5 : Extern.find Tryz.f260 = some Extern.BytealgCompare.compare := by kernel_rfl
  simp only [callFunc, Sem.run_bind, run_program, Result.andThen_ok, h1, h2, h3, Bool.false_eq_true, if_false, if_true, h4, h5]
  rfl

theorem str_rep {E : Env} (l : List UInt8) : Rep E (.str l) (.string ⟨l.toArray⟩) := by
  have := Rep.str (E := E) ⟨l.toArray⟩
  simpa using this
end Go.Tv
