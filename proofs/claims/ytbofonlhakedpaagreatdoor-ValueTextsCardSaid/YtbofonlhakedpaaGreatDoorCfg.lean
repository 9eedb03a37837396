/-
  The configuration of the evaluator for this program.
-/
import Derived.Test.YtbofonlhakedpaaGreatDoorPla
import Derived.Lib.Join
import Derived.Lib.Case
import Derived.Lib.ItoaNum
import Derived.Lib.IndexMore
import Derived.Test.YtbofonlhakedpaaGreatDoorProg
namespace Go.Tv
open Go.Proofs
open Go.RowKit (Below)
def extF (f : FuncId) : Option (List AV -> Option AV) := if f = 260 then some fun | [.str a, .str b] => some (.int .i64 (cmpB a b)) | _ => none else none
def strs : List AV -> Option (List (List UInt8))
  | [] => some []
  | .str s :: r => match strs r with | some l => some (s :: l) | none => none
  | _ => none
def containsF : List AV -> Option AV
  | [.str s, .str t] => if s.length < 4294967281 then some (.bool (Lib.contains s t)) else none
  | _ => none
def joinF : List AV -> Option AV
  | [.list l none, .str t] => match strs l with
    | some x => if (Lib.join x t).length ≤ 140737488355328 && decide (l.length ≤ 140737488355328) then some (.str (Lib.join x t)) else none
    | none => none
  | _ => none
def upperF : List AV -> Option AV
  | [.str s] => if s.length ≤ 140737488355328 && s.all (fun b => decide (b.toNat < 128)) then some (.str (Lib.toUpperA s)) else none
  | _ => none
def itoaF : List AV -> Option AV
  | [.int .i64 n] => if -9223372036854775808 ≤ n /\ n ≤ 9223372036854775807 then some (.str (Lib.itoa n)) else none
  | _ => none
def primF (f : FuncId) : Option (List AV -> Option AV) :=
  if f = 205 then some containsF else if f = 195 then some joinF else if f = 141 then some upperF else if f = 143 then some itoaF else none
def realF (f : FuncId) : FuncId := if f < 10000 then f else f - 10000
def al0 (g : FuncId) : FuncId := if g < 10000 then g else g + 10000
def arrsF (f : FuncId) : Bool := f == 172 || f == 101 || f == 10097 || f == 10078 || f == 10181
def makesF (f : FuncId) : Bool := f == 172 || f == 144 || f == 10097 || f == 10116 || f == 10078 || f == 10016 || f == 10181
def frzF (f : FuncId) : Bool := f == 100 || f == 101 || f == 109
def frzAF (f : FuncId) : Bool := f == 10098 || f == 10051
def keepF (f : FuncId) : Bool := f == 10181
def varyF (f g : FuncId) : FuncId :=
  if f = 54 then (if g = 116 then 10116 else if g = 98 then 10098 else al0 g)
  else if f = 57 then (if g = 16 then 10016 else if g = 51 then 10051 else al0 g)
  else if f = 10116 then (if g = 97 then 10097 else al0 g)
  else if f = 10016 then (if g = 78 then 10078 else al0 g)
  else if f = 109 then (if g = 181 then 10181 else al0 g)
  else al0 g
def variesF (f : FuncId) : Bool := f == 54 || f == 57 || f == 10116 || f == 10016 || f == 109
def prF (z : Bool) (f : FuncId) : Option (List AV -> Option AV) := if z then none else primF f
def cntOk (v : V) : Bool := decide (v.cnt ≤ 1000000000)
def replF : List AV -> Heap -> Option (AV × Heap)
  | [.ptr id 0, .str s], H => match H[id]? with
    | some (.cells [.int .u32 0, .int .i32 0, .int .u32 0, .nilIface, .list l _] 222) => match strs l with
      | some [[34], [92, 34], [92], [92, 92]] => if s.length ≤ 1000000000 then some (.str (quoS s), H.set id .dead) else none
      | _ => none
    | _ => none
  | _, _ => none
theorem replF_frame {args : List AV} {H H' : Heap} {v : AV} (h : replF args H = some (v, H')) : H.length ≤ H'.length /\ ∀ id, id < H.length -> (reachL H args).contains id = false -> H'[id]? = H[id]? := by
  unfold replF at h
  split at h <;> try (cases h; done)
  rename_i id s
  split at h <;> try (cases h; done)
  rename_i l tok hi
  split at h <;> try (cases h; done)
  split at h <;> try (cases h; done)
  injection h with h; injection h with h1 h2; subst h1 h2
  refine ⟨by simp, fun j hj hR => ?_⟩
  by_cases e : id = j
  . subst e
    have : id ∈ reachL H [.ptr id 0, .str s] := reach_first hi
    rw [List.contains_iff_mem.2 this] at hR; cases hR
  . rw [List.getElem?_set_ne e]
def hprF (z : Bool) (f : FuncId) : Option (List AV -> Heap -> Option (AV × Heap)) :=
  if z then none else if f = 145 then some replF else if f = 173 then some (sortH 5 83 unV (fun v => v.av.cells) cmpV cntOk)
  else if f = 176 then some (sortH 10 177 unP P2.cells cmpP fun p => cntOk p.1 && cntOk p.2) else none
def tabF (z : Bool) (g : Nat) : Option (Obj -> Prop) := if z then none else if g = 4 then some fun o => ∃ T z, o = .cells (Lib.pow10Tab.map fun z => Value.int .u64 z).toArray T z else none
noncomputable def CX (z a : Bool) (al : FuncId -> FuncId) : Cfg :=
  { P := Tryz.prog, makes := makesF, glob := fun _ => none, ext := extF, prim := prF z, ints := if z then [] else [0], arrs := arrsF, frz := frzF, arr := a, clone := fun f => f = 172,
    hprim := hprF z, real := realF, alias := al, vary := varyF, frzA := frzAF, keep := keepF, dr := z, tab := tabF z }
noncomputable abbrev CZ (z : Bool) : Cfg := CX z false al0
noncomputable abbrev CC : Cfg := CX false false al0
theorem ext_run (a b : ByteArray) (w : World) : (callFunc 260 #[.string a, .string b]).run Tryz.prog w = .ok (.value (.int .i64 (cmpB a.data.toList b.data.toList))) w := by
  rw [<- cmp_eq]
  have h1 : Tryz.prog.funcs[260]? = some Tryz.f260 := by kernel_rfl
  have h2 : (Tryz.f260.name == "runtime.NumGoroutine") = false := by kernel_rfl
  have h3 : Tryz.f260.body.isNone = true := by kernel_rfl
  have h4 : Extern.findNext Tryz.f260 = none := by kernel_rfl
  have h5 : Extern.find Tryz.f260 = some Extern.BytealgCompare.compare := by kernel_rfl
  simp only [callFunc, Sem.run_bind, run_program, Result.andThen_ok, h1, h2, h3, Bool.false_eq_true, if_false, if_true, h4, h5]
  rfl
theorem str_rep {E : Env} (l : List UInt8) : Rep E (.str l) (.string ⟨l.toArray⟩) := by
  have := Rep.str (E := E) ⟨l.toArray⟩
  simpa using this
end Go.Tv
