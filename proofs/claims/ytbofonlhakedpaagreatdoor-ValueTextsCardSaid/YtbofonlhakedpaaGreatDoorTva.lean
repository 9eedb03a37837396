/-
  The evaluator of trees, its first part (definitions, the memory, what one operation does): each step of the evaluator is a step of the program.
-/
import Derived.WalkKit
import Derived.Orders
import Derived.Laws.StructEq
import Derived.Lib.ConvBytes
import Derived.Laws.BytesArg
import Derived.Great.BuildSlice
namespace Go.Tv
inductive AV where
  | bool (b : Bool)
  | int (k : IntKind) (n : Int)
  | str (s : List UInt8)
  | nilFn
  | nilIface
  | nilPtr
  | nilMap
  | mapr (id : Nat)
  | agg (cs : List AV)
  | tup (vs : List AV)
  | list (els : List AV) (tok : Option Nat)
  | empty
  | tptr (cs : List AV)
  | ptr (id off : Nat)
  | slc (id off n sz : Nat) (ag : Bool)
  | nilS
  | someS
  | fn (f : Fn) (first cap : List AV)
  | iface (t : TypeId) (v : AV)
  deriving Inhabited
def AV.cells : AV -> List AV
  | .agg cs => cs
  | v => [v]
def AV.undef : AV := .tup []
def AV.one : AV -> Bool
  | .agg _ | .tup _ => false
  | _ => true
def flat (els : List AV) : List AV := els.flatMap AV.cells
inductive AObj where
  | cells (cs : List AV) (T : TypeId)
  | tail (n sz : Nat)
  | amap (es : List (List UInt8 × AV))
  | siter (s : List UInt8) (pos : Nat)
  | dead
  deriving Inhabited
abbrev Heap := List AObj
structure Env where
  st : Nat -> Nat -> Option Value
  f : Nat -> Option (Nat × Nat × Nat)
  n : Nat
  /-- the draws are counted -/
  d : Prop
  /-- blocks that are known whole -/
  k : Nat -> Option Obj
structure Env.le (E E' : Env) : Prop where
  st : ∀ b o v, E.st b o = some v -> E'.st b o = some v
  f : ∀ i p, E.f i = some p -> E'.f i = some p
  n : E.n ≤ E'.n
  d : E'.d = E.d
  k : E'.k = E.k
theorem Env.le_refl (E : Env) : E.le E := ⟨fun _ _ _ h => h, fun _ _ h => h, Nat.le_refl _, rfl, rfl⟩
theorem Env.le_trans {A B C : Env} (h : A.le B) (k : B.le C) : A.le C :=
  ⟨fun b o v x => k.st b o v (h.st b o v x), fun i p x => k.f i p (h.f i p x), Nat.le_trans h.n k.n, k.d.trans h.d, k.k.trans h.k⟩
def TokOk (E : Env) (els : List AV) (cap : Nat) (base : Option Addr) : Option Nat -> Prop
  | none => True
  | some id => ∃ b nc sz, E.f id = some (b, nc, sz) /\ base = some ⟨b, 0, none⟩ /\ cap * sz ≤ nc /\ ∀ e ∈ els, e.cells.length = sz
inductive Rep (E : Env) : AV -> Value -> Prop where
  | bool (b : Bool) : Rep E (.bool b) (.bool b)
  | int (k : IntKind) (n : Int) : Rep E (.int k n) (.int k n)
  | str (s : ByteArray) : Rep E (.str s.data.toList) (.string s)
  | nilFn : Rep E .nilFn .nilFunc
  | nilIface : Rep E .nilIface .nilIface
  | nilPtr : Rep E .nilPtr (.pointer none)
  | nilMap : Rep E .nilMap (.map none)
  | mapr (id b nc sz : Nat) (h : E.f id = some (b, nc, sz)) : Rep E (.mapr id) (.map (some b))
  | agg (cs : List AV) (vs : Array Value) (hn : cs.length = vs.size) (hr : ∀ i, i < cs.length -> Rep E (cs.getD i .empty) (vs.getD i undef)) : Rep E (.agg cs) (.agg vs)
  | tup (cs : List AV) (vs : Array Value) (hn : cs.length = vs.size) (hr : ∀ i, i < cs.length -> Rep E (cs.getD i .empty) (vs.getD i undef)) : Rep E (.tup cs) (.tuple vs)
  | list (els : List AV) (tok : Option Nat) (base : Option Addr) (cap : Nat) (vs : Nat -> Value)
      (hu : ∃ sz, ∀ e ∈ els, e.cells.length = sz)
      (hs : ∀ k, k < (flat els).length -> ∃ a, base = some a /\ a.spot = none /\ E.st a.block (a.off + k) = some (vs k))
      (hr : ∀ k, k < (flat els).length -> Rep E ((flat els).getD k .empty) (vs k))
      (hb : els ≠ [] -> base.isSome = true)
      (hc : els.length ≤ cap) (ht : TokOk E els cap base tok) : Rep E (.list els tok) (.slice base els.length cap)
  | empty (base : Option Addr) : Rep E .empty (.slice base 0 0)
  | tptr (cs : List AV) (a : Addr) (vs : Nat -> Value) (ha : a.spot = none)
      (hs : ∀ k, k < cs.length -> E.st a.block (a.off + k) = some (vs k)) (hr : ∀ k, k < cs.length -> Rep E (cs.getD k .empty) (vs k)) : Rep E (.tptr cs) (.pointer (some a))
  | ptr (id off b nc sz : Nat) (h : E.f id = some (b, nc, sz)) : Rep E (.ptr id off) (.pointer (some ⟨b, off, none⟩))
  | slc (id off n sz : Nat) (ag : Bool) (b nc szo cap o : Nat) (h : E.f id = some (b, nc, szo)) (hc : n ≤ cap) (ho : 0 < cap -> o = off) (hz : o + cap * sz ≤ nc) : Rep E (.slc id off n sz ag) (.slice (some ⟨b, o, none⟩) n cap)
  | nilS (cap : Nat) : Rep E .nilS (.slice none 0 cap)
  | someS (a : Addr) (cap : Nat) : Rep E .someS (.slice (some a) 0 cap)
  | fn (f : Fn) (first cap : List AV) (fs cs : Array Value) (hf : first.length = fs.size) (hrf : ∀ i, i < first.length -> Rep E (first.getD i .empty) (fs.getD i undef))
      (hc : cap.length = cs.size) (hrc : ∀ i, i < cap.length -> Rep E (cap.getD i .empty) (cs.getD i undef)) : Rep E (.fn f first cap) (.func f fs cs)
  | iface (t : TypeId) (v : AV) (x : Value) (h : Rep E v x) : Rep E (.iface t v) (.iface t x)
theorem TokOk.mono {E E' : Env} (h : E.le E') {els : List AV} {cap : Nat} {base : Option Addr} {tok : Option Nat} (k : TokOk E els cap base tok) : TokOk E' els cap base tok := by
  cases tok with
  | none => trivial
  | some id => obtain ⟨b, nc, sz, h1, h2⟩ := k; exact ⟨b, nc, sz, h.f _ _ h1, h2⟩
theorem Rep.mono {E E' : Env} (h : E.le E') {v : AV} {x : Value} (r : Rep E v x) : Rep E' v x := by
  induction r with
  | bool b => exact .bool b
  | int k n => exact .int k n
  | str s => exact .str s
  | nilFn => exact .nilFn
  | nilIface => exact .nilIface
  | nilPtr => exact .nilPtr
  | nilMap => exact .nilMap
  | mapr id b nc sz hf => exact .mapr id b nc sz (h.f _ _ hf)
  | agg cs vs hn _ ih => exact .agg cs vs hn ih
  | tup cs vs hn _ ih => exact .tup cs vs hn ih
  | list els tok base cap vs hu hs _ hb hc ht ih =>
    exact .list els tok base cap vs hu (fun k hk => let ⟨a, h1, h2, h3⟩ := hs k hk; ⟨a, h1, h2, h.st _ _ _ h3⟩) ih hb hc (ht.mono h)
  | empty base => exact .empty base
  | tptr cs a vs ha hs _ ih => exact .tptr cs a vs ha (fun k hk => h.st _ _ _ (hs k hk)) ih
  | ptr id off b nc sz hf => exact .ptr id off b nc sz (h.f _ _ hf)
  | slc id off n sz ag b nc szo cap o hf hc ho hz => exact .slc id off n sz ag b nc szo cap o (h.f _ _ hf) hc ho hz
  | nilS cap => exact .nilS cap
  | someS a cap => exact .someS a cap
  | fn f first cap fs cs hf _ hc _ i1 i2 => exact .fn f first cap fs cs hf i1 hc i2
  | iface t v x _ ih => exact .iface t v x ih
structure RepL (E : Env) (cs : List AV) (vs : Array Value) : Prop where
  size : cs.length = vs.size
  get : ∀ i, i < cs.length -> Rep E (cs.getD i .empty) (vs.getD i undef)
theorem RepL.mono {E E' : Env} (h : E.le E') {cs : List AV} {vs : Array Value} (r : RepL E cs vs) : RepL E' cs vs :=
  ⟨r.size, fun i hi => (r.get i hi).mono h⟩
structure RepP (E : Env) (cs : List AV) (vs : Array Value) : Prop where
  size : cs.length ≤ vs.size
  get : ∀ i, i < cs.length -> Rep E (cs.getD i .empty) (vs.getD i undef)
theorem RepP.mono {E E' : Env} (h : E.le E') {cs : List AV} {vs : Array Value} (r : RepP E cs vs) : RepP E' cs vs :=
  ⟨r.size, fun i hi => (r.get i hi).mono h⟩
theorem RepL.part {E : Env} {cs : List AV} {vs : Array Value} (r : RepL E cs vs) : RepP E cs vs := ⟨Nat.le_of_eq r.size, r.get⟩
def MsRel (E : Env) : List (List UInt8 × AV) -> List MapEntry -> Prop
  | [], [] => True
  | e :: r, m :: s => (m.key = .string ⟨e.1.toArray⟩ /\ Rep E e.2 m.val /\ e.2.one = true) /\ MsRel E r s
  | _, _ => False
theorem MsRel.mono {E E' : Env} (h : E.le E') : ∀ {es : List (List UInt8 × AV)} {ms : List MapEntry}, MsRel E es ms -> MsRel E' es ms
  | [], [], _ => trivial
  | _ :: _, _ :: _, ⟨⟨a, b, c⟩, d⟩ => ⟨⟨a, b.mono h, c⟩, d.mono h⟩
  | [], _ :: _, k => k.elim
  | _ :: _, [], k => k.elim
def ObjRel (E : Env) (w : World) (b nc sz : Nat) : AObj -> Prop
  | .cells cs T => ∃ vs, w.heap[b]? = some (.cells vs T (0, 0)) /\ vs.size = nc /\ RepP E cs vs /\ ∀ o, E.st b o = none
  | .tail n s => s = sz /\ ∃ vs T, w.heap[b]? = some (.cells vs T (0, 0)) /\ vs.size = nc /\ ∀ o, n * sz ≤ o -> E.st b o = none
  | .amap es => ∃ (ms : Array MapEntry) (c : Nat), w.heap[b]? = some (.map ms c) /\ MsRel E es ms.toList /\ ∀ o, E.st b o = none
  | .siter s pos => w.heap[b]? = some (.stringIter ⟨s.toArray⟩ pos) /\ ∀ o, E.st b o = none
  | .dead => True
structure Holds (E : Env) (H : Heap) (w : World) : Prop where
  st : ∀ b o v, E.st b o = some v -> w.cell? ⟨b, o, none⟩ = some v
  dom : ∀ i p, E.f i = some p -> i < H.length /\ p.1 < w.heap.size
  obj : ∀ i o, H[i]? = some o -> o ≠ .dead -> ∃ b nc sz, E.f i = some (b, nc, sz) /\ ObjRel E w b nc sz o
  inj : ∀ i j p q, E.f i = some p -> E.f j = some q -> p.1 = q.1 -> i = j \/ H[i]? = some .dead \/ H[j]? = some .dead
  len : E.n = H.length
  blk : ∀ b o, E.k b = some o -> w.heap[b]? = some o /\ ∀ i p, E.f i = some p -> p.1 ≠ b
structure Ext (E : Env) (w : World) (E' : Env) (w' : World) : Prop where
  le : E.le E'
  os : w'.os = w.os
  tape : w'.tape = w.tape
  output : w'.output = w.output
  size : w.heap.size ≤ w'.heap.size
  keep : ∀ b, b < w.heap.size -> (∀ i p, E.f i = some p -> p.1 ≠ b) -> w'.heap[b]? = w.heap[b]?
  newf : ∀ i p, E'.f i = some p -> E.f i = some p \/ (E.n ≤ i /\ (w.heap.size ≤ p.1 \/ ∃ j q, E.f j = some q /\ q.1 = p.1))
  newst : ∀ b o v, E'.st b o = some v -> E.st b o = some v \/ w.heap.size ≤ b \/ ∃ j q, E.f j = some q /\ q.1 = b
  drawn : E.d -> w.drawn ≤ w'.drawn
theorem Ext.refl (E : Env) (w : World) : Ext E w E w :=
  ⟨E.le_refl, rfl, rfl, rfl, Nat.le_refl _, fun _ _ _ => rfl, fun _ _ h => .inl h, fun _ _ _ h => .inl h, fun _ => Nat.le_refl _⟩
theorem Ext.trans {A B C : Env} {u v w : World} (h : Ext A u B v) (k : Ext B v C w) : Ext A u C w := by
  refine ⟨Env.le_trans h.le k.le, k.os.trans h.os, k.tape.trans h.tape, k.output.trans h.output, Nat.le_trans h.size k.size, ?_, ?_, ?_, fun hd => Nat.le_trans (h.drawn hd) (k.drawn (h.le.d.symm ▸ hd))⟩
  . intro b hb hn
    rw [k.keep b (Nat.lt_of_lt_of_le hb h.size) ?_, h.keep b hb hn]
    intro i p hp
    rcases h.newf i p hp with h1 | ⟨_, h1 | ⟨j, q, h1, h2⟩⟩
    . exact hn i p h1
    . omega
    . rw [<- h2]; exact hn j q h1
  . intro i p hp
    rcases k.newf i p hp with h1 | ⟨hn, h1 | ⟨j, q, h1, h2⟩⟩
    . exact h.newf i p h1
    . exact .inr ⟨Nat.le_trans h.le.n hn, .inl (Nat.le_trans h.size h1)⟩
    . rw [<- h2]
      refine .inr ⟨Nat.le_trans h.le.n hn, ?_⟩
      rcases h.newf j q h1 with h3 | ⟨_, h3 | ⟨j', q', h3, h4⟩⟩
      . exact .inr ⟨j, q, h3, rfl⟩
      . exact .inl h3
      . exact .inr ⟨j', q', h3, h4⟩
  . intro b o x hx
    rcases k.newst b o x hx with h1 | h1 | ⟨j, q, h1, h2⟩
    . exact h.newst b o x h1
    . exact .inr (.inl (Nat.le_trans h.size h1))
    . rw [<- h2]
      rcases h.newf j q h1 with h3 | ⟨_, h3 | ⟨j', q', h3, h4⟩⟩
      . exact .inr (.inr ⟨j, q, h3, rfl⟩)
      . exact .inr (.inl h3)
      . exact .inr (.inr ⟨j', q', h3, h4⟩)
theorem Ext.drew {E : Env} (w : World) : Ext E w E w.drew :=
  ⟨E.le_refl, rfl, rfl, rfl, Nat.le_refl _, fun _ _ _ => rfl, fun _ _ h => .inl h, fun _ _ _ h => .inl h, fun _ => Nat.le_succ _⟩
theorem ObjRel.drew {E : Env} {w : World} {b nc sz : Nat} {o : AObj} (h : ObjRel E w b nc sz o) : ObjRel E w.drew b nc sz o := by
  cases o <;> exact h
theorem Holds.drew {E : Env} {H : Heap} {w : World} (h : Holds E H w) : Holds E H w.drew :=
  ⟨h.st, h.dom, fun i o hi hd => let ⟨b, nc, sz, h1, h2⟩ := h.obj i o hi hd; ⟨b, nc, sz, h1, h2.drew⟩, h.inj, h.len, h.blk⟩
theorem heap_alloc (w : World) (o : Obj) {b : Nat} (h : b < w.heap.size) : (w.alloc o).heap[b]? = w.heap[b]? := by
  show (w.heap.push o)[b]? = _
  rw [Array.getElem?_push]; simp; omega
theorem Holds.alloc {E : Env} {H : Heap} {w : World} (h : Holds E H w) (o : Obj) : Holds E H (w.alloc o) := by
  refine ⟨fun b k v hv => ?_, fun i p hp => ?_, fun i x hi hd => ?_, h.inj, h.len, fun b o' hb => let ⟨q1, q2⟩ := h.blk b o' hb; ⟨(heap_alloc w o (Array.getElem?_eq_some_iff.1 q1).1).trans q1, q2⟩⟩
  . have := h.st b k v hv
    exact (World.cell?_alloc_lt w o ⟨b, k, none⟩ (w.block_lt_of_cell? _ this)).trans this
  . have := h.dom i p hp; simp; omega
  . obtain ⟨b, nc, sz, h1, h2⟩ := h.obj i x hi hd
    have hb := (h.dom i _ h1).2
    have hk : (w.alloc o).heap[b]? = w.heap[b]? := heap_alloc w o hb
    refine ⟨b, nc, sz, h1, ?_⟩
    cases x <;> simp only [ObjRel, hk] at h2 ⊢ <;> exact h2
theorem Ext.alloc {E : Env} (w : World) (o : Obj) : Ext E w E (w.alloc o) :=
  ⟨E.le_refl, rfl, rfl, rfl, by simp, fun b hb _ => heap_alloc w o hb, fun _ _ h => .inl h, fun _ _ _ h => .inl h, fun _ => Nat.le_refl _⟩
end Go.Tv
namespace Go.Tv
structure Cfg where
  P : Program
  makes : FuncId -> Bool
  glob : Nat -> Option (List AV)
  /-- functions without a body, of plain values -/
  ext : FuncId -> Option (List AV -> Option AV)
  /-- functions taken by a contract, of plain values -/
  prim : FuncId -> Option (List AV -> Option AV)
  /-- package-level variables that hold some int -/
  ints : List Nat
  /-- functions whose appended rows are arrays, that may be written -/
  arrs : FuncId -> Bool
  /-- functions whose results' arrays are written no more -/
  frz : FuncId -> Bool
  /-- the function that runs appends arrays -/
  arr : Bool
  /-- functions that ask of their one slice whether it is nil -/
  clone : FuncId -> Bool
  /-- functions taken by a contract, that write into an object -/
  hprim : FuncId -> Option (List AV -> Heap -> Option (AV × Heap))
  /-- the program's function behind a number (a function may be looked at in two ways) -/
  real : FuncId -> FuncId
  /-- how the function that runs looks at those that it calls -/
  alias : FuncId -> FuncId
  vary : FuncId -> FuncId -> FuncId
  /-- functions whose arguments' arrays are written no more -/
  frzA : FuncId -> Bool
  /-- functions whose arguments are handed over as they are known -/
  keep : FuncId -> Bool
  /-- the contracts tell of the draws -/
  dr : Bool
  /-- functions whose slices that are written out are arrays -/
  lits : FuncId -> Bool := fun _ => false
  lit : Bool := false
  /-- functions whose zero slices are known to be nil -/
  nilzs : FuncId -> Bool := fun _ => false
  nilz : Bool := false
  /-- package-level variables whose blocks are known whole -/
  tab : Nat -> Option (Obj -> Prop) := fun _ => none
def Cfg.at (C : Cfg) (f : FuncId) : Cfg := { C with arr := C.arrs f, alias := C.vary f, lit := C.lits f, nilz := C.nilzs f }
def ofScalar : Value -> Option AV
  | .bool b => some (.bool b)
  | .int k n => some (.int k n)
  | .string s => some (.str s.data.toList)
  | .nilFunc => some .nilFn
  | .nilIface => some .nilIface
  | .pointer none => some .nilPtr
  | .map none => some .nilMap
  | .slice _a n c => match n, c with | 0, 0 => some .empty | _, _ => none
  | _ => none
def ofScalars : List Value -> Option (List AV)
  | [] => some []
  | v :: vs => match ofScalar v, ofScalars vs with | some a, some l => some (a :: l) | _, _ => none
def ofConst : Value -> Option AV
  | .agg cs => (ofScalars cs.toList).map .agg
  | .tuple cs => match cs.toList with | [] => some (.tup []) | _ => none
  | .iface t v => (ofScalar v).map (.iface t)
  | v => ofScalar v
def ofScalarN : Value -> Option AV
  | .slice none 0 0 => some .nilS
  | v => ofScalar v
def ofScalarsN : List Value -> Option (List AV)
  | [] => some []
  | v :: vs => match ofScalarN v, ofScalarsN vs with | some a, some l => some (a :: l) | _, _ => none
def ofConstN : Value -> Option AV
  | .agg cs => (ofScalarsN cs.toList).map .agg
  | v => ofScalarN v
def ev (C : Cfg) (t : List AV) : Operand -> Option AV
  | .tmp i => some (t.getD i .undef)
  | .const v => ofConst v
  | .global g => (C.glob g).map .tptr
  | .func f => some (.fn (.func f) [] [])
def evs (C : Cfg) (t : List AV) : List Operand -> Option (List AV)
  | [] => some []
  | x :: xs => match ev C t x, evs C t xs with | some a, some l => some (a :: l) | _, _ => none
def szOf (C : Cfg) (T : TypeId) : Option Nat := (C.P.info? T).map (·.size)
def aggT (C : Cfg) (T : TypeId) : Option Bool :=
  match C.P.underlying T with
  | some (.struct _) | some (.array _ _) => some true
  | some _ => some false
  | none => none
def zeroOf (C : Cfg) (T : TypeId) : Option AV :=
  match C.P.info? T with
  | some i => match i.zero with | some v => if C.nilz then ofConstN v else ofConst v | none => none
  | none => none
def elemT (C : Cfg) (T : TypeId) : Option TypeId :=
  match C.P.underlying T with | some (.slice e) => some e | _ => none
def ldCells (C : Cfg) (T : TypeId) (cs : List AV) : Option AV :=
  match aggT C T, szOf C T with
  | some true, some n => if n ≤ cs.length then some (.agg (cs.take n)) else none
  | some false, some _n => cs.head?
  | _, _ => none
def cellsAt (H : Heap) : AV -> Option (List AV)
  | .tptr cs => some cs
  | .ptr id off => match H[id]? with | some (.cells cs _) => if off ≤ cs.length then some (cs.drop off) else none | _ => none
  | _ => none
def splice (cs : List AV) (off : Nat) (new : List AV) : List AV := cs.take off ++ (new ++ cs.drop (off + new.length))
def afill (place : Nat -> Option (Nat × Nat)) (cells : List AV) : List (Nat × AV) -> Option (List AV)
  | [] => some cells
  | (i, v) :: rest =>
    match place i with
    | none => none
    | some (off, size) => if v.cells.length = size /\ off + size ≤ cells.length then afill place (splice cells off v.cells) rest else none
def evParts (C : Cfg) (t : List AV) : List (Nat × Operand) -> Option (List (Nat × AV))
  | [] => some []
  | (i, x) :: xs => match ev C t x, evParts C t xs with | some a, some l => some ((i, a) :: l) | _, _ => none
def group (ag : Bool) (n : Nat) : Nat -> List AV -> Option (List AV)
  | 0, _ => some []
  | k + 1, cs =>
    if ag then
      if n ≤ cs.length then match group ag n k (cs.drop n) with | some l => some (.agg (cs.take n) :: l) | none => none
      else none
    else match cs with
      | x :: r => if x.one = true /\ n = 1 then match group ag n k r with | some l => some (x :: l) | none => none else none
      | [] => none
def bytesLess : List UInt8 -> List UInt8 -> Bool := Op.bytesLess
def acmp (op : BinOp) (x y : Int) : Option AV :=
  match op with
  | .eql => some (.bool (decide (x = y)))
  | .neq => some (.bool (!decide (x = y)))
  | .lss => some (.bool (decide (x < y)))
  | .leq => some (.bool (decide (x ≤ y)))
  | .gtr => some (.bool (decide (x > y)))
  | .geq => some (.bool (decide (x ≥ y)))
  | _ => none
def aint (op : BinOp) (k : IntKind) (x y : Int) : Option AV :=
  match op with
  | .add => some (.int k (k.wrap (x + y)))
  | .sub => some (.int k (k.wrap (x - y)))
  | .mul => some (.int k (k.wrap (x * y)))
  | .quo => if y = 0 then none else some (.int k (k.wrap (x.tdiv y)))
  | .rem => if y = 0 then none else some (.int k (x.tmod y))
  | .and => some (.int k (k.wrap ((BitVec.ofInt k.bits x) &&& (BitVec.ofInt k.bits y)).toNat))
  | .or => some (.int k (k.wrap ((BitVec.ofInt k.bits x) ||| (BitVec.ofInt k.bits y)).toNat))
  | .xor => some (.int k (k.wrap ((BitVec.ofInt k.bits x) ^^^ (BitVec.ofInt k.bits y)).toNat))
  | .andNot => some (.int k (k.wrap ((BitVec.ofInt k.bits x) &&& ~~~(BitVec.ofInt k.bits y)).toNat))
  | op => acmp op x y
def astr (op : BinOp) (x y : List UInt8) : Option AV :=
  match op with
  | .add => if x.length + y.length ≤ 2 ^ 62 then some (.str (x ++ y)) else none
  | .eql => some (.bool (x == y))
  | .neq => some (.bool (!(x == y)))
  | .lss => some (.bool (Op.bytesLess x y))
  | .leq => some (.bool (Op.bytesLess x y || x == y))
  | .gtr => some (.bool (!(Op.bytesLess x y || x == y)))
  | .geq => some (.bool (!Op.bytesLess x y))
  | _ => none
def isIfaceT (C : Cfg) (T : TypeId) : Bool := match C.P.underlying T with | some (.interface _) => true | _ => false
def isBoolT (C : Cfg) (T : TypeId) : Bool := match C.P.underlying T with | some .bool => true | _ => false
def isPtrT (C : Cfg) (T : TypeId) : Bool := match C.P.underlying T with | some (.pointer _) => true | _ => false
def isConst : Operand -> Bool | .const _ => true | _ => false
def aeqF (C : Cfg) : List Field -> List AV -> List AV -> Option Bool
  | [], _, _ => some true
  | f :: fs, xs, ys =>
    if f.name ≠ "_" then
      match C.P.underlying f.type, xs[f.offset]?, ys[f.offset]? with
      | some .string, some (.str a), some (.str b) => if a = b then aeqF C fs xs ys else some false
      | some (.int _), some (.int k a), some (.int k' b) => if k = k' then (if a = b then aeqF C fs xs ys else some false) else none
      | some .bool, some (.bool a), some (.bool b) => if a = b then aeqF C fs xs ys else some false
      | _, _, _ => none
    else aeqF C fs xs ys
def aeqA (C : Cfg) (T : TypeId) (xs ys : List AV) : Option Bool :=
  match C.P.underlying T with
  | some (.struct fs) => if !C.P.stoodInHeld T && !C.P.eqGuardType C.P.depth T then aeqF C fs.toList xs ys else none
  | _ => none
def aeq0 (C : Cfg) (T : TypeId) (x y : AV) (c : Bool) : Option Bool :=
  match x, y with
  | .bool a, .bool b => if isBoolT C T then some (a == b) else none
  | .iface _ _, .nilIface => if isIfaceT C T then some false else none
  | .nilIface, .iface _ _ => if isIfaceT C T then some false else none
  | .nilIface, .nilIface => if isIfaceT C T && c then some true else none
  | .ptr _ _, .nilPtr | .nilPtr, .ptr _ _ | .tptr _, .nilPtr | .nilPtr, .tptr _ => if isPtrT C T then some false else none
  | .nilPtr, .nilPtr => if isPtrT C T then some true else none
  | _, _ => none
def aeq (C : Cfg) (T : TypeId) (x y : AV) (c : Bool) : Option Bool :=
  match x, y with
  | .agg xs, .agg ys => aeqA C T xs ys
  | x, y => aeq0 C T x y c
def abin (C : Cfg) (op : BinOp) (T : TypeId) (x y : AV) (c : Bool) : Option AV :=
  match x, y with
  | .int k a, .int k' b =>
    match op with
    | .shl => if b < 0 then none else some (.int k (k.wrap (a * 2 ^ (min b.toNat k.bits))))
    | .shr => if b < 0 then none else some (.int k (a.fdiv (2 ^ (min b.toNat k.bits))))
    | op => if k = k' then aint op k a b else none
  | .str a, .str b => astr op a b
  | x, y =>
    match op with
    | .eql => (aeq C T x y c).map .bool
    | .neq => (aeq C T x y c).map fun b => .bool (!b)
    | _ => none
def aun (op : UnOp) : AV -> Option AV
  | .int k n => match op with
    | .neg => some (.int k (k.wrap (0 - n)))
    | _ => none
  | .bool b => match op with | .not => some (.bool !b) | _ => none
  | _ => none
def ofBytes (l : List UInt8) : List AV := l.map fun b => .int .u8 b.toNat
def toBytes : List AV -> Option (List UInt8)
  | [] => some []
  | .int .u8 n :: r => match toBytes r with | some l => some (UInt8.ofNat n.toNat :: l) | none => none
  | _ :: _ => none
def aconv (C : Cfg) (src dst : TypeId) (x : AV) : Option AV :=
  match C.P.underlying src, C.P.underlying dst, x with
  | some _, some (.int k), .int _ n => some (.int k (k.wrap n))
  | some _, some .string, .str s => some (.str s)
  | some _, some (.slice e), .str s => match C.P.underlying e with | some (.int .u8) => some (.list (ofBytes s) none) | _ => none
  | some (.slice e), some .string, .list els _ => match C.P.underlying e with | some (.int .u8) => (toBytes els).map .str | _ => none
  | some (.slice e), some .string, .empty => match C.P.underlying e with | some (.int .u8) => some (.str []) | _ => none
  | _, _, _ => none
def idx (i : AV) (n : Nat) : Option Nat :=
  match i with
  | .int _ z => if 0 ≤ z /\ z < n then some z.toNat else none
  | _ => none
def bnd (d : Nat) (i : Option (Option AV)) (n : Nat) : Option Nat :=
  match i with
  | none => some d
  | some (some (.int _ z)) => if 0 ≤ z /\ z ≤ n then some z.toNat else none
  | _ => none
def fieldOf (C : Cfg) (T : TypeId) (j : Nat) : Option Field :=
  match C.P.underlying T with | some (.struct fs) => fs[j]? | _ => none
def isNilC : Operand -> Bool
  | .const (.slice none _ _) => true
  | _ => false
def nilness : AV -> Option Bool
  | .nilS => some true
  | .someS => some false
  | .list (_ :: _) _ => some false
  | .slc _ _ (_ + 1) _ _ => some false
  | _ => none
def aval (C : Cfg) (op : Op) (t : List AV) : Option AV :=
  match op with
  | .move x | .assign x => match ev C t x with | some v => some v | none => none
  | .pick c a b => match ev C t c with
    | some (.bool d) => match ev C t (if d then a else b), ev C t (if d then b else a) with | some v, some _ => some v | _, _ => none
    | _ => none
  | .build T parts => match zeroOf C T, C.P.underlying T, evParts C t parts.toList with
    | some z, some (.struct fs), some ps =>
      if fs.toList.all (fun f => (C.P.info? f.type).isSome) then
        match afill (fun i => match fs[i]? with | some f => (szOf C f.type).map fun n => (f.offset, n) | none => none) z.cells ps with
        | some cs => some (.agg cs) | none => none
      else none
    | some z, some (.array _ e), some ps => match szOf C e with
      | some n => match afill (fun i => some (i * n, n)) z.cells ps with | some cs => some (.agg cs) | none => none
      | none => none
    | _, _, _ => none
  | .buildSlice T len parts => match elemT C T, evParts C t parts.toList with
    | some e, some ps => match szOf C e, zeroOf C e with
      | some n, some z =>
        if len = 0 then (match ps with | [] => some .empty | _ => none)
        else if z.cells.length = n /\ 0 < n /\ len * n ≤ 2 ^ 24 then
          match afill (fun i => some (i * n, n)) (List.replicate len z.cells).flatten ps with
          | some cs => match aggT C e with
            | some ag => match group ag n len cs with | some l => some (.list l none) | none => none
            | none => none
          | none => none
        else none
      | _, _ => none
    | _, _ => none
  | .nilCheck x => match ev C t x with
    | some (.ptr i o) => some (.ptr i o)
    | some (.tptr cs) => some (.tptr cs)
    | some (.fn (.func f) a b) => some (.fn (.func f) a b)
    | _ => none
  | .binOp op T x y _ => if isNilC y then (match op, elemT C T, ev C t x with
    | .eql, some _, some v => (match nilness v with | some b => some (.bool b) | none => none)
    | .neq, some _, some v => (match nilness v with | some b => some (.bool !b) | none => none)
    | _, _, _ => none)
    else match ev C t x, ev C t y with
    | some a, some b => match abin C op T a b (isConst x || isConst y) with | some v => some v | none => none
    | _, _ => none
  | .unOp op _ x => match ev C t x with | some a => (match aun op a with | some v => some v | none => none) | none => none
  | .convert s d x => match ev C t x with | some a => (match aconv C s d a with | some v => some v | none => none) | none => none
  | .makeInterface T x => match ev C t x, C.P.underlying T with
    | some a, some u => (match u with | .interface _ => none | _ => some (.iface T a))
    | _, _ => none
  | .makeFunc f first cap => match evs C t first.toList, evs C t cap.toList with | some a, some b => some (.fn f a b) | _, _ => none
  | .slice T x lo hi mx => match ev C t x, C.P.underlying T with
    | some (.str s), some .string => match mx with
      | some _ => none
      | none => match bnd s.length (hi.map (ev C t)) s.length with
        | some h => match bnd 0 (lo.map (ev C t)) h with | some l => some (.str ((s.take h).drop l)) | none => none
        | none => none
    | some (.list els _), some (.slice e) => match mx.map (ev C t) with
      | none => match szOf C e, bnd els.length (hi.map (ev C t)) els.length with
        | some n, some h => match bnd 0 (lo.map (ev C t)) h with
          | some l => if els.all (fun v => v.cells.length = n) then some (.list ((els.take h).drop l) none) else none
          | none => none
        | _, _ => none
      | some m => match bnd els.length (some m) 0, bnd els.length (hi.map (ev C t)) 0, bnd 0 (lo.map (ev C t)) 0, hi.isSome with
        | some 0, some 0, some 0, true => (match szOf C e with | some _ => some .empty | none => none)
        | _, _, _, _ => none
    | some (.slc id off k sz ag), some (.slice e) => match mx.map (ev C t) with
      | none => match szOf C e, bnd k (hi.map (ev C t)) k with
        | some n, some h => match bnd 0 (lo.map (ev C t)) h with
          | some l => if n = sz then some (.slc id (off + l * n) (h - l) sz ag) else none
          | none => none
        | _, _ => none
      | some _ => none
    | some .empty, some (.slice e) => match szOf C e, bnd 0 (mx.map (ev C t)) 0, bnd 0 (hi.map (ev C t)) 0, bnd 0 (lo.map (ev C t)) 0, mx.isNone || hi.isSome with
      | some _, some 0, some 0, some 0, true => some .empty
      | _, _, _, _, _ => none
    | _, _ => none
  | .fieldAddr T x j => match ev C t x, fieldOf C T j with
    | some p, some f => match szOf C f.type with
      | some n => if n = 0 then none else (match p with
        | .tptr cs => if f.offset ≤ cs.length then some (.tptr (cs.drop f.offset)) else none
        | .ptr id off => some (.ptr id (off + f.offset))
        | _ => none)
      | none => none
    | _, _ => none
  | .field T x j => match ev C t x, fieldOf C T j with
    | some (.agg cs), some f => if f.offset ≤ cs.length then (match ldCells C f.type (cs.drop f.offset) with | some v => some v | none => none) else none
    | _, _ => none
  | .indexAddr T x i => match ev C t x, ev C t i, elemT C T with
    | some (.list els _), some i, some e => match idx i els.length, szOf C e with
      | some k, some n => if 0 < n /\ els.all (fun v => v.cells.length = n) then some (.tptr (els.getD k .empty).cells) else none
      | _, _ => none
    | some (.slc id off m _ _), some i, some e => match idx i m, szOf C e with
      | some k, some n => if 0 < n then some (.ptr id (off + k * n)) else none
      | _, _ => none
    | some (.ptr id off), some i, none => (match C.P.underlying T with
      | some (.array m e) => match idx i m, szOf C e with
        | some k, some n => some (.ptr id (off + k * n))
        | _, _ => none
      | _ => none)
    | _, _, _ => none
  | .index T x i => match ev C t x, ev C t i, C.P.underlying T with
    | some (.str s), some i, some .string => match idx i s.length with | some k => some (.int .u8 (s.getD k 0).toNat) | none => none
    | _, _, _ => none
  | .extract x j => match ev C t x with | some (.tup vs) => (match vs[j]? with | some v => some v | none => none) | _ => none
  | .typeAssert x _xT T ok => match ev C t x, C.P.underlying T with
    | some (.iface U v), some u => (match u with
      | .interface _ => none
      | _ => if U = T then some (if ok then .tup [v, .bool true] else v) else if ok then (match zeroOf C T with | some z => some (.tup [z, .bool false]) | none => none) else none)
    | _, _ => none
  | _ => none
def makeOk (C : Cfg) (e : TypeId) (n : Nat) : Bool := match C.P.info? e with | some i => decide (i.bytes * n ≤ 2 ^ 48 /\ n ≤ 2 ^ 62) | none => false
def strMapT (C : Cfg) (T : TypeId) : Bool := match C.P.underlying T with | some (.map k _) => (match C.P.underlying k with | some .string => true | _ => false) | _ => false
def mapZero (C : Cfg) (T : TypeId) : Option AV := match C.P.underlying T with | some (.map _ e) => zeroOf C e | _ => none
def mapGet : List (List UInt8 × AV) -> List UInt8 -> Option AV
  | [], _ => none
  | e :: r, s => if e.1 == s then some e.2 else mapGet r s
def mapSet : List (List UInt8 × AV) -> List UInt8 -> AV -> List (List UInt8 × AV)
  | [], s, v => [(s, v)]
  | e :: r, s, v => if e.1 == s then (s, v) :: r else e :: mapSet r s v
def aop (C : Cfg) (op : Op) (t : List AV) (H : Heap) : Option (AV × Heap) :=
  match op with
  | .alloc T => match zeroOf C T with | some z => some (.ptr H.length 0, H ++ [.cells z.cells T]) | none => none
  | .box T x => match ev C t x with | some v => some (.ptr H.length 0, H ++ [.cells v.cells T]) | none => none
  | .makeSlice T l c => match ev C t l, ev C t c, elemT C T with
    | some (.int _ x), some (.int _ y), some e => match szOf C e, zeroOf C e, aggT C e with
      | some n, some z, some ag =>
        if 0 ≤ x /\ x = y /\ makeOk C e x.toNat /\ z.cells.length = n /\ 0 < n then
          some (.slc H.length 0 x.toNat n ag, H ++ [.cells (List.replicate x.toNat z.cells).flatten e])
        else if x = 0 /\ 0 ≤ y /\ makeOk C e y.toNat /\ z.cells.length = n /\ 0 < n then some (.list [] (some H.length), H ++ [.tail 0 n])
        else none
      | _, _, _ => none
    | _, _, _ => none
  | .load T a => match ev C t a with
    | some p => match cellsAt H p with
      | some cs => match ldCells C T cs with | some v => some (v, H) | none => none
      | none => none
    | none => none
  | .store T a x => match ev C t a, ev C t x with
    | some (.ptr id off), some v => match H[id]?, szOf C T with
      | some (.cells cs T0), some n =>
        if v.cells.length = n /\ off + n ≤ cs.length /\ v.cells.all AV.one then some (.undef, H.set id (.cells (splice cs off v.cells) T0)) else none
      | _, _ => none
    | _, _ => none
  | .makeMap _ none => some (.mapr H.length, H ++ [.amap []])
  | .mapUpdate T m k x => match ev C t m, ev C t k, ev C t x with
    | some (.mapr id), some (.str s), some v => match H[id]? with
      | some (.amap es) => if strMapT C T && v.one then some (.undef, H.set id (.amap (mapSet es s v))) else none
      | _ => none
    | _, _, _ => none
  | .lookup T m k true => match ev C t m, ev C t k with
    | some (.mapr id), some (.str s) => match H[id]?, mapZero C T with
      | some (.amap es), some z => if strMapT C T then (match mapGet es s with | some v => some (.tup [v, .bool true], H) | none => some (.tup [z, .bool false], H)) else none
      | _, _ => none
    | _, _ => none
  | .buildSlice T len parts => match aval C (.buildSlice T len parts) t with
    | some v => if C.lit then (match v, elemT C T with
      | .list l none, some e => match szOf C e, aggT C e with | some n, some ag => some (.slc H.length 0 l.length n ag, H ++ [.cells (flat l) e]) | _, _ => none
      | _, _ => none) else some (v, H)
    | none => none
  | .range T x => match ev C t x, C.P.underlying T with
    | some (.str s), some .string => some (.ptr H.length 0, H ++ [.siter s 0])
    | _, _ => none
  | .next it true => match ev C t it with
    | some (.ptr id 0) => match H[id]? with
      | some (.siter s pos) => match s[pos]? with
        | some c => if c.toNat < 128 then some (.tup [.bool true, .int .i64 pos, .int .i32 c.toNat], H.set id (.siter s (pos + 1))) else none
        | none => some (.tup [.bool false], H)
      | _ => none
    | _ => none
  | .convert s d x => match ev C t x with
    | some (.slc id off n _sz _ag) => (match C.P.underlying s, C.P.underlying d, H[id]? with
      | some (.slice e), some .string, some (.cells cs _) => (match C.P.underlying e with
        | some (.int .u8) => if off + n ≤ cs.length then (match toBytes ((cs.drop off).take n) with | some l => some (.str l, H) | none => none) else none
        | _ => none)
      | _, _, _ => none)
    | _ => match aval C (.convert s d x) t with | some v => some (v, H) | none => none
  | op => match aval C op t with | some v => some (v, H) | none => none
def roomOk (C : Cfg) (e : TypeId) (n : Nat) : Bool := match C.P.info? e with | some i => decide ((2 * n + 192) * i.bytes ≤ 2 ^ 48 /\ n ≤ 2 ^ 62 /\ 0 < i.bytes) && i.zero.isSome | none => false
def news : AV -> Option (List AV)
  | .list els _ => some els
  | .empty | .nilS | .someS => some []
  | .str s => some (ofBytes s)
  | _ => none
def newsH (H : Heap) (x : AV) : Option (List AV) :=
  match x with
  | .slc id off n sz ag => match H[id]? with
    | some (.cells cs _) => if off + n * sz ≤ cs.length then group ag sz n (cs.drop off) else none
    | _ => none
  | v => news v
def isIntT (C : Cfg) (T : TypeId) : Bool := match C.P.underlying T with | some (.int _) => true | some _ => false | none => true
def aappend (C : Cfg) (T xT : TypeId) (s x : AV) (H : Heap) : Option (AV × Heap) :=
  match elemT C T, isIntT C xT, newsH H x with
  | some e, false, some ns => match szOf C e, zeroOf C e with
    | some n, some z =>
      if z.cells.length = n /\ 0 < n /\ z.cells.all AV.one /\ ns.all (fun v => v.cells.length = n && v.cells.all AV.one) then
        match s with
        | .empty => match ns with
          | [] => some (.empty, H)
          | _ => if roomOk C e ns.length then
              if C.arr then match aggT C e with
                | some ag => some (.slc H.length 0 ns.length n ag, H ++ [.cells (flat ns) e])
                | none => none
              else some (.list ns (some H.length), H ++ [.tail ns.length n]) else none
        | .list els tok => match ns with
          | [] => some (.list els tok, H)
          | _ => match tok with
            | some id => match H[id]? with
              | some (.tail m s) => if m = els.length /\ s = n /\ roomOk C e (els.length + ns.length) /\ els.all (fun v => v.cells.length = n)
                  then some (.list (els ++ ns) (some H.length), H.set id .dead ++ [.tail (els.length + ns.length) n]) else none
              | _ => none
            | none => none
        | .slc id off m sz ag => match ns with
          | [] => some (.slc id off m sz ag, H)
          | _ => match H[id]? with
            | some (.cells cs T0) => if off = 0 /\ sz = n /\ T0 = e /\ m * n ≤ cs.length /\ roomOk C e (m + ns.length)
                then some (.slc H.length 0 (m + ns.length) n ag, H.set id .dead ++ [.cells (cs.take (m * n) ++ flat ns) e]) else none
            | _ => none
        | _ => none
      else none
    | _, _ => none
  | _, _, _ => none
def ints : List AV -> Option (IntKind × List Int)
  | [.int k n] => some (k, [n])
  | .int k n :: r => match ints r with | some (j, l) => if k = j then some (k, n :: l) else none | none => none
  | _ => none
def alen (C : Cfg) (T : TypeId) : AV -> Option Nat
  | .str s => match C.P.underlying T with | some .string => some s.length | _ => none
  | .list els _ => match C.P.underlying T with | some (.slice _) => some els.length | _ => none
  | .empty => match C.P.underlying T with | some (.slice _) => some 0 | _ => none
  | .slc _ _ n _ _ => match C.P.underlying T with | some (.slice _) => some n | _ => none
  | _ => none
def aclear (C : Cfg) (T : TypeId) (x : AV) (H : Heap) : Option (AV × Heap) :=
  match elemT C T, x with
  | some e, .slc id off n _ _ =>
    if n = 0 then some (.undef, H) else
    match zeroOf C e, szOf C e, H[id]? with
    | some z, some sz, some (.cells cs T0) =>
      if z.cells.length = sz /\ z.cells.all AV.one /\ off + n * sz ≤ cs.length then some (.undef, H.set id (.cells (splice cs off (List.replicate n z.cells).flatten) T0)) else none
    | _, _, _ => none
  | _, _ => none
def alenB (C : Cfg) (ts : List TypeId) (args : List AV) (H : Heap) : Option (AV × Heap) :=
  match ts, args with
  | [T], [x] => match alen C T x with | some n => some (.int .i64 n, H) | none => none
  | _, _ => none
def aappZ (C : Cfg) (T xT : TypeId) (x : Int) (H : Heap) : Option (AV × Heap) :=
  match elemT C T, C.P.underlying xT, C.arr with
  | some e, some (.int _), true => match szOf C e, zeroOf C e, aggT C e with
    | some n, some z, some ag =>
      if 0 < x /\ z.cells.length = n /\ 0 < n /\ roomOk C e x.toNat then some (.slc H.length 0 x.toNat n ag, H ++ [.cells (List.replicate x.toNat z.cells).flatten e]) else none
    | _, _, _ => none
  | _, _, _ => none
def acapB (C : Cfg) (ts : List TypeId) (args : List AV) (H : Heap) : Option (AV × Heap) :=
  match ts, args with
  | [T], [.empty] => match C.P.underlying T with | some (.slice _) => some (.int .i64 0, H) | _ => none
  | _, _ => none
def aappB (C : Cfg) (ts : List TypeId) (args : List AV) (H : Heap) : Option (AV × Heap) :=
  match ts, args with
  | [T, xT], [.empty, .int _ x] => aappZ C T xT x H
  | [T, xT], [s, x] => aappend C T xT s x H
  | _, _ => none
def aclrB (C : Cfg) (ts : List TypeId) (args : List AV) (H : Heap) : Option (AV × Heap) :=
  match ts, args with
  | [T], [x] => aclear C T x H
  | _, _ => none
def amaxB (args : List AV) (H : Heap) : Option (AV × Heap) :=
  match ints args with | some (k, n :: l) => some (.int k (l.foldl (fun x y => if y > x then y else x) n), H) | _ => none
def aminB (args : List AV) (H : Heap) : Option (AV × Heap) :=
  match ints args with | some (k, n :: l) => some (.int k (l.foldl (fun x y => if y < x then y else x) n), H) | _ => none
def acopyB (C : Cfg) (ts : List TypeId) (args : List AV) (H : Heap) : Option (AV × Heap) :=
  match ts, args with
  | [T, _], [.slc id off n _ _, .list els _] => match elemT C T, H[id]? with
    | some e, some (.cells cs T0) => match szOf C e with
      | some 1 => if els.all (fun v => decide (v.cells.length = 1) && v.one) /\ off + n ≤ cs.length /\ 0 < n /\ 0 < els.length then some (.int .i64 (min els.length n : Nat), H.set id (.cells (splice cs off (els.take n)) T0)) else none
      | _ => none
    | _, _ => none
  | _, _ => none
def abuiltin (C : Cfg) (b : Builtin) (ts : List TypeId) (args : List AV) (H : Heap) : Option (AV × Heap) :=
  match b with
  | .len => alenB C ts args H
  | .append => aappB C ts args H
  | .clear => aclrB C ts args H
  | .max => amaxB args H
  | .min => aminB args H
  | .cap => acapB C ts args H
  | .copy => acopyB C ts args H
  | _ => none
mutual
def AV.tree : AV -> Bool
  | .agg cs | .tup cs | .tptr cs => treeL cs
  | .list els tok => tok.isNone && treeL els
  | .ptr _ _ => false
  | .mapr _ => false
  | .slc _ _ _ _ _ => false
  | .fn _ a b => treeL a && treeL b
  | .iface _ v => v.tree
  | _ => true
def treeL : List AV -> Bool
  | [] => true
  | v :: r => v.tree && treeL r
end
mutual
def AV.erase : AV -> AV
  | .agg cs => .agg (eraseL cs)
  | .tup cs => .tup (eraseL cs)
  | .list els _ => .list (eraseL els) none
  | .empty | .nilS | .someS => .list [] none
  | .tptr cs => .tptr (eraseL cs)
  | .fn f a b => .fn f (eraseL a) (eraseL b)
  | .iface t v => .iface t v.erase
  | v => v
def eraseL : List AV -> List AV
  | [] => []
  | v :: r => v.erase :: eraseL r
end
mutual
def AV.ids : AV -> List Nat
  | .agg cs | .tup cs | .tptr cs => idsL cs
  | .list els tok => (match tok with | some i => [i] | none => []) ++ idsL els
  | .ptr i _ => [i]
  | .slc i _ _ _ _ => [i]
  | .mapr i => [i]
  | .fn _ a b => idsL a ++ idsL b
  | .iface _ v => v.ids
  | _ => []
def idsL : List AV -> List Nat
  | [] => []
  | v :: r => v.ids ++ idsL r
end
def AObj.ids : AObj -> List Nat
  | .cells cs _ => idsL cs
  | .amap es => idsL (es.map Prod.snd)
  | _ => []
def reach (H : Heap) : Nat -> List Nat -> List Nat -> List Nat
  | 0, _, acc => acc
  | _ + 1, [], acc => acc
  | n + 1, i :: r, acc => if acc.contains i then reach H n r acc else
    match H[i]? with
    | some o => reach H n (o.ids ++ r) (i :: acc)
    | none => reach H n r acc
def reachL (H : Heap) (args : List AV) : List Nat := reach H 100000 (idsL args) []
def closed (H : Heap) (R : List Nat) : Bool := R.all fun i => match H[i]? with
  | some .dead => false
  | some o => o.ids.all R.contains
  | none => false
def mask (R : List Nat) : Nat -> Heap -> Heap
  | _, [] => []
  | i, o :: r => (if R.contains i then o else .dead) :: mask R (i + 1) r
def unmask (R : List Nat) : Nat -> Heap -> Heap -> Heap
  | i, o :: r, o1 :: r1 => (if R.contains i then o1 else o) :: unmask R (i + 1) r r1
  | _, _, H1 => H1
inductive ARet where
  | ok (v : AV)
  | panic (v : AV)
inductive AExit where
  | normal
  | exit (id : Nat)
  | ret
  | panic (v : AV)
  /-- a panic; what the temps hold is not known -/
  | pan (v : AV)
def AExit.known : AExit -> Bool
  | .pan _ => false
  | _ => true
abbrev Caller := FuncId -> List AV -> Heap -> Option (ARet × Heap)
def put (t : List AV) (dst : Option Tmp) (v : AV) : List AV := match dst with | some d => t.set d v | none => t
def ayielded (ops : Array Oper) (t : List AV) (j : Nat) : Option Bool :=
  match ((ops[j]?).bind (·.dst)).bind (t[·]?) with
  | some (.bool b) => some b
  | _ => none
def Cfg.ers (C : Cfg) (g : FuncId) (l : List AV) : List AV := if C.keep g then l else eraseL l
def adoOp (C : Cfg) (call : Caller) (o : Oper) (t : List AV) (H : Heap) : Option (ARet × Heap) :=
  match o.op with
  | .call c => match evs C t c.args.toList with
    | some args => match c.callee with
      | .value f => match ev C t f with
        | some (.fn (.func g) first cap) => match C.ext g with
          | some h => match h (eraseL (first ++ args ++ cap)) with | some v => some (.ok v, H) | none => none
          | none => call (C.alias g) (C.ers (C.alias g) (first ++ args ++ cap)) H
        | _ => none
      | .builtin b => match abuiltin C b c.argTypes.toList args H with | some (v, H') => some (.ok v, H') | none => none
      | .invoke _ _ => none
    | none => none
  | .panic x => match ev C t x with | some (.iface T v) => some (.panic (.iface T v), H) | _ => none
  | op => match aop C op t H with | some (v, H') => some (.ok v, H') | none => none
abbrev Out := Option (AExit × List AV × Heap)
def aops (C : Cfg) (call : Caller) (ops : Array Oper) : List Nat -> List AV -> Heap -> Out
  | [], t, H => some (.normal, t, H)
  | i :: rest, t, H =>
    match ops[i]? with
    | none => none
    | some o =>
      if Region.wanted o (ayielded ops t) then
        match adoOp C call o t H with
        | some (.ok v, H') => aops C call ops rest (put t o.dst v) H'
        | some (.panic v, H') => some (.panic v, t, H')
        | none => none
      else aops C call ops rest (put t o.dst .undef) H
inductive Eff where
  | quiet
  | new
  | put (id : Nat)
  | upto (R : List Nat)
  | all
  deriving DecidableEq
def appEff : Option (List AV) -> Eff
  | some (.slc id _ _ _ _ :: _) => .put id
  | some _ => .new
  | none => .all
def effOf (C : Cfg) (o : Oper) (t : List AV) (H : Heap) : Eff :=
  match o.op with
  | .alloc _ | .box _ _ => .new
  | .makeSlice _ _ _ => .new
  | .buildSlice _ _ _ => if C.lit then .new else .quiet
  | .makeMap _ _ | .mapUpdate _ _ _ _ | .lookup _ _ _ _ | .range _ _ | .next _ _ => .all
  | .store _ a _ => match ev C t a with | some (.ptr id _) => .put id | _ => .all
  | .call c => match c.callee with
    | .builtin b => match b with | .append => appEff (evs C t c.args.toList) | .clear => .all | .copy => .all | _ => .quiet
    | .value f => match ev C t f, evs C t c.args.toList with
      | some (.fn (.func g) first cap), some args => if (C.ext g).isSome || (treeL (C.ers (C.alias g) (first ++ args ++ cap)) && !C.makes (C.alias g)) then .quiet else .upto (reachL H (C.ers (C.alias g) (first ++ args ++ cap)))
      | _, _ => .all
    | .invoke _ _ => .all
  | .panic _ => .all
  | .convert _ _ x => match ev C t x with | some (.slc _ _ _ _ _) => .all | _ => .quiet
  | _ => .quiet
def readOf (C : Cfg) (o : Oper) (t : List AV) : Option Nat :=
  match o.op with
  | .load _ a => match ev C t a with | some (.ptr id _) => some id | _ => none
  | _ => none
def maskOf (masks : List Nat) (after : List Edge) : Nat :=
  match after with
  | [] => 0
  | e :: r => if Region.binds .any e then (1 <<< e.on) ||| masks.getD e.on 0 ||| maskOf masks r else maskOf masks r
def masksOf : List Oper -> List Nat -> List Nat
  | [], m => m
  | o :: r, m => masksOf r (m ++ [maskOf m o.after.toList])
abbrev Trace := List (List AV × Heap × AV)
def atrace (C : Cfg) (call : Caller) (ops : Array Oper) : List Nat -> List AV -> Heap -> Option (Trace × List AV × Heap)
  | [], t, H => some ([], t, H)
  | i :: rest, t, H =>
    match ops[i]? with
    | none => none
    | some o =>
      if Region.wanted o (ayielded ops t) then
        match adoOp C call o t H with
        | some (.ok v, H') => match atrace C call ops rest (put t o.dst v) H' with
          | some (tr, t', H2) => some ((t, H, v) :: tr, t', H2)
          | none => none
        | _ => none
      else match atrace C call ops rest (put t o.dst .undef) H with
        | some (tr, t', H2) => some ((t, H, .undef) :: tr, t', H2)
        | none => none
def atraceP (C : Cfg) (call : Caller) (ops : Array Oper) : List Nat -> List AV -> Heap -> Option (Trace × List AV × Heap × AV × Heap)
  | [], _, _ => none
  | i :: rest, t, H =>
    match ops[i]? with
    | none => none
    | some o =>
      if Region.wanted o (ayielded ops t) then
        match adoOp C call o t H with
        | some (.ok v, H') => match atraceP C call ops rest (put t o.dst v) H' with
          | some (tr, r) => some ((t, H, v) :: tr, r)
          | none => none
        | some (.panic v, H') => some ([], t, H, v, H')
        | none => none
      else match atraceP C call ops rest (put t o.dst .undef) H with
        | some (tr, r) => some ((t, H, .undef) :: tr, r)
        | none => none
def effAt (C : Cfg) (ops : Array Oper) (tr : Trace) (i : Nat) : Eff :=
  match ops[i]?, tr[i]? with
  | some o, some (t, H, _) => if Region.wanted o (ayielded ops t) then effOf C o t H else .quiet
  | _, _ => .all
def readAt (C : Cfg) (ops : Array Oper) (tr : Trace) (i : Nat) : Option Nat :=
  match ops[i]?, tr[i]? with
  | some o, some (t, _, _) => readOf C o t
  | _, _ => none
def commutes (r : Option Nat) : Eff -> Bool
  | .quiet => true
  | .new => true
  | .put k => match r with | none => true | some id => id != k
  | .upto R => match r with | none => true | some id => !R.contains id
  | .all => r.isNone
def pairOk (C : Cfg) (ops : Array Oper) (tr : Trace) (i j : Nat) : Bool :=
  (match ops[i]?, ops[j]? with | some a, some b => a.apart ops b | _, _ => false) &&
  (match effAt C ops tr i, effAt C ops tr j with
   | .quiet, .quiet => true
   | .quiet, e => commutes (readAt C ops tr i) e
   | e, .quiet => commutes (readAt C ops tr j) e
   | _, _ => false)
def drawOk (C : Cfg) (ops : Array Oper) (tr : Trace) : Bool :=
  let ms := masksOf ops.toList []
  (ops.toList.zipIdx.all fun (o, i) => o.after.toList.all fun e => !Region.binds .any e || decide (e.on < i)) &&
  (List.range ops.size).all fun j => (List.range j).all fun i => (ms.getD j 0).testBit i || pairOk C ops tr i j
def isQ : Eff -> Bool
  | .quiet => true
  | _ => false
def harm (C : Cfg) (ops : Array Oper) (p : Nat) (t : List AV) (o : Oper) : Bool :=
  match o.op, o.dst, o.guard with
  | .fieldAddr T (.tmp s) f, some d, none => (aval C (.fieldAddr T (.tmp s) f) t).isSome && (ops.toList.all fun a => decide (a.dst ≠ some s)) &&
    ((List.range (p + 1)).all fun i => match ops[i]? with | some a => !(a.looksAt ops).contains d && decide (a.dst ≠ some d) | none => true)
  | _, _, _ => false
def panOk (C : Cfg) (ops : Array Oper) (tr : Trace) (t' : List AV) : Bool :=
  let ms := masksOf ops.toList []
  (ops.toList.zipIdx.all fun (o, i) => o.after.toList.all fun e => !Region.binds .any e || decide (e.on < i)) &&
  ((List.range tr.length).all fun j => (List.range j).all fun i => (ms.getD j 0).testBit i || pairOk C ops tr i j) &&
  ((List.range ops.size).all fun j => decide (j ≤ tr.length) || (ms.getD j 0).testBit tr.length || (match ops[j]? with | some o => harm C ops tr.length t' o | none => false)) &&
  ((List.range tr.length).all fun i => (ms.getD tr.length 0).testBit i || (isQ (effAt C ops tr i) && (match ops[i]?, ops[tr.length]? with | some a, some b => a.apart ops b | _, _ => false)))
def iter (f : List AV -> Heap -> Out) : Nat -> List AV -> Heap -> Out
  | 0, _, _ => none
  | n + 1, t, H => match f t H with
    | some (.normal, t', H') => iter f n t' H'
    | r => r
def arun (C : Cfg) (call : Caller) (k : Nat) : Code -> List AV -> Heap -> Out
  | .skip, t, H => some (.normal, t, H)
  | .label _, t, H => some (.normal, t, H)
  | .seq a b, t, H => match arun C call k a t H with
    | some (.normal, t', H') => arun C call k b t' H'
    | r => r
  | .cond c x y, t, H => match ev C t c with
    | some (.bool b) => if b then arun C call k x t H else arun C call k y t H
    | _ => none
  | .block id c, t, H => match arun C call k c t H with
    | some (.exit j, t', H') => if j = id then some (.normal, t', H') else some (.exit j, t', H')
    | r => r
  | .loop c, t, H => iter (arun C call k c) k t H
  | .exit id, t, H => some (.exit id, t, H)
  | .ret, t, H => some (.ret, t, H)
  | .region _id ops draw, t, H =>
    if draw then match atrace C call ops (List.range ops.size) t H with
      | some (tr, t', H') => if drawOk C ops tr then some (.normal, t', H') else none
      | none => match atraceP C call ops (List.range ops.size) t H with
        | some (tr, t', _, v, H') => if panOk C ops tr t' then some (.pan v, t', H') else none
        | none => none
    else aops C call ops (List.range ops.size) t H
  | _, _, _ => none
def aresult (C : Cfg) (t : List AV) (H : Heap) : ResultVar -> Option AV
  | .tmp i => some (t.getD i .undef)
  | .cell a T => match cellsAt H (t.getD a .undef) with | some cs => ldCells C T cs | none => none
def aresults (C : Cfg) (t : List AV) (H : Heap) : List ResultVar -> Option (List AV)
  | [] => some []
  | r :: rs => match aresult C t H r, aresults C t H rs with | some v, some l => some (v :: l) | _, _ => none
def frzC : List AV -> Heap -> Option (List AV × Heap)
  | [], H => some ([], H)
  | .slc id off n sz ag :: r, H => match H[id]? with
    | some (.cells cs _) =>
      if off + n * sz ≤ cs.length then match group ag sz n (cs.drop off) with
        | some l => match frzC r (H.set id .dead) with | some (r', H') => some (.list l none :: r', H') | none => none
        | none => none
      else none
    | _ => none
  | v :: r, H => match frzC r H with | some (r', H') => some (v :: r', H') | none => none
def frzL : List AV -> Heap -> Option (List AV × Heap)
  | [], H => some ([], H)
  | .agg cs :: r, H => match frzC cs H with
    | some (cs', H') => match frzL r H' with | some (r', H2) => some (.agg cs' :: r', H2) | none => none
    | none => none
  | v :: r, H => match frzC [v] H with
    | some ([v'], H') => match frzL r H' with | some (r', H2) => some (v' :: r', H2) | none => none
    | _ => none
def ahand (C : Cfg) (fz : Bool) (fn : Func) (t : List AV) (H : Heap) : Option (ARet × Heap) :=
  match aresults C t H fn.results.toList with
  | some l => match (if fz then frzL l H else some (l, H)) with
    | some ([v], H') => some (.ok v.erase, H')
    | some (l, H') => some (.ok (.tup (eraseL l)), H')
    | none => none
  | none => none
inductive DOut where
  | plain (x : AExit) (t : List AV) (H : Heap)
  | later (g : FuncId) (d : List AV) (x : AExit) (t : List AV) (H : Heap)
def isDefer (o : Oper) : Bool := match o.op with | .defer _ => true | _ => false
def adefer (C : Cfg) (o : Oper) (t : List AV) : Option (FuncId × List AV) :=
  match o.op with
  | .defer c => match c.callee, evs C t c.args.toList with
    | .value f, some args => match ev C t f with
      | some (.fn (.func g) first cap) => some (g, first ++ args ++ cap)
      | _ => none
    | _, _ => none
  | _ => none
def aopsD (C : Cfg) (call : Caller) (ops : Array Oper) : List Nat -> List AV -> Heap -> Option DOut
  | [], t, H => some (.plain .normal t H)
  | i :: rest, t, H =>
    match ops[i]? with
    | none => none
    | some o =>
      if Region.wanted o (ayielded ops t) then
        if isDefer o then
          match rest, adefer C o t with
          | [], some (g, d) => some (.later g d .normal (put t o.dst .undef) H)
          | _, _ => none
        else match adoOp C call o t H with
        | some (.ok v, H') => aopsD C call ops rest (put t o.dst v) H'
        | some (.panic v, H') => some (.plain (.panic v) t H')
        | none => none
      else aopsD C call ops rest (put t o.dst .undef) H
def arunD (C : Cfg) (call : Caller) (k : Nat) : Code -> List AV -> Heap -> Option DOut
  | .seq a b, t, H => match arunD C call k a t H with
    | some (.plain .normal t' H') => arunD C call k b t' H'
    | some (.later g d .normal t' H') => match arun C call k b t' H' with
      | some (x, t2, H2) => some (.later g d x t2 H2)
      | none => none
    | r => r
  | .region id ops draw, t, H =>
    if draw = false /\ ops.toList.any isDefer then aopsD C call ops (List.range ops.size) t H
    else match arun C call k (.region id ops draw) t H with
      | some (x, t', H') => some (.plain x t' H')
      | none => none
  | c, t, H => match arun C call k c t H with
    | some (x, t', H') => some (.plain x t' H')
    | none => none
def isRecover (o : Oper) : Bool := match o.op, o.guard with
  | .call c, none => (match c.callee with | .builtin .recover => c.args.isEmpty | _ => false)
  | _, _ => false
def arunR (C : Cfg) (call : Caller) (k : Nat) (v : AV) : Code -> List AV -> Heap -> Out
  | .seq a b, t, H => match arunR C call k v a t H with
    | some (.normal, t', H') => arun C call k b t' H'
    | r => r
  | .region _id ops draw, t, H =>
    match draw, List.range ops.size, ops[0]? with
    | false, _ :: rest, some o => if isRecover o then aops C call ops rest (put t o.dst v) H else none
    | _, _, _ => none
  | _, _, _ => none
def recovers : Code -> Bool
  | .seq a _ => recovers a
  | .region _ ops _ => match ops[0]? with | some o => isRecover o | none => false
  | _ => false
def frame (fn : Func) (args : List AV) : List AV := args ++ List.replicate (fn.ntmps - args.length) .undef
def alater (C : Cfg) (call : Caller) (k : Nat) (g : FuncId) (d : List AV) (p : Option AV) (H : Heap) : Option (Option AV × Heap) :=
  match C.P.funcs[g]? with
  | none => none
  | some fn => match fn.body with
    | none => none
    | some c =>
      if fn.results.size = 0 then
        if recovers c then match arunR C call k (p.getD .nilIface) c (frame fn d) H with
          | some (.normal, _, H') | some (.ret, _, H') => some (none, H')
          | _ => none
        else match arun C call k c (frame fn d) H with
          | some (.normal, _, H') | some (.ret, _, H') => some (p, H')
          | _ => none
      else none
def afn (C : Cfg) (call : Caller) (k : Nat) (fz : Bool) (fn : Func) (args : List AV) (H : Heap) : Option (ARet × Heap) :=
  match fn.body with
  | none => none
  | some c =>
    match arunD C call k c (frame fn args) H with
    | some (.plain .normal t H') | some (.plain .ret t H') => ahand C fz fn t H'
    | some (.plain (.panic v) _t H') => some (.panic v.erase, H')
    | some (.plain (.pan v) _t H') => some (.panic v.erase, H')
    | some (.later g d .normal t H') | some (.later g d .ret t H') => match alater C call k g d none H' with
      | some (_, H2) => ahand C fz fn t H2
      | none => none
    | some (.later g d (.panic v) t H') => match alater C call k g d (some v) H' with
      | some (none, H2) => ahand C fz fn t H2
      | some (some _, H2) => some (.panic v.erase, H2)
      | none => none
    | some (.later g d (.pan v) _t H') => match alater C call k g d (some v) H' with
      | some (some _, H2) => some (.panic v.erase, H2)
      | _ => none
    | _ => none
def retTree : ARet -> Bool
  | .ok v | .panic v => v.tree
def isEmptyArg : List AV -> Bool
  | [.list [] _] => true
  | _ => false
def isEmptyRet : ARet -> Bool
  | .ok (.list [] none) => true
  | _ => false
def acall (C : Cfg) : Nat -> Caller
  | 0, _, _, _ => none
  | n + 1, f, args, H =>
    match C.prim f with
    | some h => match h args with | some v => if v.tree then some (.ok v, H) else none | none => none
    | none =>
    match (if treeL args then none else C.hprim f) with
    | some h => match h args H with | some (v, H') => some (.ok v, H') | none => none
    | none =>
    match C.P.funcs[C.real f]? with
    | none => none
    | some fn =>
      if C.clone f && isEmptyArg args then
        match afn (C.at f) (acall C n) n (C.frz f) fn [.nilS] [], afn (C.at f) (acall C n) n (C.frz f) fn [.someS] [] with
        | some (r1, _), some (r2, _) => if isEmptyRet r1 && isEmptyRet r2 then some (.ok (.list [] none), H) else none
        | _, _ => none
      else if C.frzA f && !treeL args then
        match frzL args H with
        | some (args', H') =>
          if treeL args' && (idsL args).all (reachL H args).contains then
            match afn (C.at f) (acall C n) n (C.frz f) fn args' [] with
            | some (r, _) => if retTree r then some (r, H') else none
            | none => none
          else none
        | none => none
      else if treeL args && !C.makes f then
        match afn (C.at f) (acall C n) n (C.frz f) fn args [] with
        | some (r, _) => if retTree r then some (r, H) else none
        | none => none
      else if closed H (reachL H args) && (idsL args).all (reachL H args).contains then
        match afn (C.at f) (acall C n) n (C.frz f) fn args (mask (reachL H args) 0 H) with
        | some (r, H1) => if H.length ≤ H1.length then some (r, unmask (reachL H args) 0 H H1) else none
        | none => none
      else none
end Go.Tv
namespace Go.Tv
theorem ofScalar_rep (E : Env) {v : Value} {a : AV} (h : ofScalar v = some a) : Rep E a v := by
  unfold ofScalar at h
  split at h <;> try (injection h with h; subst h)
  . exact .bool _
  . exact .int _ _
  . exact .str _
  . exact .nilFn
  . exact .nilIface
  . exact .nilPtr
  . exact .nilMap
  . split at h
    . injection h with h; subst h; exact .empty _
    . cases h
  . cases h
theorem ofScalars_len : ∀ {l : List Value} {as : List AV}, ofScalars l = some as -> as.length = l.length
  | [], as, h => by simp [ofScalars] at h; subst h; rfl
  | v :: l, as, h => by
    simp only [ofScalars] at h
    split at h
    . rename_i a l' h1 h2; injection h with h; subst h; simp [ofScalars_len h2]
    . cases h
theorem ofScalars_get (E : Env) : ∀ {l : List Value} {as : List AV}, ofScalars l = some as -> ∀ i, i < as.length -> Rep E (as.getD i .empty) (l.getD i undef)
  | [], as, h => by simp [ofScalars] at h; subst h; intro i hi; simp at hi
  | v :: l, as, h => by
    simp only [ofScalars] at h
    split at h
    . rename_i a l' h1 h2; injection h with h; subst h
      intro i hi
      cases i with
      | zero => simpa using ofScalar_rep E h1
      | succ i => simpa using ofScalars_get E h2 i (by simpa using hi)
    . cases h
theorem ofConst_rep (E : Env) {v : Value} {a : AV} (h : ofConst v = some a) : Rep E a v := by
  unfold ofConst at h
  split at h
  . rename_i cs
    cases hs : ofScalars cs.toList with
    | none => simp [hs] at h
    | some l =>
      simp [hs] at h; subst h
      refine .agg _ _ (by simpa using ofScalars_len hs) fun i hi => ?_
      have := ofScalars_get E hs i hi
      simpa [Array.getD_eq_getD_getElem?, List.getD_eq_getElem?_getD] using this
  . rename_i cs
    split at h
    . rename_i hl; injection h with h; subst h
      exact .tup _ _ (by have := congrArg List.length hl; simpa using this.symm) fun i hi => by simp at hi
    . cases h
  . rename_i t x
    cases hs : ofScalar x with
    | none => simp [hs] at h
    | some l => simp [hs] at h; subst h; exact .iface _ _ _ (ofScalar_rep E hs)
  . exact ofScalar_rep E h
theorem ofScalarN_rep (E : Env) {v : Value} {a : AV} (h : ofScalarN v = some a) : Rep E a v := by
  unfold ofScalarN at h
  split at h
  . injection h with h; subst h; exact .nilS 0
  . exact ofScalar_rep E h
theorem ofScalarsN_len : ∀ {l : List Value} {as}, ofScalarsN l = some as -> as.length = l.length
  | [], as, h => by simp [ofScalarsN] at h; subst h; rfl
  | v :: l, as, h => by
    simp only [ofScalarsN] at h
    split at h
    . rename_i a l' h1 h2; injection h with h; subst h; simp [ofScalarsN_len h2]
    . cases h
theorem ofScalarsN_get (E : Env) : ∀ {l : List Value} {as}, ofScalarsN l = some as -> ∀ i, i < as.length -> Rep E (as.getD i .empty) (l.getD i undef)
  | [], as, h => by simp [ofScalarsN] at h; subst h; intro i hi; simp at hi
  | v :: l, as, h => by
    simp only [ofScalarsN] at h
    split at h
    . rename_i a l' h1 h2; injection h with h; subst h
      intro i hi
      cases i with
      | zero => simpa using ofScalarN_rep E h1
      | succ i => simpa using ofScalarsN_get E h2 i (by simpa using hi)
    . cases h
theorem ofConstN_rep (E : Env) {v : Value} {a : AV} (h : ofConstN v = some a) : Rep E a v := by
  unfold ofConstN at h
  split at h
  . rename_i cs
    cases hs : ofScalarsN cs.toList with
    | none => simp [hs] at h
    | some l =>
      simp [hs] at h; subst h
      refine .agg _ _ (by simpa using ofScalarsN_len hs) fun i hi => ?_
      have := ofScalarsN_get E hs i hi
      simpa [Array.getD_eq_getD_getElem?, List.getD_eq_getElem?_getD] using this
  . exact ofScalarN_rep E h
theorem constZ_rep (E : Env) {b : Bool} {v : Value} {a : AV} (h : (if b then ofConstN v else ofConst v) = some a) : Rep E a v := by
  cases b with
  | true => exact ofConstN_rep E (by simpa using h)
  | false => exact ofConst_rep E (by simpa using h)
def Env.pure (E : Env) : Env := ⟨E.st, fun _ => none, 0, E.d, E.k⟩
theorem Env.pure_le (E : Env) : E.pure.le E := ⟨fun _ _ _ h => h, (fun _ _ h => by cases h), Nat.zero_le _, rfl, rfl⟩
theorem Env.pure_mono {E E' : Env} (h : E.le E') : E.pure.le E'.pure := ⟨h.st, (fun _ _ h => by cases h), Nat.le_refl _, h.d, h.k⟩
structure GlobOk (C : Cfg) (E : Env) : Prop where
  glob : ∀ g cs, C.glob g = some cs -> Rep E.pure (.tptr cs) (.pointer (some ⟨g, 0, none⟩))
  ints : ∀ g ∈ C.ints, ∃ n, E.st g 0 = some (.int .i64 n)
  d : E.d -> C.dr = true
  tab : ∀ g p, C.tab g = some p -> ∃ o, E.k g = some o /\ p o
theorem GlobOk.mono {C : Cfg} {E E' : Env} (h : E.le E') (k : GlobOk C E) : GlobOk C E' :=
  ⟨fun g cs hc => (k.glob g cs hc).mono (Env.pure_mono h), fun g hg => let ⟨n, hn⟩ := k.ints g hg; ⟨n, h.st _ _ _ hn⟩, fun hd => k.d (h.d ▸ hd), fun g p hp => by rw [h.k]; exact k.tab g p hp⟩
theorem RepL.getU {E : Env} {t : List AV} {tc : Array Value} (h : RepL E t tc) (i : Nat) : Rep E (t.getD i .undef) (tc.getD i undef) := by
  by_cases hi : i < t.length
  . have := h.get i hi
    rwa [List.getD_eq_getElem?_getD, List.getElem?_eq_getElem hi] at this ⊢
  . have h1 : t.getD i .undef = .undef := by simp [List.getD_eq_getElem?_getD, List.getElem?_eq_none (Nat.le_of_not_lt hi)]
    have h2 : tc.getD i undef = undef := by
      have hs := h.size
      simp [Array.getD_eq_getD_getElem?, Array.getElem?_eq_none (show tc.size ≤ i by omega)]
    rw [h1, h2]
    exact .tup [] #[] rfl (fun i hi => by simp at hi)
theorem ev_rep {C : Cfg} {E : Env} {t : List AV} {a : Act} (ht : RepL E t a.tmps) (hg : GlobOk C E) {x : Operand} {v : AV} (h : ev C t x = some v) : Rep E v (a.eval x) := by
  cases x with
  | tmp i => simp only [ev] at h; injection h with h; subst h; exact ht.getU i
  | const c => exact ofConst_rep E h
  | global g =>
    simp only [ev] at h
    cases hc : C.glob g with
    | none => simp [hc] at h
    | some cs => simp [hc] at h; subst h; exact (hg.glob g cs hc).mono E.pure_le
  | func f => simp only [ev] at h; injection h with h; subst h; exact .fn _ _ _ _ _ rfl (fun i hi => by simp at hi) rfl (fun i hi => by simp at hi)
theorem evs_rep {C : Cfg} {E : Env} {t : List AV} {a : Act} (ht : RepL E t a.tmps) (hg : GlobOk C E) : ∀ {xs : List Operand} {vs : List AV}, evs C t xs = some vs ->
    vs.length = xs.length /\ ∀ i, i < vs.length -> Rep E (vs.getD i .empty) ((xs.map a.eval).getD i undef)
  | [], vs, h => by simp [evs] at h; subst h; exact ⟨rfl, fun i hi => by simp at hi⟩
  | x :: xs, vs, h => by
    simp only [evs] at h
    split at h
    . rename_i v l h1 h2; injection h with h; subst h
      have := evs_rep ht hg h2
      refine ⟨by simp [this.1], fun i hi => ?_⟩
      cases i with
      | zero => simpa using ev_rep ht hg h1
      | succ i => simpa using this.2 i (by simpa using hi)
    . cases h
theorem RepL.of_list {E : Env} {vs : List AV} {xs : List Value} (h1 : vs.length = xs.length) (h2 : ∀ i, i < vs.length -> Rep E (vs.getD i .empty) (xs.getD i undef)) : RepL E vs xs.toArray :=
  ⟨by simpa using h1, fun i hi => by have := h2 i hi; simpa [Array.getD_eq_getD_getElem?, List.getD_eq_getElem?_getD] using this⟩
theorem evs_repL {C : Cfg} {E : Env} {t : List AV} {a : Act} (ht : RepL E t a.tmps) (hg : GlobOk C E) {xs : Array Operand} {vs : List AV} (h : evs C t xs.toList = some vs) : RepL E vs (xs.map a.eval) := by
  have := evs_rep ht hg h
  have e : xs.map a.eval = (xs.toList.map a.eval).toArray := by apply Array.ext'; simp
  rw [e]
  exact .of_list (by simpa using this.1) this.2
section
variable {E : Env}
theorem Rep.inv_int {k : IntKind} {n : Int} {x : Value} (h : Rep E (.int k n) x) : x = .int k n := by cases h; rfl
theorem Rep.inv_bool {b : Bool} {x : Value} (h : Rep E (.bool b) x) : x = .bool b := by cases h; rfl
theorem Rep.inv_str {s : List UInt8} {x : Value} (h : Rep E (.str s) x) : ∃ b : ByteArray, x = .string b /\ b.data.toList = s := by cases h; exact ⟨_, rfl, rfl⟩
theorem Rep.inv_agg {cs : List AV} {x : Value} (h : Rep E (.agg cs) x) : ∃ vs, x = .agg vs /\ RepL E cs vs := by cases h with | agg _ vs hn hr => exact ⟨vs, rfl, hn, hr⟩
theorem Rep.inv_tup {cs : List AV} {x : Value} (h : Rep E (.tup cs) x) : ∃ vs, x = .tuple vs /\ RepL E cs vs := by cases h with | tup _ vs hn hr => exact ⟨vs, rfl, hn, hr⟩
theorem Rep.inv_fn {f : Fn} {a c : List AV} {x : Value} (h : Rep E (.fn f a c) x) : ∃ as cs, x = .func f as cs /\ RepL E a as /\ RepL E c cs := by
  cases h with | fn _ _ _ fs cs h1 h2 h3 h4 => exact ⟨fs, cs, rfl, ⟨h1, h2⟩, ⟨h3, h4⟩⟩
theorem Rep.inv_iface {t : TypeId} {v : AV} {x : Value} (h : Rep E (.iface t v) x) : ∃ y, x = .iface t y /\ Rep E v y := by cases h with | iface _ _ y h => exact ⟨y, rfl, h⟩
theorem Rep.inv_ptr {id off : Nat} {x : Value} (h : Rep E (.ptr id off) x) : ∃ b nc sz, E.f id = some (b, nc, sz) /\ x = .pointer (some ⟨b, off, none⟩) := by cases h with | ptr _ _ b nc sz h => exact ⟨b, nc, sz, h, rfl⟩
theorem Rep.inv_mapr {id : Nat} {x : Value} (h : Rep E (.mapr id) x) : ∃ b nc sz, E.f id = some (b, nc, sz) /\ x = .map (some b) := by cases h with | mapr _ b nc sz h => exact ⟨b, nc, sz, h, rfl⟩
theorem Rep.inv_slc {id off n sz : Nat} {ag : Bool} {x : Value} (h : Rep E (.slc id off n sz ag) x) : ∃ b nc s cap o, E.f id = some (b, nc, s) /\ n ≤ cap /\ (0 < n -> o = off) /\ x = .slice (some ⟨b, o, none⟩) n cap := by cases h with | slc _ _ _ _ _ b nc s cap o h hc ho hz => exact ⟨b, nc, s, cap, o, h, hc, fun hn => ho (Nat.lt_of_lt_of_le hn hc), rfl⟩
theorem Rep.inv_slc2 {id off n sz : Nat} {ag : Bool} {x : Value} (h : Rep E (.slc id off n sz ag) x) : ∃ b nc s cap o, E.f id = some (b, nc, s) /\ n ≤ cap /\ (0 < cap -> o = off) /\ o + cap * sz ≤ nc /\ x = .slice (some ⟨b, o, none⟩) n cap := by cases h with | slc _ _ _ _ _ b nc s cap o h hc ho hz => exact ⟨b, nc, s, cap, o, h, hc, ho, hz, rfl⟩
theorem Rep.inv_tptr {cs : List AV} {x : Value} (h : Rep E (.tptr cs) x) : ∃ (a : Addr) (vs : Nat -> Value), x = .pointer (some a) /\ a.spot = none /\ (∀ k, k < cs.length -> E.st a.block (a.off + k) = some (vs k)) /\ (∀ k, k < cs.length -> Rep E (cs.getD k .empty) (vs k)) := by
  cases h with | tptr _ a vs h1 h2 h3 => exact ⟨a, vs, rfl, h1, h2, h3⟩
theorem Rep.inv_empty {x : Value} (h : Rep E .empty x) : ∃ b, x = .slice b 0 0 := by cases h with | empty b => exact ⟨b, rfl⟩
end
theorem Rep.cells {E : Env} {v : AV} {x : Value} (h : Rep E v x) : RepL E v.cells x.cells := by
  cases h with
  | agg cs vs hn hr => exact ⟨hn, hr⟩
  | _ => exact ⟨rfl, fun i hi => by
      have : i = 0 := by simp [AV.cells] at hi; exact hi
      subst this
      simp [AV.cells, Value.cells]
      constructor <;> assumption⟩
end Go.Tv
namespace Go.Tv
theorem szOf_run {C : Cfg} {T : TypeId} {n : Nat} (h : szOf C T = some n) (w : World) : (sizeOf T).run C.P w = .ok n w := by
  unfold szOf at h
  cases hi : C.P.info? T with
  | none => simp [hi] at h
  | some i => simp [hi] at h; subst h; simp [sizeOf, typeInfo, hi]
theorem aggT_run {C : Cfg} {T : TypeId} {b : Bool} (h : aggT C T = some b) (w : World) : (isAgg T).run C.P w = .ok b w := by
  unfold aggT at h
  split at h
  . rename_i fs hu; injection h with h; subst h; simp [isAgg, run_underlying hu]
  . rename_i n e hu; injection h with h; subst h; simp [isAgg, run_underlying hu]
  . rename_i d h1 h2 hu; injection h with h; subst h
    simp only [isAgg, Sem.run_bind, run_underlying hu, Result.andThen_ok]
    cases d <;> first | rfl | exact absurd rfl (h1 _) | exact absurd rfl (h2 _ _)
  . cases h
theorem zeroOf_run {C : Cfg} {T : TypeId} {z : AV} (h : zeroOf C T = some z) (E : Env) (w : World) : ∃ c, (zeroValue T).run C.P w = .ok c w /\ Rep E z c := by
  unfold zeroOf at h
  split at h
  . rename_i i hi
    split at h
    . rename_i v hz; exact ⟨v, by simp [zeroValue, typeInfo, hi, hz], constZ_rep E h⟩
    . cases h
  . cases h
theorem Addr.add_eq {a : Addr} (h : a.spot = none) (n : Nat) : a.add n = ⟨a.block, a.off + n, none⟩ := by
  unfold Addr.add
  split
  . rename_i hn; subst hn; cases a; simp at h; simp [h]
  . cases a; rfl
structure CellsAt (E : Env) (w : World) (a : Addr) (cs : List AV) : Prop where
  spot : a.spot = none
  get : ∀ k, k < cs.length -> ∃ v, w.cell? ⟨a.block, a.off + k, none⟩ = some v /\ Rep E (cs.getD k .empty) v
theorem getD_drop (cs : List AV) (n k : Nat) : (cs.drop n).getD k .empty = cs.getD (n + k) .empty := by
  simp [List.getD_eq_getElem?_getD]
theorem cell_of {w : World} {b : Nat} {vs : Array Value} {T : TypeId} {z : Nat × Nat} (h : w.heap[b]? = some (.cells vs T z)) (o : Nat) : w.cell? ⟨b, o, none⟩ = vs[o]? := by
  simp [World.cell?, h]
theorem cellsAt_sound {E : Env} {H : Heap} {w : World} (hH : Holds E H w) {p : AV} {x : Value} (hp : Rep E p x) {cs : List AV} (h : cellsAt H p = some cs) :
    ∃ a, x = .pointer (some a) /\ CellsAt E w a cs := by
  cases p <;> simp only [cellsAt] at h <;> try (cases h; done)
  case tptr l =>
    injection h with h; subst h
    obtain ⟨a, vs, rfl, ha, hs, hr⟩ := hp.inv_tptr
    exact ⟨a, rfl, ha, fun k hk => ⟨vs k, hH.st _ _ _ (hs k hk), hr k hk⟩⟩
  case ptr id off =>
    split at h
    . rename_i l T hi
      split at h
      . rename_i hle; injection h with h; subst h
        obtain ⟨b, nc, sz, hf, rfl⟩ := hp.inv_ptr
        obtain ⟨b', nc', sz', hf', hO⟩ := hH.obj _ _ hi (by simp)
        rw [hf] at hf'; injection hf' with hf'; injection hf' with e1 e2; injection e2 with e2 e3; subst e1 e2 e3
        obtain ⟨vs, hv, hn, hR, _⟩ := hO
        refine ⟨_, rfl, rfl, fun k hk => ?_⟩
        simp at hk
        have hlt : off + k < l.length := by omega
        have := hR.get _ hlt
        have hsz := hR.size
        refine ⟨vs.getD (off + k) undef, ?_, by rw [getD_drop]; exact this⟩
        rw [cell_of hv]
        simp [Array.getD_eq_getD_getElem?, Array.getElem?_eq_getElem (show off + k < vs.size by omega)]
      . cases h
    . cases h
theorem ldCells_sound {C : Cfg} {E : Env} {w : World} {a : Addr} {cs : List AV} (hc : CellsAt E w a cs) {T : TypeId} {v : AV} (h : ldCells C T cs = some v) :
    ∃ c, (loadVar T a).run C.P w = .ok c w /\ Rep E v c := by
  unfold ldCells at h
  split at h
  . rename_i n h1 h2
    split at h
    . rename_i hn; injection h with h; subst h
      let f : Nat -> Value := fun k => (w.cell? ⟨a.block, a.off + k, none⟩).getD undef
      have hl : ∀ j, j < n -> w.cell? (a.add j) = some (f j) := by
        intro j hj
        obtain ⟨v, hv, _⟩ := hc.get j (by omega)
        rw [Addr.add_eq hc.spot]; simp [f, hv]
      refine ⟨.agg ((List.range n).map f).toArray, ?_, ?_⟩
      . simp only [loadVar, Sem.run_bind, aggT_run h1, Result.andThen_ok, if_true, szOf_run h2]
        rw [run_loadCells w a n f hl]
        simp
      . refine .agg _ _ (by simp; omega) fun i hi => ?_
        have hi' : i < n := by simp at hi; omega
        obtain ⟨v, hv, hr⟩ := hc.get i (by omega)
        have e1 : (cs.take n).getD i .empty = cs.getD i .empty := by simp [List.getD_eq_getElem?_getD, hi']
        have e2 : ((List.range n).map f).toArray.getD i undef = v := by simp [Array.getD_eq_getD_getElem?, hi', f, hv]
        rw [e1, e2]; exact hr
    . cases h
  . rename_i n h1 h2
    cases cs with
    | nil => simp at h
    | cons x xs =>
      simp at h; subst h
      obtain ⟨v, hv, hr⟩ := hc.get 0 (by simp)
      refine ⟨v, ?_, by simpa using hr⟩
      have : w.cell? a = some v := by cases a; have := hc.spot; simp at this; subst this; simpa using hv
      simp [loadVar, aggT_run h1, this]
  . cases h
end Go.Tv
namespace Go.Tv
def Env.setF (E : Env) (i : Nat) (p : Nat × Nat × Nat) : Env := ⟨E.st, fun j => if j = i then some p else E.f j, E.n + 1, E.d, E.k⟩
def Env.addSt (E : Env) (b lo : Nat) (vs : List Value) : Env := ⟨fun b' o => if b' = b /\ lo ≤ o /\ o < lo + vs.length then vs[o - lo]? else E.st b' o, E.f, E.n, E.d, E.k⟩
theorem Env.le_setF {E : Env} {i : Nat} {p : Nat × Nat × Nat} (h : E.f i = none) : E.le (E.setF i p) :=
  ⟨fun _ _ _ h => h, fun j q hj => by simp only [Env.setF]; split; · rename_i e; subst e; rw [h] at hj; cases hj
                                      . exact hj, Nat.le_succ _, rfl, rfl⟩
theorem Env.le_addSt {E : Env} {b lo : Nat} {vs : List Value} (h : ∀ o, lo ≤ o -> o < lo + vs.length -> E.st b o = none) : E.le (E.addSt b lo vs) :=
  ⟨fun b' o v hv => by
    simp only [Env.addSt]; split
    . rename_i e; obtain ⟨rfl, h1, h2⟩ := e; rw [h o h1 h2] at hv; cases hv
    . exact hv, fun _ _ h => h, Nat.le_refl _, rfl, rfl⟩
theorem Holds.fresh_f {E : Env} {H : Heap} {w : World} (h : Holds E H w) : E.f H.length = none := by
  cases hf : E.f H.length with
  | none => rfl
  | some p => have := (h.dom _ _ hf).1; omega
theorem Holds.fresh_st {E : Env} {H : Heap} {w : World} (h : Holds E H w) (o : Nat) : E.st w.heap.size o = none := by
  cases hf : E.st w.heap.size o with
  | none => rfl
  | some v => have := w.block_lt_of_cell? _ (h.st _ _ _ hf); simp at this
theorem Holds.fresh_k {E : Env} {H : Heap} {w : World} (h : Holds E H w) : E.k w.heap.size = none := by
  cases hf : E.k w.heap.size with
  | none => rfl
  | some v => have := (Array.getElem?_eq_some_iff.1 (h.blk _ _ hf).1).1; simp at this
theorem Holds.k_none {E : Env} {H : Heap} {w : World} (h : Holds E H w) {i : Nat} {p : Nat × Nat × Nat} (hp : E.f i = some p) : E.k p.1 = none := by
  cases hf : E.k p.1 with
  | none => rfl
  | some v => exact absurd rfl ((h.blk _ _ hf).2 _ _ hp)
theorem heap_new (w : World) (o : Obj) : (w.alloc o).heap[w.heap.size]? = some o := by
  show (w.heap.push o)[w.heap.size]? = _
  simp
theorem ObjRel.mono_world {E : Env} {w w' : World} {b nc sz : Nat} {o : AObj} (hb : w'.heap[b]? = w.heap[b]?) (h : ObjRel E w b nc sz o) : ObjRel E w' b nc sz o := by
  cases o <;> simp only [ObjRel, hb] at h ⊢ <;> exact h
theorem ObjRel.mono_env {E E' : Env} {w : World} {b nc sz : Nat} {o : AObj} (hE : E.le E') (hst : ∀ o, E'.st b o = E.st b o) (h : ObjRel E w b nc sz o) : ObjRel E' w b nc sz o := by
  cases o with
  | cells cs T => obtain ⟨vs, h1, h2, h3, h4⟩ := h; exact ⟨vs, h1, h2, h3.mono hE, fun o => by rw [hst]; exact h4 o⟩
  | tail n s => obtain ⟨h0, vs, T, h1, h2, h3⟩ := h; exact ⟨h0, vs, T, h1, h2, fun o ho => by rw [hst]; exact h3 o ho⟩
  | amap es => obtain ⟨ms, c, h1, h2, h3⟩ := h; exact ⟨ms, c, h1, h2.mono hE, fun o => by rw [hst]; exact h3 o⟩
  | siter s pos => exact ⟨h.1, fun o => by rw [hst]; exact h.2 o⟩
  | dead => trivial
theorem Holds.array {E : Env} {H : Heap} {w : World} (h : Holds E H w) {cs : List AV} {vs : Array Value} (hr : RepP E cs vs) (T : TypeId) :
    ∃ E', Ext E w E' (w.alloc (.cells vs T)) /\ Holds E' (H ++ [.cells cs T]) (w.alloc (.cells vs T)) /\ E'.f H.length = some (w.heap.size, vs.size, 1) := by
  have hf := h.fresh_f
  have hle : E.le (E.setF H.length (w.heap.size, vs.size, 1)) := Env.le_setF hf
  refine ⟨E.setF H.length (w.heap.size, vs.size, 1), ?_, ?_, by simp [Env.setF]⟩
  . have e := Ext.alloc (E := E) w (.cells vs T)
    refine ⟨hle, e.os, e.tape, e.output, e.size, e.keep, fun i p hp => ?_, fun b o v hv => .inl hv, e.drawn⟩
    simp only [Env.setF] at hp
    split at hp
    . rename_i ei; injection hp with hp; subst hp; exact .inr ⟨by rw [ei, h.len]; exact Nat.le_refl _, .inl (Nat.le_refl _)⟩
    . exact .inl hp
  . have h1 := h.alloc (.cells vs T)
    refine ⟨h1.st, fun i p hp => ?_, fun i o hi hd => ?_, fun i j p q hp hq e => ?_, by simp [Env.setF, h.len], fun b o hb => ⟨(h1.blk b o hb).1, fun i p hp => ?_⟩⟩
    rotate_left 3
    . simp only [Env.setF] at hp
      split at hp
      . injection hp with hp; subst hp; intro e0; subst e0
        have := h.fresh_k; rw [show E.k w.heap.size = some o from hb] at this; cases this
      . exact (h.blk b o hb).2 i p hp
    . simp only [Env.setF] at hp
      split at hp
      . rename_i e; injection hp with hp; subst hp e; simp
      . have := h1.dom i p hp; simp at this ⊢; omega
    . by_cases hlt : i < H.length
      . rw [List.getElem?_append_left hlt] at hi
        obtain ⟨b, nc, sz, h2, h3⟩ := h1.obj i o hi hd
        exact ⟨b, nc, sz, hle.f _ _ h2, h3.mono_env hle (fun _ => rfl)⟩
      . rw [List.getElem?_append_right (by omega)] at hi
        have : i = H.length := by
          have := (List.getElem?_eq_some_iff.1 hi).1; simp at this; omega
        subst this
        simp at hi; subst hi
        exact ⟨w.heap.size, vs.size, 1, by simp [Env.setF], vs, heap_new w _, rfl, hr.mono hle, fun o => h.fresh_st o⟩
    . simp only [Env.setF] at hp hq
      split at hp <;> split at hq
      . rename_i e1 e2; exact .inl (e1.trans e2.symm)
      . injection hp with hp; subst hp; have := (h.dom _ _ hq).2; simp at e; omega
      . injection hq with hq; subst hq; have := (h.dom _ _ hp).2; simp at e; omega
      . rename_i e1 e2
        have l1 := (h.dom _ _ hp).1; have l2 := (h.dom _ _ hq).1
        rw [List.getElem?_append_left l1, List.getElem?_append_left l2]
        exact h.inj i j p q hp hq e
theorem Holds.box {E : Env} {H : Heap} {w : World} (h : Holds E H w) {cs : List AV} {vs : Array Value} (hr : RepL E cs vs) (T : TypeId) :
    ∃ E', Ext E w E' (w.alloc (.cells vs T)) /\ Holds E' (H ++ [.cells cs T]) (w.alloc (.cells vs T)) /\ Rep E' (.ptr H.length 0) (.pointer (some ⟨w.heap.size, 0, none⟩)) := by
  obtain ⟨E', h1, h2, h3⟩ := h.array hr.part T
  exact ⟨E', h1, h2, .ptr _ _ _ vs.size 1 h3⟩
theorem RepP.splice {E : Env} {cs new : List AV} {vs : Array Value} {nv : Array Value} {off : Nat} (h : RepP E cs vs) (hn : RepL E new nv) (hle : off + new.length ≤ cs.length) :
    RepP E (splice cs off new) (vs.toList.take off ++ nv.toList ++ vs.toList.drop (off + nv.toList.length)).toArray := by
  have hs := h.size; have hs2 := hn.size
  refine ⟨by simp [Go.Tv.splice]; omega, fun i hi => ?_⟩
  have key : ∀ i, i < cs.length -> (Rep E (cs.getD i .empty) (vs.getD i undef)) := h.get
  simp only [Go.Tv.splice, List.length_append, List.length_take, List.length_drop] at hi
  by_cases h1 : i < off
  . have := h.get i (by omega)
    have e1 : (Go.Tv.splice cs off new).getD i .empty = cs.getD i .empty := by
      simp only [Go.Tv.splice, List.getD_eq_getElem?_getD]
      rw [List.getElem?_append_left (by simp; omega), List.getElem?_take, if_pos h1]
    have e2 : (vs.toList.take off ++ nv.toList ++ vs.toList.drop (off + nv.toList.length)).toArray.getD i undef = vs.getD i undef := by
      simp only [Array.getD_eq_getD_getElem?, List.append_assoc, List.getElem?_toArray]
      rw [List.getElem?_append_left (by simp; omega), List.getElem?_take, if_pos h1]; simp
    rw [e1, e2]; exact this
  . by_cases h2 : i < off + new.length
    . have := hn.get (i - off) (by omega)
      have e1 : (Go.Tv.splice cs off new).getD i .empty = new.getD (i - off) .empty := by
        simp only [Go.Tv.splice, List.getD_eq_getElem?_getD]
        rw [List.getElem?_append_right (by simp; omega), List.getElem?_append_left (by simp; omega)]
        congr 2; simp; omega
      have e2 : (vs.toList.take off ++ nv.toList ++ vs.toList.drop (off + nv.toList.length)).toArray.getD i undef = nv.getD (i - off) undef := by
        simp only [Array.getD_eq_getD_getElem?, List.append_assoc, List.getElem?_toArray]
        rw [List.getElem?_append_right (by simp; omega), List.getElem?_append_left (by simp; omega)]
        have : i - (List.take off vs.toList).length = i - off := by simp; omega
        rw [this]; simp
      rw [e1, e2]; exact this
    . have := h.get i (by omega)
      have e1 : (Go.Tv.splice cs off new).getD i .empty = cs.getD i .empty := by
        simp only [Go.Tv.splice, List.getD_eq_getElem?_getD]
        rw [List.getElem?_append_right (by simp; omega), List.getElem?_append_right (by simp; omega), List.getElem?_drop]
        congr 2; simp; omega
      have e2 : (vs.toList.take off ++ nv.toList ++ vs.toList.drop (off + nv.toList.length)).toArray.getD i undef = vs.getD i undef := by
        simp only [Array.getD_eq_getD_getElem?, List.append_assoc, List.getElem?_toArray]
        rw [List.getElem?_append_right (by simp; omega), List.getElem?_append_right (by simp; omega), List.getElem?_drop]
        have : off + nv.toList.length + (i - (List.take off vs.toList).length - nv.toList.length) = i := by simp; omega
        rw [this]; simp
      rw [e1, e2]; exact this
theorem RepL.splice {E : Env} {cs new : List AV} {vs : Array Value} {nv : Array Value} {off : Nat} (h : RepL E cs vs) (hn : RepL E new nv) (hle : off + new.length ≤ cs.length) :
    RepL E (splice cs off new) (vs.toList.take off ++ nv.toList ++ vs.toList.drop (off + nv.toList.length)).toArray := by
  have hs := h.size; have hs2 := hn.size
  exact ⟨by simp [Go.Tv.splice]; omega, (h.part.splice hn hle).get⟩
theorem Holds.put {E : Env} {H : Heap} {w : World} (h : Holds E H w) {id : Nat} {cs : List AV} {T : TypeId} (hi : H[id]? = some (.cells cs T)) {b nc sz : Nat} (hf : E.f id = some (b, nc, sz))
    {new : List AV} {nv : Array Value} (hr : RepL E new nv) {off : Nat} (hle : off + new.length ≤ cs.length) :
    ∃ vs, w.heap[b]? = some (.cells vs T (0, 0)) /\ cs.length ≤ vs.size /\
      Ext E w E (w.setRow b (vs.toList.take off ++ nv.toList ++ vs.toList.drop (off + nv.toList.length)).toArray) /\
      Holds E (H.set id (.cells (splice cs off new) T)) (w.setRow b (vs.toList.take off ++ nv.toList ++ vs.toList.drop (off + nv.toList.length)).toArray) := by
  obtain ⟨b', nc', sz', hf', hO⟩ := h.obj _ _ hi (by simp)
  rw [hf] at hf'; injection hf' with hf'; injection hf' with e1 e2; injection e2 with e2 e3; subst e1 e2 e3
  obtain ⟨vs, hv, hn, hR, hS⟩ := hO
  have hlt := (h.dom _ _ hf).2
  have hidlt : id < H.length := (h.dom _ _ hf).1
  refine ⟨vs, hv, hR.size, ?_, ?_⟩
  . refine ⟨E.le_refl, rfl, rfl, rfl, by simp, fun k hk hne => ?_, fun _ _ h => .inl h, fun _ _ _ h => .inl h, fun _ => Nat.le_refl _⟩
    exact setRow_other w b k _ (fun e => hne _ _ hf e.symm)
  . refine ⟨fun k o v hv' => ?_, fun i p hp => ?_, fun i o hi' hd => ?_, fun i j p q hp hq e => ?_, by simpa using h.len, fun k o hk => ⟨(setRow_other w b k _ (fun e => (h.blk k o hk).2 _ _ hf e.symm)).trans (h.blk k o hk).1, (h.blk k o hk).2⟩⟩
    . have hne : k ≠ b := fun e => by subst e; rw [hS] at hv'; cases hv'
      rw [cell_setRow_other w b _ _ hne]; exact h.st _ _ _ hv'
    . have := h.dom i p hp; simpa using this
    . by_cases e : i = id
      . subst e
        rw [List.getElem?_set_self hidlt] at hi'; injection hi' with hi'; subst hi'
        refine ⟨b, nc, sz, hf, _, setRow_heap w b vs _ T (0, 0) hv, ?_, hR.splice hr hle, hS⟩
        have := hR.size; have := hr.size; simp; omega
      . rw [List.getElem?_set_ne (Ne.symm e)] at hi'
        obtain ⟨b2, n2, s2, h2, h3⟩ := h.obj i o hi' hd
        refine ⟨b2, n2, s2, h2, h3.mono_world (setRow_other w b b2 _ fun eb => ?_)⟩
        rcases h.inj i id _ _ h2 hf eb with hh | hh | hh
        . exact e hh
        . rw [hi'] at hh; injection hh with hh; exact hd hh
        . rw [hi] at hh; cases hh
    . rcases h.inj i j p q hp hq e with hh | hh | hh
      . exact .inl hh
      . by_cases ei : i = id
        . subst ei; rw [hi] at hh; cases hh
        . exact .inr (.inl (by rw [List.getElem?_set_ne (Ne.symm ei)]; exact hh))
      . by_cases ej : j = id
        . subst ej; rw [hi] at hh; cases hh
        . exact .inr (.inr (by rw [List.getElem?_set_ne (Ne.symm ej)]; exact hh))
theorem Holds.row {E : Env} {H : Heap} {w : World} (h : Holds E H w) (vs : Array Value) (T : TypeId) (z : Nat × Nat) :
    Ext E w (E.addSt w.heap.size 0 vs.toList) (w.alloc (.cells vs T z)) /\ Holds (E.addSt w.heap.size 0 vs.toList) H (w.alloc (.cells vs T z)) := by
  have hle : E.le (E.addSt w.heap.size 0 vs.toList) := Env.le_addSt fun o _ _ => h.fresh_st o
  have e := Ext.alloc (E := E) w (.cells vs T z)
  have h1 := h.alloc (.cells vs T z)
  refine ⟨⟨hle, e.os, e.tape, e.output, e.size, e.keep, fun i p hp => .inl hp, fun b o v hv => ?_, e.drawn⟩, ⟨fun b o v hv => ?_, h1.dom, fun i o hi hd => ?_, h1.inj, h1.len, h1.blk⟩⟩
  . simp only [Env.addSt] at hv
    split at hv
    . rename_i e; exact .inr (.inl (by omega))
    . exact .inl hv
  . simp only [Env.addSt] at hv
    split at hv
    . rename_i e; obtain ⟨rfl, _, _⟩ := e
      rw [cell_of (heap_new w _)]; simpa using hv
    . exact h1.st _ _ _ hv
  . obtain ⟨b, nc, sz, h2, h3⟩ := h1.obj i o hi hd
    refine ⟨b, nc, sz, h2, h3.mono_env hle fun o => ?_⟩
    have hb := (h.dom _ _ h2).2
    simp only [Env.addSt]; split
    . rename_i e; simp at hb; omega
    . rfl
end Go.Tv
namespace Go.Tv
theorem Holds.kill {E : Env} {H : Heap} {w : World} (h : Holds E H w) (id : Nat) : Holds E (H.set id .dead) w := by
  refine ⟨h.st, fun i p hp => by have := h.dom i p hp; simpa using this, fun i o hi hd => ?_, fun i j p q hp hq e => ?_, by simpa using h.len, h.blk⟩
  . by_cases ei : id = i
    . subst ei
      rw [List.getElem?_set] at hi; simp at hi
      exact absurd hi.2.symm hd
    . rw [List.getElem?_set_ne ei] at hi; exact h.obj i o hi hd
  . have li := (h.dom _ _ hp).1; have lj := (h.dom _ _ hq).1
    rcases h.inj i j p q hp hq e with hh | hh | hh
    . exact .inl hh
    . by_cases ei : id = i
      . subst ei; exact .inr (.inl (by rw [List.getElem?_set_self li]))
      . exact .inr (.inl (by rw [List.getElem?_set_ne ei]; exact hh))
    . by_cases ei : id = j
      . subst ei; exact .inr (.inr (by rw [List.getElem?_set_self lj]))
      . exact .inr (.inr (by rw [List.getElem?_set_ne ei]; exact hh))
theorem Holds.add {E : Env} {H : Heap} {w : World} (h : Holds E H w) {b nc sz : Nat} {o : AObj} (hb : b < w.heap.size) (hO : ObjRel E w b nc sz o)
    (hn : ∀ i p, E.f i = some p -> p.1 = b -> H[i]? = some .dead) (hk : E.k b = none) : E.le (E.setF H.length (b, nc, sz)) /\ Holds (E.setF H.length (b, nc, sz)) (H ++ [o]) w := by
  have hf := h.fresh_f
  have hle : E.le (E.setF H.length (b, nc, sz)) := Env.le_setF hf
  refine ⟨hle, h.st, fun i p hp => ?_, fun i x hi hd => ?_, fun i j p q hp hq e => ?_, by simp [Env.setF, h.len], fun b' o' hb' => ⟨(h.blk b' o' hb').1, fun i p hp => ?_⟩⟩
  rotate_left 3
  . simp only [Env.setF] at hp
    split at hp
    . injection hp with hp; subst hp; intro e0; subst e0
      rw [show E.k b = some o' from hb'] at hk; cases hk
    . exact (h.blk b' o' hb').2 i p hp
  . simp only [Env.setF] at hp
    split at hp
    . rename_i e; injection hp with hp; subst hp e; simp [hb]
    . have := h.dom i p hp; simp; omega
  . by_cases hlt : i < H.length
    . rw [List.getElem?_append_left hlt] at hi
      obtain ⟨b', nc', sz', h2, h3⟩ := h.obj i x hi hd
      exact ⟨b', nc', sz', hle.f _ _ h2, h3.mono_env hle (fun _ => rfl)⟩
    . rw [List.getElem?_append_right (by omega)] at hi
      have : i = H.length := by have := (List.getElem?_eq_some_iff.1 hi).1; simp at this; omega
      subst this
      simp at hi; subst hi
      exact ⟨b, nc, sz, by simp [Env.setF], hO.mono_env hle (fun _ => rfl)⟩
  . simp only [Env.setF] at hp hq
    split at hp <;> split at hq
    . rename_i e1 e2; exact .inl (e1.trans e2.symm)
    . injection hp with hp; subst hp
      have l := (h.dom _ _ hq).1
      exact .inr (.inr (by rw [List.getElem?_append_left l]; exact hn j q hq e.symm))
    . injection hq with hq; subst hq
      have l := (h.dom _ _ hp).1
      exact .inr (.inl (by rw [List.getElem?_append_left l]; exact hn i p hp e))
    . have l1 := (h.dom _ _ hp).1; have l2 := (h.dom _ _ hq).1
      rw [List.getElem?_append_left l1, List.getElem?_append_left l2]
      exact h.inj i j p q hp hq e
theorem Ext.setF {E E' : Env} {w w' : World} (h : Ext E w E' w') {i : Nat} {p : Nat × Nat × Nat} (hi : E.n ≤ i) (hf : E'.f i = none) (hp : w.heap.size ≤ p.1 \/ ∃ j q, E.f j = some q /\ q.1 = p.1) : Ext E w (E'.setF i p) w' := by
  refine ⟨Env.le_trans h.le (Env.le_setF hf), h.os, h.tape, h.output, h.size, h.keep, fun j q hq => ?_, h.newst, h.drawn⟩
  simp only [Env.setF] at hq
  split at hq
  . rename_i ei; injection hq with hq; subst hq; subst ei; exact .inr ⟨hi, hp⟩
  . exact h.newf j q hq
theorem Holds.newTail {E : Env} {H : Heap} {w : World} (h : Holds E H w) (news rest : List Value) (T : TypeId) (n sz : Nat) (hn : n * sz = news.length) :
    Ext E w ((E.addSt w.heap.size 0 news).setF H.length (w.heap.size, news.length + rest.length, sz)) (w.alloc (.cells (news ++ rest).toArray T)) /\
    Holds ((E.addSt w.heap.size 0 news).setF H.length (w.heap.size, news.length + rest.length, sz)) (H ++ [.tail n sz]) (w.alloc (.cells (news ++ rest).toArray T)) /\
    (E.addSt w.heap.size 0 news).le ((E.addSt w.heap.size 0 news).setF H.length (w.heap.size, news.length + rest.length, sz)) := by
  have hle : E.le (E.addSt w.heap.size 0 news) := Env.le_addSt fun o _ _ => h.fresh_st o
  have e := Ext.alloc (E := E) w (.cells (news ++ rest).toArray T)
  have h1 := h.alloc (.cells (news ++ rest).toArray T)
  have h2 : Holds (E.addSt w.heap.size 0 news) H (w.alloc (.cells (news ++ rest).toArray T)) := by
    refine ⟨fun b o v hv => ?_, h1.dom, fun i o hi hd => ?_, h1.inj, h1.len, h1.blk⟩
    . simp only [Env.addSt] at hv
      split at hv
      . rename_i e; obtain ⟨rfl, _, h3⟩ := e
        rw [cell_of (heap_new w _)]
        simp at hv h3 ⊢
        rw [List.getElem?_append_left h3]; exact hv
      . exact h1.st _ _ _ hv
    . obtain ⟨b, nc, s, h2, h3⟩ := h1.obj i o hi hd
      refine ⟨b, nc, s, h2, h3.mono_env hle fun o => ?_⟩
      have hb := (h.dom _ _ h2).2
      simp only [Env.addSt]; split
      . rename_i e; simp at hb; omega
      . rfl
  have h3 := h2.add (b := w.heap.size) (nc := news.length + rest.length) (sz := sz) (o := .tail n sz) (by simp)
    ⟨rfl, _, T, heap_new w _, by simp, fun o ho => by
      simp only [Env.addSt]; split
      . omega
      . exact h.fresh_st o⟩
    (fun i p hp e => by have := (h.dom i p hp).2; omega) h.fresh_k
  refine ⟨Ext.setF ⟨hle, e.os, e.tape, e.output, e.size, e.keep, fun i p hp => .inl hp, fun b o v hv => ?_, e.drawn⟩ (by rw [h.len]; exact Nat.le_refl _) h2.fresh_f (.inl (Nat.le_refl _)), h3.2, h3.1⟩
  simp only [Env.addSt] at hv
  split at hv
  . exact .inr (.inl (by omega))
  . exact .inl hv
theorem Holds.growArr {E : Env} {H : Heap} {w : World} (h : Holds E H w) {id : Nat} {cs : List AV} {T : TypeId} (hi : H[id]? = some (.cells cs T)) {b nc sz : Nat} (hf : E.f id = some (b, nc, sz))
    {new : List AV} {news : List Value} (hr : RepL E new news.toArray) {q : Nat} (hq : q ≤ cs.length) (hfit : q + news.length ≤ nc) :
    ∃ vs, w.heap[b]? = some (.cells vs T (0, 0)) /\ vs.size = nc /\
      Ext E w (E.setF H.length (b, nc, sz)) (w.setRow b (vs.toList.take q ++ news ++ vs.toList.drop (q + news.length)).toArray) /\
      Holds (E.setF H.length (b, nc, sz)) (H.set id .dead ++ [.cells (cs.take q ++ new) T]) (w.setRow b (vs.toList.take q ++ news ++ vs.toList.drop (q + news.length)).toArray) := by
  have hql : (cs.take q).length = q := by simp; omega
  obtain ⟨b', nc', sz', hf', hO⟩ := h.obj _ _ hi (by simp)
  rw [hf] at hf'; injection hf' with hf'; injection hf' with e1 e2; injection e2 with e2 e3; subst e1 e2 e3
  obtain ⟨vs, hv, hn, hR, hS⟩ := hO
  have hlt := (h.dom _ _ hf).2
  have hidlt : id < H.length := (h.dom _ _ hf).1
  have hrs := hr.size
  have hRs := hR.size
  simp at hrs
  refine ⟨vs, hv, hn, ?_⟩
  generalize hw' : w.setRow b (vs.toList.take q ++ news ++ vs.toList.drop (q + news.length)).toArray = w'
  have hv' : w'.heap[b]? = some (.cells (vs.toList.take q ++ news ++ vs.toList.drop (q + news.length)).toArray T (0, 0)) := by
    rw [<- hw']; exact setRow_heap w b vs _ T (0, 0) hv
  have hoth : ∀ c, c ≠ b -> w'.heap[c]? = w.heap[c]? := fun c hc => by rw [<- hw']; exact setRow_other w b c _ hc
  have hsize : w'.heap.size = w.heap.size := by rw [<- hw']; simp
  have h2 : Holds E (H.set id .dead) w' := by
    have hk := h.kill id
    refine ⟨fun c o v hx => ?_, fun i p hp => by have := hk.dom i p hp; rw [hsize]; exact this, fun i o hio hd => ?_, hk.inj, hk.len, fun c o hx => ⟨(hoth c (fun e => (h.blk c o hx).2 _ _ hf e.symm)).trans (h.blk c o hx).1, (h.blk c o hx).2⟩⟩
    . have ec : c ≠ b := fun e => by subst e; rw [hS] at hx; cases hx
      rw [<- hw', cell_setRow_other w b _ _ ec]; exact h.st _ _ _ hx
    . by_cases ei : id = i
      . subst ei; rw [List.getElem?_set_self hidlt] at hio; injection hio with hio; exact absurd hio.symm hd
      . have hio' := hio
        rw [List.getElem?_set_ne ei] at hio'
        obtain ⟨b2, n2, s2, g2, g3⟩ := h.obj i o hio' hd
        have hne : b2 ≠ b := fun eb => by
          rcases h.inj i id _ _ g2 hf eb with hh | hh | hh
          . exact ei hh.symm
          . rw [hio'] at hh; injection hh with hh; exact hd hh
          . rw [hi] at hh; cases hh
        exact ⟨b2, n2, s2, g2, g3.mono_world (hoth b2 hne)⟩
  have hrow : RepP E (cs.take q ++ new) (vs.toList.take q ++ news ++ vs.toList.drop (q + news.length)).toArray := by
    refine ⟨by simp; omega, fun i hix => ?_⟩
    simp only [List.length_append] at hix
    by_cases h1 : i < q
    . have := hR.get i (by omega)
      have e1 : (cs.take q ++ new).getD i .empty = cs.getD i .empty := by simp only [List.getD_eq_getElem?_getD]; rw [List.getElem?_append_left (by omega), List.getElem?_take, if_pos h1]
      have e2 : (vs.toList.take q ++ news ++ vs.toList.drop (q + news.length)).toArray.getD i undef = vs.getD i undef := by
        simp only [Array.getD_eq_getD_getElem?, List.append_assoc, List.getElem?_toArray]
        rw [List.getElem?_append_left (by simp; omega), List.getElem?_take, if_pos h1]; simp
      rw [e1, e2]; exact this
    . have := hr.get (i - q) (by omega)
      have e1 : (cs.take q ++ new).getD i .empty = new.getD (i - q) .empty := by simp only [List.getD_eq_getElem?_getD]; rw [List.getElem?_append_right (by omega), hql]
      have e2 : (vs.toList.take q ++ news ++ vs.toList.drop (q + news.length)).toArray.getD i undef = news.toArray.getD (i - q) undef := by
        simp only [Array.getD_eq_getD_getElem?, List.append_assoc, List.getElem?_toArray]
        rw [List.getElem?_append_right (by simp; omega), List.getElem?_append_left (by simp; omega)]
        have : i - (List.take q vs.toList).length = i - q := by simp; omega
        rw [this]
      rw [e1, e2]; exact this
  have h3 := h2.add (b := b) (nc := nc) (sz := sz) (o := .cells (cs.take q ++ new) T) (by rw [hsize]; exact hlt)
    ⟨_, hv', by simp; omega, hrow, hS⟩
    (fun i p hp e => by
      by_cases ei : id = i
      . subst ei; rw [List.getElem?_set_self hidlt]
      . rw [List.getElem?_set_ne ei]
        rcases h.inj i id p _ hp hf e with hh | hh | hh
        . exact absurd hh.symm ei
        . exact hh
        . rw [hi] at hh; cases hh) (h.k_none hf)
  have hlen : (H.set id .dead).length = H.length := by simp
  rw [hlen] at h3
  refine ⟨Ext.setF ⟨E.le_refl, by rw [<- hw']; rfl, by rw [<- hw']; rfl, by rw [<- hw']; rfl, by rw [hsize]; exact Nat.le_refl _, fun c hc hne => hoth c (fun e => hne _ _ hf e.symm), fun i p hp => .inl hp, fun c o v hx => .inl hx, fun _ => by rw [<- hw']; exact Nat.le_refl _⟩ (by rw [h.len]; exact Nat.le_refl _) h.fresh_f (.inr ⟨id, _, hf, rfl⟩), h3.2⟩
theorem Holds.growTail {E : Env} {H : Heap} {w : World} (h : Holds E H w) {id n : Nat} {s : Nat} (hi : H[id]? = some (.tail n s)) {b nc sz : Nat} (hf : E.f id = some (b, nc, sz))
    (news : List Value) (k : Nat) (hk : k * sz = news.length) (hfit : n * sz + news.length ≤ nc) :
    ∃ vs T, w.heap[b]? = some (.cells vs T (0, 0)) /\ vs.size = nc /\
      Ext E w ((E.addSt b (n * sz) news).setF H.length (b, nc, sz)) (w.setRow b (vs.toList.take (n * sz) ++ news ++ vs.toList.drop (n * sz + news.length)).toArray) /\
      Holds ((E.addSt b (n * sz) news).setF H.length (b, nc, sz)) (H.set id .dead ++ [.tail (n + k) sz]) (w.setRow b (vs.toList.take (n * sz) ++ news ++ vs.toList.drop (n * sz + news.length)).toArray) /\
      E.le (E.addSt b (n * sz) news) /\ (E.addSt b (n * sz) news).le ((E.addSt b (n * sz) news).setF H.length (b, nc, sz)) := by
  obtain ⟨b', nc', sz', hf', hO⟩ := h.obj _ _ hi (by simp)
  rw [hf] at hf'; injection hf' with hf'; injection hf' with e1 e2; injection e2 with e2 e3; subst e1 e2 e3
  obtain ⟨_, vs, T, hv, hn, hS⟩ := hO
  have hlt := (h.dom _ _ hf).2
  have hidlt : id < H.length := (h.dom _ _ hf).1
  have hle : E.le (E.addSt b (n * sz) news) := Env.le_addSt fun o ho _ => hS o ho
  refine ⟨vs, T, hv, hn, ?_⟩
  generalize hw' : w.setRow b (vs.toList.take (n * sz) ++ news ++ vs.toList.drop (n * sz + news.length)).toArray = w'
  have hv' : w'.heap[b]? = some (.cells (vs.toList.take (n * sz) ++ news ++ vs.toList.drop (n * sz + news.length)).toArray T (0, 0)) := by
    rw [<- hw']; exact setRow_heap w b vs _ T (0, 0) hv
  have hoth : ∀ c, c ≠ b -> w'.heap[c]? = w.heap[c]? := fun c hc => by rw [<- hw']; exact setRow_other w b c _ hc
  have hsize : w'.heap.size = w.heap.size := by rw [<- hw']; simp
  have h2 : Holds (E.addSt b (n * sz) news) (H.set id .dead) w' := by
    have hk := h.kill id
    refine ⟨fun c o v hx => ?_, fun i p hp => by have := hk.dom i p hp; rw [hsize]; exact this, fun i o hio hd => ?_, hk.inj, hk.len, fun c o hx => ⟨(hoth c (fun e => (h.blk c o hx).2 _ _ hf e.symm)).trans (h.blk c o hx).1, (h.blk c o hx).2⟩⟩
    . simp only [Env.addSt] at hx
      split at hx
      . rename_i e; obtain ⟨rfl, h3, h4⟩ := e
        rw [cell_of hv']
        simp only [List.append_assoc, List.getElem?_toArray]
        rw [List.getElem?_append_right (by simp; omega), List.getElem?_append_left (by simp; omega)]
        have : o - (List.take (n * sz) vs.toList).length = o - n * sz := by simp; omega
        rw [this]; exact hx
      . rename_i e
        have hc := h.st _ _ _ hx
        by_cases ec : c = b
        . subst ec
          have ho : o < n * sz := by
            rcases Nat.lt_or_ge o (n * sz) with hh | hh
            . exact hh
            . rw [hS o hh] at hx; cases hx
          rw [cell_of hv]  at hc
          rw [cell_of hv']
          simp only [List.append_assoc, List.getElem?_toArray]
          rw [List.getElem?_append_left (by simp; have := (Array.getElem?_eq_some_iff.1 hc).1; omega), List.getElem?_take, if_pos ho]
          simpa using hc
        . rw [<- hw', cell_setRow_other w b _ _ ec]; exact hc
    . by_cases ei : id = i
      . subst ei; rw [List.getElem?_set_self hidlt] at hio; injection hio with hio; exact absurd hio.symm hd
      . have hio' := hio
        rw [List.getElem?_set_ne ei] at hio'
        obtain ⟨b2, n2, s2, g2, g3⟩ := h.obj i o hio' hd
        have hne : b2 ≠ b := fun eb => by
          rcases h.inj i id _ _ g2 hf eb with hh | hh | hh
          . exact ei hh.symm
          . rw [hio'] at hh; injection hh with hh; exact hd hh
          . rw [hi] at hh; cases hh
        refine ⟨b2, n2, s2, g2, (g3.mono_world (hoth b2 hne)).mono_env hle fun o => ?_⟩
        simp only [Env.addSt]; split
        . rename_i e; exact absurd e.1 hne
        . rfl
  have h3 := h2.add (b := b) (nc := nc) (sz := sz) (o := .tail (n + k) sz) (by rw [hsize]; exact hlt)
    ⟨rfl, _, T, hv', by simp; omega, fun o ho => by
      have : (n + k) * sz = n * sz + news.length := by rw [Nat.add_mul, hk]
      simp only [Env.addSt]; split
      . omega
      . exact hS o (by omega)⟩
    (fun i p hp e => by
      by_cases ei : id = i
      . subst ei; rw [List.getElem?_set_self hidlt]
      . rw [List.getElem?_set_ne ei]
        rcases h.inj i id p _ hp hf e with hh | hh | hh
        . exact absurd hh.symm ei
        . exact hh
        . rw [hi] at hh; cases hh) (h.k_none hf)
  have hlen : (H.set id .dead).length = H.length := by simp
  rw [hlen] at h3
  refine ⟨Ext.setF ⟨hle, by rw [<- hw']; rfl, by rw [<- hw']; rfl, by rw [<- hw']; rfl, by rw [hsize]; exact Nat.le_refl _, fun c hc hne => hoth c (fun e => hne _ _ hf e.symm), fun i p hp => .inl hp, fun c o v hx => ?_, fun _ => by rw [<- hw']; exact Nat.le_refl _⟩ (by rw [h.len]; exact Nat.le_refl _) ?_ (.inr ⟨id, _, hf, rfl⟩), h3.2, hle, h3.1⟩
  . simp only [Env.addSt] at hx
    split at hx
    . rename_i e; exact .inr (.inr ⟨id, _, hf, e.1.symm⟩)
    . exact .inl hx
  . exact h.fresh_f
end Go.Tv
namespace Go.Tv
def RunsTo (C : Cfg) (E : Env) (w : World) (s : Sem Value) (v : AV) (H' : Heap) : Prop :=
  ∃ c w' E', s.run C.P w = .ok c w' /\ Ext E w E' w' /\ Holds E' H' w' /\ Rep E' v c
theorem RunsTo.here {C : Cfg} {E : Env} {w : World} {s : Sem Value} {v : AV} {H : Heap} (hH : Holds E H w) {c : Value} (h : s.run C.P w = .ok c w) (r : Rep E v c) : RunsTo C E w s v H :=
  ⟨c, w, E, h, Ext.refl _ _, hH, r⟩
theorem acmp_run {C : Cfg} {E : Env} {w : World} {op : BinOp} {a b : Int} {v : AV} (h : acmp op a b = some v) : ∃ c, (Op.intCmp op a b).run C.P w = .ok c w /\ Rep E v c := by
  cases op <;> simp only [acmp] at h <;> first | (cases h; done) | skip
  all_goals (injection h with h; subst h; refine ⟨_, rfl, ?_⟩)
  . rw [show (a == b) = decide (a = b) from rfl]; exact .bool _
  . rw [show (a != b) = !decide (a = b) from rfl]; exact .bool _
  all_goals exact .bool _
theorem aint_run {C : Cfg} {E : Env} {w : World} {op : BinOp} {T : TypeId} {k : IntKind} {a b : Int} {v : AV} (h : aint op k a b = some v) (h1 : op ≠ .shl) (h2 : op ≠ .shr) :
    ∃ c, (binOp op T (.int k a) (.int k b)).run C.P w = .ok c w /\ Rep E v c := by
  cases op
  case shl => exact absurd rfl h1
  case shr => exact absurd rfl h2
  case quo =>
    simp only [aint] at h; split at h
    . cases h
    . rename_i hb; injection h with h; subst h; exact ⟨_, by simp [binOp, Op.intDiv, hb], .int _ _⟩
  case rem =>
    simp only [aint] at h; split at h
    . cases h
    . rename_i hb; injection h with h; subst h; exact ⟨_, by simp [binOp, Op.intDiv, hb], .int _ _⟩
  case add => simp only [aint] at h; injection h with h; subst h; exact ⟨_, by simp [binOp, Op.intArith], .int _ _⟩
  case sub => simp only [aint] at h; injection h with h; subst h; exact ⟨_, by simp [binOp, Op.intArith], .int _ _⟩
  case mul => simp only [aint] at h; injection h with h; subst h; exact ⟨_, by simp [binOp, Op.intArith], .int _ _⟩
  case and => simp only [aint] at h; injection h with h; subst h; exact ⟨_, by simp only [binOp, Op.intBits, ne_eq, not_true_eq_false, if_false, Sem.run_pure], .int _ _⟩
  case or => simp only [aint] at h; injection h with h; subst h; exact ⟨_, by simp only [binOp, Op.intBits, ne_eq, not_true_eq_false, if_false, Sem.run_pure], .int _ _⟩
  case xor => simp only [aint] at h; injection h with h; subst h; exact ⟨_, by simp only [binOp, Op.intBits, ne_eq, not_true_eq_false, if_false, Sem.run_pure], .int _ _⟩
  case andNot => simp only [aint] at h; injection h with h; subst h; exact ⟨_, by simp only [binOp, Op.intBits, ne_eq, not_true_eq_false, if_false, Sem.run_pure], .int _ _⟩
  all_goals
    simp only [aint] at h
    obtain ⟨c, hc, hr⟩ := acmp_run (C := C) (E := E) (w := w) h
    exact ⟨c, by simp only [binOp, ne_eq, not_true_eq_false, if_false]; exact hc, hr⟩
theorem ba_toList (s : ByteArray) : s.toList = s.data.toList := by
  rw [ByteArray.toList_eq]
theorem astr_run {C : Cfg} {E : Env} {w : World} {op : BinOp} {a b : ByteArray} {v : AV} (h : astr op a.data.toList b.data.toList = some v) :
    ∃ c, (Op.stringOp op a b).run C.P w = .ok c w /\ Rep E v c := by
  cases op <;> simp only [astr] at h <;> first | (cases h; done) | skip
  case add =>
    split at h
    . rename_i hle; injection h with h; subst h
      have h1 : ¬ (((a.size + b.size : Nat) : Int) > IntKind.i64.max) := by
        have e1 : a.data.toList.length = a.size := Array.length_toList
        have e2 : b.data.toList.length = b.size := Array.length_toList
        rw [e1, e2] at hle
        have : IntKind.i64.max = 9223372036854775807 := by decide
        rw [this]; omega
      refine ⟨.string (a ++ b), by simp only [Op.stringOp, h1, if_false, Sem.run_pure], ?_⟩
      have := Rep.str (E := E) (a ++ b)
      simpa [ByteArray.data_append] using this
    . cases h
  all_goals (injection h with h; subst h; refine ⟨_, by simp only [Op.stringOp, Sem.run_pure, ba_toList], .bool _⟩)
theorem equal_of {C : Cfg} {w : World} {T : TypeId} {p q : Value} {r : Bool} (h : ∀ d, (Op.equalIn (d + 1) T p q).run C.P w = .ok r w) : (Op.equal T p q).run C.P w = .ok r w := h 9999
structure EqRuns (C : Cfg) (w : World) (T : TypeId) (x y : Operand) (p q : Value) (r : Bool) : Prop where
  guard : ∀ o, (eqGuard o T x y p q).run C.P w = .ok () w
  eql : (binOp .eql T p q).run C.P w = .ok (.bool r) w
  neq : (binOp .neq T p q).run C.P w = .ok (.bool (!r)) w
theorem EqRuns.of {C : Cfg} {w : World} {T : TypeId} {x y : Operand} {p q : Value} {r : Bool} (hg : ∀ o, (eqGuard o T x y p q).run C.P w = .ok () w) (h : ∀ d, (Op.equalIn (d + 1) T p q).run C.P w = .ok r w)
    (h1 : binOp .eql T p q = (do pure (.bool (<- Op.equal T p q)))) (h2 : binOp .neq T p q = (do pure (.bool (!(<- Op.equal T p q))))) : EqRuns C w T x y p q r := by
  have he := equal_of h
  generalize Op.equal T p q = s at *
  refine ⟨hg, ?_, ?_⟩
  . rw [h1]; simp only [Sem.run_bind, he, Result.andThen_ok, Sem.run_pure]
  . rw [h2]; simp only [Sem.run_bind, he, Result.andThen_ok, Sem.run_pure]
theorem guard_other {C : Cfg} {w : World} {T : TypeId} {x y : Operand} {p q : Value} (h1 : ¬ (p = .nilIface /\ q = .nilIface)) (h2 : ¬ ∃ a b, p = .agg a /\ q = .agg b) (op : BinOp) : (eqGuard op T x y p q).run C.P w = .ok () w := by
  cases op with
  | _ => cases p <;> cases q <;> first | rfl | (exact absurd ⟨rfl, rfl⟩ h1) | (exact absurd ⟨_, _, rfl, rfl⟩ h2)
theorem aeq0_run {C : Cfg} {E : Env} {w : World} {T : TypeId} {x y : Operand} {a b : AV} {p q : Value} {r : Bool} (ha : Rep E a p) (hb : Rep E b q) (h : aeq0 C T a b (isConst x || isConst y) = some r) :
    EqRuns C w T x y p q r := by
  unfold aeq0 at h
  split at h
  all_goals first | (cases h; done) | skip
  all_goals
    split at h
    rotate_left
    . cases h
    rename_i ht
    injection h with h
    subst h
  . have := ha.inv_bool; subst this; have := hb.inv_bool; subst this
    unfold isBoolT at ht; split at ht
    . rename_i hu
      exact .of (guard_other (by simp) (by simp)) (fun d => by simp [Op.equalIn, run_underlying hu]) rfl rfl
    . cases ht
  . obtain ⟨y', rfl, _⟩ := ha.inv_iface; cases hb
    unfold isIfaceT at ht; split at ht
    . rename_i ms hu
      exact .of (guard_other (by simp) (by simp)) (fun d => by simp [Op.equalIn, run_underlying hu]) rfl rfl
    . cases ht
  . obtain ⟨y', rfl, _⟩ := hb.inv_iface; cases ha
    unfold isIfaceT at ht; split at ht
    . rename_i ms hu
      exact .of (guard_other (by simp) (by simp)) (fun d => by simp [Op.equalIn, run_underlying hu]) rfl rfl
    . cases ht
  . cases ha; cases hb
    simp only [Bool.and_eq_true] at ht
    obtain ⟨ht, hc⟩ := ht
    unfold isIfaceT at ht; split at ht
    . rename_i ms hu
      refine .of (fun o => ?_) (fun d => by simp [Op.equalIn, run_underlying hu]) rfl rfl
      unfold isConst at hc
      cases o <;> first | rfl | (cases x <;> cases y <;> first | rfl | (simp at hc))
    . cases ht
  all_goals
    unfold isPtrT at ht
    split at ht
    rotate_left
    . cases ht
    rename_i e hu
  . obtain ⟨b', nc, sz, hf, rfl⟩ := ha.inv_ptr; cases hb
    exact .of (guard_other (by simp) (by simp)) (fun d => by simp [Op.equalIn, run_underlying hu]) rfl rfl
  . obtain ⟨b', nc, sz, hf, rfl⟩ := hb.inv_ptr; cases ha
    exact .of (guard_other (by simp) (by simp)) (fun d => by simp [Op.equalIn, run_underlying hu]) rfl rfl
  . obtain ⟨b', nc, hf, _⟩ := ha.inv_tptr; subst hf; cases hb
    exact .of (guard_other (by simp) (by simp)) (fun d => by simp [Op.equalIn, run_underlying hu]) rfl rfl
  . obtain ⟨b', nc, hf, _⟩ := hb.inv_tptr; subst hf; cases ha
    exact .of (guard_other (by simp) (by simp)) (fun d => by simp [Op.equalIn, run_underlying hu]) rfl rfl
  . cases ha; cases hb
    exact .of (guard_other (by simp) (by simp)) (fun d => by simp [Op.equalIn, run_underlying hu]) rfl rfl
theorem part_cell {C : Cfg} {w : World} {T : TypeId} {cs : Array Value} {off : Nat} {d : TypeDesc} {v : Value} (hu : C.P.underlying T = some d) (h1 : ∀ fs, d ≠ .struct fs) (h2 : ∀ n e, d ≠ .array n e) (hv : cs[off]? = some v) : (part T cs off).run C.P w = .ok v w := by
  have hi : (isAgg T).run C.P w = .ok false w := by
    simp only [isAgg, Sem.run_bind, run_underlying hu, Result.andThen_ok]
    cases d <;> first | rfl | exact absurd rfl (h1 _) | exact absurd rfl (h2 _ _)
  simp only [part, Sem.run_bind, hi, Result.andThen_ok, Bool.false_eq_true, if_false, hv, Sem.run_pure]
theorem repL_at {E : Env} {cs : List AV} {vs : Array Value} (h : RepL E cs vs) {i : Nat} {a : AV} (ha : cs[i]? = some a) : ∃ v, vs[i]? = some v /\ Rep E a v := by
  obtain ⟨hi, e⟩ := List.getElem?_eq_some_iff.1 ha
  have hr := h.get i hi
  have hs : i < vs.size := by rw [<- h.size]; exact hi
  refine ⟨vs[i], by simp [hs], ?_⟩
  have e1 : cs.getD i .empty = a := by simp [List.getD_eq_getElem?_getD, ha]
  have e2 : vs.getD i undef = vs[i] := by simp [Array.getD, hs]
  rw [e1, e2] at hr; exact hr
theorem aeqF_run {C : Cfg} {E : Env} {w : World} {xs ys : List AV} {p q : Array Value} (hx : RepL E xs p) (hy : RepL E ys q) (d : Nat) : ∀ (fs : List Field) {r : Bool}, aeqF C fs xs ys = some r -> (Op.eqFields (d + 1) p q fs).run C.P w = .ok r w
  | [], r, h => by simp only [aeqF] at h; injection h with h; subst h; rfl
  | f :: fs, r, h => by
    simp only [aeqF] at h
    simp only [Op.eqFields, Sem.run_ite]
    split at h
    . rename_i hn
      rw [if_pos hn]
      split at h
      . rename_i a b hu h1 h2
        obtain ⟨v1, q1, r1⟩ := repL_at hx h1
        obtain ⟨v2, q2, r2⟩ := repL_at hy h2
        obtain ⟨s, rfl, e1⟩ := r1.inv_str
        obtain ⟨t, rfl, e2⟩ := r2.inv_str
        have p1 := part_cell (w := w) hu (by simp) (by simp) q1
        have p2 := part_cell (w := w) hu (by simp) (by simp) q2
        have he := run_equalIn_string (P := C.P) w d f.type s t hu
        rw [ba_toList, ba_toList, e1, e2] at he
        simp only [Sem.run_bind, p1, Result.andThen_ok, p2, he, Sem.run_ite]
        by_cases hab : a = b
        . rw [if_pos hab] at h
          rw [if_neg (by simp [hab])]; exact aeqF_run hx hy d fs h
        . rw [if_neg hab] at h
          injection h with h; subst h
          rw [if_pos (by simp [hab])]; rfl
      . rename_i kk k a k' b hu h1 h2
        obtain ⟨v1, q1, r1⟩ := repL_at hx h1
        obtain ⟨v2, q2, r2⟩ := repL_at hy h2
        have := r1.inv_int; subst this; have := r2.inv_int; subst this
        split at h <;> try (cases h; done)
        rename_i hk; subst hk
        have p1 := part_cell (w := w) hu (by simp) (by simp) q1
        have p2 := part_cell (w := w) hu (by simp) (by simp) q2
        have he := run_equalIn_int (P := C.P) w d f.type k kk a b hu
        simp only [Sem.run_bind, p1, Result.andThen_ok, p2, he, Sem.run_ite]
        by_cases hab : a = b
        . rw [if_pos hab] at h
          rw [if_neg (by simp [hab])]; exact aeqF_run hx hy d fs h
        . rw [if_neg hab] at h
          injection h with h; subst h
          rw [if_pos (by simp [hab])]; rfl
      . rename_i a b hu h1 h2
        obtain ⟨v1, q1, r1⟩ := repL_at hx h1
        obtain ⟨v2, q2, r2⟩ := repL_at hy h2
        have := r1.inv_bool; subst this; have := r2.inv_bool; subst this
        have p1 := part_cell (w := w) hu (by simp) (by simp) q1
        have p2 := part_cell (w := w) hu (by simp) (by simp) q2
        have he := run_equalIn_bool (P := C.P) w d f.type a b hu
        simp only [Sem.run_bind, p1, Result.andThen_ok, p2, he, Sem.run_ite]
        by_cases hab : a = b
        . rw [if_pos hab] at h
          rw [if_neg (by simp [hab])]; exact aeqF_run hx hy d fs h
        . rw [if_neg hab] at h
          injection h with h; subst h
          rw [if_pos (by simp [hab])]; rfl
      . cases h
    . rename_i hn
      rw [if_neg hn]; exact aeqF_run hx hy d fs h
theorem aeq_run {C : Cfg} {E : Env} {w : World} {T : TypeId} {x y : Operand} {a b : AV} {p q : Value} {r : Bool} (ha : Rep E a p) (hb : Rep E b q) (h : aeq C T a b (isConst x || isConst y) = some r) :
    EqRuns C w T x y p q r := by
  unfold aeq at h
  split at h
  . rename_i xs ys
    obtain ⟨vs, rfl, r1⟩ := ha.inv_agg
    obtain ⟨us, rfl, r2⟩ := hb.inv_agg
    unfold aeqA at h
    split at h <;> try (cases h; done)
    rename_i fs hu
    split at h <;> try (cases h; done)
    rename_i hg
    simp only [Bool.and_eq_true, Bool.not_eq_true'] at hg
    have hf : C.P.fieldsOf T = fs := by simp [Program.fieldsOf, hu]
    have hu' : C.P.underlying T = some (.struct (C.P.fieldsOf T)) := by rw [hf]; exact hu
    have he := run_equalIn_struct (P := C.P) w 9999 T vs us hu' hg.1
    rw [hf, aeqF_run r1 r2 9998 fs.toList h] at he
    refine ⟨fun o => run_eqGuard_agg w o T x y vs us hg.2, ?_, ?_⟩
    . rw [run_eql_struct, he]; rfl
    . rw [run_neq_struct, he]; rfl
  . exact aeq0_run ha hb h
theorem abin_run {C : Cfg} {E : Env} {w : World} {op : BinOp} {T : TypeId} {x y : Operand} {a b : AV} {p q : Value} {v : AV} (ha : Rep E a p) (hb : Rep E b q)
    (h : abin C op T a b (isConst x || isConst y) = some v) : ∃ c, (do eqGuard op T x y p q; binOp op T p q).run C.P w = .ok c w /\ Rep E v c := by
  unfold abin at h
  split at h
  . -- numbers
    have := ha.inv_int; subst this; have := hb.inv_int; subst this
    rename_i k a k' b
    have hg : ∀ o, (eqGuard o T x y (.int k a) (.int k' b)).run C.P w = .ok () w := guard_other (by simp) (by simp)
    simp only [Sem.run_bind, hg, Result.andThen_ok]
    split at h
    . split at h
      . cases h
      . rename_i hb'; injection h with h; subst h; exact ⟨_, by simp [binOp, Op.shift, hb'], .int _ _⟩
    . split at h
      . cases h
      . rename_i hb'; injection h with h; subst h; exact ⟨_, by simp [binOp, Op.shift, hb'], .int _ _⟩
    . rename_i n1 n2
      split at h
      . rename_i hk; subst hk; exact aint_run h n1 n2
      . cases h
  . -- strings
    obtain ⟨s, rfl, rfl⟩ := ha.inv_str; obtain ⟨t, rfl, rfl⟩ := hb.inv_str
    have hg : ∀ o, (eqGuard o T x y (.string s) (.string t)).run C.P w = .ok () w := guard_other (by simp) (by simp)
    simp only [Sem.run_bind, hg, Result.andThen_ok]
    obtain ⟨c, hc, hr⟩ := astr_run (C := C) (E := E) (w := w) h
    refine ⟨c, ?_, hr⟩
    rw [<- hc]; cases op <;> rfl
  . split at h
    . cases hq : aeq C T a b (isConst x || isConst y) with
      | none => simp [hq] at h
      | some r =>
        simp [hq] at h; subst h
        have e := aeq_run (w := w) ha hb hq
        exact ⟨_, by simp only [Sem.run_bind, e.guard, Result.andThen_ok]; exact e.eql, .bool _⟩
    . cases hq : aeq C T a b (isConst x || isConst y) with
      | none => simp [hq] at h
      | some r =>
        simp [hq] at h; subst h
        have e := aeq_run (w := w) ha hb hq
        exact ⟨_, by simp only [Sem.run_bind, e.guard, Result.andThen_ok]; exact e.neq, .bool _⟩
    . cases h
theorem aun_run {C : Cfg} {E : Env} {w : World} {op : UnOp} {a : AV} {p : Value} {v : AV} (ha : Rep E a p) (h : aun op a = some v) : ∃ c, (Op.unary op p).run C.P w = .ok c w /\ Rep E v c := by
  unfold aun at h
  split at h
  . have := ha.inv_int; subst this
    split at h
    . injection h with h; subst h; exact ⟨_, by simp [Op.unary, Op.intArith], .int _ _⟩
    . cases h
  . have := ha.inv_bool; subst this
    split at h
    . injection h with h; subst h; exact ⟨_, by simp [Op.unary], .bool _⟩
    . cases h
  . cases h
end Go.Tv
namespace Go.Tv
theorem flat_cons (e : AV) (els : List AV) : flat (e :: els) = e.cells ++ flat els := rfl
theorem flat_append (a b : List AV) : flat (a ++ b) = flat a ++ flat b := by simp [flat]
theorem flat_len {n : Nat} : ∀ {els : List AV}, (∀ e ∈ els, e.cells.length = n) -> (flat els).length = els.length * n
  | [], _ => by simp [flat]
  | e :: els, h => by
    rw [flat_cons, List.length_append, flat_len (els := els) fun x hx => h x (List.mem_cons_of_mem _ hx), h e List.mem_cons_self, List.length_cons, Nat.add_mul]
    omega
theorem flat_drop {n : Nat} : ∀ {els : List AV} (k : Nat), (∀ e ∈ els, e.cells.length = n) -> flat (els.drop k) = (flat els).drop (k * n)
  | [], k, _ => by simp [flat]
  | e :: els, 0, _ => by simp
  | e :: els, k + 1, h => by
    rw [List.drop_succ_cons, flat_drop (els := els) k fun x hx => h x (List.mem_cons_of_mem _ hx), flat_cons]
    have he := h e List.mem_cons_self
    rw [show (k + 1) * n = e.cells.length + k * n by rw [he, Nat.add_mul]; omega, <- List.drop_drop, List.drop_left]
theorem flat_take {n : Nat} : ∀ {els : List AV} (k : Nat), (∀ e ∈ els, e.cells.length = n) -> flat (els.take k) = (flat els).take (k * n)
  | [], k, _ => by simp [flat]
  | e :: els, 0, _ => by simp [flat]
  | e :: els, k + 1, h => by
    rw [List.take_succ_cons, flat_cons, flat_take (els := els) k fun x hx => h x (List.mem_cons_of_mem _ hx), flat_cons]
    have he := h e List.mem_cons_self
    rw [show (k + 1) * n = e.cells.length + k * n by rw [he, Nat.add_mul]; omega, List.take_length_add_append]
theorem flat_get {n : Nat} {els : List AV} (h : ∀ e ∈ els, e.cells.length = n) {i j : Nat} (hi : i < els.length) (hj : j < n) :
    (flat els).getD (i * n + j) .empty = (els.getD i .empty).cells.getD j .empty := by
  have h1 : (flat els).drop (i * n) = flat (els.drop i) := (flat_drop i h).symm
  have h2 : els.drop i = els[i] :: els.drop (i + 1) := List.drop_eq_getElem_cons hi
  have h3 : (flat els).getD (i * n + j) .empty = ((flat els).drop (i * n)).getD j .empty := by rw [getD_drop]
  rw [h3, h1, h2, flat_cons]
  have h4 : els.getD i .empty = els[i] := by simp [List.getD_eq_getElem?_getD, hi]
  rw [h4]
  have := h els[i] (List.getElem_mem hi)
  simp only [List.getD_eq_getElem?_getD]
  rw [List.getElem?_append_left (by omega)]
structure ListRep (E : Env) (els : List AV) (tok : Option Nat) (base : Option Addr) (cap : Nat) : Prop where
  uni : ∃ sz, ∀ e ∈ els, e.cells.length = sz
  cells : ∀ k, k < (flat els).length -> ∃ a v, base = some a /\ a.spot = none /\ E.st a.block (a.off + k) = some v /\ Rep E ((flat els).getD k .empty) v
  some_ : els ≠ [] -> base.isSome = true
  capLe : els.length ≤ cap
  tok : TokOk E els cap base tok
theorem Rep.inv_list {E : Env} {els : List AV} {tok : Option Nat} {x : Value} (h : Rep E (.list els tok) x) : ∃ base cap, x = .slice base els.length cap /\ ListRep E els tok base cap := by
  cases h with
  | list _ _ base cap vs hu hs hr hb hc ht => exact ⟨base, cap, rfl, hu, fun k hk => by obtain ⟨a, h1, h2, h3⟩ := hs k hk; exact ⟨a, vs k, h1, h2, h3, hr k hk⟩, hb, hc, ht⟩
theorem ListRep.rep {E : Env} {els : List AV} {tok : Option Nat} {base : Option Addr} {cap n : Nat} (h : ListRep E els tok base cap) (hn : n = els.length) : Rep E (.list els tok) (.slice base n cap) := by
  subst hn
  refine .list els tok base cap (fun k => (E.st (base.getD default).block ((base.getD default).off + k)).getD undef) h.uni (fun k hk => ?_) (fun k hk => ?_) h.some_ h.capLe h.tok
  . obtain ⟨a, v, rfl, h2, h3, _⟩ := h.cells k hk; exact ⟨a, rfl, h2, by simp [h3]⟩
  . obtain ⟨a, v, rfl, h2, h3, h4⟩ := h.cells k hk; simpa [h3] using h4
theorem all_len {els : List AV} {n : Nat} (h : els.all (fun v => decide (v.cells.length = n)) = true) : ∀ e ∈ els, e.cells.length = n := by simpa using h
theorem ListRep.part {E : Env} {els : List AV} {tok : Option Nat} {base : Option Addr} {cap n : Nat} (h : ListRep E els tok base cap) (hn : ∀ e ∈ els, e.cells.length = n) (lo hi : Nat) (h1 : lo ≤ hi) (h2 : hi ≤ els.length) :
    Rep E (.list ((els.take hi).drop lo) none) (.slice (if cap = lo then base else base.map (·.add (lo * n))) (hi - lo) (cap - lo)) := by
  have hlen : ((els.take hi).drop lo).length = hi - lo := by simp; omega
  have hcap := h.capLe
  have hn1 : ∀ e ∈ els.take hi, e.cells.length = n := fun e he => hn e (List.mem_of_mem_take he)
  have hn2 : ∀ e ∈ (els.take hi).drop lo, e.cells.length = n := fun e he => hn1 e (List.mem_of_mem_drop he)
  have hfl : flat ((els.take hi).drop lo) = ((flat els).take (hi * n)).drop (lo * n) := by rw [flat_drop lo hn1, flat_take hi hn]
  refine ListRep.rep ⟨⟨n, hn2⟩, fun k hk => ?_, fun hne => ?_, by omega, trivial⟩ hlen.symm
  . have hkl : k < (hi - lo) * n := by rw [flat_len hn2, hlen] at hk; exact hk
    have hpos : 0 < n := by rcases Nat.eq_zero_or_pos n with e | e; · subst e; simp at hkl
                            . exact e
    have hlt : lo < hi := by rcases Nat.lt_or_ge lo hi with e | e; · exact e
                             . have : hi - lo = 0 := by omega
                               rw [this] at hkl; simp at hkl
    have hb : lo * n + (hi - lo) * n = hi * n := by rw [<- Nat.add_mul]; congr 1; omega
    have hb2 : hi * n ≤ els.length * n := Nat.mul_le_mul_right n h2
    obtain ⟨a, v, rfl, g2, g3, g4⟩ := h.cells (lo * n + k) (by rw [flat_len hn]; omega)
    rw [if_neg (by omega)]
    refine ⟨a.add (lo * n), v, rfl, by rw [Addr.add_eq g2], ?_, ?_⟩
    . rw [Addr.add_eq g2]; simp only; rw [Nat.add_assoc]; exact g3
    . rw [hfl, getD_drop]
      have : ((flat els).take (hi * n)).getD (lo * n + k) .empty = (flat els).getD (lo * n + k) .empty := by
        simp only [List.getD_eq_getElem?_getD]; rw [List.getElem?_take, if_pos (by omega)]
      rw [this]; exact g4
  . have : els ≠ [] := by intro e; subst e; simp at hne
    have hs := h.some_ this
    split <;> simp [hs]
theorem ListRep.elem {E : Env} {els : List AV} {tok : Option Nat} {base : Option Addr} {cap n : Nat} (h : ListRep E els tok base cap) (hn : ∀ e ∈ els, e.cells.length = n) (hpos : 0 < n) {k : Nat} (hk : k < els.length) :
    ∃ a, base = some a /\ Rep E (.tptr (els.getD k .empty).cells) (.pointer (some (a.add (k * n)))) := by
  have hl : (els.getD k .empty).cells.length = n := hn _ (by rw [List.getD_eq_getElem?_getD, List.getElem?_eq_getElem hk]; exact List.getElem_mem hk)
  have hin : ∀ j, j < n -> k * n + j < (flat els).length := fun j hj => by
    rw [flat_len hn]
    have : (k + 1) * n ≤ els.length * n := Nat.mul_le_mul_right n hk
    rw [Nat.add_mul] at this; omega
  obtain ⟨a, v, rfl, g2, _, _⟩ := h.cells (k * n + 0) (hin 0 hpos)
  refine ⟨a, rfl, .tptr _ _ (fun j => (E.st a.block (a.off + (k * n + j))).getD undef) (by rw [Addr.add_eq g2]) (fun j hj => ?_) (fun j hj => ?_)⟩
  . obtain ⟨a', v, e, g2, g3, g4⟩ := h.cells (k * n + j) (hin j (by omega)); injection e with e; subst e
    rw [Addr.add_eq g2]; simp only; rw [Nat.add_assoc, g3]; rfl
  . obtain ⟨a', v, e, g2, g3, g4⟩ := h.cells (k * n + j) (hin j (by omega)); injection e with e; subst e
    rw [g3]; rw [flat_get hn hk (by omega)] at g4; exact g4
theorem Holds.newList {E : Env} {H : Heap} {w : World} (h : Holds E H w) {els : List AV} {n : Nat} (hn : ∀ e ∈ els, e.cells.length = n) {vs : Array Value} {cap : Nat} (hr : ∀ k, k < (flat els).length -> Rep E ((flat els).getD k .empty) (vs.getD k undef))
    (hsz : (flat els).length ≤ vs.size) (hc : els.length ≤ cap) (T : TypeId) (z : Nat × Nat) :
    ∃ E', Ext E w E' (w.alloc (.cells vs T z)) /\ Holds E' H (w.alloc (.cells vs T z)) /\ Rep E' (.list els none) (.slice (some ⟨w.heap.size, 0, none⟩) els.length cap) := by
  obtain ⟨h1, h2⟩ := h.row vs T z
  refine ⟨_, h1, h2, ListRep.rep ⟨⟨n, hn⟩, fun k hk => ⟨_, vs.getD k undef, rfl, rfl, ?_, (hr k hk).mono h1.le⟩, fun _ => rfl, hc, trivial⟩ rfl⟩
  simp only [Env.addSt]
  rw [if_pos (by refine ⟨?_, ?_, ?_⟩ <;> first | trivial | omega | (simp; omega))]
  simp [Array.getD_eq_getD_getElem?, Array.getElem?_eq_getElem (show k < vs.size by omega)]
theorem ofBytes_cells (l : List UInt8) : ∀ e ∈ ofBytes l, e.cells.length = 1 := by
  intro e he; simp [ofBytes] at he; obtain ⟨b, _, rfl⟩ := he; rfl
theorem flat_ofBytes (l : List UInt8) : flat (ofBytes l) = ofBytes l := by
  induction l with
  | nil => rfl
  | cons b l ih => simp only [ofBytes, List.map_cons, flat_cons] at ih ⊢; rw [ih]; rfl
theorem Holds.heap_eq {E : Env} {H : Heap} {w w' : World} (h : Holds E H w) (e : w'.heap = w.heap) : Holds E H w' := by
  have hc : ∀ a, w'.cell? a = w.cell? a := fun a => by simp [World.cell?, e]
  exact ⟨fun b o v hv => by rw [hc]; exact h.st b o v hv, fun i p hp => by rw [e]; exact h.dom i p hp,
    fun i o hi hd => let ⟨b, nc, sz, h1, h2⟩ := h.obj i o hi hd; ⟨b, nc, sz, h1, h2.mono_world (by rw [e])⟩, h.inj, h.len, fun b o hb => by rw [e]; exact h.blk b o hb⟩
theorem bytesWorld_eq (w : World) (e : TypeId) (s : ByteArray) :
    Lib.bytesWorld w e s = w.drew.alloc (.cells (Lib.bytesCells w e s) e ((Lib.bytesCells w e s).size, (Lib.bytesCells w e s).size + 1)) := by
  have h1 := Lib.bytesWorld_at_new w e s
  have h2 := Lib.bytesWorld_size w e s
  have hh : (Lib.bytesWorld w e s).heap = (w.drew.alloc (.cells (Lib.bytesCells w e s) e ((Lib.bytesCells w e s).size, (Lib.bytesCells w e s).size + 1))).heap := by
    apply Array.ext_getElem?
    intro i
    rcases Nat.lt_trichotomy i w.heap.size with h | h | h
    . rw [Lib.bytesWorld_at_old w e s i h, heap_alloc _ _ (by simpa using h)]; rfl
    . subst h; rw [h1]; exact (heap_new w.drew _).symm
    . rw [Array.getElem?_eq_none (by omega), Array.getElem?_eq_none (by simp; omega)]
  have e1 : ∀ (u v : World), u.heap = v.heap -> u.tape = v.tape -> u.drawn = v.drawn -> u.os = v.os -> u.output = v.output -> u = v := by
    intro u v a b c d e; cases u; cases v; simp_all
  exact e1 _ _ hh (by simp [Lib.bytesWorld, World.freeze]) (by simp [Lib.bytesWorld, World.freeze]) (by simp [Lib.bytesWorld, World.freeze]; rfl) (by simp [Lib.bytesWorld, World.freeze]; rfl)
end Go.Tv
namespace Go.Tv
inductive Parts (E : Env) : List (Nat × AV) -> List (Nat × Value) -> Prop where
  | nil : Parts E [] []
  | cons {i v x l m} (h : Rep E v x) (t : Parts E l m) : Parts E ((i, v) :: l) ((i, x) :: m)
theorem evParts_rep {C : Cfg} {E : Env} {t : List AV} {a : Act} (ht : RepL E t a.tmps) (hg : GlobOk C E) : ∀ {ps : List (Nat × Operand)} {vs}, evParts C t ps = some vs -> Parts E vs (ps.map fun (i, x) => (i, a.eval x))
  | [], vs, h => by simp [evParts] at h; subst h; exact .nil
  | (i, x) :: ps, vs, h => by
    simp only [evParts] at h
    split at h
    . rename_i v l h1 h2; injection h with h; subst h
      exact .cons (ev_rep ht hg h1) (evParts_rep ht hg h2)
    . cases h
theorem foldl_set (off : Nat) : ∀ (l : List Value) (k : Nat) (A : Array Value),
    (((l.zipIdx k).foldl (fun (cs : Array Value) (p : Value × Nat) => cs.setIfInBounds (off + p.2) p.1) A).size = A.size) /\
    ∀ i, ((l.zipIdx k).foldl (fun (cs : Array Value) (p : Value × Nat) => cs.setIfInBounds (off + p.2) p.1) A)[i]? = if off + k ≤ i /\ i < off + k + l.length /\ i < A.size then l[i - (off + k)]? else A[i]?
  | [], k, A => by
    refine ⟨rfl, fun i => ?_⟩
    rw [if_neg (by simp; omega)]; rfl
  | x :: l, k, A => by
    have ih := foldl_set off l (k + 1) (A.setIfInBounds (off + k) x)
    simp only [List.zipIdx_cons, List.foldl_cons]
    refine ⟨by rw [ih.1]; simp, fun i => ?_⟩
    rw [ih.2 i]
    simp only [Array.size_setIfInBounds, List.length_cons]
    by_cases h1 : off + (k + 1) ≤ i /\ i < off + (k + 1) + l.length /\ i < A.size
    . rw [if_pos h1, if_pos (by omega)]
      rw [show i - (off + k) = (i - (off + (k + 1))) + 1 by omega, List.getElem?_cons_succ]
    . rw [if_neg h1]
      by_cases h2 : i = off + k
      . subst h2
        by_cases h3 : off + k < A.size
        . rw [if_pos (by omega)]; simp [h3]
        . rw [if_neg (by omega)]; simp [h3]
      . rw [if_neg (by omega), Array.getElem?_setIfInBounds_ne (Ne.symm h2)]
theorem fill_step {E : Env} {cells new : List AV} {vs nv : Array Value} {off : Nat} (hr : RepL E cells vs) (hn : RepL E new nv) (hle : off + new.length ≤ cells.length) :
    RepL E (splice cells off new) (nv.zipIdx.foldl (fun cs (p : Value × Nat) => cs.setIfInBounds (off + p.2) p.1) vs) := by
  have hs := hr.size; have hs2 := hn.size
  have e : nv.zipIdx.foldl (fun (cs : Array Value) (p : Value × Nat) => cs.setIfInBounds (off + p.2) p.1) vs = (nv.toList.zipIdx 0).foldl (fun (cs : Array Value) (p : Value × Nat) => cs.setIfInBounds (off + p.2) p.1) vs := by
    rw [<- Array.foldl_toList, Array.toList_zipIdx]
  have key := foldl_set off nv.toList 0 vs
  have hsp := hr.splice hn hle
  refine ⟨by rw [e, key.1, <- hs]; simp [Go.Tv.splice]; omega, fun i hi => ?_⟩
  have h1 := hsp.get i hi
  have h2 : (vs.toList.take off ++ nv.toList ++ vs.toList.drop (off + nv.toList.length)).toArray.getD i undef = (nv.zipIdx.foldl (fun (cs : Array Value) (p : Value × Nat) => cs.setIfInBounds (off + p.2) p.1) vs).getD i undef := by
    have hil : i < vs.size := by simp [Go.Tv.splice] at hi; omega
    rw [e]
    simp only [Array.getD_eq_getD_getElem?, List.append_assoc, List.getElem?_toArray, key.2 i, Array.length_toList, Nat.add_zero]
    congr 1
    by_cases g1 : i < off
    . rw [if_neg (by omega), List.getElem?_append_left (by simp; omega), List.getElem?_take, if_pos g1]; simp
    . by_cases g2 : i < off + nv.size
      . rw [if_pos (by omega), List.getElem?_append_right (by simp; omega), List.getElem?_append_left (by simp; omega)]
        congr 1; simp; omega
      . rw [if_neg (by omega), List.getElem?_append_right (by simp; omega), List.getElem?_append_right (by simp; omega), List.getElem?_drop]
        have : off + nv.size + (i - (List.take off vs.toList).length - nv.toList.length) = i := by simp; omega
        rw [this]; simp
  rw [<- h2]; exact h1
theorem fill_run {E : Env} {place : Nat -> Option (Nat × Nat)} : ∀ {ps : List (Nat × AV)} {pc : List (Nat × Value)} {cells cs : List AV} {vs : Array Value}, Parts E ps pc -> RepL E cells vs -> afill place cells ps = some cs ->
    ∃ vs', Instr.fill place vs pc = some vs' /\ RepL E cs vs'
  | [], _, cells, cs, vs, .nil, hr, h => by simp [afill] at h; subst h; exact ⟨vs, rfl, hr⟩
  | (i, v) :: ps, _, cells, cs, vs, .cons (x := x) (m := m) hv ht, hr, h => by
    simp only [afill] at h
    split at h
    . cases h
    . rename_i off size hp
      split at h
      . rename_i hc
        have hvc := hv.cells
        have h1 := hvc.size; have h2 := hr.size
        obtain ⟨vs', hf, hr'⟩ := fill_run ht (fill_step hr hvc (by omega)) h
        refine ⟨vs', ?_, hr'⟩
        simp only [Instr.fill, hp]
        rw [if_neg (by simp; omega)]
        exact hf
      . cases h
theorem built_struct {C : Cfg} {T : TypeId} {fs : Array Field} (_hu : C.P.underlying T = some (.struct fs)) (hall : fs.toList.all (fun f : Field => (C.P.info? f.type).isSome) = true) :
    ∃ places : List (Nat × Nat), fs.toList.mapM (fun f : Field => (C.P.info? f.type).map fun i => (f.offset, i.size)) = some places /\
      ∀ i : Nat, places.toArray[i]? = (match fs[i]? with | some f => (szOf C f.type).map fun n => (f.offset, n) | none => none) := by
  have key : ∀ l : List Field, l.all (fun f : Field => (C.P.info? f.type).isSome) = true -> ∃ places : List (Nat × Nat), l.mapM (fun f : Field => (C.P.info? f.type).map fun i => (f.offset, i.size)) = some places /\
      ∀ i : Nat, places[i]? = (match l[i]? with | some f => (szOf C f.type).map fun n => (f.offset, n) | none => none) := by
    intro l
    induction l with
    | nil => intro _; exact ⟨[], rfl, fun i => by simp⟩
    | cons f l ih =>
      intro h
      simp only [List.all_cons, Bool.and_eq_true] at h
      obtain ⟨pl, h1, h2⟩ := ih h.2
      obtain ⟨inf, hi⟩ := Option.isSome_iff_exists.1 h.1
      refine ⟨(f.offset, inf.size) :: pl, by simp [List.mapM_cons, hi, h1], fun i => ?_⟩
      cases i with
      | zero => simp [szOf, hi]
      | succ i => simpa using h2 i
  obtain ⟨pl, h1, h2⟩ := key _ hall
  exact ⟨pl, h1, fun i => by simpa using h2 i⟩
theorem info_zero {C : Cfg} {T : TypeId} {z : AV} (h : zeroOf C T = some z) : ∃ i v, C.P.info? T = some i /\ i.zero = some v /\ ∀ E, Rep E z v := by
  unfold zeroOf at h
  split at h
  . rename_i i hi
    split at h
    . rename_i v hv; exact ⟨i, v, hi, hv, fun E => constZ_rep E h⟩
    . cases h
  . cases h
theorem szOf_info {C : Cfg} {T : TypeId} {n : Nat} (h : szOf C T = some n) : ∃ i, C.P.info? T = some i /\ i.size = n := by
  unfold szOf at h
  cases hi : C.P.info? T with
  | none => simp [hi] at h
  | some i => simp [hi] at h; exact ⟨i, rfl, h⟩
theorem build_struct_run {C : Cfg} {E : Env} {w : World} {T : TypeId} {fs : Array Field} {z : AV} {ps : List (Nat × AV)} {pc : Array (Nat × Value)} {cs : List AV} (hz : zeroOf C T = some z) (hu : C.P.underlying T = some (.struct fs))
    (hall : fs.toList.all (fun f : Field => (C.P.info? f.type).isSome) = true) (hp : Parts E ps pc.toList)
    (h : afill (fun i : Nat => match fs[i]? with | some f => (szOf C f.type).map fun n => (f.offset, n) | none => none) z.cells ps = some cs) :
    ∃ c, (Instr.build T pc).run C.P w = .ok c w /\ Rep E (.agg cs) c := by
  obtain ⟨i, v, hi, hv, hc⟩ := info_zero hz
  obtain ⟨pl, h1, h2⟩ := built_struct hu hall
  have hr : RepL E z.cells v.cells := (hc E).cells
  have e : (fun i : Nat => match fs[i]? with | some f => (szOf C f.type).map fun n => (f.offset, n) | none => none) = (fun i => pl.toArray[i]?) := by funext i; exact (h2 i).symm
  rw [e] at h
  obtain ⟨vs', hf, hr'⟩ := fill_run hp hr h
  refine ⟨.agg vs', run_build w T pc vs' ?_, .agg _ _ hr'.size hr'.get⟩
  simp only [Program.built, hi, hu, hv, h1]; exact hf
theorem build_array_run {C : Cfg} {E : Env} {w : World} {T e : TypeId} {len n : Nat} {z : AV} {ps : List (Nat × AV)} {pc : Array (Nat × Value)} {cs : List AV} (hz : zeroOf C T = some z) (hu : C.P.underlying T = some (.array len e))
    (hn : szOf C e = some n) (hp : Parts E ps pc.toList)
    (h : afill (fun i => some (i * n, n)) z.cells ps = some cs) :
    ∃ c, (Instr.build T pc).run C.P w = .ok c w /\ Rep E (.agg cs) c := by
  obtain ⟨i, v, hi, hv, hc⟩ := info_zero hz
  obtain ⟨ie, hie, hs⟩ := szOf_info hn
  have hr : RepL E z.cells v.cells := (hc E).cells
  obtain ⟨vs', hf, hr'⟩ := fill_run hp hr h
  refine ⟨.agg vs', run_build w T pc vs' ?_, .agg _ _ hr'.size hr'.get⟩
  simp only [Program.built, hi, hu, hv, hie, hs]; exact hf
theorem zeros_rep {E : Env} {z : AV} {v : Value} (hr : RepL E z.cells v.cells) {n : Nat} (hn : z.cells.length = n) (hpos : 0 < n) (len : Nat) :
    RepL E (List.replicate len z.cells).flatten ((Array.range (len * n)).map (v.cells[· % v.cells.size]!)) := by
  have hs := hr.size
  have hl : (List.replicate len z.cells).flatten.length = len * n := by simp [hn]
  refine ⟨by simp [hn], fun i hi => ?_⟩
  rw [hl] at hi
  have hm : i % n < n := Nat.mod_lt _ hpos
  have h1 := hr.get (i % n) (by omega)
  have e1 : (List.replicate len z.cells).flatten.getD i .empty = z.cells.getD (i % n) .empty := by
    clear h1
    induction len generalizing i with
    | zero => simp at hi
    | succ len ih =>
      rw [List.replicate_succ, List.flatten_cons]
      simp only [List.getD_eq_getElem?_getD]
      by_cases h2 : i < n
      . rw [List.getElem?_append_left (by omega), Nat.mod_eq_of_lt h2]
      . rw [List.getElem?_append_right (by omega)]
        have := ih (i := i - z.cells.length) (by simp [hn]) (by rw [Nat.add_mul] at hi; omega) (Nat.mod_lt _ hpos)
        simp only [List.getD_eq_getElem?_getD] at this
        rw [this, hn, <- Nat.mod_eq_sub_mod (by omega)]
  have e2 : ((Array.range (len * n)).map (v.cells[· % v.cells.size]!)).getD i undef = v.cells.getD (i % n) undef := by
    have : i % v.cells.size < v.cells.size := by rw [<- hs, hn]; exact hm
    rw [Array.getD_eq_getD_getElem?]
    simp only [Array.getElem?_map, Array.getElem?_range, hi, if_true, Option.map_some, Option.getD_some]
    rw [<- hs, hn, Array.getD_eq_getD_getElem?, Array.getElem!_eq_getD, Array.getD_eq_getD_getElem?, Array.getElem?_eq_getElem (by omega)]
    rfl
  rw [e1, e2]; exact h1
end Go.Tv
namespace Go.Tv
section
variable {C : Cfg} {E : Env} {H : Heap} {w : World}
theorem conv_run {src dst : TypeId} {x v : AV} {c : Value} (hH : Holds E H w) (hc : Rep E x c) (h : aconv C src dst x = some v) : RunsTo C E w (convert src dst c) v H := by
  unfold aconv at h
  split at h
  . rename_i d1 h1 h2
    injection h with h; subst h
    have := hc.inv_int; subst this
    exact .here hH (by simp [convert, run_underlying h1, run_underlying h2, Conv.intToInt]) (.int _ _)
  . rename_i d1 s h1 h2
    injection h with h; subst h
    obtain ⟨s, rfl, rfl⟩ := hc.inv_str
    exact .here hH (by simp [convert, run_underlying h1, run_underlying h2]) (.str _)
  . rename_i d1 e s h1 h2
    split at h
    . rename_i he; injection h with h; subst h
      obtain ⟨s, rfl, rfl⟩ := hc.inv_str
      have hr := Lib.run_convert_string_bytes w src dst e s h1 h2 he
      rw [bytesWorld_eq] at hr
      have hlen : (ofBytes s.data.toList).length = s.size := by simp [ofBytes]
      obtain ⟨E', g1, g2, g3⟩ := Holds.newList (w := w.drew) hH.drew (els := ofBytes s.data.toList) (n := 1) (ofBytes_cells _) (vs := Lib.bytesCells w e s) (cap := grownCap w s.size 0 e)
        (fun k hk => by
          rw [flat_ofBytes] at hk ⊢
          have hk' : k < s.data.size := by simpa [ofBytes] using hk
          have e1 : (ofBytes s.data.toList).getD k .empty = .int .u8 (s.data[k]).toNat := by simp [ofBytes, List.getD_eq_getElem?_getD, Array.getElem?_eq_getElem hk']
          have e2 : (Lib.bytesCells w e s).getD k undef = .int .u8 (s.data[k]).toNat := by
            have hk2 : k < s.size := hk'
            simp [Lib.bytesCells, Array.getD_eq_getD_getElem?, Array.getElem?_append, hk2]
          rw [e1, e2]; exact .int _ _)
        (by rw [flat_ofBytes]; simp [ofBytes, Lib.bytesCells])
        (by rw [hlen]; simp [grownCap, Question.cut]) e ((Lib.bytesCells w e s).size, (Lib.bytesCells w e s).size + 1)
      rw [hlen] at g3
      exact ⟨_, _, E', hr, (Ext.drew w).trans g1, g2, g3⟩
    . cases h
  . rename_i e els tok h1 h2
    split at h
    . rename_i he
      cases hb : toBytes els with
      | none => simp [hb] at h
      | some l =>
        simp [hb] at h; subst h
        obtain ⟨base, cap, rfl, hL⟩ := hc.inv_list
        have key : ∀ {els : List AV} {l : List UInt8}, toBytes els = some l -> ∃ ns : List Int, els = ns.map (.int .u8) /\ l = ns.map fun n => UInt8.ofNat n.toNat := by
          intro els
          induction els with
          | nil => intro l h; simp [toBytes] at h; subst h; exact ⟨[], rfl, rfl⟩
          | cons x r ih =>
            intro l h
            unfold toBytes at h
            split at h
            . rename_i e; cases e
            . rename_i n r' e; injection e with e1 e2; subst e1 e2
              split at h
              . rename_i l' hl; injection h with h; subst h
                obtain ⟨ns, rfl, rfl⟩ := ih hl
                exact ⟨n :: ns, rfl, rfl⟩
              . cases h
            . cases h
        obtain ⟨ns, rfl, rfl⟩ := key hb
        have hone : ∀ x ∈ ns.map (AV.int .u8), x.cells.length = 1 := by intro x hx; simp at hx; obtain ⟨n, _, rfl⟩ := hx; rfl
        have hflat : flat (ns.map (AV.int .u8)) = ns.map (AV.int .u8) := by
          have : ∀ l : List Int, flat (l.map (AV.int .u8)) = l.map (AV.int .u8) := by
            intro l; induction l with
            | nil => rfl
            | cons a l ih => simp only [List.map_cons, flat_cons, ih]; rfl
          exact this ns
        cases ns with
        | nil =>
          cases base with
          | none => exact .here hH (run_convert_bytes_nil w src e h1 he _ _ dst h2) (Rep.str ByteArray.empty)
          | some a =>
            refine .here hH (c := .string ByteArray.empty) ?_ (Rep.str ByteArray.empty)
            have := run_convert_bytes_string (P := C.P) w src dst e (some a) 0 cap h1 he h2
            simp only [List.map_nil, List.length_nil]; rw [this]
            simp [Conv.bytesToString, loadCells, loadCellsFrom]
        | cons n0 ns' =>
          generalize hns : n0 :: ns' = ns at *
          have hpos : 0 < ns.length := by rw [<- hns]; simp
          obtain ⟨a, v0, rfl, hsp, _, _⟩ := hL.cells 0 (by rw [hflat]; simpa using hpos)
          have ha : a = ⟨a.block, a.off, none⟩ := by cases a; simp at hsp; simp [hsp]
          refine .here hH (c := .string (strOfNums ns)) ?_ ?_
          . rw [ha]
            refine run_convert_bytes_arg w src e h1 he a.block a.off _ cap ns (by simp) (fun i hi => ?_) dst h2
            simp at hi
            obtain ⟨a', v, e', _, g3, g4⟩ := hL.cells i (by rw [hflat]; simpa using hi)
            injection e' with e'; subst e'
            rw [hH.st _ _ _ g3]
            rw [hflat] at g4
            have : (ns.map (AV.int .u8)).getD i .empty = .int .u8 (ns.getD i 0) := by simp [List.getD_eq_getElem?_getD, hi]
            rw [this] at g4
            rw [g4.inv_int]
          . have := Rep.str (E := E) (strOfNums ns)
            rwa [strOfNums_data] at this
    . cases h
  . rename_i e h1 h2
    split at h
    . rename_i he; injection h with h; subst h
      obtain ⟨b, rfl⟩ := hc.inv_empty
      refine .here hH (c := .string ByteArray.empty) ?_ (Rep.str ByteArray.empty)
      have := run_convert_bytes_string (P := C.P) w src dst e b 0 0 h1 he h2
      rw [this]
      cases b <;> simp [Conv.bytesToString, loadCells, loadCellsFrom]
    . cases h
  . cases h
theorem part_run {T : TypeId} {off : Nat} {cs : List AV} {vs : Array Value} {v : AV} (hr : RepL E cs vs) (hle : off ≤ cs.length) (h : ldCells C T (cs.drop off) = some v) :
    ∃ c, (part T vs off).run C.P w = .ok c w /\ Rep E v c := by
  have hs := hr.size
  unfold ldCells at h
  split at h
  . rename_i n h1 h2
    split at h
    . rename_i hn; injection h with h; subst h
      simp at hn
      refine ⟨.agg (vs.extract off (off + n)), by simp [part, aggT_run h1, szOf_run h2], .agg _ _ (by simp; omega) fun i hi => ?_⟩
      have hi' : i < n /\ i < cs.length - off := by simp at hi; omega
      have h3 := hr.get (off + i) (by omega)
      have e1 : ((cs.drop off).take n).getD i .empty = cs.getD (off + i) .empty := by
        simp only [List.getD_eq_getElem?_getD]; rw [List.getElem?_take, if_pos hi'.1, List.getElem?_drop]
      have e2 : (vs.extract off (off + n)).getD i undef = vs.getD (off + i) undef := by
        simp only [Array.getD_eq_getD_getElem?]; rw [Array.getElem?_extract, if_pos (by omega)]
      rw [e1, e2]; exact h3
    . cases h
  . rename_i n h1 h2
    cases hd : cs.drop off with
    | nil => rw [hd] at h; simp at h
    | cons x xs =>
      rw [hd] at h; simp at h; subst h
      have hlt : off < cs.length := by
        have := congrArg List.length hd; simp at this; omega
      have h3 := hr.get off hlt
      have e1 : cs.getD off .empty = x := by
        have := getD_drop cs off 0; rw [hd] at this; simpa using this.symm
      rw [e1] at h3
      have hx : vs[off]? = some vs[off] := Array.getElem?_eq_getElem (show off < vs.size by omega)
      have hy : vs.getD off undef = vs[off] := by simp [Array.getD_eq_getD_getElem?, hx]
      rw [hy] at h3
      refine ⟨vs[off], ?_, h3⟩
      generalize vs[off] = y at hx
      simp only [part, Sem.run_bind, aggT_run h1, Result.andThen_ok, Bool.false_eq_true, if_false, hx, Sem.run_pure]
  . cases h
theorem field_struct {T : TypeId} {j : Nat} {f : Field} (h : fieldOf C T j = some f) : ∃ fs, C.P.underlying T = some (.struct fs) /\ fs[j]? = some f := by
  unfold fieldOf at h
  split at h
  . rename_i fs hu; exact ⟨fs, hu, h⟩
  . cases h
theorem elemT_slice {T e : TypeId} (h : elemT C T = some e) : C.P.underlying T = some (.slice e) := by
  unfold elemT at h
  split at h
  . rename_i e' hu; injection h with h; subst h; exact hu
  . cases h
theorem fieldAddr_run {T : TypeId} {j : Nat} {f : Field} {n : Nat} {a : Addr} (hf : fieldOf C T j = some f) (hn : szOf C f.type = some n) (h0 : n ≠ 0) :
    (Instr.fieldAt T (.pointer (some a)) j).run C.P w = .ok (.pointer (some (a.add f.offset))) w := by
  obtain ⟨fs, hu, hj⟩ := field_struct hf
  simp only [Instr.fieldAt, Sem.run_bind, run_underlying hu, Result.andThen_ok, hj, Instr.sureAddr, Sem.run_pure, fieldPlace, szOf_run hn, Sem.run_ite, if_neg h0]
theorem idx_some {i : AV} {n k : Nat} (h : idx i n = some k) : ∃ kd z, i = .int kd z /\ 0 ≤ z /\ z < n /\ k = z.toNat := by
  unfold idx at h
  split at h
  . rename_i kd z
    split at h
    . rename_i hz; injection h with h; exact ⟨kd, z, rfl, hz.1, hz.2, h.symm⟩
    . cases h
  . cases h
theorem RepL.tuple_get {cs : List AV} {vs : Array Value} (hr : RepL E cs vs) {j : Nat} {v : AV} (h : cs[j]? = some v) : ∃ c, vs[j]? = some c /\ Rep E v c := by
  have hj := (List.getElem?_eq_some_iff.1 h).1
  have hs := hr.size
  have := hr.get j hj
  refine ⟨vs.getD j undef, by simp [Array.getD_eq_getD_getElem?, Array.getElem?_eq_getElem (show j < vs.size by omega)], ?_⟩
  rw [List.getD_eq_getElem?_getD, h] at this; exact this
theorem bnd_run {t : List AV} {a : Act} (ht : RepL E t a.tmps) (hg : GlobOk C E) {d : Nat} {x : Option Operand} {y y' k : Nat} (hy : y ≤ y') {code : BoundsCode} (h : bnd d (x.map (ev C t)) y = some k) :
    (match x.map a.eval with | some v => Instr.sliceBound v y' code | none => pure d).run C.P w = .ok k w /\ (x.isSome -> k ≤ y) /\ (x.isNone -> k = d) := by
  cases x with
  | none => simp [bnd] at h; subst h; exact ⟨rfl, by simp, by simp⟩
  | some x =>
    simp only [Option.map_some, bnd] at h
    cases he : ev C t x with
    | none => simp [he] at h
    | some v =>
      have hr := ev_rep ht hg he
      rw [he] at h
      cases v <;> simp only at h <;> try (cases h; done)
      case int kd z =>
        split at h
        . rename_i hz; injection h with h; subst h
          have := hr.inv_int
          refine ⟨?_, by intro _; omega, by simp⟩
          simp only [Option.map_some, this, Instr.sliceBound, asIntOf, Sem.run_bind, Sem.run_pure, Result.andThen_ok]
          rw [Sem.run_ite, if_pos (by omega)]; rfl
        . cases h
theorem bounds_run {t : List AV} {a : Act} (ht : RepL E t a.tmps) (hg : GlobOk C E) {lo hi : Option Operand} {b : Bool} {n cap h l : Nat} (hc : n ≤ cap) (h1 : bnd n (hi.map (ev C t)) n = some h) (h2 : bnd 0 (lo.map (ev C t)) h = some l) :
    (Instr.sliceBounds b n cap (lo.map a.eval) (hi.map a.eval) none).run C.P w = .ok (l, h, cap) w /\ l ≤ h /\ h ≤ n := by
  have hh : h ≤ n := by
    cases hi with
    | none => simp [bnd] at h1; omega
    | some x => exact (bnd_run (w := w) (code := .index) ht hg (Nat.le_refl n) h1).2.1 rfl
  have hl : l ≤ h := by
    cases lo with
    | none => simp [bnd] at h2; omega
    | some x => exact (bnd_run (w := w) (code := .index) ht hg (Nat.le_refl h) h2).2.1 rfl
  refine ⟨?_, hl, hh⟩
  have k2 := fun code => (bnd_run (w := w) (code := code) ht hg (Nat.le_refl h) h2).1
  cases lo with
  | none =>
    simp [bnd] at h2; subst h2
    cases hi with
    | none =>
      simp [bnd] at h1; subst h1
      simp only [Instr.sliceBounds, Option.map_none, Sem.run_bind, Sem.run_pure, Result.andThen_ok]
    | some x =>
      have k1 := fun code => (bnd_run (w := w) (code := code) ht hg hc h1).1
      simp only [Option.map_some] at k1
      simp only [Instr.sliceBounds, Option.map_some, Option.map_none, Sem.run_bind, Sem.run_pure, Result.andThen_ok, k1]
  | some z =>
    simp only [Option.map_some] at k2
    cases hi with
    | none =>
      simp [bnd] at h1; subst h1
      simp only [Instr.sliceBounds, Option.map_none, Option.map_some, Sem.run_bind, Sem.run_pure, Result.andThen_ok, k2]
    | some x =>
      have k1 := fun code => (bnd_run (w := w) (code := code) ht hg hc h1).1
      simp only [Option.map_some] at k1
      simp only [Instr.sliceBounds, Option.map_some, Sem.run_bind, Sem.run_pure, Result.andThen_ok, k1, k2]
theorem slice_str_run {T : TypeId} {t : List AV} {a : Act} (ht : RepL E t a.tmps) (hg : GlobOk C E) (hH : Holds E H w) {lo hi : Option Operand} {s : List UInt8} {h l : Nat} {c : Value} (hu : C.P.underlying T = some .string) (hs : Rep E (.str s) c)
    (h1 : bnd s.length (hi.map (ev C t)) s.length = some h) (h2 : bnd 0 (lo.map (ev C t)) h = some l) :
    RunsTo C E w (Instr.sliceAt T c (lo.map a.eval) (hi.map a.eval) none) (.str ((s.take h).drop l)) H := by
  obtain ⟨b, rfl, rfl⟩ := hs.inv_str
  have hlen : b.data.toList.length = b.size := Array.length_toList
  rw [hlen] at h1
  obtain ⟨hb, _, _⟩ := bounds_run (w := w) (b := false) ht hg (Nat.le_refl b.size) h1 h2
  refine .here hH (c := .string (b.extract l h)) ?_ ?_
  . simp only [Instr.sliceAt, Instr.slice, Sem.run_bind, run_underlying hu, Result.andThen_ok, Option.isSome_none, Bool.false_eq_true, if_false, Sem.run_pure, hb]
  . have := Rep.str (E := E) (b.extract l h)
    have e : (b.extract l h).data.toList = (b.data.toList.take h).drop l := by
      rw [ByteArray.data_extract, Array.toList_extract]
      simp [List.extract, List.drop_take]
    rwa [e] at this
theorem slice_list_run {T e : TypeId} {t : List AV} {a : Act} (ht : RepL E t a.tmps) (hg : GlobOk C E) (hH : Holds E H w) {lo hi : Option Operand} {els : List AV} {tok : Option Nat} {n h l : Nat} {c : Value} (hu : C.P.underlying T = some (.slice e))
    (hn : szOf C e = some n) (hs : Rep E (.list els tok) c) (hall : els.all (fun v => decide (v.cells.length = n)) = true)
    (h1 : bnd els.length (hi.map (ev C t)) els.length = some h) (h2 : bnd 0 (lo.map (ev C t)) h = some l) :
    RunsTo C E w (Instr.sliceAt T c (lo.map a.eval) (hi.map a.eval) none) (.list ((els.take h).drop l) none) H := by
  obtain ⟨base, cap, rfl, hL⟩ := hs.inv_list
  obtain ⟨hb, g1, g2⟩ := bounds_run (w := w) (b := true) ht hg hL.capLe h1 h2
  refine .here hH ?_ (hL.part (all_len hall) l h g1 g2)
  simp only [Instr.sliceAt, Instr.slice, Sem.run_bind, run_underlying hu, Result.andThen_ok, Sem.run_pure, hb, szOf_run hn]
end
end Go.Tv
