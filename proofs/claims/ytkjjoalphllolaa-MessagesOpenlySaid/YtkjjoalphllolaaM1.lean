/- Parts of the proof, one after the other: The layer Dv, part 1: pure values, the local heap, their relation to the model's memory. Over any program. The layer Dv, part 2: the verification condition of a function's code, over pure values and the local heap. The layer Dv, part 3: what a step of the heap leaves as it was. The layer Dv, part 4: one object of the heap turns, all else stays. The layer Dv, part 5: what the model's operations do, at related values: moves, variables. The layer Dv, part 6: stores; values taken for pure ones. -/
import Derived.Calls
import Derived.Orders
import Derived.Below
import Derived.Laws.MakeOwn
import Derived.Laws.StructEq
import Derived.Still
import Derived.KernelRfl
import Derived.OrdersIn
import Derived.RangeFuncLeaves
import Derived.RangeFuncRecord
import Derived.RangeFuncSeq
namespace Go.Dv
open Go.RowKit (Below)

inductive PV where
  | int (k : IntKind) (n : Int)
  | bool (b : Bool)
  | str (s : ByteArray)
  | nil
  | sl (l : List PV)
  | agg (l : List PV)
  | tup (l : List PV)

def PV.cells : PV → List PV
  | .agg l => l
  | p => [p]

def PV.one : PV → Bool
  | .agg _ => false
  | .tup _ => false
  | _ => true

inductive DV where
  | pv (p : PV)
  | e0
  | agg (l : List DV)
  | tup (l : List DV)
  | ref (k c : Nat)
  | aref (k n i c : Nat)
  | eptr (p : PV) (c : Nat)
  | buf (k n : Nat)
  | mp (k : Nat)
  | vbuf (k n : Nat)
  | rbuf (k n : Nat)
  | clo (f : FuncId) (first caps : List DV)
  | fnv (v : Value)
  | raw (v : Value)
  | when (c : Bool) (d : DV)
  | any

def DV.cells : DV → List DV
  | .agg l => l
  | .pv (.agg l) => l.map .pv
  | d => [d]

def DV.one : DV → Bool
  | .pv p => p.one
  | .agg _ => false
  | .tup _ => false
  | .any => false
  | .when _ _ => false
  | .fnv v => v.oneCell'
  | .raw v => v.oneCell'
  | _ => true

mutual
def DV.under (n : Nat) : DV → Bool
  | .agg l => DV.unders n l
  | .tup l => DV.unders n l
  | .ref k _ => Nat.blt k n
  | .aref k _ _ _ => Nat.blt k n
  | .buf k _ => Nat.blt k n
  | .mp k => Nat.blt k n
  | .vbuf k _ => Nat.blt k n
  | .rbuf k _ => Nat.blt k n
  | .clo _ a b => DV.unders n a && DV.unders n b
  | .when c d => !c || d.under n
  | _ => true
def DV.unders (n : Nat) : List DV → Bool
  | [] => true
  | d :: r => d.under n && DV.unders n r
end

inductive DObj where
  | var (cs : List DV)
  | arr (sz : Nat) (es : List PV)
  | fz (l : List PV)
  | mp (es : List (PV × PV))
  | row (ds : List DV)
  | gone

def DObj.under (n : Nat) : DObj → Bool
  | .var cs => DV.unders n cs
  | .row ds => DV.unders n ds
  | _ => true

/-- The local heap: the next free key, the first key that may be written, the first key of the call's own, the objects. -/
structure DH where
  next : Nat
  lo : Nat
  base : Nat
  get : Nat → Option DObj

def DH.put (L : DH) (k : Nat) (o : DObj) : DH := { L with get := fun j => bif Nat.beq j k then some o else L.get j }
def DH.push (L : DH) (o : DObj) : DH := { next := L.next + 1, lo := L.lo, base := L.base, get := fun j => bif Nat.beq j L.next then some o else L.get j }

/-- Where a call begins, and what holds when it ends by a panic: of the value and the heap. -/
structure W0 where
  w : World
  X : Value → DH → Prop

abbrev Env := Nat → DV
def upd (e : Env) (t : Option Nat) (d : DV) : Env :=
  match t with
  | some t => fun u => bif Nat.beq u t then d else e u
  | none => e

inductive RelP (T : Nat → Prop) (w : World) : PV → Value → Prop where
  | int (k : IntKind) (n : Int) : RelP T w (.int k n) (.int k n)
  | bool (b : Bool) : RelP T w (.bool b) (.bool b)
  | str (s : ByteArray) : RelP T w (.str s) (.string s)
  | nil : RelP T w .nil (.slice none 0 0)
  | e0 (a : Option Addr) (c : Nat) : RelP T w (.sl []) (.slice a 0 c)
  | sl (b off sz cap : Nat) (l : List PV) (val : Nat → Nat → Value) : ¬ T b → b < w.heap.size → l.length ≤ cap → (∀ p, p ∈ l → p.cells.length = sz) →
      (∀ (i : Nat) p (j : Nat) q, l[i]? = some p → p.cells[j]? = some q → w.cell? ⟨b, off + i * sz + j, none⟩ = some (val i j)) →
      (∀ (i : Nat) p (j : Nat) q, l[i]? = some p → p.cells[j]? = some q → RelP T w q (val i j)) →
      RelP T w (.sl l) (.slice (some ⟨b, off, none⟩) l.length cap)
  | agg (l : List PV) (vs : List Value) : l.length = vs.length → (∀ (i : Nat) p v, l[i]? = some p → vs[i]? = some v → RelP T w p v) → RelP T w (.agg l) (.agg ⟨vs⟩)
  | tup (l : List PV) (vs : List Value) : l.length = vs.length → (∀ (i : Nat) p v, l[i]? = some p → vs[i]? = some v → RelP T w p v) → RelP T w (.tup l) (.tuple ⟨vs⟩)

/-- What a package-level table holds (where the program reads one). -/
def Glb (w : World) : Prop := (fun _ => True) w
theorem Glb.ext {w w' : World} (h : Glb w) (hb : Below w.heap.size w w') : Glb w' := (fun _ _ => trivial) h hb

/-- Where an object lies: its block; of an array its capacity (0: nothing is allocated). -/
structure Loc where
  blk : Nat
  cap : Nat

def liveAt (m : Loc) : DObj → Prop
  | .var _ => True
  | .mp _ => True
  | .arr _ _ => m.cap ≠ 0
  | .fz _ => False
  | .row _ => m.cap ≠ 0
  | .gone => False

def Tot (M : Nat → Prop) (μ : Nat → Loc) (L : DH) (b : Nat) : Prop := M b ∨ ∃ k o, L.get k = some o ∧ liveAt (μ k) o ∧ (μ k).blk = b
def Wbl (μ : Nat → Loc) (L : DH) (b : Nat) : Prop := ∃ k o, L.lo ≤ k ∧ L.get k = some o ∧ liveAt (μ k) o ∧ (μ k).blk = b

/-- The slice over all of an array. -/
def bufVal (m : Loc) (n : Nat) (v : Value) : Prop := (m.cap = 0 ∧ n = 0 ∧ ∃ a, v = .slice a 0 0) ∨ (m.cap ≠ 0 ∧ v = .slice (some ⟨m.blk, 0, none⟩) n m.cap)

inductive RelV (T : Nat → Prop) (w : World) (μ : Nat → Loc) (L : DH) : DV → Value → Prop where
  | pv (p : PV) (v : Value) : RelP T w p v → RelV T w μ L (.pv p) v
  | e0 (a : Option Addr) : RelV T w μ L .e0 (.slice a 0 0)
  | agg (l : List DV) (vs : List Value) : l.length = vs.length → (∀ (i : Nat) d v, l[i]? = some d → vs[i]? = some v → RelV T w μ L d v) → RelV T w μ L (.agg l) (.agg ⟨vs⟩)
  | tup (l : List DV) (vs : List Value) : l.length = vs.length → (∀ (i : Nat) d v, l[i]? = some d → vs[i]? = some v → RelV T w μ L d v) → RelV T w μ L (.tup l) (.tuple ⟨vs⟩)
  | ref (k c : Nat) (v : Value) : v.oneCell' = true → (∀ cs, L.get k = some (.var cs) → v = .pointer (some ⟨(μ k).blk, c, none⟩)) → RelV T w μ L (.ref k c) v
  | aref (k n i c : Nat) (v : Value) : v.oneCell' = true → (∀ sz es, L.get k = some (.arr sz es) → n ≤ es.length ∧ (n = es.length → i < n → v = .pointer (some ⟨(μ k).blk, i * sz + c, none⟩))) →
      (∀ es, L.get k = some (.fz es) → n ≤ es.length ∧ (n = es.length → ∀ p, es[i]? = some p → ∃ sz, (∀ q, q ∈ es → q.cells.length = sz) ∧ v = .pointer (some ⟨(μ k).blk, i * sz + c, none⟩))) → RelV T w μ L (.aref k n i c) v
  | eptr (p : PV) (c b off : Nat) (val : Nat → Value) : ¬ T b → b < w.heap.size → (∀ (j : Nat) q, p.cells[j]? = some q → w.cell? ⟨b, off + j, none⟩ = some (val j)) →
      (∀ (j : Nat) q, p.cells[j]? = some q → RelP T w q (val j)) → RelV T w μ L (.eptr p c) (.pointer (some ⟨b, off + c, none⟩))
  | buf (k n : Nat) (v : Value) : (∃ ad cap, v = .slice ad n cap ∧ (0 < n → ad.isSome = true)) → (∀ sz es, L.get k = some (.arr sz es) → n ≤ es.length ∧ (n = es.length → bufVal (μ k) n v)) →
      (∀ es, L.get k = some (.fz es) → n ≤ es.length ∧ (n = es.length → bufVal (μ k) n v)) → RelV T w μ L (.buf k n) v
  | mp (k : Nat) (v : Value) : v.oneCell' = true → (∀ es, L.get k = some (.mp es) → v = .map (some (μ k).blk)) → RelV T w μ L (.mp k) v
  | vbuf (k n : Nat) (v : Value) : (∃ ad cap, v = .slice (some ad) n cap) → (∀ cs, L.get k = some (.var cs) → v = .slice (some ⟨(μ k).blk, 0, none⟩) n (μ k).cap ∧ n ≤ (μ k).cap) → RelV T w μ L (.vbuf k n) v
  | rbuf (k n : Nat) (v : Value) : (∃ ad cap, v = .slice ad n cap ∧ (0 < n → ad.isSome = true)) → (∀ ds, L.get k = some (.row ds) → n ≤ ds.length ∧ (n = ds.length → bufVal (μ k) n v)) → RelV T w μ L (.rbuf k n) v
  | clo (f : FuncId) (first caps : List DV) (fs cs : List Value) : first.length = fs.length → caps.length = cs.length →
      (∀ (i : Nat) d v, first[i]? = some d → fs[i]? = some v → RelV T w μ L d v) → (∀ (i : Nat) d v, caps[i]? = some d → cs[i]? = some v → RelV T w μ L d v) →
      RelV T w μ L (.clo f first caps) (.func (.func f) ⟨fs⟩ ⟨cs⟩)
  | fnv (v : Value) : RelV T w μ L (.fnv v) v
  | raw (v : Value) : RelV T w μ L (.raw v) v
  | when (c : Bool) (d : DV) (v : Value) : (c = true → RelV T w μ L d v) → (c = false → v = undef) → RelV T w μ L (.when c d) v
  | any (v : Value) : RelV T w μ L .any v

def ObjRel (T : Nat → Prop) (w : World) (μ : Nat → Loc) (L : DH) (k : Nat) : DObj → Prop
  | .var cs => ∃ vs ty, w.heap[(μ k).blk]? = some (.cells vs ty (0, 0)) ∧ cs.length ≤ vs.size ∧ ∀ (i : Nat) d v, cs[i]? = some d → vs[i]? = some v → RelV T w μ L d v
  | .arr sz es => ((μ k).cap = 0 ∧ es = []) ∨ ∃ vs ty, (μ k).cap ≠ 0 ∧ w.heap[(μ k).blk]? = some (.cells vs ty (0, 0)) ∧ es.length ≤ (μ k).cap ∧ (μ k).cap * sz ≤ vs.size ∧
      (∀ p, p ∈ es → p.cells.length = sz) ∧ ∀ (i : Nat) p (j : Nat) q, es[i]? = some p → p.cells[j]? = some q → ∃ v, vs[i * sz + j]? = some v ∧ RelP T w q v
  | .fz l => ((μ k).cap = 0 ∧ l = []) ∨ (l.length ≤ (μ k).cap ∧ (μ k).cap ≠ 0 ∧ RelP T w (.sl l) (.slice (some ⟨(μ k).blk, 0, none⟩) l.length (μ k).cap))
  | .row ds => ((μ k).cap = 0 ∧ ds = []) ∨ ∃ vs ty, (μ k).cap ≠ 0 ∧ w.heap[(μ k).blk]? = some (.cells vs ty (0, 0)) ∧ ds.length ≤ (μ k).cap ∧ (μ k).cap ≤ vs.size ∧ ∀ (i : Nat) d v, ds[i]? = some d → vs[i]? = some v → RelV T w μ L d v
  | .gone => True
  | .mp es => ∃ ents clock, w.heap[(μ k).blk]? = some (.map ents clock) ∧ ents.size = es.length ∧
      ∀ (i : Nat) kv e, es[i]? = some kv → ents[i]? = some e → RelP T w kv.1 e.key ∧ RelP T w kv.2 e.val

structure HR (M : Nat → Prop) (w0 : W0) (μ : Nat → Loc) (L : DH) (w : World) : Prop where
  ext : Below w0.w.heap.size w0.w w
  mlt : ∀ b, M b → b < w.heap.size
  keys : ∀ k o, L.get k = some o → k < L.next ∧ o.under L.next = true
  live : ∀ k o, L.get k = some o → liveAt (μ k) o → (μ k).blk < w.heap.size ∧ ¬ M (μ k).blk ∧ (L.lo ≤ k → w0.w.heap.size ≤ (μ k).blk)
  inj : ∀ k o k' o', L.get k = some o → liveAt (μ k) o → L.get k' = some o' → liveAt (μ k') o' → (μ k).blk = (μ k').blk → k = k'
  obj : ∀ k o, L.get k = some o → ObjRel (Tot M μ L) w μ L k o
  base : L.base ≤ L.next
  lob : L.lo ≤ L.next
  glb : Glb w0.w

/-- How the heap may turn (below the keys of the first one). -/
structure Evo (L : DH) (μ : Nat → Loc) (L' : DH) (μ' : Nat → Loc) : Prop where
  var : ∀ k cs', k < L.next → L'.get k = some (.var cs') → ∃ cs, L.get k = some (.var cs) ∧ μ' k = μ k
  mp : ∀ k es', k < L.next → L'.get k = some (.mp es') → ∃ es, L.get k = some (.mp es) ∧ μ' k = μ k
  arr : ∀ k sz es', k < L.next → L'.get k = some (.arr sz es') → ∃ es, L.get k = some (.arr sz es) ∧ (es.length < es'.length ∨ (es.length = es'.length ∧ μ' k = μ k))
  fz : ∀ k es', k < L.next → L'.get k = some (.fz es') → (L.get k = some (.fz es') ∧ μ' k = μ k) ∨
    ∃ sz es, L.get k = some (.arr sz es) ∧ (∀ q, q ∈ es' → q.cells.length = sz) ∧ (es.length < es'.length ∨ (es.length = es'.length ∧ μ' k = μ k))
  row : ∀ k ds', k < L.next → L'.get k = some (.row ds') → ∃ ds, L.get k = some (.row ds) ∧ (ds.length < ds'.length ∨ (ds.length = ds'.length ∧ μ' k = μ k))

structure Stp (L : DH) (μ : Nat → Loc) (w : World) (L' : DH) (μ' : Nat → Loc) (w' : World) : Prop where
  evo : Evo L μ L' μ'
  os : w'.os = w.os
  tape : w'.tape = w.tape
  output : w'.output = w.output
  size : w.heap.size ≤ w'.heap.size
  same : ∀ b, b < w.heap.size → ¬ Wbl μ L b → w'.heap[b]? = w.heap[b]?
  blk : ∀ k o, L'.get k = some o → liveAt (μ' k) o → (k < L.next ∧ (∃ o0, L.get k = some o0 ∧ liveAt (μ k) o0) ∧ (μ' k).blk = (μ k).blk) ∨ w.heap.size ≤ (μ' k).blk
  next : L.next ≤ L'.next
  lo : L'.lo = L.lo
  base : L'.base = L.base

end Go.Dv
namespace Go.Dv
open Go.RowKit (Below)

def szOf (P : Program) (t : TypeId) : Nat := P.cellsOf t
def byOf (P : Program) (t : TypeId) : Nat := P.bytesOf t
def infoB (P : Program) (t : TypeId) : Bool := (P.info? t).isSome
/-- Is a value of the type a struct or an array? -/
def kindT (P : Program) (t : TypeId) : Option Bool := match P.underlying t with | some (.struct _) => some true | some (.array _ _) => some true | some _ => some false | none => none

def dv1 : Value → DV
  | .int k n => .pv (.int k n)
  | .bool b => .pv (.bool b)
  | .string s => .pv (.str s)
  | .slice none 0 0 => .pv .nil
  | .pointer none => .raw (.pointer none)
  | .map none => .raw (.map none)
  | .nilFunc => .raw .nilFunc
  | .nilIface => .raw .nilIface
  | _ => .any
def dvOf : Value → DV
  | .agg cs => .agg (cs.toList.map dv1)
  | v => dv1 v
/-- The zero value of a type. -/
def zeroOf (P : Program) (t : TypeId) : Option DV := match P.info? t with | some i => (match i.zero with | some v => some (dvOf v) | none => none) | none => none

def opd (e : Env) : Operand → DV
  | .tmp t => e t
  | .const v => dvOf v
  | .global _ => .any
  | .func f => .clo f [] []

def PV.dv0 : PV → DV
  | .agg l => .agg (l.map .pv)
  | p => .pv p
def PV.dv : PV → DV
  | .agg l => .agg (l.map .pv)
  | .tup l => .tup (l.map PV.dv0)
  | p => .pv p

/-- Is nothing in it that lies in memory? -/
def PV.scalar : PV → Bool
  | .int _ _ => true
  | .bool _ => true
  | .str _ => true
  | _ => false
def PV.flat : PV → Bool
  | .agg l => l.all PV.scalar
  | .tup l => l.all fun p => match p with | .agg l => l.all PV.scalar | p => p.scalar
  | p => p.scalar

def frz1 : DV → DH → (PV → DH → Prop) → Prop
  | .pv p, L, K => K p L
  | .e0, L, K => K (.sl []) L
  | .buf k n, L, K => (match L.get k with
     | some (.arr _ es) => n = es.length ∧ Nat.ble L.lo k = true ∧ K (.sl es) (L.put k (.fz es))
     | some (.fz es) => n = es.length ∧ K (.sl es) L
     | _ => False)
  | _, _, _ => False
def frz1s : List DV → DH → (List PV → DH → Prop) → Prop
  | [], L, K => K [] L
  | d :: r, L, K => frz1 d L (fun p L' => frz1s r L' (fun ps L'' => K (p :: ps) L''))
mutual
/-- The value as a pure one; arrays of the call's own that it holds may not be written any more. -/
def frz : DV → DH → (PV → DH → Prop) → Prop
  | .pv p, L, K => K p L
  | .e0, L, K => K (.sl []) L
  | .buf k n, L, K => (match L.get k with
     | some (.arr _ es) => n = es.length ∧ Nat.ble L.lo k = true ∧ K (.sl es) (L.put k (.fz es))
     | some (.fz es) => n = es.length ∧ K (.sl es) L
     | _ => False)
  | .vbuf k n, L, K => (match L.get k with
     | some (.var cs) => frz1s cs L (fun ps L' => n = ps.length ∧ ps.all PV.one = true ∧ Nat.ble L.lo k = true ∧ K (.sl ps) (L'.put k .gone))
     | _ => False)
  | .agg l, L, K => frzs l L (fun ps L' => K (.agg ps) L')
  | .tup l, L, K => frzs l L (fun ps L' => K (.tup ps) L')
  | _, _, _ => False
def frzs : List DV → DH → (List PV → DH → Prop) → Prop
  | [], L, K => K [] L
  | d :: r, L, K => frz d L (fun p L' => frzs r L' (fun ps L'' => K (p :: ps) L''))
end
def brw1 : DV → DH → (PV → Prop) → Prop
  | .pv p, _, K => K p
  | .e0, _, K => K (.sl [])
  | .buf k n, L, K => (match L.get k with
     | some (.arr _ es) => n = es.length ∧ K (.sl es)
     | some (.fz es) => n = es.length ∧ K (.sl es)
     | _ => False)
  | _, _, _ => False
def brw1s : List DV → DH → (List PV → Prop) → Prop
  | [], _, K => K []
  | d :: r, L, K => brw1 d L (fun p => brw1s r L (fun ps => K (p :: ps)))
mutual
/-- The value as a pure one, for the time of a call. -/
def brw : DV → DH → (PV → Prop) → Prop
  | .pv p, _, K => K p
  | .e0, _, K => K (.sl [])
  | .buf k n, L, K => (match L.get k with
     | some (.arr _ es) => n = es.length ∧ K (.sl es)
     | some (.fz es) => n = es.length ∧ K (.sl es)
     | _ => False)
  | .vbuf k n, L, K => (match L.get k with
     | some (.var cs) => brw1s cs L (fun ps => n = ps.length ∧ ps.all PV.one = true ∧ K (.sl ps))
     | _ => False)
  | .agg l, L, K => brws l L (fun ps => K (.agg ps))
  | .tup l, L, K => brws l L (fun ps => K (.tup ps))
  | _, _, _ => False
def brws : List DV → DH → (List PV → Prop) → Prop
  | [], _, K => K []
  | d :: r, L, K => brw d L (fun p => brws r L (fun ps => K (p :: ps)))
end
mutual
/-- The value as a pure one, if it holds no array of the call's own. -/
def pur : DV → (PV → Prop) → Prop
  | .pv p, K => K p
  | .e0, K => K (.sl [])
  | .agg l, K => purs l (fun ps => K (.agg ps))
  | .tup l, K => purs l (fun ps => K (.tup ps))
  | _, _ => False
def purs : List DV → (List PV → Prop) → Prop
  | [], K => K []
  | d :: r, K => pur d (fun p => purs r (fun ps => K (p :: ps)))
end
mutual
def DV.noBuf : DV → Bool
  | .buf _ _ => false
  | .vbuf _ _ => false
  | .rbuf _ _ => false
  | .agg l => DV.noBufs l
  | .tup l => DV.noBufs l
  | _ => true
def DV.noBufs : List DV → Bool
  | [] => true
  | d :: r => d.noBuf && DV.noBufs r
end

def callable (P : Program) (f : FuncId) : Bool :=
  match P.funcs[f]? with
  | some fn => !(fn.name == "runtime.NumGoroutine") && fn.body.isSome
  | none => false

def RelPs (T : Nat → Prop) (w : World) (ps : List PV) (vs : List Value) : Prop :=
  ps.length = vs.length ∧ ∀ (i : Nat) p v, ps[i]? = some p → vs[i]? = some v → RelP T w p v
def RelVs (T : Nat → Prop) (w : World) (μ : Nat → Loc) (L : DH) (ds : List DV) (vs : List Value) : Prop :=
  ds.length = vs.length ∧ ∀ (i : Nat) d v, ds[i]? = some d → vs[i]? = some v → RelV T w μ L d v

/-- A function that only computes: from pure values a pure value; what was there before stays as it was. -/
@[irreducible] def PureFn (P : Program) (f : FuncId) (ps : List PV) (p : PV) : Prop :=
  callable P f = true ∧ ∀ (M : Nat → Prop) (w : World) (vs : List Value), Glb w → (∀ b, M b → b < w.heap.size) → RelPs M w ps vs →
    Calls P f ⟨vs⟩ w fun e w' => ∃ v, e = .returned v ∧ RelP M w' p v ∧ Below w.heap.size w w'

/-- What comes of an operation: a value and a heap that the condition lets, at the world behind it. -/
def Out (M : Nat → Prop) (w0 : W0) (μ : Nat → Loc) (L : DH) (w : World) (K : DV → DH → Prop) (v : Value) (w' : World) : Prop :=
  ∃ μ' d L', K d L' ∧ HR M w0 μ' L' w' ∧ RelV (Tot M μ' L') w' μ' L' d v ∧ d.under L'.next = true ∧ Stp L μ w L' μ' w'

/-- What comes of a panic. -/
def OutX (M : Nat → Prop) (w0 : W0) (μ : Nat → Loc) (L : DH) (w : World) (v : Value) (w' : World) : Prop :=
  ∃ μ' L', w0.X v L' ∧ HR M w0 μ' L' w' ∧ Stp L μ w L' μ' w'
def Fin (M : Nat → Prop) (w0 : W0) (μ : Nat → Loc) (L : DH) (w : World) (K : DV → DH → Prop) (e : Ending) (w' : World) : Prop :=
  (∃ v, e = .returned v ∧ Out M w0 μ L w K v w') ∨ ∃ v, e = .panicked [{ v := v, recovered := false }] ∧ OutX M w0 μ L w v w'

@[irreducible] def DC (P : Program) (M : Nat → Prop) (w0 : W0) (f : FuncId) (args : List DV) (L : DH) (K : DV → DH → Prop) : Prop :=
  callable P f = true ∧ ∀ (μ : Nat → Loc) (w : World) (vs : List Value), HR M w0 μ L w → DV.unders L.next args = true → RelVs (Tot M μ L) w μ L args vs →
    Calls P f ⟨vs⟩ w (Fin M w0 μ L w K)
@[irreducible] def DCV (P : Program) (M : Nat → Prop) (w0 : W0) (fv : Value) (args : List DV) (L : DH) (K : DV → DH → Prop) : Prop :=
  ∃ f fs cs, fv = .func (.func f) fs cs ∧ callable P f = true ∧ ∀ (μ : Nat → Loc) (w : World) (vs : List Value), HR M w0 μ L w → DV.unders L.next args = true → RelVs (Tot M μ L) w μ L args vs →
    Calls P f (fs ++ ⟨vs⟩ ++ cs) w (Fin M w0 μ L w K)
/-- A call inside a region whose order is open: of a function that only computes. -/
def DCD (P : Program) (f : FuncId) (args : List DV) (L : DH) (K : DV → DH → Prop) : Prop :=
  ∃ p, brws args L (fun ps => PureFn P f ps p) ∧ (DV.noBufs args || p.flat) = true ∧ K p.dv L

def splice {α : Type} (l : List α) (off : Nat) (cs : List α) : List α := l.take off ++ cs ++ l.drop (off + cs.length)

def ldCells (P : Program) (t : TypeId) (cs : List DV) (c : Nat) (K : DV → Prop) : Prop :=
  match kindT P t with
  | some true => (match Nat.ble (c + szOf P t) cs.length with | true => K (.agg ((cs.drop c).take (szOf P t))) | false => False)
  | some false => (match cs[c]? with | some d => K d | none => False)
  | none => False

def fieldOf (P : Program) (s : TypeId) (f : Nat) : Option Field :=
  match P.underlying s with
  | some (.struct fields) => fields[f]?
  | _ => none

def structOk (P : Program) (t : TypeId) : Bool := match P.underlying t with | some (.struct fs) => fs.toList.all fun f => infoB P f.type | _ => false

def dfill (P : Program) (s : TypeId) : List DV → List (Nat × DV) → Option (List DV)
  | z, [] => some z
  | z, (i, d) :: r => match fieldOf P s i with
    | some f => (match Nat.beq d.cells.length (szOf P f.type) && Nat.ble (f.offset + d.cells.length) z.length && d.cells.all DV.one with
      | true => dfill P s (splice z f.offset d.cells) r
      | false => none)
    | none => none

def eqPV : PV → PV → Bool
  | .int _ a, .int _ b => a == b
  | .bool a, .bool b => a == b
  | .str a, .str b => a.toList == b.toList
  | _, _ => false
def eqPVs : List PV → List PV → Bool
  | [], [] => true
  | a :: r, b :: s => eqPV a b && eqPVs r s
  | _, _ => false
/-- Do scalars fit the type of a struct whose fields are scalars? -/
def fitPV (d : Option TypeDesc) : PV → Bool
  | .int k _ => (match d with | some (.int k') => decide (k = k') | _ => false)
  | .bool _ => (match d with | some .bool => true | _ => false)
  | .str _ => (match d with | some .string => true | _ => false)
  | _ => false
def fitFields (P : Program) : List Field → Nat → List PV → Bool
  | [], _, [] => true
  | f :: fs, i, p :: ps => Nat.beq f.offset i && !(f.name == "_") && fitPV (P.underlying f.type) p && fitFields P fs (i + 1) ps
  | _, _, _ => false
def fitT (P : Program) (t : TypeId) : PV → Bool
  | .agg l => (match P.underlying t with | some (.struct fs) => fitFields P fs.toList 0 l && !P.stoodInHeld t | _ => false)
  | p => fitPV (P.underlying t) p

def big : Nat := 4294967296

def vcInt (op : BinOp) (k : IntKind) (a : Int) (k' : IntKind) (b : Int) (K : DV → Prop) : Prop :=
  match op with
  | .shl => 0 ≤ b ∧ K (.pv (.int k (k.wrap (a * 2 ^ (min b.toNat k.bits)))))
  | .shr => 0 ≤ b ∧ K (.pv (.int k (a.fdiv (2 ^ (min b.toNat k.bits)))))
  | op => match decide (k = k') with
    | false => False
    | true => match op with
      | .add => K (.pv (.int k (k.wrap (a + b))))
      | .sub => K (.pv (.int k (k.wrap (a - b))))
      | .mul => K (.pv (.int k (k.wrap (a * b))))
      | .quo => b ≠ 0 ∧ K (.pv (.int k (k.wrap (a.tdiv b))))
      | .rem => b ≠ 0 ∧ K (.pv (.int k (a.tmod b)))
      | .and => K (.pv (.int k (k.wrap ((BitVec.ofInt k.bits a &&& BitVec.ofInt k.bits b).toNat : Int))))
      | .or => K (.pv (.int k (k.wrap ((BitVec.ofInt k.bits a ||| BitVec.ofInt k.bits b).toNat : Int))))
      | .xor => K (.pv (.int k (k.wrap ((BitVec.ofInt k.bits a ^^^ BitVec.ofInt k.bits b).toNat : Int))))
      | .andNot => K (.pv (.int k (k.wrap ((BitVec.ofInt k.bits a &&& ~~~BitVec.ofInt k.bits b).toNat : Int))))
      | .eql => K (.pv (.bool (a == b)))
      | .neq => K (.pv (.bool (a != b)))
      | .lss => K (.pv (.bool (decide (a < b))))
      | .leq => K (.pv (.bool (decide (a ≤ b))))
      | .gtr => K (.pv (.bool (decide (a > b))))
      | .geq => K (.pv (.bool (decide (a ≥ b))))
      | _ => False

def isSlT (P : Program) (t : TypeId) : Bool := match P.underlying t with | some (.slice _) => true | _ => false

/-- The interface type without methods. -/
def ifcT (P : Program) (t : TypeId) : Bool := match P.underlying t with | some (.interface ms) => ms.isEmpty | _ => false
def vcBin (P : Program) (op : BinOp) (t : TypeId) (x y : DV) (K : DV → Prop) : Prop :=
  match x, y with
  | .pv (.int k a), .pv (.int k' b) => vcInt op k a k' b K
  | .pv (.bool a), .pv (.bool b) => (match fitPV (P.underlying t) (.bool a) with
    | true => (match op with | .eql => K (.pv (.bool (a == b))) | .neq => K (.pv (.bool (!(a == b)))) | _ => False)
    | false => False)
  | .pv (.str a), .pv (.str b) => (match op with | .eql => K (.pv (.bool (a.toList == b.toList))) | .neq => K (.pv (.bool (!(a.toList == b.toList)))) | .add => a.size + b.size ≤ big ∧ K (.pv (.str (a ++ b))) | _ => False)
  | .agg xs, .agg ys => purs xs fun ps => purs ys fun qs =>
      fitT P t (.agg ps) = true ∧ fitT P t (.agg qs) = true ∧ P.eqGuardType P.depth t = false ∧ (match op with | .eql => K (.pv (.bool (eqPVs ps qs))) | .neq => K (.pv (.bool (!eqPVs ps qs))) | _ => False)
  | .pv .nil, .pv .nil => (match isSlT P t with | true => (match op with | .eql => K (.pv (.bool true)) | .neq => K (.pv (.bool false)) | _ => False) | false => False)
  | .pv (.sl (_ :: _)), .pv .nil => (match isSlT P t with | true => (match op with | .eql => K (.pv (.bool false)) | .neq => K (.pv (.bool true)) | _ => False) | false => False)
  | .buf _ n, .pv .nil => 0 < n ∧ (match isSlT P t with | true => (match op with | .eql => K (.pv (.bool false)) | .neq => K (.pv (.bool true)) | _ => False) | false => False)
  | .raw (.iface _ _), .raw .nilIface => (match ifcT P t with | true => (match op with | .eql => K (.pv (.bool false)) | .neq => K (.pv (.bool true)) | _ => False) | false => False)
  | .raw .nilIface, .raw .nilIface => (match ifcT P t with | true => (match op with | .eql => K (.pv (.bool true)) | .neq => K (.pv (.bool false)) | _ => False) | false => False)
  | .raw (.slice a _ _), .pv .nil => (match isSlT P t with | true => (match op with | .eql => K (.pv (.bool a.isNone)) | .neq => K (.pv (.bool (!a.isNone))) | _ => False) | false => False)
  | _, _ => False

def arrT (P : Program) (t : TypeId) : Option (Nat × TypeId) := match P.underlying t with | some (.array n e) => some (n, e) | _ => none
def elemT (P : Program) (t : TypeId) : Option TypeId := match P.underlying t with | some (.slice e) => some e | _ => none

/-- The first entry of a key, with its place. -/
noncomputable def mfnd (k : PV) : List (PV × PV) → Nat → Option (Nat × PV)
  | [], _ => none
  | e :: r, i => open Classical in if e.1 = k then some (i, e.2) else mfnd k r (i + 1)
noncomputable def mfind (es : List (PV × PV)) (k : PV) : Option PV := (mfnd k es 0).map Prod.snd
noncomputable def mput (es : List (PV × PV)) (k v : PV) : List (PV × PV) :=
  match mfnd k es 0 with
  | some (i, _) => es.set i (k, v)
  | none => es ++ [(k, v)]

def loOk (x : Option DV) (a : Nat) : Prop := match x with | none => a = 0 | some (.pv (.int _ n)) => n = (a : Int) | some _ => False
def hiOk (x : Option DV) (b len : Nat) : Prop := match x with | none => b = len | some (.pv (.int _ n)) => n = (b : Int) | some _ => False

/-- The elements that an append adds. -/
def srcOf (x : DV) (L : DH) (K : List PV → Prop) : Prop :=
  match x with
  | .pv .nil => K []
  | .e0 => K []
  | .raw (.slice _ 0 _) => K []
  | .pv (.sl l) => K l
  | .buf k n => (match L.get k with | some (.arr _ es) => n = es.length ∧ K es | some (.fz es) => n = es.length ∧ K es | _ => False)
  | _ => False
def notKey (x : DV) (k : Nat) : Bool := match x with | .buf j _ => !Nat.beq j k | _ => true
def cellsAll (sz : Nat) (xs : List PV) : Bool := xs.all fun p => Nat.beq p.cells.length sz && p.cells.all PV.one
def vcApp (P : Program) (t t2 : TypeId) (s x : DV) (L : DH) (K : DV → DH → Prop) : Prop :=
  match elemT P t, (match P.underlying t2 with | some (.slice _) => true | _ => false) with
  | some e, true => (match zeroOf P e, Nat.ble (byOf P e) 4096 && !Nat.beq (byOf P e) 0 && !Nat.beq (szOf P e) 0 with
    | some z, true => z.cells.length = szOf P e ∧ (match s with
      | .pv .nil => srcOf x L fun xs => cellsAll (szOf P e) xs = true ∧ xs.length ≤ big ∧ (match xs with
          | [] => K s L
          | _ :: _ => K (.buf L.next xs.length) (L.push (.arr (szOf P e) xs)))
      | .e0 => srcOf x L fun xs => cellsAll (szOf P e) xs = true ∧ xs.length ≤ big ∧ (match xs with
          | [] => K s L
          | _ :: _ => K (.buf L.next xs.length) (L.push (.arr (szOf P e) xs)))
      | .buf k n => (match L.get k with
        | some (.arr sz es) => (match Nat.beq sz (szOf P e) && Nat.ble L.lo k && notKey x k with
          | true => n = es.length ∧ srcOf x L fun xs => cellsAll (szOf P e) xs = true ∧ es.length + xs.length ≤ big ∧ K (.buf k (es ++ xs).length) (L.put k (.arr sz (es ++ xs)))
          | false => False)
        | _ => False)
      | _ => False)
    | _, _ => False)
  | _, _ => False

/-- An append of own slices onto nothing, or onto an array of such: the cells of a slice literal. -/
def vcApp2 (P : Program) (t t2 : TypeId) (s : DV) (kx nx : Nat) (L : DH) (K : DV → DH → Prop) : Prop :=
  match elemT P t, (match P.underlying t2 with | some (.slice _) => true | _ => false), L.get kx with
  | some e, true, some (.var ds) => (match zeroOf P e, Nat.ble (byOf P e) 4096 && !Nat.beq (byOf P e) 0 && Nat.beq (szOf P e) 1 with
    | some z, true => z.cells.length = 1 ∧ ds.all DV.one = true ∧ nx = ds.length ∧ 0 < nx ∧ (match s with
      | .pv .nil => ds.length ≤ big ∧ K (.rbuf L.next ds.length) (L.push (.row ds))
      | .rbuf k n => (match L.get k with
        | some (.row es) => Nat.ble L.lo k = true ∧ n = es.length ∧ es.length + ds.length ≤ big ∧ K (.rbuf k (es ++ ds).length) (L.put k (.row (es ++ ds)))
        | _ => False)
      | _ => False)
    | _, _ => False)
  | _, _, _ => False

def vcBuiltin (P : Program) (b : Builtin) (ts : List TypeId) (args : List DV) (L : DH) (K : DV → DH → Prop) : Prop :=
  match b, args with
  | .len, [x] => (match ts with
    | t :: _ => (match P.underlying t, x with
      | some (.slice _), .pv .nil => K (.pv (.int .i64 0)) L
      | some (.slice _), .e0 => K (.pv (.int .i64 0)) L
      | some (.slice _), .pv (.sl l) => K (.pv (.int .i64 l.length)) L
      | some (.slice _), .buf _ n => K (.pv (.int .i64 n)) L
      | some (.slice _), .vbuf _ n => K (.pv (.int .i64 n)) L
      | some .string, .pv (.str s) => K (.pv (.int .i64 s.size)) L
      | _, _ => False)
    | [] => False)
  | .append, [s, x] => (match ts with
    | [t, t2] => (match x with | .vbuf kx nx => vcApp2 P t t2 s kx nx L K | _ => vcApp P t t2 s x L K)
    | _ => False)
  | .max, [.pv (.int k a), .pv (.int k' b)] => (match decide (k = k') with | true => K (.pv (.int k (max a b))) L | false => False)
  | .min, [.pv (.int k a), .pv (.int k' b)] => (match decide (k = k') with | true => K (.pv (.int k (min a b))) L | false => False)
  | _, _ => False

def upto : Nat → Nat → List Nat
  | 0, _ => []
  | n + 1, i => i :: upto n (i + 1)

def PV.put (p : PV) (c : Nat) (cs : List PV) : PV :=
  match p with
  | .agg l => .agg (splice l c cs)
  | p => (match c, cs with | 0, [q] => q | _, _ => p)

/-- One of two bools; a side that is known only under a condition serves if that one holds there. -/
def pickV (t : Bool) (a b : DV) (K : DV → Prop) : Prop :=
  match a, b with
  | .pv (.bool x), .pv (.bool y) => K (.pv (.bool (bif t then x else y)))
  | .when c1 (.pv (.bool x)), .pv (.bool y) => (t = true → c1 = true) ∧ K (.pv (.bool (bif t then x else y)))
  | .pv (.bool x), .when c2 (.pv (.bool y)) => (t = false → c2 = true) ∧ K (.pv (.bool (bif t then x else y)))
  | .when c1 (.pv (.bool x)), .when c2 (.pv (.bool y)) => (t = true → c1 = true) ∧ (t = false → c2 = true) ∧ K (.pv (.bool (bif t then x else y)))
  | _, _ => False

/-- The condition of one operation. 'dr': inside a region whose order is open. -/
def vcOp (P : Program) (M : Nat → Prop) (w0 : W0) (dr : Bool) (ρ : Operand → DV) (L : DH) (o : Oper) (K : DV → DH → Prop) : Prop :=
  match o.op with
  | .move x => K (ρ x) L
  | .assign x => K (ρ x) L
  | .pick c a b => (match ρ c with
    | .pv (.bool t) => pickV t (ρ a) (ρ b) fun d => K d L
    | .when c0 (.pv (.bool t)) => c0 = true ∧ pickV t (ρ a) (ρ b) fun d => K d L
    | _ => False)
  | .alloc t => (match zeroOf P t with
    | some z => (match z.cells.all DV.one with | true => K (.ref L.next 0) (L.push (.var z.cells)) | false => False)
    | none => False)
  | .box _ x => (match (ρ x).cells.all DV.one with | true => K (.ref L.next 0) (L.push (.var (ρ x).cells)) | false => False)
  | .build t parts => (match zeroOf P t, structOk P t with
    | some (.agg z), true => (match dfill P t z (parts.toList.map fun q => (q.1, ρ q.2)) with | some cs => K (.agg cs) L | none => False)
    | _, _ => False)
  | .buildSlice t n parts => (match elemT P t with
    | some e => (match (parts.toList.map (·.1) == upto n 0) && Nat.ble (n * szOf P e) 16777216 && (zeroOf P e).isSome && !Nat.beq (szOf P e) 0, dr with
      | true, false => (frzs (parts.toList.map fun q => ρ q.2) L fun ps L' => cellsAll (szOf P e) ps = true ∧ (match n with | 0 => K .e0 L' | _ + 1 => K (.pv (.sl ps)) L')) ∨
          (Nat.beq (szOf P e) 1 = true ∧ Nat.beq n 1 = true ∧ (parts.toList.map fun q => ρ q.2).all DV.one = true ∧ K (.vbuf L.next 1) (L.push (.var (parts.toList.map fun q => ρ q.2))))
      | true, true => purs (parts.toList.map fun q => ρ q.2) fun ps => cellsAll (szOf P e) ps = true ∧ (match n with | 0 => K .e0 L | _ + 1 => K (.pv (.sl ps)) L)
      | false, _ => False)
    | none => False)
  | .load t x => (match ρ x with
    | .ref k c => (match L.get k with | some (.var cs) => ldCells P t cs c fun d => K d L | _ => False)
    | .eptr p c => ldCells P t (p.cells.map .pv) c fun d => K d L
    | .aref k n i c => (match L.get k with
      | some (.arr _ es) => n = es.length ∧ ∃ p, es[i]? = some p ∧ ldCells P t (p.cells.map .pv) c fun d => K d L
      | some (.fz es) => n = es.length ∧ ∃ p, es[i]? = some p ∧ ldCells P t (p.cells.map .pv) c fun d => K d L
      | _ => False)
    | _ => False)
  | .store t x v => (match ρ x with
    | .ref k c => (match L.get k with
      | some (.var cs) => (match infoB P t && Nat.ble L.lo k && Nat.beq (ρ v).cells.length (szOf P t) && Nat.ble (c + (ρ v).cells.length) cs.length && (ρ v).cells.all DV.one with
        | true => K (.tup []) (L.put k (.var (splice cs c (ρ v).cells)))
        | false => False)
      | _ => False)
    | .aref k n i c => (match L.get k, infoB P t && Nat.ble L.lo k && Nat.beq (ρ v).cells.length (szOf P t) && (ρ v).cells.all DV.one && !dr with
      | some (.arr sz es), true => n = es.length ∧ ∃ p, es[i]? = some p ∧ c + (ρ v).cells.length ≤ sz ∧ purs (ρ v).cells fun qs => K (.tup []) (L.put k (.arr sz (es.set i (p.put c qs))))
      | _, _ => False)
    | _ => False)
  | .nilCheck x => (match ρ x with
    | .ref k c => (match L.get k with | some (.var _) => K (.ref k c) L | _ => False)
    | .eptr p c => K (.eptr p c) L
    | .clo f a b => K (.clo f a b) L
    | _ => False)
  | .binOp op t x y _ => vcBin P op t (ρ x) (ρ y) fun d => K d L
  | .unOp op _ x => (match op, ρ x with
    | .not, .pv (.bool b) => K (.pv (.bool (!b))) L
    | .neg, .pv (.int k n) => K (.pv (.int k (k.wrap (0 - n)))) L
    | .xor, .pv (.int k n) => K (.pv (.int k (k.wrap ((BitVec.ofInt k.bits (if k.signed then -1 else k.max) ^^^ BitVec.ofInt k.bits n).toNat : Int)))) L
    | _, _ => False)
  | .convert s d x => (match P.underlying s, P.underlying d, ρ x with
    | some (.int _), some (.int k), .pv (.int _ n) => K (.pv (.int k (k.wrap n))) L
    | some (.int _), some .string, .pv (.int _ n) => K (.pv (.str (Utf8.encode n))) L
    | _, _, _ => False)
  | .makeFunc (.func f) first captured => K (.clo f (first.toList.map ρ) (captured.toList.map ρ)) L
  | .makeInterface t x => (match ρ x, kindT P t with | .agg [.pv (.int k n)], some true => K (.raw (.iface t (.agg #[.int k n]))) L | _, _ => False)
  | .typeAssert x _ t false => (match ρ x, kindT P t with | .raw (.iface t' v), some true => (match decide (t' = t) with | true => K (dvOf v) L | false => False) | _, _ => False)
  | .panic x => (match ρ x, dr with | .raw (.iface t v), false => w0.X (.iface t v) L | _, _ => False)
  | .makeMap _ none => K (.mp L.next) (L.push (.mp []))
  | .makeSlice t l c => (match elemT P t with
    | some e => (match zeroOf P e, Nat.ble (byOf P e) 4096 && !Nat.beq (szOf P e) 0, ρ l, ρ c with
      | some z, true, .pv (.int _ n), .pv (.int _ m) => pur z fun p => p.cells.length = szOf P e ∧ n = m ∧ 0 ≤ n ∧ n ≤ (big : Int) ∧ 
          (K (.buf L.next (List.replicate n.toNat p).length) (L.push (.arr (szOf P e) (List.replicate n.toNat p))) ∨
            (Nat.beq (szOf P e) 1 = true ∧ 0 < n ∧ p.one = true ∧ K (.vbuf L.next n.toNat) (L.push (.var (List.replicate n.toNat (.pv p))))))
      | _, _, _, _ => False)
    | none => False)
  | .slice t x lo hi mx => (match elemT P t, mx, ρ x with
    | some e, none, .pv (.sl l) => infoB P e = true ∧ cellsAll (szOf P e) l = true ∧ ∃ a b : Nat, loOk (lo.map ρ) a ∧ hiOk (hi.map ρ) b l.length ∧ a ≤ b ∧ b ≤ l.length ∧ K (.pv (.sl ((l.drop a).take (b - a)))) L
    | some e, none, .pv .nil => infoB P e = true ∧ ∃ a b : Nat, loOk (lo.map ρ) a ∧ hiOk (hi.map ρ) b 0 ∧ a = 0 ∧ b = 0 ∧ K (.pv .nil) L
    | some e, some _, .pv (.sl _) => infoB P e = true ∧ loOk (lo.map ρ) 0 ∧ (hi.isSome = true ∧ loOk (hi.map ρ) 0) ∧ loOk (mx.map ρ) 0 ∧ K .e0 L
    | some e, some _, .pv .nil => infoB P e = true ∧ loOk (lo.map ρ) 0 ∧ (hi.isSome = true ∧ loOk (hi.map ρ) 0) ∧ loOk (mx.map ρ) 0 ∧ K .e0 L
    | _, _, _ => False)
  | .fieldAddr s x f => (match fieldOf P s f with
    | some fd => (match Nat.beq (szOf P fd.type) 0, ρ x with
      | false, .ref k c => (match L.get k with | some (.var _) => K (.ref k (c + fd.offset)) L | _ => False)
      | false, .aref k n i c => (match L.get k with | some (.arr _ es) => n = es.length ∧ i < n ∧ K (.aref k n i (c + fd.offset)) L | _ => False)
      | false, .eptr p c => K (.eptr p (c + fd.offset)) L
      | _, _ => False)
    | none => False)
  | .field s x f => (match fieldOf P s f, ρ x with
    | some fd, .agg cs => ldCells P fd.type cs fd.offset fun d => K d L
    | _, _ => False)
  | .indexAddr t x i => (match elemT P t, ρ x, ρ i with
    | some e, .pv (.sl l), .pv (.int _ ix) => infoB P e = true ∧ ∃ (n : Nat) (p : PV), ix = (n : Int) ∧ l[n]? = some p ∧ Nat.beq p.cells.length (szOf P e) = true ∧ K (.eptr p 0) L
    | some e, .vbuf k n, .pv (.int _ ix) => (match L.get k with
      | some (.var _) => infoB P e = true ∧ Nat.beq (szOf P e) 1 = true ∧ ∃ m : Nat, ix = (m : Int) ∧ m < n ∧ K (.ref k m) L
      | _ => False)
    | some e, .buf k n, .pv (.int _ ix) => (match L.get k with
      | some (.arr sz es) => (match infoB P e && Nat.beq sz (szOf P e) with
        | true => n = es.length ∧ ∃ m : Nat, ix = (m : Int) ∧ m < n ∧ K (.aref k n m 0) L
        | false => False)
      | some (.fz es) => infoB P e = true ∧ n = es.length ∧ ∃ (m : Nat) (p : PV), ix = (m : Int) ∧ es[m]? = some p ∧ Nat.beq p.cells.length (szOf P e) = true ∧ K (.eptr p 0) L
      | _ => False)
    | none, .ref k c, .pv (.int _ ix) => (match arrT P t, L.get k, ix with
      | some (n, e), some (.var _), .ofNat m => (match infoB P e && Nat.blt m n with
        | true => K (.ref k (c + m * szOf P e)) L
        | false => False)
      | _, _, _ => False)
    | _, _, _ => False)
  | .index t x i => (match P.underlying t, ρ x, ρ i with
    | some .string, .pv (.str s), .pv (.int _ ix) => ∃ n b : Nat, ix = (n : Int) ∧ (s[n]?).map UInt8.toNat = some b ∧ K (.pv (.int .u8 (b : Int))) L
    | _, _, _ => False)
  | .lookup t m k ok => (match P.underlying t, ρ m with
    | some (.map kt et), .mp id => (match L.get id, zeroOf P et with
      | some (.mp es), some z => pur (ρ k) fun kp => fitT P kt kp = true ∧ (∀ kv, kv ∈ es → fitT P kt kv.1 = true) ∧ ∃ r, mfind es kp = r ∧ (match r, ok with
          | some v, true => K (.tup [v.dv0, .pv (.bool true)]) L
          | some v, false => K v.dv0 L
          | none, true => K (.tup [z, .pv (.bool false)]) L
          | none, false => K z L)
      | _, _ => False)
    | _, _ => False)
  | .mapUpdate t m k v => (match P.underlying t, ρ m with
    | some (.map kt _), .mp id => (match L.get id, Nat.ble L.lo id with
      | some (.mp es), true => pur (ρ k) fun kp => fitT P kt kp = true ∧ (∀ kv, kv ∈ es → fitT P kt kv.1 = true) ∧
          pur (ρ v) fun vp => K (.tup []) (L.put id (.mp (mput es kp vp)))
      | _, _ => False)
    | _, _ => False)
  | .extract x i => (match ρ x with
    | .tup l => (match l[i]? with | some d => K d L | none => False)
    | _ => False)
  | .call c => (match c.callee with
    | .builtin b => vcBuiltin P b c.argTypes.toList (c.args.toList.map ρ) L K
    | .value f => (match ρ f, dr with
      | .clo f first caps, false => DC P M w0 f (first ++ c.args.toList.map ρ ++ caps) L K
      | .clo f first caps, true => DCD P f (first ++ c.args.toList.map ρ ++ caps) L K
      | .fnv v, false => DCV P M w0 v (c.args.toList.map ρ) L K
      | _, _ => False)
    | _ => False)
  | _ => False

/-- How many temporaries there are, and the first that may be assigned. -/
structure NB where
  n : Nat
  b : Nat
def okDst (N : NB) : Option Tmp → Bool
  | some d => Nat.blt d N.n && Nat.ble N.b d
  | none => true

def strip : DV → DV
  | .when _ d => d
  | d => d
def wcond : DV → Bool
  | .when c _ => c
  | _ => true
def allW (e : Env) : List Operand → Prop
  | [] => True
  | x :: r => match opd e x with
    | .when c _ => c = true ∧ allW e r
    | _ => allW e r
/-- When an operation under a guard is done. -/
def guardC (d : DV) (want : Bool) : Option Bool :=
  match d, want with
  | .pv (.bool g), true => some g
  | .pv (.bool g), false => some (!g)
  | .when c (.pv (.bool g)), true => some (c && g)
  | .when c (.pv (.bool g)), false => some (c && !g)
  | .tup [], _ => some false
  | _, _ => none
def isPick : Op → Bool
  | .pick _ _ _ => true
  | _ => false
/-- The condition of an operation that is done only under a condition. -/
def vcW (P : Program) (M : Nat → Prop) (w0 : W0) (dr : Bool) (e : Env) (L : DH) (o : Oper) (K : DV → DH → Prop) : Prop :=
  match isPick o.op with
  | true => vcOp P M w0 dr (opd e) L o K
  | false => allW e o.op.operands.toList ∧ vcOp P M w0 dr (fun x => strip (opd e x)) L o K
@[irreducible] def WhenQ (A B : DV → Prop) : Prop := ∃ d, A d ∧ B d

/-- Does an operation look at the heap (1), not even that (0), or more (2)? -/
def opCls : Op → Nat
  | .move _ => 0
  | .assign _ => 0
  | .pick _ _ _ => 0
  | .build _ _ => 0
  | .buildSlice _ _ _ => 0
  | .binOp _ _ _ _ _ => 0
  | .unOp _ _ _ => 0
  | .convert _ _ _ => 0
  | .index _ _ _ => 0
  | .makeFunc _ _ _ => 0
  | .makeInterface _ _ => 0
  | .slice _ _ _ _ _ => 0
  | .field _ _ _ => 0
  | .extract _ _ => 0
  | .load _ _ => 1
  | .nilCheck _ => 1
  | .fieldAddr _ _ _ => 1
  | .indexAddr _ _ _ => 1
  | .lookup _ _ _ _ => 1
  | .call c => (match c.callee with | .builtin .append => 2 | _ => 1)
  | _ => 2

/-- Does an operation only make a new object? -/
def isAlloc : Op → Bool
  | .alloc _ => true
  | .box _ _ => true
  | .makeMap _ none => true
  | .makeSlice _ _ _ => true
  | _ => false

/-- 'K d', the value looked at first. -/
def force (d : DV) (K : DV → Prop) : Prop :=
  match d with
  | .pv (.int k n) => K (.pv (.int k n))
  | .pv (.bool b) => K (.pv (.bool b))
  | .pv (.str s) => K (.pv (.str s))
  | .pv .nil => K (.pv .nil)
  | .pv (.sl l) => K (.pv (.sl l))
  | .pv p => K (.pv p)
  | .e0 => K .e0
  | .agg l => K (.agg l)
  | .tup l => K (.tup l)
  | .ref k c => K (.ref k c)
  | .aref k n i c => K (.aref k n i c)
  | .eptr p c => K (.eptr p c)
  | .buf k n => K (.buf k n)
  | .mp k => K (.mp k)
  | .vbuf k n => K (.vbuf k n)
  | .rbuf k n => K (.rbuf k n)
  | .clo f a b => K (.clo f a b)
  | .fnv v => K (.fnv v)
  | .raw v => K (.raw v)
  | .when c d => K (.when c d)
  | .any => K .any
def fupd (e : Env) (dst : Option Nat) (d : DV) (K : Env → Prop) : Prop :=
  match dst with
  | some t => force d fun d => K (upd e (some t) d)
  | none => K e

/-- One operation of a region; under a guard: what it yields is known only where the guard holds. -/
def vcStep (P : Program) (M : Nat → Prop) (w0 : W0) (dr : Bool) (N : NB) (ops : List Oper) (o : Oper) (e : Env) (L : DH) (K : Env → DH → Prop) : Prop :=
  match okDst N o.dst with
  | false => False
  | true => match o.guard with
    | none => vcOp P M w0 dr (opd e) L o fun d L' => fupd e o.dst d fun e' => K e' L'
    | some (j, want) => match ops[j]? with
      | none => False
      | some oj => match oj.dst with
        | none => False
        | some t => match guardC (e t) want with
          | none => False
          | some c => match Nat.ble (opCls o.op) 1 with
            | true => WhenQ (fun d => c = true → vcW P M w0 dr e L o fun d' L' => force d' fun d' => d' = d ∧ L' = L) (fun d => fupd e o.dst (.when c d) fun e' => K e' L)
            | false => (c = true → vcW P M w0 dr e L o fun d L' => fupd e o.dst d fun e' => K e' L') ∧ (c = false → fupd e o.dst (.tup []) fun e' => K e' L)

def vcOps (P : Program) (M : Nat → Prop) (w0 : W0) (dr : Bool) (N : NB) (ops : List Oper) : List Oper → Env → DH → (Env → DH → Prop) → Prop
  | [], e, L, K => K e L
  | o :: r, e, L, K => vcStep P M w0 dr N ops o e L fun e' L' => vcOps P M w0 dr N ops r e' L' K

/-- An order of a region's operations: one after the other; where two may come next, either. -/
inductive Plan where
  | done
  | one (i : Nat) (r : Plan)
  | two (i : Nat) (a : Plan) (j : Nat) (b : Plan)
  | three (i : Nat) (a : Plan) (j : Nat) (b : Plan) (k : Nat) (c : Plan)
def Plan.lin : Nat → Nat → Plan
  | _, 0 => .done
  | k, n + 1 => .one k (Plan.lin (k + 1) n)

def memB (l : List Nat) (i : Nat) : Bool := l.any fun j => Nat.beq i j
def depsOf (ops : Array Oper) (n : Nat) : List Nat := match ops[n]? with | some o => (o.after.toList.filter fun e => Region.binds .any e).map (·.on) | none => []
/-- What an operation comes after. -/
def closB (ops : Array Oper) : Nat → List Nat → List Nat
  | 0, S => S
  | n + 1, S => closB ops n (bif memB S n then S ++ depsOf ops n else S)
/-- Sets of numbers as masks. -/
def bitB (m i : Nat) : Bool := Nat.beq (Nat.land 1 (Nat.shiftRight m i)) 1
def depM (ops : Array Oper) (k : Nat) : Nat := (depsOf ops k).foldl (fun m i => Nat.lor m (Nat.pow 2 i)) 0
/-- Is it not done yet, and all that it comes after done? -/
def inR (ops : Array Oper) (m i : Nat) : Bool := Nat.blt i ops.size && !bitB m i && Nat.beq (Nat.land (depM ops i) m) (depM ops i)
/-- May an operation be taken first? In `eff`: i = a call with effects; i + 1000 = an operation that leaves the variables as they are; i + 2000 = one that looks at variables alone. -/
def freeQ (ops : Array Oper) (eff : List Nat) (m : Nat) (i : Nat) : Bool :=
  match ops[i]? with
  | none => false
  | some oi => !memB eff i && Nat.ble (opCls oi.op) 1 && (List.range ops.size).all fun j => Nat.beq j i || bitB m j || bitB (depM ops j) i || match ops[j]? with
      | some oj => oi.apart ops oj && (Nat.beq (opCls oi.op) 0 || ((Nat.ble (opCls oj.op) 1 || isAlloc oj.op) && !memB eff j) || (memB eff (i + 2000) && memB eff (j + 1000))) || memB (closB ops (j + 1) [j]) i
      | none => true
def soleB (ops : Array Oper) (m i j : Nat) : Bool := (List.range ops.size).all fun k => Nat.beq k i || Nat.beq k j || !inR ops m k
def soleC (ops : Array Oper) (m i j k : Nat) : Bool := (List.range ops.size).all fun l => Nat.beq l i || Nat.beq l j || Nat.beq l k || !inR ops m l
def planOk (ops : Array Oper) (eff : List Nat) : Nat → Plan → Nat → Bool
  | _, .done, m => (List.range ops.size).all fun k => !inR ops m k
  | n + 1, .one i r, m => inR ops m i && (freeQ ops eff m i || soleB ops m i i) && planOk ops eff n r (Nat.lor m (Nat.pow 2 i))
  | n + 1, .two i a j b, m => inR ops m i && inR ops m j && soleB ops m i j && planOk ops eff n a (Nat.lor m (Nat.pow 2 i)) && planOk ops eff n b (Nat.lor m (Nat.pow 2 j))
  | n + 1, .three i a j b k c, m => inR ops m i && inR ops m j && inR ops m k && soleC ops m i j k && planOk ops eff n a (Nat.lor m (Nat.pow 2 i)) && planOk ops eff n b (Nat.lor m (Nat.pow 2 j)) && planOk ops eff n c (Nat.lor m (Nat.pow 2 k))
  | _, _, _ => false
def drawOk (ops : Array Oper) (eff : List Nat) (pl : Plan) : Bool := Region.noSelect ops && planOk ops eff ops.size pl 0

/-- The variables alone. -/
def DH.vars (L : DH) : DH := { L with get := fun k => match L.get k with | some (.var cs) => some (.var cs) | _ => none }
def ExtV (L L' : DH) : Prop := ∀ k cs, L.get k = some (.var cs) → L'.get k = some (.var cs)
def strictB (eff : List Nat) (i : Nat) (o : Oper) : Bool := memB eff (i + 2000) && (!memB eff i && Nat.ble (opCls o.op) 1)
def vcI (P : Program) (M : Nat → Prop) (w0 : W0) (N : NB) (eff : List Nat) (ops : List Oper) (i : Nat) (e : Env) (L : DH) (K : Env → DH → Prop) : Prop :=
  match ops[i]? with
  | none => K e L
  | some o => match strictB eff i o with
    | true => vcStep P M w0 (!memB eff i) N ops o e L.vars fun e' _ => K e' L
    | false => match memB eff (i + 1000) with
      | true => vcStep P M w0 (!memB eff i) N ops o e L fun e' L' => ExtV L L' ∧ K e' L'
      | false => vcStep P M w0 (!memB eff i) N ops o e L K
def vcPlan (P : Program) (M : Nat → Prop) (w0 : W0) (N : NB) (eff : List Nat) (ops : List Oper) : Plan → Env → DH → (Env → DH → Prop) → Prop
  | .done, e, L, K => K e L
  | .one i r, e, L, K => vcI P M w0 N eff ops i e L fun e' L' => vcPlan P M w0 N eff ops r e' L' K
  | .two i a j b, e, L, K => (vcI P M w0 N eff ops i e L fun e' L' => vcPlan P M w0 N eff ops a e' L' K) ∧ (vcI P M w0 N eff ops j e L fun e' L' => vcPlan P M w0 N eff ops b e' L' K)
  | .three i a j b k c, e, L, K => (vcI P M w0 N eff ops i e L fun e' L' => vcPlan P M w0 N eff ops a e' L' K) ∧ (vcI P M w0 N eff ops j e L fun e' L' => vcPlan P M w0 N eff ops b e' L' K) ∧ (vcI P M w0 N eff ops k e L fun e' L' => vcPlan P M w0 N eff ops c e' L' K)

def envOf : List (Nat × DV) → Env
  | [] => fun _ => .any
  | (t, d) :: r => fun u => bif Nat.beq u t then d else envOf r u
def objsOf : List (Nat × DObj) → Nat → Option DObj
  | [] => fun _ => none
  | (k, o) :: r => fun j => bif Nat.beq j k then some o else objsOf r j

/-- What a value may be taken for from here on. -/
inductive WkD (L : DH) (H : List (Nat × DObj)) : DV → DV → Prop where
  | same (d : DV) : WkD L H d d
  | any (d : DV) : WkD L H d .any
  | new (d : DV) (k sz : Nat) : (d = .pv .nil ∨ d = .e0) → L.get k = none → objsOf H k = some (.arr sz []) → WkD L H d (.buf k 0)
  | fz (k n : Nat) (es : List PV) : objsOf H k = none → ((∃ sz, L.get k = some (.arr sz es)) ∨ L.get k = some (.fz es)) → n = es.length → WkD L H (.buf k n) (.pv (.sl es))
  | nil (d : DV) : d = .pv .nil ∨ d = .e0 → WkD L H d (.pv (.sl []))
inductive WkO (L : DH) (H : List (Nat × DObj)) : Nat → DObj → Prop where
  | same (k : Nat) (o : DObj) : L.get k = some o → WkO L H k o
  | new (k sz : Nat) : L.get k = none → WkO L H k (.arr sz [])
  | var (k : Nat) (cs cs' : List DV) : L.get k = some (.var cs) → cs.length = cs'.length → (∀ (i : Nat) d d', cs[i]? = some d → cs'[i]? = some d' → WkD L H d d') → WkO L H k (.var cs')
  | fz (k sz : Nat) (es : List PV) : L.get k = some (.arr sz es) → (∀ q, q ∈ es → q.cells.length = sz) → WkO L H k (.fz es)

/-- The state is taken for a poorer one. -/
structure Wk (e : Env) (L : DH) (E : List (Nat × DV)) (nx : Nat) (H : List (Nat × DObj)) : Prop where
  env : ∀ q, q ∈ E → WkD L H (e q.1) q.2
  obj : ∀ q, q ∈ H → WkO L H q.1 q.2
  under : ∀ q, q ∈ E → q.2.under nx = true
  undero : ∀ q, q ∈ H → Nat.blt q.1 nx = true ∧ q.2.under nx = true
  lo : L.lo ≤ nx
  base : L.base ≤ nx
  new : ∀ q, q ∈ H → L.get q.1 = none → L.next ≤ q.1

def hOf (L : DH) (nx : Nat) (H : List (Nat × DObj)) : DH := ⟨nx, L.lo, L.base, objsOf H⟩

/-- The number of the region that a piece of code begins with. -/
def headId : Code → Nat
  | .region id _ _ => id
  | .seq a _ => headId a
  | .block _ c => headId c
  | .loop c => headId c
  | .scope c => headId c
  | _ => big

/-- An exit as the block of that number hands it on. -/
def unblk (id : Nat) : Exit → Exit
  | .exit i => bif Nat.beq i id then .normal else .exit i
  | x => x
/-- What comes after the first of two pieces: the second one, or the way out. -/
def seqQ (K : (Exit → Env → DH → Prop) → Env → DH → Prop) (Q : Exit → Env → DH → Prop) : Exit → Env → DH → Prop
  | .normal, e, L => K Q e L
  | x, e, L => Q x e L
/-- The number that stands among the cuts where a body may range over functions. -/
def rangeId : Nat := 1000000
def noRange : Code → Bool
  | .seq a b => noRange a && noRange b
  | .cond _ a b => noRange a && noRange b
  | .block _ c => noRange c
  | .loop c => noRange c
  | .scope c => noRange c
  | .rangeFunc _ _ _ _ => false
  | _ => true
/-- A block's first cell. -/
def Cl (W : World) (blk : Nat) (v : Value) : Prop := ∃ vs ty, W.heap[blk]? = some (.cells vs ty (0, 0)) ∧ vs[0]? = some v
/-- What an iterator does whose one captured cell holds s: it hands the numbers on, one after the other, till all are handed on or a round says no. -/
def IterC (P : Program) (f : FuncId) (s : Int) (its : List Int) : Prop :=
  callable P f = true ∧ ∀ (l blk : Nat) (J : Nat → World → Prop) (Jx : World → Prop) (W : World),
    (∀ i W, J i W → Glb W) →
    (∀ i W v v', J i W → Cl W blk v → J i (W.setCell ⟨blk, 0, none⟩ v')) →
    (∀ i x W v, its[i]? = some x → J i W → Cl W blk v → YieldAt Fence.wide 0 P l #[.int .i64 x] W fun e W' => (e = .returned (.bool true) ∧ J (i + 1) W' ∧ Cl W' blk v) ∨ (e = .returned (.bool false) ∧ Jx W')) →
    J 0 W → Cl W blk (.int .u64 s) →
    Calls P f #[.func (.yield l) #[] #[], .pointer (some ⟨blk, 0, none⟩)] W fun e W' => (∃ v, e = .returned v) ∧ (J its.length W' ∨ Jx W')
/-- The condition of a piece of code. Ahead of the regions whose numbers are in C the state is taken for one of a family that is given. -/
def vc (P : Program) (M : Nat → Prop) (w0 : W0) (N : NB) (C : List Nat) (lo base : Nat) : Code → (Exit → Env → DH → Prop) → Env → DH → Prop
  | .skip, Q, e, L => Q .normal e L
  | .region _ ops false, Q, e, L => vcOps P M w0 false N ops.toList ops.toList e L (Q .normal)
  | .region _ ops true, Q, e, L => ∃ (pl : Plan) (eff : List Nat), drawOk ops eff pl = true ∧ vcPlan P M w0 N eff ops.toList pl e L (Q .normal)
  | .seq a b, Q, e, L => (match memB C (headId b) with
    | false => vc P M w0 N C lo base a (seqQ (vc P M w0 N C lo base b) Q) e L
    | true => ∃ (ι : Type) (E : ι → List (Nat × DV)) (nx : ι → Nat) (H : ι → List (Nat × DObj)), vc P M w0 N C lo base a (fun x e' L' => match x with | .normal => ∃ j, Wk e' L' (E j) (nx j) (H j) | x => Q x e' L') e L ∧
        ∀ j, vc P M w0 N C lo base b Q (envOf (E j)) ⟨nx j, lo, base, objsOf (H j)⟩)
  | .cond c x y, Q, e, L => (match opd e c with
    | .pv (.bool b) => (b = true → vc P M w0 N C lo base x Q e L) ∧ (b = false → vc P M w0 N C lo base y Q e L)
    | _ => False)
  | .block id c, Q, e, L => vc P M w0 N C lo base c (fun x => Q (unblk id x)) e L
  | .loop c, Q, e, L => ∃ (ι : Type) (E : ι → List (Nat × DV)) (nx : ι → Nat) (H : ι → List (Nat × DObj)) (m : ι → Nat), (∃ i, Wk e L (E i) (nx i) (H i)) ∧
      ∀ i, vc P M w0 N C lo base c (fun x e' L' => match x with | .normal => ∃ j, m j < m i ∧ Wk e' L' (E j) (nx j) (H j) | x => Q x e' L') (envOf (E i)) ⟨nx i, lo, base, objsOf (H i)⟩
  | .exit id, Q, e, L => Q (.exit id) e L
  | .label _, Q, e, L => Q .normal e L
  | .scope c, Q, e, L => vc P M w0 N C lo base c (fun x e' L' => match x with | .goto _ => False | x => Q x e' L') e L
  | .ret, Q, e, L => Q .ret e L
  | .rangeFunc g ps assign body, Q, e, L => (match memB C rangeId, opd e g, ps.toList with
    | true, .clo f [] [.ref k 0], [p] => ∃ (s : Int) (its : List Int) (E : List (Nat × DV)) (nx : Nat) (H : Nat → List (Nat × DObj)) (I : Nat → Prop),
        IterC P f s its ∧ (noRange assign && noRange body && Nat.blt p N.n && Nat.beq N.b 0 && Nat.ble lo k) = true ∧
        Wk e L E nx ((k, .var [.pv (.int .u64 s)]) :: H 0) ∧ I 0 ∧
        (∀ (i : Nat) (x : Int) (v : Value), its[i]? = some x → I i → vc P M w0 N C lo nx assign (fun z e' L' => match z with
          | .normal => vc P M w0 N C lo nx body (fun z _ L' => match z with
            | .normal => I (i + 1) ∧ Wk (envOf E) L' E nx ((k, .var [.raw v]) :: H (i + 1))
            | .ret => Q .ret (envOf E) { L' with base := base }
            | .exit id => Q (.exit id) (envOf E) { L' with base := base }
            | _ => False) e' L'
          | _ => False) (envOf ((p, .pv (.int .i64 x)) :: E)) ⟨nx, lo, nx, objsOf ((k, .var [.raw v]) :: H i)⟩) ∧
        ∀ v : Value, I its.length → Q .normal (envOf E) ⟨nx, lo, base, objsOf ((k, .var [.raw v]) :: H its.length)⟩
    | _, _, _ => False)
  | _, _, _, _ => False

end Go.Dv
namespace Go.Dv
open Go.RowKit (Below)

theorem unders_iff {n : Nat} {l : List DV} : DV.unders n l = true ↔ ∀ (i : Nat) d, l[i]? = some d → d.under n = true := by
  induction l with
  | nil => simp [DV.unders]
  | cons a r ih =>
    simp only [DV.unders, Bool.and_eq_true, ih]
    constructor
    · rintro ⟨h1, h2⟩ i d hd
      cases i with
      | zero => simp at hd; exact hd ▸ h1
      | succ i => exact h2 i d (by simpa using hd)
    · intro h
      exact ⟨h 0 a rfl, fun i d hd => h (i + 1) d (by simpa using hd)⟩
theorem unders_mem {n : Nat} {l : List DV} : DV.unders n l = true ↔ ∀ d, d ∈ l → d.under n = true := by
  rw [unders_iff]
  constructor
  · intro h d hd
    obtain ⟨i, hi⟩ := List.mem_iff_getElem?.1 hd
    exact h i d hi
  · intro h i d hd
    exact h d (List.mem_of_getElem? hd)

theorem blt_iff {a b : Nat} : Nat.blt a b = true ↔ a < b := by
  rw [Nat.blt_eq]

mutual
theorem DV.under_mono {n m : Nat} (h : n ≤ m) : ∀ (d : DV), d.under n = true → d.under m = true
  | .agg l => fun hd => by simp only [DV.under] at hd ⊢; exact DV.unders_mono h l hd
  | .tup l => fun hd => by simp only [DV.under] at hd ⊢; exact DV.unders_mono h l hd
  | .ref k _ => fun hd => by simp only [DV.under, blt_iff] at hd ⊢; omega
  | .aref k _ _ _ => fun hd => by simp only [DV.under, blt_iff] at hd ⊢; omega
  | .buf k _ => fun hd => by simp only [DV.under, blt_iff] at hd ⊢; omega
  | .mp k => fun hd => by simp only [DV.under, blt_iff] at hd ⊢; omega
  | .vbuf k _ => fun hd => by simp only [DV.under, blt_iff] at hd ⊢; omega
  | .rbuf k _ => fun hd => by simp only [DV.under, blt_iff] at hd ⊢; omega
  | .when c d => fun hd => by simp only [DV.under, Bool.or_eq_true] at hd ⊢; exact hd.imp id (DV.under_mono h d)
  | .clo _ a b => fun hd => by simp only [DV.under, Bool.and_eq_true] at hd ⊢; exact ⟨DV.unders_mono h a hd.1, DV.unders_mono h b hd.2⟩
  | .pv _ => fun _ => rfl
  | .e0 => fun _ => rfl
  | .eptr _ _ => fun _ => rfl
  | .fnv _ => fun _ => rfl
  | .raw _ => fun _ => rfl
  | .any => fun _ => rfl
theorem DV.unders_mono {n m : Nat} (h : n ≤ m) : ∀ (l : List DV), DV.unders n l = true → DV.unders m l = true
  | [] => fun _ => rfl
  | d :: r => fun hd => by simp only [DV.unders, Bool.and_eq_true] at hd ⊢; exact ⟨DV.under_mono h d hd.1, DV.unders_mono h r hd.2⟩
end

theorem RelP.mono {T T' : Nat → Prop} {w w' : World} {p : PV} {v : Value} (h : RelP T w p v) (hT : ∀ b, T' b → T b ∨ w.heap.size ≤ b)
    (hs : w.heap.size ≤ w'.heap.size) (hh : ∀ b, b < w.heap.size → ¬ T b → w'.heap[b]? = w.heap[b]?) : RelP T' w' p v := by
  induction h with
  | int k n => exact .int k n
  | bool b => exact .bool b
  | str s => exact .str s
  | nil => exact .nil
  | e0 a c => exact .e0 a c
  | sl b off sz cap l val h1 h2 h3 h4 h5 _ ih =>
    refine .sl b off sz cap l val (fun h => ?_) (Nat.lt_of_lt_of_le h2 hs) h3 h4 (fun i p j q hi hj => ?_) ih
    · rcases hT b h with h | h
      · exact h1 h
      · omega
    · rw [World.cell?_of_block (w := w) (hh b h2 h1)]
      exact h5 i p j q hi hj
  | agg l vs h1 _ ih => exact .agg l vs h1 ih
  | tup l vs h1 _ ih => exact .tup l vs h1 ih

theorem Stp.tot {L L' : DH} {μ μ' : Nat → Loc} {w w' : World} {M : Nat → Prop} (h : Stp L μ w L' μ' w') : ∀ b, Tot M μ' L' b → Tot M μ L b ∨ w.heap.size ≤ b := by
  rintro b (hb | ⟨k, o, hk, hl, rfl⟩)
  · exact .inl (.inl hb)
  · rcases h.blk k o hk hl with ⟨_, ⟨o0, h0, h1⟩, h2⟩ | h2
    · exact .inl (.inr ⟨k, o0, h0, h1, h2.symm⟩)
    · exact .inr h2
theorem Wbl.tot {L : DH} {μ : Nat → Loc} {M : Nat → Prop} {b : Nat} (h : Wbl μ L b) : Tot M μ L b := by
  obtain ⟨k, o, _, h1, h2, h3⟩ := h
  exact .inr ⟨k, o, h1, h2, h3⟩
theorem RelP.stp {M : Nat → Prop} {L L' : DH} {μ μ' : Nat → Loc} {w w' : World} {p : PV} {v : Value} (h : RelP (Tot M μ L) w p v) (hs : Stp L μ w L' μ' w') :
    RelP (Tot M μ' L') w' p v :=
  h.mono hs.tot hs.size fun b hb hT => hs.same b hb fun hw => hT hw.tot

theorem RelV.stp {M : Nat → Prop} {L L' : DH} {μ μ' : Nat → Loc} {w w' : World} {d : DV} {v : Value} (h : RelV (Tot M μ L) w μ L d v) (hs : Stp L μ w L' μ' w')
    (hu : d.under L.next = true) : RelV (Tot M μ' L') w' μ' L' d v := by
  induction h with
  | pv p v h => exact .pv p v (h.stp hs)
  | e0 a => exact .e0 a
  | agg l vs h1 _ ih =>
    simp only [DV.under] at hu
    exact .agg l vs h1 fun i d v hi hv => ih i d v hi hv (unders_iff.1 hu i d hi)
  | tup l vs h1 _ ih =>
    simp only [DV.under] at hu
    exact .tup l vs h1 fun i d v hi hv => ih i d v hi hv (unders_iff.1 hu i d hi)
  | ref k c v h0 h =>
    simp only [DV.under, blt_iff] at hu
    refine .ref k c v h0 fun cs hk => ?_
    obtain ⟨cs0, g0, hm⟩ := hs.evo.var k cs hu hk
    rw [hm]; exact h cs0 g0
  | aref k n i c v hone h hf =>
    simp only [DV.under, blt_iff] at hu
    refine .aref k n i c v hone (fun sz es hk => ?_) (fun es hk => ?_)
    · obtain ⟨es0, h0, hl | ⟨hl, hm⟩⟩ := hs.evo.arr k sz es hu hk
      · exact ⟨by have := (h sz es0 h0).1; omega, fun hn => by have := (h sz es0 h0).1; omega⟩
      · obtain ⟨h1, h2⟩ := h sz es0 h0
        exact ⟨by omega, fun hn hi => by rw [hm]; exact h2 (by omega) hi⟩
    · rcases hs.evo.fz k es hu hk with ⟨h0, hm⟩ | ⟨sz, es0, h0, hq, hl | ⟨hl, hm⟩⟩
      · rw [hm]; exact hf es h0
      · exact ⟨by have := (h sz es0 h0).1; omega, fun hn => by have := (h sz es0 h0).1; omega⟩
      · obtain ⟨h1, h2⟩ := h sz es0 h0
        refine ⟨by omega, fun hn p hp => ⟨sz, hq, ?_⟩⟩
        rw [hm]
        refine h2 (by omega) ?_
        rcases Nat.lt_or_ge i es.length with h' | h'
        · omega
        · rw [List.getElem?_eq_none h'] at hp; cases hp
  | eptr p c b off val h1 h2 h3 h4 =>
    refine .eptr p c b off val (fun h => ?_) (Nat.lt_of_lt_of_le h2 hs.size) (fun j q hj => ?_) (fun j q hj => (h4 j q hj).stp hs)
    · rcases hs.tot b h with h | h
      · exact h1 h
      · omega
    · rw [World.cell?_of_block (w := w) (hs.same b h2 fun hw => h1 hw.tot)]
      exact h3 j q hj
  | buf k n v hone h hf =>
    simp only [DV.under, blt_iff] at hu
    refine .buf k n v hone (fun sz es hk => ?_) (fun es hk => ?_)
    · obtain ⟨es0, h0, hl | ⟨hl, hm⟩⟩ := hs.evo.arr k sz es hu hk
      · exact ⟨by have := (h sz es0 h0).1; omega, fun hn => by have := (h sz es0 h0).1; omega⟩
      · obtain ⟨h1, h2⟩ := h sz es0 h0
        exact ⟨by omega, fun hn => by rw [hm]; exact h2 (by omega)⟩
    · rcases hs.evo.fz k es hu hk with ⟨h0, hm⟩ | ⟨sz, es0, h0, hq, hl | ⟨hl, hm⟩⟩
      · rw [hm]; exact hf es h0
      · exact ⟨by have := (h sz es0 h0).1; omega, fun hn => by have := (h sz es0 h0).1; omega⟩
      · obtain ⟨h1, h2⟩ := h sz es0 h0
        exact ⟨by omega, fun hn => by rw [hm]; exact h2 (by omega)⟩
  | mp k v hone h =>
    simp only [DV.under, blt_iff] at hu
    refine .mp k v hone fun es hk => ?_
    obtain ⟨es0, h0, hm⟩ := hs.evo.mp k es hu hk
    rw [hm]; exact h es0 h0
  | vbuf k n v hone h =>
    simp only [DV.under, blt_iff] at hu
    refine .vbuf k n v hone fun cs hk => ?_
    obtain ⟨cs0, g0, hm⟩ := hs.evo.var k cs hu hk
    rw [hm]; exact h cs0 g0
  | rbuf k n v hone h =>
    simp only [DV.under, blt_iff] at hu
    refine .rbuf k n v hone fun es hk => ?_
    obtain ⟨es0, h0, hl | ⟨hl, hm⟩⟩ := hs.evo.row k es hu hk
    · exact ⟨by have := (h es0 h0).1; omega, fun hn => by have := (h es0 h0).1; omega⟩
    · obtain ⟨h1, h2⟩ := h es0 h0
      exact ⟨by omega, fun hn => by rw [hm]; exact h2 (by omega)⟩
  | clo f first caps fs cs h1 h2 _ _ ih1 ih2 =>
    simp only [DV.under, Bool.and_eq_true] at hu
    exact .clo f first caps fs cs h1 h2 (fun i d v hi hv => ih1 i d v hi hv (unders_iff.1 hu.1 i d hi)) (fun i d v hi hv => ih2 i d v hi hv (unders_iff.1 hu.2 i d hi))
  | fnv v => exact .fnv v
  | when c d v _ h2 ih => exact .when c d v (fun hc => ih hc (by simpa [DV.under, hc] using hu)) h2
  | raw v => exact .raw v
  | any v => exact .any v

theorem Evo.refl (L : DH) (μ : Nat → Loc) : Evo L μ L μ :=
  ⟨fun _ cs _ h => ⟨cs, h, rfl⟩, fun _ es _ h => ⟨es, h, rfl⟩, fun _ _ es _ h => ⟨es, h, .inr ⟨rfl, rfl⟩⟩, fun _ _ _ h => .inl ⟨h, rfl⟩, fun _ es _ h => ⟨es, h, .inr ⟨rfl, rfl⟩⟩⟩
theorem Stp.refl (L : DH) (μ : Nat → Loc) (w : World) (hk : ∀ k o, L.get k = some o → k < L.next) : Stp L μ w L μ w :=
  ⟨Evo.refl L μ, rfl, rfl, rfl, Nat.le_refl _, fun _ _ _ => rfl, fun k o h hl => .inl ⟨hk k o h, ⟨o, h, hl⟩, rfl⟩, Nat.le_refl _, rfl, rfl⟩
theorem Evo.trans {L L' L'' : DH} {μ μ' μ'' : Nat → Loc} (h : Evo L μ L' μ') (k : Evo L' μ' L'' μ'') (hn : L.next ≤ L'.next) : Evo L μ L'' μ'' where
  var := fun i cs hi hc => by
    obtain ⟨cs1, h1, m1⟩ := k.var i cs (by omega) hc
    obtain ⟨cs0, h0, m0⟩ := h.var i cs1 hi h1
    exact ⟨cs0, h0, m1.trans m0⟩
  mp := fun i cs hi hc => by
    obtain ⟨cs1, h1, m1⟩ := k.mp i cs (by omega) hc
    obtain ⟨cs0, h0, m0⟩ := h.mp i cs1 hi h1
    exact ⟨cs0, h0, m1.trans m0⟩
  arr := fun i sz es hi hc => by
    obtain ⟨es1, h1, g1⟩ := k.arr i sz es (by omega) hc
    obtain ⟨es0, h0, g0⟩ := h.arr i sz es1 hi h1
    refine ⟨es0, h0, ?_⟩
    rcases g1 with g1 | ⟨g1, m1⟩ <;> rcases g0 with g0 | ⟨g0, m0⟩
    · exact .inl (by omega)
    · exact .inl (by omega)
    · exact .inl (by omega)
    · exact .inr ⟨by omega, m1.trans m0⟩
  row := fun i es hi hc => by
    obtain ⟨es1, h1, g1⟩ := k.row i es (by omega) hc
    obtain ⟨es0, h0, g0⟩ := h.row i es1 hi h1
    refine ⟨es0, h0, ?_⟩
    rcases g1 with g1 | ⟨g1, m1⟩ <;> rcases g0 with g0 | ⟨g0, m0⟩
    · exact .inl (by omega)
    · exact .inl (by omega)
    · exact .inl (by omega)
    · exact .inr ⟨by omega, m1.trans m0⟩
  fz := fun i es hi hc => by
    rcases k.fz i es (by omega) hc with ⟨h1, m1⟩ | ⟨sz, es1, h1, q1, g1⟩
    · rcases h.fz i es hi h1 with ⟨h0, m0⟩ | ⟨sz, es0, h0, q0, g0⟩
      · exact .inl ⟨h0, m1.trans m0⟩
      · refine .inr ⟨sz, es0, h0, q0, ?_⟩
        rcases g0 with g0 | ⟨g0, m0⟩
        · exact .inl g0
        · exact .inr ⟨g0, m1.trans m0⟩
    · obtain ⟨es0, h0, g0⟩ := h.arr i sz es1 hi h1
      refine .inr ⟨sz, es0, h0, q1, ?_⟩
      rcases g1 with g1 | ⟨g1, m1⟩ <;> rcases g0 with g0 | ⟨g0, m0⟩
      · exact .inl (by omega)
      · exact .inl (by omega)
      · exact .inl (by omega)
      · exact .inr ⟨by omega, m1.trans m0⟩
theorem Stp.trans {L L' L'' : DH} {μ μ' μ'' : Nat → Loc} {w w' w'' : World} (h : Stp L μ w L' μ' w') (k : Stp L' μ' w' L'' μ'' w'') : Stp L μ w L'' μ'' w'' where
  evo := h.evo.trans k.evo h.next
  os := k.os.trans h.os
  tape := k.tape.trans h.tape
  output := k.output.trans h.output
  size := Nat.le_trans h.size k.size
  same := fun b hb hW => by
    rw [k.same b (Nat.lt_of_lt_of_le hb h.size) ?_, h.same b hb hW]
    rintro ⟨i, o, hlo, hi, hl, rfl⟩
    rcases h.blk i o hi hl with ⟨_, ⟨o0, h0, h1⟩, h2⟩ | h2
    · exact hW ⟨i, o0, by rw [← h.lo]; exact hlo, h0, h1, h2.symm⟩
    · omega
  blk := fun i o hi hl => by
    rcases k.blk i o hi hl with ⟨_, ⟨o0, h0, h1⟩, h2⟩ | h2
    · rcases h.blk i o0 h0 h1 with ⟨a, b, c⟩ | c
      · exact .inl ⟨a, b, h2.trans c⟩
      · exact .inr (by omega)
    · exact .inr (Nat.le_trans h.size h2)
  next := Nat.le_trans h.next k.next
  lo := k.lo.trans h.lo
  base := k.base.trans h.base

end Go.Dv
namespace Go.Dv
open Go.RowKit (Below)

theorem getE_lt {α : Type} {l : List α} {i : Nat} {x : α} (h : l[i]? = some x) : i < l.length := by
  rcases Nat.lt_or_ge i l.length with h' | h'
  · exact h'
  · rw [List.getElem?_eq_none h'] at h; cases h

theorem add_none (b o j : Nat) : (⟨b, o, none⟩ : Addr).add j = ⟨b, o + j, none⟩ := by
  unfold Addr.add
  split
  · rename_i h; subst h; rfl
  · rfl

theorem DObj.under_mono {n m : Nat} (h : n ≤ m) (o : DObj) (ho : o.under n = true) : o.under m = true := by
  cases o with
  | var cs => exact DV.unders_mono h cs ho
  | row ds => exact DV.unders_mono h ds ho
  | _ => rfl

theorem ObjRel.stp {M : Nat → Prop} {L L' : DH} {μ μ' : Nat → Loc} {w w' : World} {k : Nat} {o : DObj} (h : ObjRel (Tot M μ L) w μ L k o) (hs : Stp L μ w L' μ' w')
    (hμ : μ' k = μ k) (hb : liveAt (μ k) o → w'.heap[(μ k).blk]? = w.heap[(μ k).blk]?) (hu : o.under L.next = true) : ObjRel (Tot M μ' L') w' μ' L' k o := by
  cases o with
  | var cs =>
    obtain ⟨vs, ty, h1, h2, h3⟩ := h
    refine ⟨vs, ty, by rw [hμ, hb trivial]; exact h1, h2, fun i d v hi hv => (h3 i d v hi hv).stp hs (unders_iff.1 hu i d hi)⟩
  | arr sz es =>
    rcases h with ⟨h1, h2⟩ | ⟨vs, ty, h0, h1, h2, h3, h4, h5⟩
    · exact .inl ⟨by rw [hμ]; exact h1, h2⟩
    · refine .inr ⟨vs, ty, by rw [hμ]; exact h0, by rw [hμ, hb h0]; exact h1, by rw [hμ]; exact h2, by rw [hμ]; exact h3, h4, fun i p j q hi hj => ?_⟩
      obtain ⟨v, hv, hr⟩ := h5 i p j q hi hj
      exact ⟨v, hv, hr.stp hs⟩
  | fz l =>
    rcases h with ⟨h1, h2⟩ | ⟨h1, h2, h3⟩
    · exact .inl ⟨by rw [hμ]; exact h1, h2⟩
    · refine .inr ⟨by rw [hμ]; exact h1, by rw [hμ]; exact h2, ?_⟩
      rw [hμ]; exact h3.stp hs
  | row ds =>
    rcases h with ⟨h1, h2⟩ | ⟨vs, ty, h0, h1, h2, h3, h4⟩
    · exact .inl ⟨by rw [hμ]; exact h1, h2⟩
    · exact .inr ⟨vs, ty, by rw [hμ]; exact h0, by rw [hμ, hb h0]; exact h1, by rw [hμ]; exact h2, by rw [hμ]; exact h3, fun i d v hi hv => (h4 i d v hi hv).stp hs (unders_iff.1 hu i d hi)⟩
  | gone => trivial
  | mp es =>
    obtain ⟨ents, clock, h1, h2, h3⟩ := h
    exact ⟨ents, clock, by rw [hμ, hb trivial]; exact h1, h2, fun i kv e hi he => ⟨(h3 i kv e hi he).1.stp hs, (h3 i kv e hi he).2.stp hs⟩⟩

/-- How one object may turn. -/
structure EvoAt (L : DH) (k : Nat) (o' : DObj) (m m' : Loc) : Prop where
  var : ∀ cs', o' = .var cs' → ∃ cs, L.get k = some (.var cs) ∧ m' = m
  mp : ∀ es', o' = .mp es' → ∃ es, L.get k = some (.mp es) ∧ m' = m
  arr : ∀ sz es', o' = .arr sz es' → ∃ es, L.get k = some (.arr sz es) ∧ (es.length < es'.length ∨ (es.length = es'.length ∧ m' = m))
  fz : ∀ es', o' = .fz es' → (L.get k = some (.fz es') ∧ m' = m) ∨ ∃ sz es, L.get k = some (.arr sz es) ∧ (∀ q, q ∈ es' → q.cells.length = sz) ∧ (es.length < es'.length ∨ (es.length = es'.length ∧ m' = m))
  row : ∀ es', o' = .row es' → ∃ es, L.get k = some (.row es) ∧ (es.length < es'.length ∨ (es.length = es'.length ∧ m' = m))

def updμ (μ : Nat → Loc) (k : Nat) (m : Loc) : Nat → Loc := fun j => if j = k then m else μ j
theorem updμ_same (μ : Nat → Loc) (k : Nat) (m : Loc) : updμ μ k m k = m := by simp [updμ]
theorem updμ_ne (μ : Nat → Loc) {k j : Nat} (m : Loc) (h : j ≠ k) : updμ μ k m j = μ j := by simp [updμ, h]

theorem HR.upd {M : Nat → Prop} {w0 : W0} {μ : Nat → Loc} {L L' : DH} {w w' : World} (h : HR M w0 μ L w) (k : Nat) (o' : DObj) (m' : Loc)
    (hg : L'.get k = some o') (hg' : ∀ j, j ≠ k → L'.get j = L.get j) (hn : L.next ≤ L'.next) (hlo : L'.lo = L.lo) (hb : L'.base = L.base)
    (hk : k < L'.next) (hu : o'.under L'.next = true)
    (hos : w'.os = w.os) (htape : w'.tape = w.tape) (hout : w'.output = w.output) (hsz : w.heap.size ≤ w'.heap.size)
    (hsame : ∀ b, b < w.heap.size → ¬ Wbl μ L b → w'.heap[b]? = w.heap[b]?)
    (hother : ∀ j o, j ≠ k → L.get j = some o → liveAt (μ j) o → w'.heap[(μ j).blk]? = w.heap[(μ j).blk]?)
    (hm : liveAt m' o' → (k < L.next ∧ (∃ o, L.get k = some o ∧ liveAt (μ k) o) ∧ m'.blk = (μ k).blk) ∨ (w.heap.size ≤ m'.blk ∧ m'.blk < w'.heap.size))
    (hevo : k < L.next → EvoAt L k o' (μ k) m')
    (hobj : Stp L μ w L' (updμ μ k m') w' → ObjRel (Tot M (updμ μ k m') L') w' (updμ μ k m') L' k o') :
    Stp L μ w L' (updμ μ k m') w' ∧ HR M w0 (updμ μ k m') L' w' := by
  have hstp : Stp L μ w L' (updμ μ k m') w' := by
    refine ⟨⟨?_, ?_, ?_, ?_, ?_⟩, hos, htape, hout, hsz, hsame, ?_, hn, hlo, hb⟩
    · intro j cs' hj hc
      by_cases e : j = k
      · subst e; rw [hg] at hc; rw [updμ_same]; exact (hevo hj).var cs' (Option.some.inj hc)
      · rw [hg' j e] at hc; exact ⟨cs', hc, updμ_ne μ m' e⟩
    · intro j cs' hj hc
      by_cases e : j = k
      · subst e; rw [hg] at hc; rw [updμ_same]; exact (hevo hj).mp cs' (Option.some.inj hc)
      · rw [hg' j e] at hc; exact ⟨cs', hc, updμ_ne μ m' e⟩
    · intro j sz es' hj hc
      by_cases e : j = k
      · subst e; rw [hg] at hc; rw [updμ_same]; exact (hevo hj).arr sz es' (Option.some.inj hc)
      · rw [hg' j e] at hc; exact ⟨es', hc, .inr ⟨rfl, updμ_ne μ m' e⟩⟩
    · intro j es' hj hc
      by_cases e : j = k
      · subst e; rw [hg] at hc; rw [updμ_same]; exact (hevo hj).fz es' (Option.some.inj hc)
      · rw [hg' j e] at hc; exact .inl ⟨hc, updμ_ne μ m' e⟩
    · intro j es' hj hc
      by_cases e : j = k
      · subst e; rw [hg] at hc; rw [updμ_same]; exact (hevo hj).row es' (Option.some.inj hc)
      · rw [hg' j e] at hc; exact ⟨es', hc, .inr ⟨rfl, updμ_ne μ m' e⟩⟩
    · intro j o hj hl
      by_cases e : j = k
      · subst e; rw [hg] at hj; obtain rfl := Option.some.inj hj; rw [updμ_same] at hl ⊢
        rcases hm hl with h1 | h1
        · exact .inl h1
        · exact .inr h1.1
      · rw [hg' j e] at hj; rw [updμ_ne μ m' e] at hl ⊢; exact .inl ⟨(h.keys j o hj).1, ⟨o, hj, hl⟩, rfl⟩
  refine ⟨hstp, ?_, ?_, ?_, ?_, ?_, ?_, ?_, ?_, h.glb⟩
  · refine h.ext.trans ⟨hos, htape, hout, hsz, fun b hb => ?_⟩
    refine hsame b (Nat.lt_of_lt_of_le hb h.ext.size) ?_
    rintro ⟨j, o, h1, h2, h3, rfl⟩
    have := (h.live j o h2 h3).2.2 h1
    omega
  · exact fun b hb => Nat.lt_of_lt_of_le (h.mlt b hb) hsz
  · intro j o hj
    by_cases e : j = k
    · subst e; rw [hg] at hj; obtain rfl := Option.some.inj hj; exact ⟨hk, hu⟩
    · rw [hg' j e] at hj
      exact ⟨Nat.lt_of_lt_of_le (h.keys j o hj).1 hn, DObj.under_mono hn o (h.keys j o hj).2⟩
  · intro j o hj hl
    by_cases e : j = k
    · subst e; rw [hg] at hj; obtain rfl := Option.some.inj hj; rw [updμ_same] at hl ⊢
      rcases hm hl with ⟨h1, ⟨o0, h2, h3⟩, h4⟩ | ⟨h1, h2⟩
      · rw [h4, hlo]
        have h5 := h.live j o0 h2 h3
        exact ⟨Nat.lt_of_lt_of_le h5.1 hsz, h5.2.1, h5.2.2⟩
      · exact ⟨h2, fun hM => by have := h.mlt _ hM; omega, fun _ => Nat.le_trans h.ext.size h1⟩
    · rw [hg' j e] at hj; rw [updμ_ne μ m' e] at hl ⊢
      have h5 := h.live j o hj hl
      exact ⟨Nat.lt_of_lt_of_le h5.1 hsz, h5.2.1, by rw [hlo]; exact h5.2.2⟩
  · intro j o j' o2 hj hl hj' hl' he
    by_cases e : j = k <;> by_cases e' : j' = k
    · rw [e, e']
    · subst e; rw [hg] at hj; obtain rfl := Option.some.inj hj; rw [updμ_same] at hl he
      rw [hg' j' e'] at hj'; rw [updμ_ne μ m' e'] at hl' he
      rcases hm hl with ⟨h1, ⟨o0, h2, h3⟩, h4⟩ | ⟨h1, h2⟩
      · exact h.inj j o0 j' o2 h2 h3 hj' hl' (by rw [← h4]; exact he)
      · have := (h.live j' o2 hj' hl').1; omega
    · subst e'; rw [hg] at hj'; obtain rfl := Option.some.inj hj'; rw [updμ_same] at hl' he
      rw [hg' j e] at hj; rw [updμ_ne μ m' e] at hl he
      rcases hm hl' with ⟨h1, ⟨o0, h2, h3⟩, h4⟩ | ⟨h1, h2⟩
      · exact h.inj j o j' o0 hj hl h2 h3 (by rw [← h4]; exact he)
      · have := (h.live j o hj hl).1; omega
    · rw [hg' j e] at hj; rw [updμ_ne μ m' e] at hl he
      rw [hg' j' e'] at hj'; rw [updμ_ne μ m' e'] at hl' he
      exact h.inj j o j' o2 hj hl hj' hl' he
  · intro j o hj
    by_cases e : j = k
    · subst e; rw [hg] at hj; obtain rfl := Option.some.inj hj; exact hobj hstp
    · rw [hg' j e] at hj
      exact (h.obj j o hj).stp hstp (updμ_ne μ m' e) (hother j o e hj) (h.keys j o hj).2
  · rw [hb]; exact Nat.le_trans h.base hn
  · rw [hlo]; exact Nat.le_trans h.lob hn

theorem DH.put_same (L : DH) (k : Nat) (o : DObj) : (L.put k o).get k = some o := by simp [DH.put]
theorem DH.put_ne (L : DH) {k j : Nat} (o : DObj) (h : j ≠ k) : (L.put k o).get j = L.get j := by
  have : Nat.beq j k = false := by
    cases hb : Nat.beq j k with
    | false => rfl
    | true => exact absurd (Nat.eq_of_beq_eq_true hb) h
  simp only [DH.put, this, cond_false]
theorem DH.push_same (L : DH) (o : DObj) : (L.push o).get L.next = some o := by simp [DH.push]
theorem DH.push_ne (L : DH) {j : Nat} (o : DObj) (h : j ≠ L.next) : (L.push o).get j = L.get j := by
  have : Nat.beq j L.next = false := by
    cases hb : Nat.beq j L.next with
    | false => rfl
    | true => exact absurd (Nat.eq_of_beq_eq_true hb) h
  simp only [DH.push, this, cond_false]

theorem heap_push_old (w : World) (o : Obj) {b : Nat} (h : b < w.heap.size) : (w.alloc o).heap[b]? = w.heap[b]? := Below.heap_alloc w o b h
theorem heap_push_new (w : World) (o : Obj) : (w.alloc o).heap[w.heap.size]? = some o := heap_alloc_new w o

/-- A new object in a new block. -/
theorem HR.new {M : Nat → Prop} {w0 : W0} {μ : Nat → Loc} {L : DH} {w w1 : World} (h : HR M w0 μ L w) (o' : DObj) (m' : Loc) (ob : Obj)
    (hw : w1.heap = w.heap ∧ w1.os = w.os ∧ w1.tape = w.tape ∧ w1.output = w.output) (hm : m'.blk = w.heap.size) (hu : o'.under (L.next + 1) = true)
    (hobj : Stp L μ w (L.push o') (updμ μ L.next m') (w1.alloc ob) → ObjRel (Tot M (updμ μ L.next m') (L.push o')) (w1.alloc ob) (updμ μ L.next m') (L.push o') L.next o') :
    Stp L μ w (L.push o') (updμ μ L.next m') (w1.alloc ob) ∧ HR M w0 (updμ μ L.next m') (L.push o') (w1.alloc ob) := by
  obtain ⟨hh, h1, h2, h3⟩ := hw
  have hold : ∀ b, b < w.heap.size → (w1.alloc ob).heap[b]? = w.heap[b]? := fun b hb => by rw [heap_push_old w1 ob (by rw [hh]; exact hb), hh]
  refine h.upd L.next o' m' (DH.push_same L o') (fun j hj => DH.push_ne L o' hj) (Nat.le_succ _) rfl rfl (Nat.lt_succ_self _) hu h1 h2 h3 (by simp [hh]) (fun b hb _ => hold b hb)
    (fun j o _ hj hl => hold _ (h.live j o hj hl).1) (fun _ => .inr ⟨by omega, by simp [hh, hm]⟩) (fun hlt => absurd hlt (Nat.lt_irrefl _)) hobj

/-- An object is written in its own block. -/
theorem HR.write {M : Nat → Prop} {w0 : W0} {μ : Nat → Loc} {L : DH} {w w' : World} (h : HR M w0 μ L w) (k : Nat) (o o' : DObj)
    (hk : L.get k = some o) (hl : liveAt (μ k) o) (hlo : L.lo ≤ k) (hu : o'.under L.next = true)
    (hos : w'.os = w.os) (htape : w'.tape = w.tape) (hout : w'.output = w.output) (hsz : w.heap.size = w'.heap.size)
    (hsame : ∀ b, b ≠ (μ k).blk → w'.heap[b]? = w.heap[b]?) (hevo : EvoAt L k o' (μ k) (μ k))
    (hobj : Stp L μ w (L.put k o') (updμ μ k (μ k)) w' → ObjRel (Tot M (updμ μ k (μ k)) (L.put k o')) w' (updμ μ k (μ k)) (L.put k o') k o') :
    Stp L μ w (L.put k o') (updμ μ k (μ k)) w' ∧ HR M w0 (updμ μ k (μ k)) (L.put k o') w' := by
  have hkn := (h.keys k o hk).1
  refine h.upd k o' (μ k) (DH.put_same L k o') (fun j hj => DH.put_ne L o' hj) (Nat.le_refl _) rfl rfl hkn hu hos htape hout (Nat.le_of_eq hsz)
    (fun b _ hW => hsame b fun e => hW ⟨k, o, hlo, hk, hl, e.symm⟩) (fun j o2 hj hj2 hl2 => hsame _ fun e => hj (h.inj j o2 k o hj2 hl2 hk hl e)) (fun _ => .inl ⟨hkn, ⟨o, hk, hl⟩, rfl⟩) (fun _ => hevo) hobj

end Go.Dv
namespace Go.Dv
open Go.RowKit (Below)

section
variable {P : Program} {M : Nat → Prop} {w0 : W0} {μ : Nat → Loc} {L : DH} {w : World} {a : Act} {ρ : Operand → DV}

structure Rho (M : Nat → Prop) (μ : Nat → Loc) (L : DH) (w : World) (ρ : Operand → DV) (a : Act) : Prop where
  rel : ∀ x, RelV (Tot M μ L) w μ L (ρ x) (a.eval x)
  und : ∀ x, (ρ x).under L.next = true

/-- What an operation comes to. -/
def OpRes (P : Program) (M : Nat → Prop) (w0 : W0) (μ : Nat → Loc) (L : DH) (w : World) (K : DV → DH → Prop) (o : Oper) (a : Act) : Prop :=
  (∃ v w', (execOp a.eval o).run P w = .ok (.value v) w' ∧ Out M w0 μ L w K v w') ∨
  (∃ w', (execOp a.eval o).run P w = .ok .skip w' ∧ Out M w0 μ L w K undef w') ∨
  (∃ f args, (execOp a.eval o).run P w = .ok (.enter f args) w ∧ Calls P f args w (Fin M w0 μ L w K)) ∨
  (∃ v, (execOp a.eval o).run P w = .halt (.panic v) w ∧ OutX M w0 μ L w v w)

theorem Out.id {K : DV → DH → Prop} {d : DV} {v : Value} (h : HR M w0 μ L w) (hr : RelV (Tot M μ L) w μ L d v) (hu : d.under L.next = true) (hK : K d L) : Out M w0 μ L w K v w :=
  ⟨μ, d, L, hK, h, hr, hu, Stp.refl L μ w fun k o hk => (h.keys k o hk).1⟩

theorem OpRes.val {K : DV → DH → Prop} {o : Oper} {v : Value} {w' : World} (hr : (execOp a.eval o).run P w = .ok (.value v) w') (h : Out M w0 μ L w K v w') : OpRes P M w0 μ L w K o a := .inl ⟨v, w', hr, h⟩
theorem OpRes.skip {K : DV → DH → Prop} {o : Oper} {w' : World} (hr : (execOp a.eval o).run P w = .ok .skip w') (h : Out M w0 μ L w K undef w') : OpRes P M w0 μ L w K o a := .inr (.inl ⟨w', hr, h⟩)

theorem run_val {s : Sem Value} {v : Value} {w' : World} (h : s.run P w = .ok v w') : ((do pure (Next.value (← s)) : Sem Next)).run P w = .ok (.value v) w' := by
  simp [h]
theorem run_skp {s : Sem Unit} {w' : World} (h : s.run P w = .ok () w') : ((do s; pure Next.skip : Sem Next)).run P w = .ok .skip w' := by
  simp [h]

theorem one_valP {T : Nat → Prop} {p : PV} {v : Value} (h : RelP T w p v) (ho : p.one = true) : v.oneCell' = true := by
  cases h <;> first | rfl | (simp [PV.one] at ho)
theorem one_val {T : Nat → Prop} {d : DV} {v : Value} (h : RelV T w μ L d v) (ho : d.one = true) : v.oneCell' = true := by
  cases h with
  | pv p v h => exact one_valP h ho
  | e0 a => rfl
  | agg => simp [DV.one] at ho
  | tup => simp [DV.one] at ho
  | ref k c v h => exact h
  | aref k n i c v h => exact h
  | eptr => rfl
  | buf k n v h => obtain ⟨_, _, rfl, _⟩ := h; rfl
  | mp k v h => exact h
  | vbuf k n v h => obtain ⟨_, _, rfl⟩ := h; rfl
  | rbuf k n v h => obtain ⟨_, _, rfl, _⟩ := h; rfl
  | clo => rfl
  | when => simp [DV.one] at ho
  | fnv => exact ho
  | raw => exact ho
  | any => simp [DV.one] at ho

theorem relV_dv1 {T : Nat → Prop} (v : Value) : RelV T w μ L (dv1 v) v := by
  unfold dv1
  split <;> first | exact .any _ | exact .raw _ | (refine .pv _ _ ?_; first | exact .int _ _ | exact .bool _ | exact .str _ | exact .nil)
theorem under_dv1 (n : Nat) (v : Value) : (dv1 v).under n = true := by
  unfold dv1
  split <;> rfl
theorem relV_dvOf {T : Nat → Prop} (v : Value) : RelV T w μ L (dvOf v) v := by
  unfold dvOf
  split
  · rename_i cs
    obtain ⟨l⟩ := cs
    refine .agg _ l (by simp) fun i d v hd hv => ?_
    simp only [List.getElem?_map, hv, Option.map_some] at hd
    obtain rfl := Option.some.inj hd
    exact relV_dv1 v
  · exact relV_dv1 v
theorem under_dvOf (n : Nat) (v : Value) : (dvOf v).under n = true := by
  unfold dvOf
  split
  · rename_i cs
    simp only [DV.under]
    rw [unders_mem]
    intro d hd
    obtain ⟨v, _, rfl⟩ := List.mem_map.1 hd
    exact under_dv1 n v
  · exact under_dv1 n v

theorem Rho.of_env {e : Env} (h : ∀ t, RelV (Tot M μ L) w μ L (e t) (a.tmps.getD t undef)) (hu : ∀ t, (e t).under L.next = true) : Rho M μ L w (opd e) a where
  rel := fun x => by
    cases x with
    | tmp t => exact h t
    | const v => exact relV_dvOf v
    | global g => exact .any _
    | func f => exact .clo f [] [] [] [] rfl rfl (fun i d v hd _ => by simp at hd) (fun i d v hd _ => by simp at hd)
  und := fun x => by
    cases x with
    | tmp t => exact hu t
    | const v => exact under_dvOf _ v
    | global g => rfl
    | func f => rfl

/-- The cells of a value that may lie in a variable. -/
theorem cells_rel {T : Nat → Prop} {d : DV} {v : Value} (h : RelV T w μ L d v) (ho : d.cells.all DV.one = true) :
    d.cells.length = v.cells.size ∧ (∀ (i : Nat) d' v', d.cells[i]? = some d' → v.cells[i]? = some v' → RelV T w μ L d' v') ∧ ∀ x, x ∈ v.cells.toList → x.oneCell' = true := by
  have hall : ∀ x, x ∈ d.cells → x.one = true := by simpa using ho
  have key : ∀ (ds : List DV) (vs : List Value), ds.length = vs.length → (∀ x, x ∈ ds → x.one = true) → (∀ (i : Nat) d' v', ds[i]? = some d' → vs[i]? = some v' → RelV T w μ L d' v') → ∀ x, x ∈ vs → x.oneCell' = true := by
    intro ds vs hl h1 h2 x hx
    obtain ⟨i, hi⟩ := List.mem_iff_getElem?.1 hx
    have hlt := getE_lt hi
    exact one_val (h2 i ds[i] x (List.getElem?_eq_getElem (by omega)) hi) (h1 _ (List.getElem_mem (by omega)))
  have single : ∀ (d : DV) (v : Value), RelV T w μ L d v → d.one = true → d.cells = [d] → d.cells.length = v.cells.size ∧ (∀ (i : Nat) d' v', d.cells[i]? = some d' → v.cells[i]? = some v' → RelV T w μ L d' v') ∧ ∀ x, x ∈ v.cells.toList → x.oneCell' = true := by
    intro d v hr h1 hc
    have hv : v.cells = #[v] := by
      have := one_val hr h1
      cases v <;> first | rfl | (simp [Value.oneCell'] at this)
    rw [hc, hv]
    refine ⟨rfl, fun i d' v' h1 h2 => ?_, fun x hx => ?_⟩
    · cases i with
      | zero => simp at h1 h2; subst h1; subst h2; exact hr
      | succ i => simp at h1
    · simp at hx; subst hx; exact one_val hr ‹_›
  cases h with
  | agg l vs h1 h2 =>
    refine ⟨by simpa [DV.cells, Value.cells] using h1, fun i d' v' hd hv => h2 i d' v' hd (by simpa [Value.cells] using hv), ?_⟩
    simpa [Value.cells] using key l vs h1 hall h2
  | pv p v hp =>
    by_cases hagg : ∃ l, p = .agg l
    · obtain ⟨l, rfl⟩ := hagg
      cases hp with
      | agg l vs h1 h2 =>
        have h3 : ∀ (i : Nat) d' v', (l.map DV.pv)[i]? = some d' → vs[i]? = some v' → RelV T w μ L d' v' := by
          intro i d' v' hd hv
          simp only [List.getElem?_map] at hd
          cases hl : l[i]? with
          | none => simp [hl] at hd
          | some p => simp [hl] at hd; subst hd; exact .pv _ _ (h2 i p v' hl hv)
        refine ⟨by simpa [DV.cells, Value.cells] using h1, fun i d' v' hd hv => h3 i d' v' hd (by simpa [Value.cells] using hv), ?_⟩
        simpa [Value.cells] using key (l.map DV.pv) vs (by simpa using h1) (by simpa [DV.cells] using hall) h3
    · have hc : (DV.pv p).cells = [.pv p] := by
        cases p <;> first | rfl | exact absurd ⟨_, rfl⟩ hagg
      exact single _ _ (.pv p v hp) (hall _ (by rw [hc]; simp)) hc
  | e0 a => exact single _ _ (.e0 a) rfl rfl
  | tup l vs h1 h2 => exact absurd (hall (.tup l) (by simp [DV.cells])) (by simp [DV.one])
  | ref k c v h1 h2 => exact single _ _ (.ref k c v h1 h2) rfl rfl
  | aref k n i c v h1 h2 h3 => exact single _ _ (.aref k n i c v h1 h2 h3) rfl rfl
  | eptr p c b off val h1 h2 h3 h4 => exact single _ _ (.eptr p c b off val h1 h2 h3 h4) rfl rfl
  | buf k n v h1 h2 h3 => exact single _ _ (.buf k n v h1 h2 h3) rfl rfl
  | mp k v h1 h2 => exact single _ _ (.mp k v h1 h2) rfl rfl
  | vbuf k n v h1 h2 => exact single _ _ (.vbuf k n v h1 h2) rfl rfl
  | rbuf k n v h1 h2 => exact single _ _ (.rbuf k n v h1 h2) rfl rfl
  | clo f x y fs cs h1 h2 h3 h4 => exact single _ _ (.clo f x y fs cs h1 h2 h3 h4) rfl rfl
  | fnv v => exact single _ _ (.fnv v) (hall (.fnv v) (by simp [DV.cells])) rfl
  | raw v => exact single _ _ (.raw v) (hall (.raw v) (by simp [DV.cells])) rfl
  | when c d v _ _ => exact absurd (hall (.when c d) (by simp [DV.cells])) (by simp [DV.one])
  | any v => exact absurd (hall .any (by simp [DV.cells])) (by simp [DV.one])

theorem cells_under {n : Nat} {d : DV} (h : d.under n = true) : DV.unders n d.cells = true := by
  unfold DV.cells
  split
  · simpa [DV.under] using h
  · rw [unders_mem]
    intro d hd
    obtain ⟨p, _, rfl⟩ := List.mem_map.1 hd
    rfl
  · simp [DV.unders, h]

/-- A new variable. -/
theorem out_var {K : DV → DH → Prop} {d : DV} {v : Value} (h : HR M w0 μ L w) (hr : RelV (Tot M μ L) w μ L d v) (hu : d.under L.next = true) (ho : d.cells.all DV.one = true) (ty : TypeId)
    (hK : K (.ref L.next 0) (L.push (.var d.cells))) : Out M w0 μ L w K (.pointer (some ⟨w.heap.size, 0, none⟩)) (w.alloc (.cells v.cells ty)) := by
  obtain ⟨c1, c2, c3⟩ := cells_rel hr ho
  have hcu := cells_under hu
  obtain ⟨hs, hr'⟩ := h.new (w1 := w) (.var d.cells) ⟨w.heap.size, 0⟩ (.cells v.cells ty) ⟨rfl, rfl, rfl, rfl⟩ rfl (DV.unders_mono (Nat.le_succ _) _ hcu) (fun hs =>
    ⟨v.cells, ty, by rw [updμ_same]; exact heap_push_new w _, by simpa using Nat.le_of_eq c1, fun i d' v' hd hv => (c2 i d' v' hd hv).stp hs (unders_iff.1 hcu i d' hd)⟩)
  refine ⟨_, .ref L.next 0, _, hK, hr', .ref _ _ _ rfl fun cs _ => by rw [updμ_same], ?_, hs⟩
  simp [DV.under, DH.push, Nat.blt_eq]

theorem res_alloc {K : DV → DH → Prop} {o : Oper} {t : TypeId} {z : DV} (ho : o.op = .alloc t) (h : HR M w0 μ L w) (hz : zeroOf P t = some z) (h1 : z.cells.all DV.one = true)
    (hK : K (.ref L.next 0) (L.push (.var z.cells))) : OpRes P M w0 μ L w K o a := by
  unfold zeroOf at hz
  cases hi : P.info? t with
  | none => simp [hi] at hz
  | some i =>
    cases hv : i.zero with
    | none => simp [hi, hv] at hz
    | some v =>
      simp [hi, hv] at hz
      subst hz
      refine .val (w' := w.alloc (.cells v.cells t)) (v := .pointer (some ⟨w.heap.size, 0, none⟩)) ?_ (out_var h (relV_dvOf v) (under_dvOf _ v) h1 t hK)
      simp [execOp, ho, Instr.alloc, zeroValue, typeInfo, hi, hv, newVar, newRow]
theorem res_box {K : DV → DH → Prop} {o : Oper} {t : TypeId} {x : Operand} (ho : o.op = .box t x) (h : HR M w0 μ L w) (hρ : Rho M μ L w ρ a) (h1 : (ρ x).cells.all DV.one = true)
    (hK : K (.ref L.next 0) (L.push (.var (ρ x).cells))) : OpRes P M w0 μ L w K o a := by
  refine .val (w' := w.alloc (.cells (a.eval x).cells t)) (v := .pointer (some ⟨w.heap.size, 0, none⟩)) ?_ (out_var h (hρ.rel x) (hρ.und x) h1 t hK)
  simp [execOp, ho, Instr.box, newVar, newRow]

theorem info_of_kind {t : TypeId} {b : Bool} (h : kindT P t = some b) : ∃ i, P.info? t = some i := by
  unfold kindT Program.underlying at h
  cases hi : P.info? t with
  | none => simp [hi] at h
  | some i => exact ⟨i, rfl⟩
theorem run_isAgg_kind {t : TypeId} {b : Bool} (h : kindT P t = some b) (w : World) : (isAgg t).run P w = .ok b w := by
  unfold kindT at h
  unfold isAgg
  cases hu : P.underlying t with
  | none => simp [hu] at h
  | some d =>
    rw [Sem.run_bind, run_underlying hu w]
    rw [hu] at h
    cases d <;> simp_all
theorem run_szOf {t : TypeId} {i : TypeInfo} (h : P.info? t = some i) (w : World) : (sizeOf t).run P w = .ok (szOf P t) w := by
  simp [sizeOf, typeInfo, h, szOf, Program.cellsOf]

/-- A load out of cells that are related. -/
theorem load_rel {T : Nat → Prop} {K : DV → Prop} {t : TypeId} {cs : List DV} {c : Nat} (hl : ldCells P t cs c K) (b off : Nat) (val : Nat → Value)
    (hc : ∀ (i : Nat) d, cs[i]? = some d → w.cell? ⟨b, off + i, none⟩ = some (val i) ∧ RelV T w μ L d (val i)) {n : Nat} (hu : DV.unders n cs = true) :
    ∃ d v, (loadVar t ⟨b, off + c, none⟩).run P w = .ok v w ∧ RelV T w μ L d v ∧ d.under n = true ∧ K d := by
  unfold ldCells at hl
  cases hk : kindT P t with
  | none => simp [hk] at hl
  | some g =>
    obtain ⟨i, hi⟩ := info_of_kind hk
    cases g with
    | true =>
      simp only [hk] at hl
      cases hb : Nat.ble (c + szOf P t) cs.length with
      | false => simp [hb] at hl
      | true =>
        simp only [hb] at hl
        have hb' : c + szOf P t ≤ cs.length := by simpa using hb
        have hrun : (loadCells ⟨b, off + c, none⟩ (szOf P t)).run P w = .ok ((List.range (szOf P t)).map fun j => val (c + j)).toArray w := by
          refine run_loadCells w _ _ (fun j => val (c + j)) fun j hj => ?_
          rw [add_none, Nat.add_assoc]
          have : (cs[c + j]?).isSome := by rw [List.getElem?_eq_getElem (by omega)]; rfl
          obtain ⟨d, hd⟩ := Option.isSome_iff_exists.1 this
          exact (hc (c + j) d hd).1
        refine ⟨_, .agg ⟨(List.range (szOf P t)).map fun j => val (c + j)⟩, ?_, ?_, ?_, hl⟩
        · simp [loadVar, run_isAgg_kind hk, run_szOf hi, hrun]
        · refine .agg _ _ (by simp; omega) fun j d v hd hv => ?_
          simp only [List.getElem?_take] at hd
          split at hd
          · rename_i hj
            rw [List.getElem?_drop] at hd
            simp [hj] at hv
            subst hv
            exact (hc (c + j) d hd).2
          · cases hd
        · simp only [DV.under]
          rw [unders_mem]
          intro d hd
          exact unders_mem.1 hu d (List.mem_of_mem_drop (List.mem_of_mem_take hd))
    | false =>
      simp only [hk] at hl
      cases hd : cs[c]? with
      | none => simp [hd] at hl
      | some d =>
        simp only [hd] at hl
        refine ⟨d, val c, ?_, (hc c d hd).2, unders_iff.1 hu c d hd, hl⟩
        simp [loadVar, run_isAgg_kind hk, (hc c d hd).1]

theorem unders_pv (n : Nat) (l : List PV) : DV.unders n (l.map .pv) = true := by
  rw [unders_mem]
  intro d hd
  obtain ⟨p, _, rfl⟩ := List.mem_map.1 hd
  rfl
theorem getE_map_pv {l : List PV} {i : Nat} {d : DV} (h : (l.map DV.pv)[i]? = some d) : ∃ p, l[i]? = some p ∧ d = .pv p := by
  rw [List.getElem?_map] at h
  cases hl : l[i]? with
  | none => simp [hl] at h
  | some p => simp [hl] at h; exact ⟨p, rfl, h.symm⟩

/-- The cells of an array's element. -/
theorem arr_cells (h : HR M w0 μ L w) {k sz : Nat} {es : List PV} (hk : L.get k = some (.arr sz es)) {i : Nat} {p : PV} (hp : es[i]? = some p) :
    (μ k).cap ≠ 0 ∧ p.cells.length = sz ∧ ∃ val : Nat → Value, ∀ (j : Nat) q, p.cells[j]? = some q → w.cell? ⟨(μ k).blk, i * sz + j, none⟩ = some (val j) ∧ RelP (Tot M μ L) w q (val j) := by
  rcases h.obj k _ hk with ⟨_, h2⟩ | ⟨vs, ty, h0, h1, h2, h3, h4, h5⟩
  · subst h2; simp at hp
  · refine ⟨h0, h4 p (List.mem_of_getElem? hp), fun j => (vs[i * sz + j]?).getD undef, fun j q hq => ?_⟩
    obtain ⟨v, hv, hr⟩ := h5 i p j q hp hq
    simp [World.cell?, h1, hv, hr]
theorem fz_cells (h : HR M w0 μ L w) {k : Nat} {es : List PV} (hk : L.get k = some (.fz es)) {i : Nat} {p : PV} (hp : es[i]? = some p) {sz : Nat} (hsz : ∀ q, q ∈ es → q.cells.length = sz) :
    ∃ val : Nat → Value, ∀ (j : Nat) q, p.cells[j]? = some q → w.cell? ⟨(μ k).blk, i * sz + j, none⟩ = some (val j) ∧ RelP (Tot M μ L) w q (val j) := by
  rcases h.obj k _ hk with ⟨_, h2⟩ | ⟨h0, h1, h2⟩
  · subst h2; simp at hp
  · cases es with
    | nil => simp at hp
    | cons e0 r =>
      generalize hx : Value.slice (some ⟨(μ k).blk, 0, none⟩) (e0 :: r).length (μ k).cap = x at h2
      cases h2 with
      | sl b off sz' cap l val h1 h2 h3 h4 h5 h6 =>
        obtain ⟨rfl, rfl, rfl⟩ : b = (μ k).blk ∧ off = 0 ∧ cap = (μ k).cap := by simp at hx; exact ⟨hx.1.1.symm, hx.1.2.symm, hx.2.symm⟩
        have hs : sz' = sz := by rw [← hsz e0 (by simp), ← h4 e0 (by simp)]
        subst hs
        refine ⟨fun j => val i j, fun j q hq => ⟨?_, h6 i p j q hp hq⟩⟩
        have := h5 i p j q hp hq
        simpa using this

theorem res_load {K : DV → DH → Prop} {o : Oper} {t : TypeId} {x : Operand} {dr : Bool} (ho : o.op = .load t x) (h : HR M w0 μ L w) (hρ : Rho M μ L w ρ a) (hv : vcOp P M w0 dr ρ L o K) : OpRes P M w0 μ L w K o a := by
  have hx := hρ.rel x
  have fin : ∀ (b off : Nat), a.eval x = .pointer (some ⟨b, off, none⟩) → ∀ d v, (loadVar t ⟨b, off, none⟩).run P w = .ok v w → RelV (Tot M μ L) w μ L d v → d.under L.next = true → K d L → OpRes P M w0 μ L w K o a := by
    intro b off he d v hr hd hu hk
    refine .val (v := v) (w' := w) ?_ (Out.id h hd hu hk)
    simp [execOp, ho, Instr.loadAt, Instr.sureAddr, he, hr]
  simp only [vcOp, ho] at hv
  generalize hd : ρ x = d at hv hx
  cases d with
  | ref k c =>
    simp only at hv
    cases hk : L.get k with
    | none => simp [hk] at hv
    | some ob =>
      cases ob with
      | var cs =>
        simp only [hk] at hv
        obtain ⟨vs, ty, h1, h2, h3⟩ := h.obj k _ hk
        have hcu : DV.unders L.next cs = true := (h.keys k _ hk).2
        obtain ⟨d, v, hr, hrel, hu, hK⟩ := load_rel (μ := μ) (L := L) (w := w) (T := Tot M μ L) hv (μ k).blk 0 (fun i => (vs[i]?).getD undef) (fun i d hd => by
          have hlt := getE_lt hd
          have hvi : vs[i]? = some vs[i] := Array.getElem?_eq_getElem (by omega)
          exact ⟨by simp [World.cell?, h1, hvi], by rw [hvi]; exact h3 i d _ hd hvi⟩) hcu
        cases hx with
        | ref _ _ v' h1 h2 =>
          have := h2 cs hk
          exact fin (μ k).blk c this d v (by simpa using hr) hrel hu hK
      | arr => simp [hk] at hv
      | fz => simp [hk] at hv
      | mp => simp [hk] at hv
      | row => simp [hk] at hv
      | gone => simp [hk] at hv
  | eptr p c =>
    simp only at hv
    cases hx' : a.eval x
    all_goals rw [hx'] at hx
    all_goals cases hx
    rename_i b off val h1 h2 h3 h4
    obtain ⟨d, v, hr, hrel, hu, hK⟩ := load_rel (μ := μ) (L := L) (w := w) (T := Tot M μ L) hv b off val (fun i d hd => by
      obtain ⟨q, hq, rfl⟩ := getE_map_pv hd
      exact ⟨h3 i q hq, .pv _ _ (h4 i q hq)⟩) (unders_pv L.next _)
    exact fin b (off + c) hx' d v hr hrel hu hK
  | aref k n i c =>
    simp only at hv
    cases hk : L.get k with
    | none => simp [hk] at hv
    | some ob =>
      cases ob with
      | arr sz es =>
        simp only [hk] at hv
        obtain ⟨hn, p, hp, hv⟩ := hv
        obtain ⟨_, _, val, hval⟩ := arr_cells h hk hp
        obtain ⟨d, v, hr, hrel, hu, hK⟩ := load_rel (μ := μ) (L := L) (w := w) (T := Tot M μ L) hv (μ k).blk (i * sz) val (fun i d hd => by
          obtain ⟨q, hq, rfl⟩ := getE_map_pv hd
          exact ⟨(hval i q hq).1, .pv _ _ (hval i q hq).2⟩) (unders_pv L.next _)
        cases hx with
        | aref _ _ _ _ v' h1 h2 h3 =>
          have := (h2 sz es hk).2 hn (by have := getE_lt hp; omega)
          exact fin (μ k).blk (i * sz + c) this d v hr hrel hu hK
      | fz es =>
        simp only [hk] at hv
        obtain ⟨hn, p, hp, hv⟩ := hv
        cases hx with
        | aref _ _ _ _ v' h1 h2 h3 =>
          obtain ⟨sz, hsz, he⟩ := (h3 es hk).2 hn p hp
          obtain ⟨val, hval⟩ := fz_cells h hk hp hsz
          obtain ⟨d, v, hr, hrel, hu, hK⟩ := load_rel (μ := μ) (L := L) (w := w) (T := Tot M μ L) hv (μ k).blk (i * sz) val (fun i d hd => by
            obtain ⟨q, hq, rfl⟩ := getE_map_pv hd
            exact ⟨(hval i q hq).1, .pv _ _ (hval i q hq).2⟩) (unders_pv L.next _)
          exact fin (μ k).blk (i * sz + c) he d v hr hrel hu hK
      | var => simp [hk] at hv
      | mp => simp [hk] at hv
      | row => simp [hk] at hv
      | gone => simp [hk] at hv
  | _ => simp at hv
end
end Go.Dv
namespace Go.Dv
open Go.RowKit (Below)

theorem splice_len {α : Type} {l cs : List α} {off : Nat} (h : off + cs.length ≤ l.length) : (splice l off cs).length = l.length := by
  simp [splice]; omega
theorem splice_get {α : Type} {l cs : List α} {off : Nat} (h : off + cs.length ≤ l.length) (i : Nat) :
    (splice l off cs)[i]? = if i < off then l[i]? else if i < off + cs.length then cs[i - off]? else l[i]? := by
  unfold splice
  by_cases h1 : i < off
  · simp only [if_pos h1]
    rw [List.append_assoc, List.getElem?_append_left (by simp; omega), List.getElem?_take, if_pos h1]
  · simp only [if_neg h1]
    rw [List.append_assoc, List.getElem?_append_right (by simp; omega)]
    have hl : (l.take off).length = off := by simp; omega
    rw [hl]
    by_cases h2 : i < off + cs.length
    · rw [if_pos h2, List.getElem?_append_left (by omega)]
    · rw [if_neg h2, List.getElem?_append_right (by omega), List.getElem?_drop]
      congr 1; omega

theorem setRow_size (w : World) (g : Nat) (cs : Array Value) : (w.setRow g cs).heap.size = w.heap.size := by simp [World.setRow]

/-- The blocks of what may not be read as pure values for the time of a call. -/
def TotB (M : Nat → Prop) (μ : Nat → Loc) (L : DH) (b : Nat) : Prop := M b ∨ ∃ k o, L.get k = some o ∧ liveAt (μ k) o ∧ (μ k).blk = b ∧ (∀ sz es, o ≠ .arr sz es) ∧ ∀ cs, o ≠ .var cs
theorem TotB.tot {M : Nat → Prop} {μ : Nat → Loc} {L : DH} {b : Nat} (h : TotB M μ L b) : Tot M μ L b := by
  rcases h with h | ⟨k, o, h1, h2, h3, _⟩
  · exact .inl h
  · exact .inr ⟨k, o, h1, h2, h3⟩
theorem RelP.sub {T T' : Nat → Prop} {w : World} {p : PV} {v : Value} (h : RelP T w p v) (hT : ∀ b, T' b → T b) : RelP T' w p v :=
  h.mono (fun b hb => .inl (hT b hb)) (Nat.le_refl _) fun _ _ _ => rfl

section
variable {P : Program} {M : Nat → Prop} {w0 : W0} {μ : Nat → Loc} {L : DH} {w : World} {a : Act} {ρ : Operand → DV}

theorem arr_relP (h : HR M w0 μ L w) {k sz : Nat} {es : List PV} (hk : L.get k = some (.arr sz es)) (hc : (μ k).cap ≠ 0) {T' : Nat → Prop} (hb : ¬ T' (μ k).blk)
    (hT : ∀ b, T' b → Tot M μ L b) : RelP T' w (.sl es) (.slice (some ⟨(μ k).blk, 0, none⟩) es.length (μ k).cap) := by
  rcases h.obj k _ hk with ⟨h0, _⟩ | ⟨vs, ty, h0, h1, h2, h3, h4, h5⟩
  · exact absurd h0 hc
  · refine .sl _ 0 sz _ es (fun i j => (vs[i * sz + j]?).getD undef) hb (h.live k _ hk h0).1 h2 h4 (fun i p j q hp hq => ?_) (fun i p j q hp hq => ?_)
    · obtain ⟨v, hv, _⟩ := h5 i p j q hp hq
      simp [World.cell?, h1, hv]
    · obtain ⟨v, hv, hr⟩ := h5 i p j q hp hq
      rw [hv]; exact hr.sub hT
theorem buf_relP (h : HR M w0 μ L w) {k sz n : Nat} {es : List PV} {v : Value} (hk : L.get k = some (.arr sz es)) (hr : RelV (Tot M μ L) w μ L (.buf k n) v) (hn : n = es.length) {T' : Nat → Prop}
    (hb : (μ k).cap ≠ 0 → ¬ T' (μ k).blk) (hT : ∀ b, T' b → Tot M μ L b) : RelP T' w (.sl es) v := by
  cases hr with
  | buf _ _ _ h1 h2 h3 =>
    rcases (h2 sz es hk).2 hn with ⟨hc, h0, x, rfl⟩ | ⟨hc, rfl⟩
    · have : es = [] := by rw [h0] at hn; exact List.length_eq_zero_iff.1 hn.symm
      subst this; exact .e0 x 0
    · rw [hn]; exact arr_relP h hk hc (hb hc) hT
theorem fz_relP (h : HR M w0 μ L w) {k n : Nat} {es : List PV} {v : Value} (hk : L.get k = some (.fz es)) (hr : RelV (Tot M μ L) w μ L (.buf k n) v) (hn : n = es.length) : RelP (Tot M μ L) w (.sl es) v := by
  cases hr with
  | buf _ _ _ h1 h2 h3 =>
    rcases (h3 es hk).2 hn with ⟨hc, h0, x, rfl⟩ | ⟨hc, rfl⟩
    · have : es = [] := by rw [h0] at hn; exact List.length_eq_zero_iff.1 hn.symm
      subst this; exact .e0 x 0
    · rcases h.obj k _ hk with ⟨h1, _⟩ | ⟨h0, h1, h2⟩
      · exact absurd h1 hc
      · rw [hn]; exact h2

theorem arr_notB (h : HR M w0 μ L w) {k sz : Nat} {es : List PV} (hk : L.get k = some (.arr sz es)) (hc : (μ k).cap ≠ 0) : ¬ TotB M μ L (μ k).blk := by
  rintro (hM | ⟨j, o, h1, h2, h3, h4⟩)
  · exact (h.live k _ hk hc).2.1 hM
  · have := h.inj j o k _ h1 h2 hk hc h3
    subst this
    rw [hk] at h1
    exact h4.1 sz es (Option.some.inj h1).symm

theorem one_cells {p : PV} (h : p.one = true) : p.cells = [p] := by cases p <;> first | rfl | cases h
theorem var_notB (h : HR M w0 μ L w) {k : Nat} {cs : List DV} (hk : L.get k = some (.var cs)) : ¬ TotB M μ L (μ k).blk := by
  rintro (hM | ⟨j, o, h1, h2, h3, h4⟩)
  · exact (h.live k _ hk trivial).2.1 hM
  · have := h.inj j o k _ h1 h2 hk trivial h3
    subst this
    rw [hk] at h1
    exact h4.2 cs (Option.some.inj h1).symm
theorem brw1_rel (h : HR M w0 μ L w) {L' : DH} (hL : ∀ k o, L'.get k = some o → L.get k = some o) (d : DV) (v : Value) (K : PV → Prop) (hr : RelV (Tot M μ L) w μ L d v) (hb : brw1 d L' K) : ∃ p, K p ∧ RelP (TotB M μ L) w p v := by
  cases d with
  | pv p =>
    cases hr with
    | pv _ _ hp => exact ⟨p, hb, hp.sub fun _ => TotB.tot⟩
  | e0 =>
    cases hr with
    | e0 a => exact ⟨_, hb, .e0 a 0⟩
  | buf k n =>
    simp only [brw1] at hb
    cases hk : L'.get k with
    | none => simp [hk] at hb
    | some o =>
      cases o with
      | arr sz es =>
        simp only [hk] at hb
        exact ⟨_, hb.2, buf_relP h (hL k _ hk) hr hb.1 (fun hc => arr_notB h (hL k _ hk) hc) fun _ => TotB.tot⟩
      | fz es =>
        simp only [hk] at hb
        exact ⟨_, hb.2, (fz_relP h (hL k _ hk) hr hb.1).sub fun _ => TotB.tot⟩
      | var => simp [hk] at hb
      | mp => simp [hk] at hb
      | row => simp [hk] at hb
      | gone => simp [hk] at hb
  | _ => simp [brw1] at hb
theorem brw1s_rel (h : HR M w0 μ L w) {L' : DH} (hL : ∀ k o, L'.get k = some o → L.get k = some o) : ∀ (l : List DV) (vs : List Value) (K : List PV → Prop), l.length = vs.length →
    (∀ (i : Nat) d v, l[i]? = some d → vs[i]? = some v → RelV (Tot M μ L) w μ L d v) → brw1s l L' K → ∃ ps, K ps ∧ ps.length = vs.length ∧ ∀ (i : Nat) p v, ps[i]? = some p → vs[i]? = some v → RelP (TotB M μ L) w p v
  | [], vs, K => fun hl _ hb => ⟨[], hb, hl, fun i p v hp _ => by simp at hp⟩
  | d :: r, [], K => fun hl _ _ => by simp at hl
  | d :: r, v :: vs, K => fun hl hr hb => by
    simp only [brw1s] at hb
    obtain ⟨p, hb', hp⟩ := brw1_rel h hL d v _ (hr 0 d v rfl rfl) hb
    obtain ⟨ps, hK, hl', hps⟩ := brw1s_rel h hL r vs _ (by simpa using hl) (fun i d v hd hv => hr (i + 1) d v (by simpa using hd) (by simpa using hv)) hb'
    refine ⟨p :: ps, hK, by simp [hl'], fun i q u hq hu => ?_⟩
    cases i with
    | zero => simp at hq hu; subst hq; subst hu; exact hp
    | succ i => exact hps i q u (by simpa using hq) (by simpa using hu)
/-- A slice over the cells of an object, read for the time of a call. -/
theorem vbuf_brw (h : HR M w0 μ L w) {L' : DH} (hL : ∀ k o, L'.get k = some o → L.get k = some o) {k n : Nat} {v : Value} {K : PV → Prop} (hr : RelV (Tot M μ L) w μ L (.vbuf k n) v) (hb : brw (.vbuf k n) L' K) : ∃ p, K p ∧ RelP (TotB M μ L) w p v := by
  simp only [brw] at hb
  cases hk : L'.get k with
  | none => simp [hk] at hb
  | some o =>
    cases o with
    | arr sz es => simp [hk] at hb
    | fz es => simp [hk] at hb
    | mp => simp [hk] at hb
    | row => simp [hk] at hb
    | gone => simp [hk] at hb
    | var cs =>
      simp only [hk] at hb
      have hk' := hL k _ hk
      obtain ⟨vs, ty, b1, b2, b3⟩ := h.obj k _ hk'
      have hsz : cs.length ≤ vs.size := b2
      have htk : ∀ (i : Nat) v, (vs.toList.take cs.length)[i]? = some v → vs[i]? = some v := fun i v hv => by
        rw [List.getElem?_take] at hv
        split at hv
        · simpa using hv
        · cases hv
      have hkt : ∀ (i : Nat) (hi : i < cs.length), (vs.toList.take cs.length)[i]? = some (vs[i]'(by omega)) := fun i hi => by rw [List.getElem?_take, if_pos hi]; simp
      obtain ⟨ps, ⟨hn, hone, hK⟩, hl, hps⟩ := brw1s_rel h hL cs (vs.toList.take cs.length) _ (by simp; omega) (fun i d v hd hv => b3 i d v hd (htk i v hv)) hb
      cases hr with
      | vbuf _ _ _ g1 g2 =>
        obtain ⟨e1, e2⟩ := g2 cs hk'
        rw [e1, hn]
        have hll : ps.length = cs.length := by rw [hl]; simp; omega
        have hcell : ∀ (i : Nat) (p : PV), ps[i]? = some p → p.cells = [p] ∧ i < vs.size := fun i p hp => by
          rw [List.all_eq_true] at hone
          refine ⟨one_cells (hone p (List.mem_iff_getElem?.2 ⟨i, hp⟩)), ?_⟩
          have := (List.getElem?_eq_some_iff.1 hp).1
          omega
        refine ⟨_, hK, .sl _ 0 1 _ ps (fun i _ => (vs[i]?).getD undef) (var_notB h hk') (h.live k _ hk' trivial).1 (by omega) ?_ ?_ ?_⟩
        · intro p hp
          rw [List.all_eq_true] at hone
          rw [one_cells (hone p hp)]; rfl
        · intro i p j q hp hq
          obtain ⟨c1, c2⟩ := hcell i p hp
          rw [c1] at hq
          have hj : j = 0 := by
            have := (List.getElem?_eq_some_iff.1 hq).1
            simpa using this
          subst hj
          have hvi : vs[i]? = some vs[i] := Array.getElem?_eq_getElem c2
          simp [World.cell?, b1, hvi]
        · intro i p j q hp hq
          obtain ⟨c1, c2⟩ := hcell i p hp
          rw [c1] at hq
          have hj : j = 0 := by
            have := (List.getElem?_eq_some_iff.1 hq).1
            simpa using this
          subst hj
          have hq : p = q := by simpa using hq
          subst hq
          have hvi : vs[i]? = some vs[i] := Array.getElem?_eq_getElem c2
          rw [hvi]
          exact hps i p vs[i] hp (hkt i (by have := (List.getElem?_eq_some_iff.1 hp).1; omega))
mutual
theorem brw_rel (h : HR M w0 μ L w) {L' : DH} (hL : ∀ k o, L'.get k = some o → L.get k = some o) : ∀ (d : DV) (v : Value) (K : PV → Prop), RelV (Tot M μ L) w μ L d v → brw d L' K → ∃ p, K p ∧ RelP (TotB M μ L) w p v
  | .pv p, v, K => fun hr hb => by
    cases hr with
    | pv _ _ hp => exact ⟨p, hb, hp.sub fun _ => TotB.tot⟩
  | .e0, v, K => fun hr hb => by
    cases hr with
    | e0 a => exact ⟨_, hb, .e0 a 0⟩
  | .buf k n, v, K => fun hr hb => by
    simp only [brw] at hb
    cases hk : L'.get k with
    | none => simp [hk] at hb
    | some o =>
      cases o with
      | arr sz es =>
        simp only [hk] at hb
        exact ⟨_, hb.2, buf_relP h (hL k _ hk) hr hb.1 (fun hc => arr_notB h (hL k _ hk) hc) fun _ => TotB.tot⟩
      | fz es =>
        simp only [hk] at hb
        exact ⟨_, hb.2, (fz_relP h (hL k _ hk) hr hb.1).sub fun _ => TotB.tot⟩
      | var => simp [hk] at hb
      | mp => simp [hk] at hb
      | row => simp [hk] at hb
      | gone => simp [hk] at hb
  | .agg l, v, K => fun hr hb => by
    simp only [brw] at hb
    cases hr with
    | agg _ vs h1 h2 =>
      obtain ⟨ps, hK, hl, hp⟩ := brws_rel h hL l vs (fun ps => K (.agg ps)) h1 h2 hb
      exact ⟨_, hK, .agg ps vs hl hp⟩
  | .tup l, v, K => fun hr hb => by
    simp only [brw] at hb
    cases hr with
    | tup _ vs h1 h2 =>
      obtain ⟨ps, hK, hl, hp⟩ := brws_rel h hL l vs (fun ps => K (.tup ps)) h1 h2 hb
      exact ⟨_, hK, .tup ps vs hl hp⟩
  | .ref _ _, _, _ => fun _ hb => by simp [brw] at hb
  | .aref _ _ _ _, _, _ => fun _ hb => by simp [brw] at hb
  | .eptr _ _, _, _ => fun _ hb => by simp [brw] at hb
  | .mp _, _, _ => fun _ hb => by simp [brw] at hb
  | .vbuf _ _, _, _ => fun hr hb => vbuf_brw h hL hr hb
  | .rbuf _ _, _, _ => fun _ hb => by simp [brw] at hb
  | .clo _ _ _, _, _ => fun _ hb => by simp [brw] at hb
  | .fnv _, _, _ => fun _ hb => by simp [brw] at hb
  | .when _ _, _, _ => fun _ hb => by simp [brw] at hb
  | .raw _, _, _ => fun _ hb => by simp [brw] at hb
  | .any, _, _ => fun _ hb => by simp [brw] at hb
theorem brws_rel (h : HR M w0 μ L w) {L' : DH} (hL : ∀ k o, L'.get k = some o → L.get k = some o) : ∀ (l : List DV) (vs : List Value) (K : List PV → Prop), l.length = vs.length →
    (∀ (i : Nat) d v, l[i]? = some d → vs[i]? = some v → RelV (Tot M μ L) w μ L d v) → brws l L' K → ∃ ps, K ps ∧ ps.length = vs.length ∧ ∀ (i : Nat) p v, ps[i]? = some p → vs[i]? = some v → RelP (TotB M μ L) w p v
  | [], vs, K => fun hl _ hb => ⟨[], hb, hl, fun i p v hp _ => by simp at hp⟩
  | d :: r, [], K => fun hl _ _ => by simp at hl
  | d :: r, v :: vs, K => fun hl hr hb => by
    simp only [brws] at hb
    obtain ⟨p, hb', hp⟩ := brw_rel h hL d v _ (hr 0 d v rfl rfl) hb
    obtain ⟨ps, hK, hl', hps⟩ := brws_rel h hL r vs _ (by simpa using hl) (fun i d v hd hv => hr (i + 1) d v (by simpa using hd) (by simpa using hv)) hb'
    refine ⟨p :: ps, hK, by simp [hl'], fun i q u hq hu => ?_⟩
    cases i with
    | zero => simp at hq hu; subst hq; subst hu; exact hp
    | succ i => exact hps i q u (by simpa using hq) (by simpa using hu)
end

/-- A freeze is a step. -/
theorem freeze_step (h : HR M w0 μ L w) {k sz : Nat} {es : List PV} (hk : L.get k = some (.arr sz es)) :
    Stp L μ w (L.put k (.fz es)) μ w ∧ HR M w0 μ (L.put k (.fz es)) w := by
  have hμ : updμ μ k (μ k) = μ := by funext j; unfold updμ; split <;> simp_all
  have hkn := (h.keys k _ hk).1
  have hcells : ∀ q, q ∈ es → q.cells.length = sz := by
    intro q hq
    obtain ⟨i, hi⟩ := List.mem_iff_getElem?.1 hq
    exact (arr_cells h hk hi).2.1
  have := h.upd (L' := L.put k (.fz es)) (w' := w) k (.fz es) (μ k) (DH.put_same L k _) (fun j hj => DH.put_ne L _ hj) (Nat.le_refl _) rfl rfl hkn rfl rfl rfl rfl (Nat.le_refl _) (fun _ _ _ => rfl) (fun _ _ _ _ _ => rfl)
    (fun hl => hl.elim) (fun _ => ⟨(fun _ e => by cases e), (fun _ e => by cases e), (fun _ _ e => by cases e), (fun es' e => by cases e; exact .inr ⟨sz, es, hk, hcells, .inr ⟨rfl, rfl⟩⟩), (fun _ e => by cases e)⟩) (fun hs => by
      rw [hμ] at hs ⊢
      rcases h.obj k _ hk with ⟨h0, h1⟩ | ⟨vs, ty, h0, h1, h2, h3, h4, h5⟩
      · exact .inl ⟨h0, h1⟩
      · refine .inr ⟨h2, h0, ?_⟩
        refine arr_relP h hk h0 ?_ ?_
        · rintro (hM | ⟨j, o, g1, g2, g3⟩)
          · exact (h.live k _ hk h0).2.1 hM
          · by_cases e : j = k
            · subst e; rw [DH.put_same] at g1; obtain rfl := Option.some.inj g1; exact g2
            · rw [DH.put_ne L _ e] at g1; exact e (h.inj j o k _ g1 g2 hk h0 g3)
        · rintro b (hM | ⟨j, o, g1, g2, g3⟩)
          · exact .inl hM
          · by_cases e : j = k
            · subst e; rw [DH.put_same] at g1; obtain rfl := Option.some.inj g1; exact g2.elim
            · rw [DH.put_ne L _ e] at g1; exact .inr ⟨j, o, g1, g2, g3⟩)
  rw [hμ] at this
  exact this

theorem frz1_rel (d : DV) (L : DH) (v : Value) (K : PV → DH → Prop) (h : HR M w0 μ L w) (hr : RelV (Tot M μ L) w μ L d v) (hu : d.under L.next = true) (hb : frz1 d L K) :
    ∃ p L', K p L' ∧ HR M w0 μ L' w ∧ Stp L μ w L' μ w ∧ RelP (Tot M μ L') w p v ∧ ∀ k cs, L.get k = some (.var cs) → L'.get k = some (.var cs) := by
  cases d with
  | pv p =>
    cases hr with
    | pv _ _ hp => exact ⟨p, L, hb, h, Stp.refl L μ w (fun k o hk => (h.keys k o hk).1), hp, fun _ _ h => h⟩
  | e0 =>
    cases hr with
    | e0 a => exact ⟨_, L, hb, h, Stp.refl L μ w (fun k o hk => (h.keys k o hk).1), .e0 a 0, fun _ _ h => h⟩
  | buf k n =>
    simp only [frz1] at hb
    cases hk : L.get k with
    | none => simp [hk] at hb
    | some o =>
      cases o with
      | arr sz es =>
        simp only [hk] at hb
        obtain ⟨hs, h'⟩ := freeze_step h hk
        refine ⟨_, _, hb.2.2, h', hs, fz_relP h' (DH.put_same L k _) (hr.stp hs hu) hb.1, fun j cs hj => ?_⟩
        have hne : j ≠ k := fun e => by rw [e, hk] at hj; cases hj
        rw [DH.put_ne L _ hne]; exact hj
      | fz es =>
        simp only [hk] at hb
        exact ⟨_, L, hb.2, h, Stp.refl L μ w (fun k o hk => (h.keys k o hk).1), fz_relP h hk hr hb.1, fun _ _ h => h⟩
      | var => simp [hk] at hb
      | mp => simp [hk] at hb
      | row => simp [hk] at hb
      | gone => simp [hk] at hb
  | _ => simp [frz1] at hb
theorem frz1s_rel : ∀ (l : List DV) (L : DH) (vs : List Value) (K : List PV → DH → Prop), HR M w0 μ L w → l.length = vs.length →
    (∀ (i : Nat) d v, l[i]? = some d → vs[i]? = some v → RelV (Tot M μ L) w μ L d v) → DV.unders L.next l = true → frz1s l L K →
    ∃ ps L', K ps L' ∧ HR M w0 μ L' w ∧ Stp L μ w L' μ w ∧ ps.length = vs.length ∧ (∀ (i : Nat) p v, ps[i]? = some p → vs[i]? = some v → RelP (Tot M μ L') w p v) ∧ ∀ k cs, L.get k = some (.var cs) → L'.get k = some (.var cs)
  | [], L, vs, K => fun h hl _ _ hb => ⟨[], L, hb, h, Stp.refl L μ w (fun k o hk => (h.keys k o hk).1), hl, fun i p v hp _ => by simp at hp, fun _ _ h => h⟩
  | d :: r, L, [], K => fun _ hl _ _ _ => by simp at hl
  | d :: r, L, v :: vs, K => fun h hl hr hu hb => by
    simp only [frz1s] at hb
    simp only [DV.unders, Bool.and_eq_true] at hu
    obtain ⟨p, L1, hb', h1, hs1, hp, hv1⟩ := frz1_rel d L v _ h (hr 0 d v rfl rfl) hu.1 hb
    obtain ⟨ps, L2, hK, h2, hs2, hl', hps, hv2⟩ := frz1s_rel r L1 vs _ h1 (by simpa using hl) (fun i d v hd hv => (hr (i + 1) d v (by simpa using hd) (by simpa using hv)).stp hs1 (unders_iff.1 hu.2 i d hd)) (DV.unders_mono hs1.next r hu.2) hb'
    refine ⟨p :: ps, L2, hK, h2, hs1.trans hs2, by simp [hl'], fun i q u hq hu => ?_, fun k cs hk => hv2 k cs (hv1 k cs hk)⟩
    cases i with
    | zero => simp at hq hu; subst hq; subst hu; exact hp.stp hs2
    | succ i => exact hps i q u (by simpa using hq) (by simpa using hu)
/-- An object that may not be named any more. -/
theorem gone_step (h : HR M w0 μ L w) {k : Nat} {o : DObj} (hk : L.get k = some o) : Stp L μ w (L.put k .gone) μ w ∧ HR M w0 μ (L.put k .gone) w := by
  have hμ : updμ μ k (μ k) = μ := by funext j; unfold updμ; split <;> simp_all
  have hkn := (h.keys k _ hk).1
  have := h.upd (L' := L.put k .gone) (w' := w) k .gone (μ k) (DH.put_same L k _) (fun j hj => DH.put_ne L _ hj) (Nat.le_refl _) rfl rfl hkn rfl rfl rfl rfl (Nat.le_refl _) (fun _ _ _ => rfl) (fun _ _ _ _ _ => rfl)
    (fun hl => hl.elim) (fun _ => ⟨(fun _ e => by cases e), (fun _ e => by cases e), (fun _ _ e => by cases e), (fun _ e => by cases e), (fun _ e => by cases e)⟩) (fun _ => trivial)
  rw [hμ] at this
  exact this
/-- A slice over the cells of an object, frozen. -/
theorem vbuf_frz {k n : Nat} {L : DH} {v : Value} {K : PV → DH → Prop} (h : HR M w0 μ L w) (hr : RelV (Tot M μ L) w μ L (.vbuf k n) v) (hb : frz (.vbuf k n) L K) :
    ∃ p L', K p L' ∧ HR M w0 μ L' w ∧ Stp L μ w L' μ w ∧ RelP (Tot M μ L') w p v := by
  simp only [frz] at hb
  cases hk : L.get k with
  | none => simp [hk] at hb
  | some o =>
    cases o with
    | arr sz es => simp [hk] at hb
    | fz es => simp [hk] at hb
    | mp => simp [hk] at hb
    | row => simp [hk] at hb
    | gone => simp [hk] at hb
    | var cs =>
      simp only [hk] at hb
      obtain ⟨vs, ty, b1, b2, b3⟩ := h.obj k _ hk
      have hsz : cs.length ≤ vs.size := b2
      have htk : ∀ (i : Nat) v, (vs.toList.take cs.length)[i]? = some v → vs[i]? = some v := fun i v hv => by
        rw [List.getElem?_take] at hv
        split at hv
        · simpa using hv
        · cases hv
      have hkt : ∀ (i : Nat) (hi : i < cs.length), (vs.toList.take cs.length)[i]? = some (vs[i]'(by omega)) := fun i hi => by rw [List.getElem?_take, if_pos hi]; simp
      obtain ⟨ps, L1, ⟨hn, hone, _, hK⟩, h1, hs1, hl, hps, hv1⟩ := frz1s_rel cs L (vs.toList.take cs.length) _ h (by simp; omega) (fun i d v hd hv => b3 i d v hd (htk i v hv)) (h.keys k _ hk).2 hb
      have hk1 := hv1 k cs hk
      obtain ⟨hs2, h2⟩ := gone_step h1 hk1
      refine ⟨_, _, hK, h2, hs1.trans hs2, ?_⟩
      cases hr with
      | vbuf _ _ _ g1 g2 =>
        obtain ⟨e1, e2⟩ := g2 cs hk
        rw [e1, hn]
        have hsub : ∀ b, Tot M μ (L1.put k .gone) b → Tot M μ L1 b := by
          rintro b (hM | ⟨j, o, q1, q2, q3⟩)
          · exact .inl hM
          · by_cases e : j = k
            · subst e; rw [DH.put_same] at q1; obtain rfl := Option.some.inj q1; exact q2.elim
            · rw [DH.put_ne L1 _ e] at q1; exact .inr ⟨j, o, q1, q2, q3⟩
        have hll : ps.length = cs.length := by rw [hl]; simp; omega
        have hcell : ∀ (i : Nat) (p : PV), ps[i]? = some p → p.cells = [p] ∧ i < vs.size := fun i p hp => by
          rw [List.all_eq_true] at hone
          refine ⟨one_cells (hone p (List.mem_iff_getElem?.2 ⟨i, hp⟩)), ?_⟩
          have := (List.getElem?_eq_some_iff.1 hp).1
          omega
        refine .sl _ 0 1 _ ps (fun i _ => (vs[i]?).getD undef) ?_ (h.live k _ hk trivial).1 (by omega) ?_ ?_ ?_
        · rintro (hM | ⟨j, o, q1, q2, q3⟩)
          · exact (h1.live k _ hk1 trivial).2.1 hM
          · by_cases e : j = k
            · subst e; rw [DH.put_same] at q1; obtain rfl := Option.some.inj q1; exact q2
            · rw [DH.put_ne L1 _ e] at q1; exact e (h1.inj j o k _ q1 q2 hk1 trivial q3)
        · intro p hp
          rw [List.all_eq_true] at hone
          rw [one_cells (hone p hp)]; rfl
        · intro i p j q hp hq
          obtain ⟨c1, c2⟩ := hcell i p hp
          rw [c1] at hq
          have hj : j = 0 := by
            have := (List.getElem?_eq_some_iff.1 hq).1
            simpa using this
          subst hj
          have hvi : vs[i]? = some vs[i] := Array.getElem?_eq_getElem c2
          simp [World.cell?, b1, hvi]
        · intro i p j q hp hq
          obtain ⟨c1, c2⟩ := hcell i p hp
          rw [c1] at hq
          have hj : j = 0 := by
            have := (List.getElem?_eq_some_iff.1 hq).1
            simpa using this
          subst hj
          have hq : p = q := by simpa using hq
          subst hq
          have hvi : vs[i]? = some vs[i] := Array.getElem?_eq_getElem c2
          rw [hvi]
          exact (hps i p vs[i] hp (hkt i (by have := (List.getElem?_eq_some_iff.1 hp).1; omega))).sub hsub
mutual
theorem frz_rel : ∀ (d : DV) (L : DH) (v : Value) (K : PV → DH → Prop), HR M w0 μ L w → RelV (Tot M μ L) w μ L d v → d.under L.next = true → frz d L K →
    ∃ p L', K p L' ∧ HR M w0 μ L' w ∧ Stp L μ w L' μ w ∧ RelP (Tot M μ L') w p v
  | .pv p, L, v, K => fun h hr _ hb => by
    cases hr with
    | pv _ _ hp => exact ⟨p, L, hb, h, Stp.refl L μ w (fun k o hk => (h.keys k o hk).1), hp⟩
  | .e0, L, v, K => fun h hr _ hb => by
    cases hr with
    | e0 a => exact ⟨_, L, hb, h, Stp.refl L μ w (fun k o hk => (h.keys k o hk).1), .e0 a 0⟩
  | .buf k n, L, v, K => fun h hr hu hb => by
    simp only [frz] at hb
    cases hk : L.get k with
    | none => simp [hk] at hb
    | some o =>
      cases o with
      | arr sz es =>
        simp only [hk] at hb
        obtain ⟨hs, h'⟩ := freeze_step h hk
        refine ⟨_, _, hb.2.2, h', hs, ?_⟩
        exact fz_relP h' (DH.put_same L k _) (hr.stp hs hu) hb.1
      | fz es =>
        simp only [hk] at hb
        exact ⟨_, L, hb.2, h, Stp.refl L μ w (fun k o hk => (h.keys k o hk).1), fz_relP h hk hr hb.1⟩
      | var => simp [hk] at hb
      | mp => simp [hk] at hb
      | row => simp [hk] at hb
      | gone => simp [hk] at hb
  | .agg l, L, v, K => fun h hr hu hb => by
    simp only [frz] at hb
    cases hr with
    | agg _ vs h1 h2 =>
      obtain ⟨ps, L', hK, h', hs, hl, hp⟩ := frzs_rel l L vs _ h h1 h2 (by simpa [DV.under] using hu) hb
      exact ⟨_, L', hK, h', hs, .agg ps vs hl hp⟩
  | .tup l, L, v, K => fun h hr hu hb => by
    simp only [frz] at hb
    cases hr with
    | tup _ vs h1 h2 =>
      obtain ⟨ps, L', hK, h', hs, hl, hp⟩ := frzs_rel l L vs _ h h1 h2 (by simpa [DV.under] using hu) hb
      exact ⟨_, L', hK, h', hs, .tup ps vs hl hp⟩
  | .ref _ _, _, _, _ => fun _ _ _ hb => by simp [frz] at hb
  | .aref _ _ _ _, _, _, _ => fun _ _ _ hb => by simp [frz] at hb
  | .eptr _ _, _, _, _ => fun _ _ _ hb => by simp [frz] at hb
  | .mp _, _, _, _ => fun _ _ _ hb => by simp [frz] at hb
  | .vbuf _ _, _, _, _ => fun h hr _ hb => vbuf_frz h hr hb
  | .rbuf _ _, _, _, _ => fun _ _ _ hb => by simp [frz] at hb
  | .clo _ _ _, _, _, _ => fun _ _ _ hb => by simp [frz] at hb
  | .fnv _, _, _, _ => fun _ _ _ hb => by simp [frz] at hb
  | .when _ _, _, _, _ => fun _ _ _ hb => by simp [frz] at hb
  | .raw _, _, _, _ => fun _ _ _ hb => by simp [frz] at hb
  | .any, _, _, _ => fun _ _ _ hb => by simp [frz] at hb
theorem frzs_rel : ∀ (l : List DV) (L : DH) (vs : List Value) (K : List PV → DH → Prop), HR M w0 μ L w → l.length = vs.length →
    (∀ (i : Nat) d v, l[i]? = some d → vs[i]? = some v → RelV (Tot M μ L) w μ L d v) → DV.unders L.next l = true → frzs l L K →
    ∃ ps L', K ps L' ∧ HR M w0 μ L' w ∧ Stp L μ w L' μ w ∧ ps.length = vs.length ∧ ∀ (i : Nat) p v, ps[i]? = some p → vs[i]? = some v → RelP (Tot M μ L') w p v
  | [], L, vs, K => fun h hl _ _ hb => ⟨[], L, hb, h, Stp.refl L μ w (fun k o hk => (h.keys k o hk).1), hl, fun i p v hp _ => by simp at hp⟩
  | d :: r, L, [], K => fun _ hl _ _ _ => by simp at hl
  | d :: r, L, v :: vs, K => fun h hl hr hu hb => by
    simp only [frzs] at hb
    simp only [DV.unders, Bool.and_eq_true] at hu
    obtain ⟨p, L1, hb', h1, hs1, hp⟩ := frz_rel d L v _ h (hr 0 d v rfl rfl) hu.1 hb
    obtain ⟨ps, L2, hK, h2, hs2, hl', hps⟩ := frzs_rel r L1 vs _ h1 (by simpa using hl) (fun i d v hd hv => (hr (i + 1) d v (by simpa using hd) (by simpa using hv)).stp hs1 (unders_iff.1 hu.2 i d hd)) (DV.unders_mono hs1.next r hu.2) hb'
    refine ⟨p :: ps, L2, hK, h2, hs1.trans hs2, by simp [hl'], fun i q u hq hu => ?_⟩
    cases i with
    | zero => simp at hq hu; subst hq; subst hu; exact hp.stp hs2
    | succ i => exact hps i q u (by simpa using hq) (by simpa using hu)
end

mutual
theorem pur_rel {T : Nat → Prop} : ∀ (d : DV) (v : Value) (K : PV → Prop), RelV T w μ L d v → pur d K → ∃ p, K p ∧ RelP T w p v
  | .pv p, v, K => fun hr hb => by
    cases hr with
    | pv _ _ hp => exact ⟨p, hb, hp⟩
  | .e0, v, K => fun hr hb => by
    cases hr with
    | e0 a => exact ⟨_, hb, .e0 a 0⟩
  | .buf k n, v, K => fun _ hb => by simp [pur] at hb
  | .agg l, v, K => fun hr hb => by
    simp only [pur] at hb
    cases hr with
    | agg _ vs h1 h2 =>
      obtain ⟨ps, hK, hl, hp⟩ := purs_rel l vs _ h1 h2 hb
      exact ⟨_, hK, .agg ps vs hl hp⟩
  | .tup l, v, K => fun hr hb => by
    simp only [pur] at hb
    cases hr with
    | tup _ vs h1 h2 =>
      obtain ⟨ps, hK, hl, hp⟩ := purs_rel l vs _ h1 h2 hb
      exact ⟨_, hK, .tup ps vs hl hp⟩
  | .ref _ _, _, _ => fun _ hb => by simp [pur] at hb
  | .aref _ _ _ _, _, _ => fun _ hb => by simp [pur] at hb
  | .eptr _ _, _, _ => fun _ hb => by simp [pur] at hb
  | .mp _, _, _ => fun _ hb => by simp [pur] at hb
  | .vbuf _ _, _, _ => fun _ hb => by simp [pur] at hb
  | .rbuf _ _, _, _ => fun _ hb => by simp [pur] at hb
  | .clo _ _ _, _, _ => fun _ hb => by simp [pur] at hb
  | .fnv _, _, _ => fun _ hb => by simp [pur] at hb
  | .when _ _, _, _ => fun _ hb => by simp [pur] at hb
  | .raw _, _, _ => fun _ hb => by simp [pur] at hb
  | .any, _, _ => fun _ hb => by simp [pur] at hb
theorem purs_rel {T : Nat → Prop} : ∀ (l : List DV) (vs : List Value) (K : List PV → Prop), l.length = vs.length →
    (∀ (i : Nat) d v, l[i]? = some d → vs[i]? = some v → RelV T w μ L d v) → purs l K → ∃ ps, K ps ∧ ps.length = vs.length ∧ ∀ (i : Nat) p v, ps[i]? = some p → vs[i]? = some v → RelP T w p v
  | [], vs, K => fun hl _ hb => ⟨[], hb, hl, fun i p v hp _ => by simp at hp⟩
  | d :: r, [], K => fun hl _ _ => by simp at hl
  | d :: r, v :: vs, K => fun hl hr hb => by
    simp only [purs] at hb
    obtain ⟨p, hb', hp⟩ := pur_rel d v _ (hr 0 d v rfl rfl) hb
    obtain ⟨ps, hK, hl', hps⟩ := purs_rel r vs _ (by simpa using hl) (fun i d v hd hv => hr (i + 1) d v (by simpa using hd) (by simpa using hv)) hb'
    refine ⟨p :: ps, hK, by simp [hl'], fun i q u hq hu => ?_⟩
    cases i with
    | zero => simp at hq hu; subst hq; subst hu; exact hp
    | succ i => exact hps i q u (by simpa using hq) (by simpa using hu)
end

theorem beq_of {a b : Nat} (h : Nat.beq a b = true) : a = b := Nat.eq_of_beq_eq_true h

theorem res_store {K : DV → DH → Prop} {o : Oper} {t : TypeId} {x y : Operand} {dr : Bool} (ho : o.op = .store t x y) (h : HR M w0 μ L w) (hρ : Rho M μ L w ρ a) (hv : vcOp P M w0 dr ρ L o K) : OpRes P M w0 μ L w K o a := by
  have hx := hρ.rel x
  have hy := hρ.rel y
  have hyu := cells_under (hρ.und y)
  simp only [vcOp, ho] at hv
  generalize ρ y = dy at hv hy hyu
  generalize hd : ρ x = d at hv hx
  -- the store itself
  have run : ∀ (b c : Nat) (vs : Array Value) (ty : TypeId), a.eval x = .pointer (some ⟨b, c, none⟩) → w.heap[b]? = some (.cells vs ty (0, 0)) → infoB P t = true → (a.eval y).cells.size = szOf P t →
      c + (a.eval y).cells.size ≤ vs.size → (∀ u, u ∈ (a.eval y).cells.toList → u.oneCell' = true) →
      (execOp a.eval o).run P w = .ok .skip (w.setRow b (splice vs.toList c (a.eval y).cells.toList).toArray) := by
    intro b c vs ty he hb hi hs hl h1
    obtain ⟨i, hi⟩ := Option.isSome_iff_exists.1 hi
    have := run_storeCells_at (P := P) b c ty (a.eval y).cells.toList 0 vs w hb (by simpa using hl) h1
    refine run_skp ?_ |> (fun hh => by rw [show execOp a.eval o = (do Instr.storeAt t (a.eval x) (a.eval y); pure Next.skip : Sem Next) from by simp only [execOp, ho]]; exact hh)
    simp only [Instr.storeAt, Instr.sureAddr, he, Sem.run_bind, Sem.run_pure, Result.andThen_ok, storeVar, run_szOf hi, hs, ne_eq, not_true_eq_false, if_false]
    simp only [Nat.add_zero] at this
    rw [this]
    simp [splice]
  cases d with
  | ref k c =>
    simp only at hv
    cases hk : L.get k with
    | none => simp [hk] at hv
    | some ob =>
      cases ob with
      | var cs =>
        simp only [hk] at hv
        generalize hcnd : (infoB P t && Nat.ble L.lo k && Nat.beq dy.cells.length (szOf P t) && Nat.ble (c + dy.cells.length) cs.length && dy.cells.all DV.one) = cnd at hv
        cases cnd with
        | false => exact hv.elim
        | true =>
          simp only [Bool.and_eq_true] at hcnd
          obtain ⟨⟨⟨⟨hi, hlo⟩, hsz⟩, hfit⟩, hone⟩ := hcnd
          have hlo' : L.lo ≤ k := by simpa using hlo
          have hfit' : c + dy.cells.length ≤ cs.length := by simpa using hfit
          obtain ⟨c1, c2, c3⟩ := cells_rel hy hone
          obtain ⟨vs, ty, h1, h2, h3⟩ := h.obj k _ hk
          have he : a.eval x = .pointer (some ⟨(μ k).blk, c, none⟩) := by
            cases hx with
            | ref _ _ _ g1 g2 => exact g2 cs hk
          have hlen : c + (a.eval y).cells.size ≤ vs.size := by omega
          have hrun := run (μ k).blk c vs ty he h1 hi (by rw [← c1]; exact beq_of hsz) hlen c3
          have hcsu := (h.keys k _ hk).2
          have hsu : DV.unders L.next (splice cs c dy.cells) = true := by
            rw [unders_mem] at *
            intro d hd
            simp only [splice, List.mem_append] at hd
            rcases hd with (hd | hd) | hd
            · exact unders_mem.1 hcsu d (List.mem_of_mem_take hd)
            · exact hyu d hd
            · exact unders_mem.1 hcsu d (List.mem_of_mem_drop hd)
          obtain ⟨hs, hr⟩ := h.write (w' := w.setRow (μ k).blk (splice vs.toList c (a.eval y).cells.toList).toArray) k _ (.var (splice cs c dy.cells)) hk trivial hlo' hsu rfl rfl rfl (setRow_size _ _ _).symm
            (fun b hb => setRow_other w _ _ _ hb) ⟨(fun _ _ => ⟨cs, hk, rfl⟩), (fun _ e => by cases e), (fun _ _ e => by cases e), (fun _ e => by cases e), (fun _ e => by cases e)⟩ (fun hs => by
              refine ⟨_, ty, by rw [updμ_same]; exact setRow_heap w _ _ _ ty _ h1, ?_, ?_⟩
              · simp only [List.size_toArray]
                rw [splice_len hfit', splice_len (by simpa using hlen)]; simpa using h2
              · intro i d v hd hv
                simp only [List.getElem?_toArray] at hv
                rw [splice_get (by simpa using hlen)] at hv
                rw [splice_get hfit'] at hd
                have hl2 : (a.eval y).cells.toList.length = dy.cells.length := by simp [c1]
                rw [hl2] at hv
                split at hd
                · rename_i g; rw [if_pos g] at hv; exact (h3 i d v hd (by simpa using hv)).stp hs (unders_iff.1 hcsu i d hd)
                · rename_i g; rw [if_neg g] at hv
                  split at hd
                  · rename_i g'; rw [if_pos g'] at hv; exact (c2 (i - c) d v hd (by simpa using hv)).stp hs (unders_iff.1 hyu _ d hd)
                  · rename_i g'; rw [if_neg g'] at hv; exact (h3 i d v hd (by simpa using hv)).stp hs (unders_iff.1 hcsu i d hd))
          exact .skip hrun ⟨_, .tup [], _, hv, hr, .tup [] [] rfl (fun i d v hd _ => by simp at hd), rfl, hs⟩
      | arr => simp [hk] at hv
      | fz => simp [hk] at hv
      | mp => simp [hk] at hv
      | row => simp [hk] at hv
      | gone => simp [hk] at hv
  | aref k n i c =>
    simp only at hv
    generalize hcnd : (infoB P t && Nat.ble L.lo k && Nat.beq dy.cells.length (szOf P t) && dy.cells.all DV.one && !dr) = cnd at hv
    cases hk : L.get k with
    | none => simp [hk] at hv
    | some ob =>
      cases ob with
      | arr sz es =>
        cases cnd with
        | false => simp [hk] at hv
        | true =>
          simp only [hk] at hv
          obtain ⟨hn, p, hp, hfit, hv⟩ := hv
          simp only [Bool.and_eq_true] at hcnd
          obtain ⟨⟨⟨⟨hi, hlo⟩, hsz⟩, hone⟩, _⟩ := hcnd
          have hlo' : L.lo ≤ k := by simpa using hlo
          obtain ⟨c1, c2, c3⟩ := cells_rel hy hone
          obtain ⟨qs, hv, hql, hqr⟩ := purs_rel dy.cells (a.eval y).cells.toList _ (by simpa using c1) (fun i d v hd hv => c2 i d v hd (by simpa using hv)) hv
          have hqone : ∀ q, q ∈ qs → q.cells = [q] := by
            intro q hq
            obtain ⟨j, hj⟩ := List.mem_iff_getElem?.1 hq
            have hlt := getE_lt hj
            have hv1 : (a.eval y).cells.toList[j]? = some (a.eval y).cells.toList[j] := List.getElem?_eq_getElem (by omega)
            have ho1 := c3 _ (List.getElem_mem (l := (a.eval y).cells.toList) (n := j) (by omega))
            have := hqr j q _ hj hv1
            generalize (a.eval y).cells.toList[j] = u at this ho1
            cases q <;> first | rfl | (cases this; simp [Value.oneCell'] at ho1)
          obtain ⟨hc0, hpl, _⟩ := arr_cells h hk hp
          have hpil := getE_lt hp
          rcases h.obj k _ hk with ⟨g0, g1⟩ | ⟨vs, ty, h0, h1, h2, h3, h4, h5⟩
          · exact absurd g0 hc0
          have he : a.eval x = .pointer (some ⟨(μ k).blk, i * sz + c, none⟩) := by
            cases hx with
            | aref _ _ _ _ _ g1 g2 g3 => exact (g2 sz es hk).2 hn (by omega)
          have hql' : qs.length = dy.cells.length := by rw [hql]; simp [c1]
          have hblk : (i + 1) * sz ≤ vs.size := Nat.le_trans (Nat.mul_le_mul_right sz (by omega)) h3
          rw [Nat.succ_mul] at hblk
          have hlen : i * sz + c + (a.eval y).cells.size ≤ vs.size := by omega
          have hrun := run (μ k).blk (i * sz + c) vs ty he h1 hi (by rw [← c1]; exact beq_of hsz) hlen c3
          -- the new element
          have hpc : (p.put c qs).cells = splice p.cells c qs := by
            cases p with
            | agg l => rfl
            | _ =>
              simp only [PV.cells, List.length_singleton] at hpl
              subst hpl
              rcases qs with _ | ⟨q, _ | ⟨q2, r⟩⟩
              · have : c = 0 ∨ c = 1 := by simp at hql'; omega
                rcases this with rfl | rfl <;> rfl
              · have : c = 0 := by simp at hql'; omega
                subst this
                simp [PV.put, PV.cells, splice]
                have := hqone q (by simp)
                simpa [PV.cells] using this
              · simp at hql'; omega
          have hpl' : (p.put c qs).cells.length = sz := by rw [hpc, splice_len (by omega)]; exact hpl
          obtain ⟨hs, hr⟩ := h.write (w' := w.setRow (μ k).blk (splice vs.toList (i * sz + c) (a.eval y).cells.toList).toArray) k _ (.arr sz (es.set i (p.put c qs))) hk hc0 hlo' rfl rfl rfl rfl (setRow_size _ _ _).symm
            (fun b hb => setRow_other w _ _ _ hb) ⟨(fun _ e => by cases e), (fun _ e => by cases e), (fun _ _ e => by cases e; exact ⟨es, hk, .inr ⟨by simp, rfl⟩⟩), (fun _ e => by cases e), (fun _ e => by cases e)⟩ (fun hs => by
              refine .inr ⟨_, ty, by rw [updμ_same]; exact hc0, by rw [updμ_same]; exact setRow_heap w _ _ _ ty _ h1, by rw [updμ_same]; simpa using h2, ?_, ?_, ?_⟩
              · rw [updμ_same]
                simp only [List.size_toArray]
                rw [splice_len (by simpa using hlen)]; simpa using h3
              · intro q hq
                rcases List.mem_or_eq_of_mem_set hq with hq | rfl
                · exact h4 q hq
                · exact hpl'
              · intro i' p' j q hp' hj
                have hjl : j < sz := by
                  have := getE_lt hj
                  rw [List.getElem?_set] at hp'
                  split at hp'
                  · obtain rfl := Option.some.inj hp'; omega
                  · have := h4 p' (List.mem_of_getElem? hp'); omega
                simp only [List.getElem?_toArray]
                rw [splice_get (by simpa using hlen)]
                have hl2 : (a.eval y).cells.toList.length = qs.length := by omega
                rw [hl2]
                rw [List.getElem?_set] at hp'
                split at hp'
                · rename_i e
                  subst e
                  obtain rfl := Option.some.inj hp'
                  rw [hpc, splice_get (by omega)] at hj
                  by_cases g : j < c
                  · rw [if_pos g] at hj
                    rw [if_pos (by omega)]
                    obtain ⟨v, hv, hr⟩ := h5 i p j q hp hj
                    exact ⟨v, by simpa using hv, hr.stp hs⟩
                  · rw [if_neg g] at hj
                    rw [if_neg (by omega)]
                    by_cases g' : j < c + qs.length
                    · rw [if_pos g'] at hj
                      rw [if_pos (by omega)]
                      have e2 : i * sz + j - (i * sz + c) = j - c := by omega
                      rw [e2]
                      have hlt := getE_lt hj
                      have hv1 : (a.eval y).cells.toList[j - c]? = some (a.eval y).cells.toList[j - c] := List.getElem?_eq_getElem (by omega)
                      exact ⟨_, hv1, (hqr (j - c) q _ hj hv1).stp hs⟩
                    · rw [if_neg g'] at hj
                      rw [if_neg (by omega)]
                      obtain ⟨v, hv, hr⟩ := h5 i p j q hp hj
                      exact ⟨v, by simpa using hv, hr.stp hs⟩
                · rename_i e
                  obtain ⟨v, hv, hr⟩ := h5 i' p' j q hp' hj
                  have : i' * sz + j < i * sz + c ∨ i * sz + c + qs.length ≤ i' * sz + j := by
                    rcases Nat.lt_or_gt_of_ne e with g | g
                    · right
                      have := Nat.mul_le_mul_right sz (Nat.succ_le_of_lt g)
                      rw [Nat.succ_mul] at this
                      omega
                    · left
                      have := Nat.mul_le_mul_right sz (Nat.succ_le_of_lt g)
                      rw [Nat.succ_mul] at this
                      omega
                  rcases this with g | g
                  · rw [if_pos g]; exact ⟨v, by simpa using hv, hr.stp hs⟩
                  · rw [if_neg (by omega), if_neg (by omega)]; exact ⟨v, by simpa using hv, hr.stp hs⟩)
          exact .skip hrun ⟨_, .tup [], _, hv, hr, .tup [] [] rfl (fun i d v hd _ => by simp at hd), rfl, hs⟩
      | var => cases cnd <;> simp [hk] at hv
      | fz => cases cnd <;> simp [hk] at hv
      | mp => cases cnd <;> simp [hk] at hv
      | row => cases cnd <;> simp [hk] at hv
      | gone => cases cnd <;> simp [hk] at hv
  | _ => simp at hv
end
end Go.Dv
