/- The layer Dv, part 1: pure values, the local heap, their relation to the model's memory. Over any program. -/
import Derived.Calls
import Derived.Orders
import Derived.Below
import Derived.Laws.MakeOwn
import Derived.Laws.StructEq
import Derived.Still
import Derived.KernelRfl
namespace Go.Dv
open Go.RowKit (Below)

inductive PV where
  | int (k : IntKind) (n : Int)
  | bool (b : Bool)
  | str (s : ByteArray)
  | nil
  | sl (l : List PV)
  | agg (l : List PV)
  | tup (l : List PV)

def PV.cells : PV → List PV
  | .agg l => l
  | p => [p]

def PV.one : PV → Bool
  | .agg _ => false
  | .tup _ => false
  | _ => true

inductive DV where
  | pv (p : PV)
  | e0
  | agg (l : List DV)
  | tup (l : List DV)
  | ref (k c : Nat)
  | aref (k n i c : Nat)
  | eptr (p : PV) (c : Nat)
  | buf (k n : Nat)
  | mp (k : Nat)
  | clo (f : FuncId) (first caps : List DV)
  | fnv (v : Value)
  | raw (v : Value)
  | when (c : Bool) (d : DV)
  | any

def DV.cells : DV → List DV
  | .agg l => l
  | .pv (.agg l) => l.map .pv
  | d => [d]

def DV.one : DV → Bool
  | .pv p => p.one
  | .agg _ => false
  | .tup _ => false
  | .any => false
  | .when _ _ => false
  | .fnv v => v.oneCell'
  | .raw v => v.oneCell'
  | _ => true

mutual
def DV.under (n : Nat) : DV → Bool
  | .agg l => DV.unders n l
  | .tup l => DV.unders n l
  | .ref k _ => Nat.blt k n
  | .aref k _ _ _ => Nat.blt k n
  | .buf k _ => Nat.blt k n
  | .mp k => Nat.blt k n
  | .clo _ a b => DV.unders n a && DV.unders n b
  | .when c d => !c || d.under n
  | _ => true
def DV.unders (n : Nat) : List DV → Bool
  | [] => true
  | d :: r => d.under n && DV.unders n r
end

inductive DObj where
  | var (cs : List DV)
  | arr (sz : Nat) (es : List PV)
  | fz (l : List PV)
  | mp (es : List (PV × PV))

def DObj.under (n : Nat) : DObj → Bool
  | .var cs => DV.unders n cs
  | _ => true

/-- The local heap: the next free key, the first key that may be written, the first key of the call's own, the objects. -/
structure DH where
  next : Nat
  lo : Nat
  base : Nat
  get : Nat → Option DObj

def DH.put (L : DH) (k : Nat) (o : DObj) : DH := { L with get := fun j => bif Nat.beq j k then some o else L.get j }
def DH.push (L : DH) (o : DObj) : DH := { next := L.next + 1, lo := L.lo, base := L.base, get := fun j => bif Nat.beq j L.next then some o else L.get j }

abbrev Env := Nat → DV
def upd (e : Env) (t : Option Nat) (d : DV) : Env :=
  match t with
  | some t => fun u => bif Nat.beq u t then d else e u
  | none => e

inductive RelP (T : Nat → Prop) (w : World) : PV → Value → Prop where
  | int (k : IntKind) (n : Int) : RelP T w (.int k n) (.int k n)
  | bool (b : Bool) : RelP T w (.bool b) (.bool b)
  | str (s : ByteArray) : RelP T w (.str s) (.string s)
  | nil : RelP T w .nil (.slice none 0 0)
  | e0 (a : Option Addr) (c : Nat) : RelP T w (.sl []) (.slice a 0 c)
  | sl (b off sz cap : Nat) (l : List PV) (val : Nat → Nat → Value) : ¬ T b → b < w.heap.size → l.length ≤ cap → (∀ p, p ∈ l → p.cells.length = sz) →
      (∀ (i : Nat) p (j : Nat) q, l[i]? = some p → p.cells[j]? = some q → w.cell? ⟨b, off + i * sz + j, none⟩ = some (val i j)) →
      (∀ (i : Nat) p (j : Nat) q, l[i]? = some p → p.cells[j]? = some q → RelP T w q (val i j)) →
      RelP T w (.sl l) (.slice (some ⟨b, off, none⟩) l.length cap)
  | agg (l : List PV) (vs : List Value) : l.length = vs.length → (∀ (i : Nat) p v, l[i]? = some p → vs[i]? = some v → RelP T w p v) → RelP T w (.agg l) (.agg ⟨vs⟩)
  | tup (l : List PV) (vs : List Value) : l.length = vs.length → (∀ (i : Nat) p v, l[i]? = some p → vs[i]? = some v → RelP T w p v) → RelP T w (.tup l) (.tuple ⟨vs⟩)

/-- Where an object lies: its block; of an array its capacity (0: nothing is allocated). -/
structure Loc where
  blk : Nat
  cap : Nat

def liveAt (m : Loc) : DObj → Prop
  | .var _ => True
  | .mp _ => True
  | .arr _ _ => m.cap ≠ 0
  | .fz _ => False

def Tot (M : Nat → Prop) (μ : Nat → Loc) (L : DH) (b : Nat) : Prop := M b ∨ ∃ k o, L.get k = some o ∧ liveAt (μ k) o ∧ (μ k).blk = b
def Wbl (μ : Nat → Loc) (L : DH) (b : Nat) : Prop := ∃ k o, L.lo ≤ k ∧ L.get k = some o ∧ liveAt (μ k) o ∧ (μ k).blk = b

/-- The slice over all of an array. -/
def bufVal (m : Loc) (n : Nat) (v : Value) : Prop := (m.cap = 0 ∧ n = 0 ∧ ∃ a, v = .slice a 0 0) ∨ (m.cap ≠ 0 ∧ v = .slice (some ⟨m.blk, 0, none⟩) n m.cap)

inductive RelV (T : Nat → Prop) (w : World) (μ : Nat → Loc) (L : DH) : DV → Value → Prop where
  | pv (p : PV) (v : Value) : RelP T w p v → RelV T w μ L (.pv p) v
  | e0 (a : Option Addr) : RelV T w μ L .e0 (.slice a 0 0)
  | agg (l : List DV) (vs : List Value) : l.length = vs.length → (∀ (i : Nat) d v, l[i]? = some d → vs[i]? = some v → RelV T w μ L d v) → RelV T w μ L (.agg l) (.agg ⟨vs⟩)
  | tup (l : List DV) (vs : List Value) : l.length = vs.length → (∀ (i : Nat) d v, l[i]? = some d → vs[i]? = some v → RelV T w μ L d v) → RelV T w μ L (.tup l) (.tuple ⟨vs⟩)
  | ref (k c : Nat) (v : Value) : v.oneCell' = true → (∀ cs, L.get k = some (.var cs) → v = .pointer (some ⟨(μ k).blk, c, none⟩)) → RelV T w μ L (.ref k c) v
  | aref (k n i c : Nat) (v : Value) : v.oneCell' = true → (∀ sz es, L.get k = some (.arr sz es) → n ≤ es.length ∧ (n = es.length → i < n → v = .pointer (some ⟨(μ k).blk, i * sz + c, none⟩))) →
      (∀ es, L.get k = some (.fz es) → n ≤ es.length ∧ (n = es.length → ∀ p, es[i]? = some p → ∃ sz, (∀ q, q ∈ es → q.cells.length = sz) ∧ v = .pointer (some ⟨(μ k).blk, i * sz + c, none⟩))) → RelV T w μ L (.aref k n i c) v
  | eptr (p : PV) (c b off : Nat) (val : Nat → Value) : ¬ T b → b < w.heap.size → (∀ (j : Nat) q, p.cells[j]? = some q → w.cell? ⟨b, off + j, none⟩ = some (val j)) →
      (∀ (j : Nat) q, p.cells[j]? = some q → RelP T w q (val j)) → RelV T w μ L (.eptr p c) (.pointer (some ⟨b, off + c, none⟩))
  | buf (k n : Nat) (v : Value) : (∃ ad cap, v = .slice ad n cap) → (∀ sz es, L.get k = some (.arr sz es) → n ≤ es.length ∧ (n = es.length → bufVal (μ k) n v)) →
      (∀ es, L.get k = some (.fz es) → n ≤ es.length ∧ (n = es.length → bufVal (μ k) n v)) → RelV T w μ L (.buf k n) v
  | mp (k : Nat) (v : Value) : v.oneCell' = true → (∀ es, L.get k = some (.mp es) → v = .map (some (μ k).blk)) → RelV T w μ L (.mp k) v
  | clo (f : FuncId) (first caps : List DV) (fs cs : List Value) : first.length = fs.length → caps.length = cs.length →
      (∀ (i : Nat) d v, first[i]? = some d → fs[i]? = some v → RelV T w μ L d v) → (∀ (i : Nat) d v, caps[i]? = some d → cs[i]? = some v → RelV T w μ L d v) →
      RelV T w μ L (.clo f first caps) (.func (.func f) ⟨fs⟩ ⟨cs⟩)
  | fnv (v : Value) : RelV T w μ L (.fnv v) v
  | raw (v : Value) : RelV T w μ L (.raw v) v
  | when (c : Bool) (d : DV) (v : Value) : (c = true → RelV T w μ L d v) → (c = false → v = undef) → RelV T w μ L (.when c d) v
  | any (v : Value) : RelV T w μ L .any v

def ObjRel (T : Nat → Prop) (w : World) (μ : Nat → Loc) (L : DH) (k : Nat) : DObj → Prop
  | .var cs => ∃ vs ty, w.heap[(μ k).blk]? = some (.cells vs ty (0, 0)) ∧ vs.size = cs.length ∧ ∀ (i : Nat) d v, cs[i]? = some d → vs[i]? = some v → RelV T w μ L d v
  | .arr sz es => ((μ k).cap = 0 ∧ es = []) ∨ ∃ vs ty, (μ k).cap ≠ 0 ∧ w.heap[(μ k).blk]? = some (.cells vs ty (0, 0)) ∧ es.length ≤ (μ k).cap ∧ (μ k).cap * sz ≤ vs.size ∧
      (∀ p, p ∈ es → p.cells.length = sz) ∧ ∀ (i : Nat) p (j : Nat) q, es[i]? = some p → p.cells[j]? = some q → ∃ v, vs[i * sz + j]? = some v ∧ RelP T w q v
  | .fz l => ((μ k).cap = 0 ∧ l = []) ∨ (l.length ≤ (μ k).cap ∧ (μ k).cap ≠ 0 ∧ RelP T w (.sl l) (.slice (some ⟨(μ k).blk, 0, none⟩) l.length (μ k).cap))
  | .mp es => ∃ ents clock, w.heap[(μ k).blk]? = some (.map ents clock) ∧ ents.size = es.length ∧
      ∀ (i : Nat) kv e, es[i]? = some kv → ents[i]? = some e → RelP T w kv.1 e.key ∧ RelP T w kv.2 e.val

structure HR (M : Nat → Prop) (w0 : World) (μ : Nat → Loc) (L : DH) (w : World) : Prop where
  ext : Below w0.heap.size w0 w
  mlt : ∀ b, M b → b < w.heap.size
  keys : ∀ k o, L.get k = some o → k < L.next ∧ o.under L.next = true
  live : ∀ k o, L.get k = some o → liveAt (μ k) o → (μ k).blk < w.heap.size ∧ ¬ M (μ k).blk ∧ (L.lo ≤ k → w0.heap.size ≤ (μ k).blk)
  inj : ∀ k o k' o', L.get k = some o → liveAt (μ k) o → L.get k' = some o' → liveAt (μ k') o' → (μ k).blk = (μ k').blk → k = k'
  obj : ∀ k o, L.get k = some o → ObjRel (Tot M μ L) w μ L k o
  base : L.base ≤ L.next
  lob : L.lo ≤ L.next

def isArr (o : Option DObj) (sz : Nat) (es : List PV) : Prop := o = some (.arr sz es)

/-- How the heap may turn (below the keys of the first one). -/
structure Evo (L : DH) (μ : Nat → Loc) (L' : DH) (μ' : Nat → Loc) : Prop where
  var : ∀ k cs', k < L.next → L'.get k = some (.var cs') → ∃ cs, L.get k = some (.var cs) ∧ μ' k = μ k
  mp : ∀ k es', k < L.next → L'.get k = some (.mp es') → ∃ es, L.get k = some (.mp es) ∧ μ' k = μ k
  arr : ∀ k sz es', k < L.next → L'.get k = some (.arr sz es') → ∃ es, L.get k = some (.arr sz es) ∧ (es.length < es'.length ∨ (es.length = es'.length ∧ μ' k = μ k))
  fz : ∀ k es', k < L.next → L'.get k = some (.fz es') → (L.get k = some (.fz es') ∧ μ' k = μ k) ∨
    ∃ sz es, L.get k = some (.arr sz es) ∧ (∀ q, q ∈ es' → q.cells.length = sz) ∧ (es.length < es'.length ∨ (es.length = es'.length ∧ μ' k = μ k))

structure Stp (L : DH) (μ : Nat → Loc) (w : World) (L' : DH) (μ' : Nat → Loc) (w' : World) : Prop where
  evo : Evo L μ L' μ'
  os : w'.os = w.os
  tape : w'.tape = w.tape
  output : w'.output = w.output
  size : w.heap.size ≤ w'.heap.size
  same : ∀ b, b < w.heap.size → ¬ Wbl μ L b → w'.heap[b]? = w.heap[b]?
  blk : ∀ k o, L'.get k = some o → liveAt (μ' k) o → (k < L.next ∧ (∃ o0, L.get k = some o0 ∧ liveAt (μ k) o0) ∧ (μ' k).blk = (μ k).blk) ∨ w.heap.size ≤ (μ' k).blk
  next : L.next ≤ L'.next
  lo : L'.lo = L.lo
  base : L'.base = L.base

end Go.Dv
