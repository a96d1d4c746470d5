/- The layer Dv, part 2: the verification condition of a function's code, over pure values and the local heap. -/
import Derived.Test.YtlmgodcfjaagpaaDv1
namespace Go.Dv
open Go.RowKit (Below)

def szOf (P : Program) (t : TypeId) : Nat := P.cellsOf t
def byOf (P : Program) (t : TypeId) : Nat := P.bytesOf t
def infoB (P : Program) (t : TypeId) : Bool := (P.info? t).isSome
/-- Is a value of the type a struct or an array? -/
def kindT (P : Program) (t : TypeId) : Option Bool := match P.underlying t with | some (.struct _) => some true | some (.array _ _) => some true | some _ => some false | none => none

def dv1 : Value → DV
  | .int k n => .pv (.int k n)
  | .bool b => .pv (.bool b)
  | .string s => .pv (.str s)
  | .slice none 0 0 => .pv .nil
  | .pointer none => .raw (.pointer none)
  | .map none => .raw (.map none)
  | .nilFunc => .raw .nilFunc
  | .nilIface => .raw .nilIface
  | _ => .any
def dvOf : Value → DV
  | .agg cs => .agg (cs.toList.map dv1)
  | v => dv1 v
/-- The zero value of a type. -/
def zeroOf (P : Program) (t : TypeId) : Option DV := match P.info? t with | some i => (match i.zero with | some v => some (dvOf v) | none => none) | none => none

def opd (e : Env) : Operand → DV
  | .tmp t => e t
  | .const v => dvOf v
  | .global _ => .any
  | .func f => .clo f [] []

def PV.dv0 : PV → DV
  | .agg l => .agg (l.map .pv)
  | p => .pv p
def PV.dv : PV → DV
  | .agg l => .agg (l.map .pv)
  | .tup l => .tup (l.map PV.dv0)
  | p => .pv p

/-- Is nothing in it that lies in memory? -/
def PV.scalar : PV → Bool
  | .int _ _ => true
  | .bool _ => true
  | .str _ => true
  | _ => false
def PV.flat : PV → Bool
  | .agg l => l.all PV.scalar
  | .tup l => l.all fun p => match p with | .agg l => l.all PV.scalar | p => p.scalar
  | p => p.scalar

mutual
/-- The value as a pure one; arrays of the call's own that it holds may not be written any more. -/
def frz : DV → DH → (PV → DH → Prop) → Prop
  | .pv p, L, K => K p L
  | .e0, L, K => K (.sl []) L
  | .buf k n, L, K => (match L.get k with
     | some (.arr _ es) => n = es.length ∧ Nat.ble L.lo k = true ∧ K (.sl es) (L.put k (.fz es))
     | some (.fz es) => n = es.length ∧ K (.sl es) L
     | _ => False)
  | .agg l, L, K => frzs l L (fun ps L' => K (.agg ps) L')
  | .tup l, L, K => frzs l L (fun ps L' => K (.tup ps) L')
  | _, _, _ => False
def frzs : List DV → DH → (List PV → DH → Prop) → Prop
  | [], L, K => K [] L
  | d :: r, L, K => frz d L (fun p L' => frzs r L' (fun ps L'' => K (p :: ps) L''))
end
mutual
/-- The value as a pure one, for the time of a call. -/
def brw : DV → DH → (PV → Prop) → Prop
  | .pv p, _, K => K p
  | .e0, _, K => K (.sl [])
  | .buf k n, L, K => (match L.get k with
     | some (.arr _ es) => n = es.length ∧ K (.sl es)
     | some (.fz es) => n = es.length ∧ K (.sl es)
     | _ => False)
  | .agg l, L, K => brws l L (fun ps => K (.agg ps))
  | .tup l, L, K => brws l L (fun ps => K (.tup ps))
  | _, _, _ => False
def brws : List DV → DH → (List PV → Prop) → Prop
  | [], _, K => K []
  | d :: r, L, K => brw d L (fun p => brws r L (fun ps => K (p :: ps)))
end
mutual
/-- The value as a pure one, if it holds no array of the call's own. -/
def pur : DV → (PV → Prop) → Prop
  | .pv p, K => K p
  | .e0, K => K (.sl [])
  | .agg l, K => purs l (fun ps => K (.agg ps))
  | .tup l, K => purs l (fun ps => K (.tup ps))
  | _, _ => False
def purs : List DV → (List PV → Prop) → Prop
  | [], K => K []
  | d :: r, K => pur d (fun p => purs r (fun ps => K (p :: ps)))
end
mutual
def DV.noBuf : DV → Bool
  | .buf _ _ => false
  | .agg l => DV.noBufs l
  | .tup l => DV.noBufs l
  | _ => true
def DV.noBufs : List DV → Bool
  | [] => true
  | d :: r => d.noBuf && DV.noBufs r
end

def callable (P : Program) (f : FuncId) : Bool :=
  match P.funcs[f]? with
  | some fn => !(fn.name == "runtime.NumGoroutine") && fn.body.isSome
  | none => false

def RelPs (T : Nat → Prop) (w : World) (ps : List PV) (vs : List Value) : Prop :=
  ps.length = vs.length ∧ ∀ (i : Nat) p v, ps[i]? = some p → vs[i]? = some v → RelP T w p v
def RelVs (T : Nat → Prop) (w : World) (μ : Nat → Loc) (L : DH) (ds : List DV) (vs : List Value) : Prop :=
  ds.length = vs.length ∧ ∀ (i : Nat) d v, ds[i]? = some d → vs[i]? = some v → RelV T w μ L d v

/-- A function that only computes: from pure values a pure value; what was there before stays as it was. -/
@[irreducible] def PureFn (P : Program) (f : FuncId) (ps : List PV) (p : PV) : Prop :=
  callable P f = true ∧ ∀ (M : Nat → Prop) (w : World) (vs : List Value), (∀ b, M b → b < w.heap.size) → RelPs M w ps vs →
    Calls P f ⟨vs⟩ w fun e w' => ∃ v, e = .returned v ∧ RelP M w' p v ∧ Below w.heap.size w w'

/-- What comes of an operation: a value and a heap that the condition lets, at the world behind it. -/
def Out (M : Nat → Prop) (w0 : World) (μ : Nat → Loc) (L : DH) (w : World) (K : DV → DH → Prop) (v : Value) (w' : World) : Prop :=
  ∃ μ' d L', K d L' ∧ HR M w0 μ' L' w' ∧ RelV (Tot M μ' L') w' μ' L' d v ∧ d.under L'.next = true ∧ Stp L μ w L' μ' w'

@[irreducible] def DC (P : Program) (M : Nat → Prop) (w0 : World) (f : FuncId) (args : List DV) (L : DH) (K : DV → DH → Prop) : Prop :=
  callable P f = true ∧ ∀ (μ : Nat → Loc) (w : World) (vs : List Value), HR M w0 μ L w → DV.unders L.next args = true → RelVs (Tot M μ L) w μ L args vs →
    Calls P f ⟨vs⟩ w fun e w' => ∃ v, e = .returned v ∧ Out M w0 μ L w K v w'
@[irreducible] def DCV (P : Program) (M : Nat → Prop) (w0 : World) (fv : Value) (args : List DV) (L : DH) (K : DV → DH → Prop) : Prop :=
  ∃ f fs cs, fv = .func (.func f) fs cs ∧ callable P f = true ∧ ∀ (μ : Nat → Loc) (w : World) (vs : List Value), HR M w0 μ L w → DV.unders L.next args = true → RelVs (Tot M μ L) w μ L args vs →
    Calls P f (fs ++ ⟨vs⟩ ++ cs) w fun e w' => ∃ v, e = .returned v ∧ Out M w0 μ L w K v w'
/-- A call inside a region whose order is open: of a function that only computes. -/
def DCD (P : Program) (f : FuncId) (args : List DV) (L : DH) (K : DV → DH → Prop) : Prop :=
  ∃ p, brws args L (fun ps => PureFn P f ps p) ∧ (DV.noBufs args || p.flat) = true ∧ K p.dv L

def splice {α : Type} (l : List α) (off : Nat) (cs : List α) : List α := l.take off ++ cs ++ l.drop (off + cs.length)

def ldCells (P : Program) (t : TypeId) (cs : List DV) (c : Nat) (K : DV → Prop) : Prop :=
  match kindT P t with
  | some true => (match Nat.ble (c + szOf P t) cs.length with | true => K (.agg ((cs.drop c).take (szOf P t))) | false => False)
  | some false => (match cs[c]? with | some d => K d | none => False)
  | none => False

def fieldOf (P : Program) (s : TypeId) (f : Nat) : Option Field :=
  match P.underlying s with
  | some (.struct fields) => fields[f]?
  | _ => none

def structOk (P : Program) (t : TypeId) : Bool := match P.underlying t with | some (.struct fs) => fs.toList.all fun f => infoB P f.type | _ => false

def dfill (P : Program) (s : TypeId) : List DV → List (Nat × DV) → Option (List DV)
  | z, [] => some z
  | z, (i, d) :: r => match fieldOf P s i with
    | some f => (match Nat.beq d.cells.length (szOf P f.type) && Nat.ble (f.offset + d.cells.length) z.length && d.cells.all DV.one with
      | true => dfill P s (splice z f.offset d.cells) r
      | false => none)
    | none => none

def eqPV : PV → PV → Bool
  | .int _ a, .int _ b => a == b
  | .bool a, .bool b => a == b
  | .str a, .str b => a.toList == b.toList
  | _, _ => false
def eqPVs : List PV → List PV → Bool
  | [], [] => true
  | a :: r, b :: s => eqPV a b && eqPVs r s
  | _, _ => false
/-- Do scalars fit the type of a struct whose fields are scalars? -/
def fitPV (d : Option TypeDesc) : PV → Bool
  | .int k _ => (match d with | some (.int k') => decide (k = k') | _ => false)
  | .bool _ => (match d with | some .bool => true | _ => false)
  | .str _ => (match d with | some .string => true | _ => false)
  | _ => false
def fitFields (P : Program) : List Field → Nat → List PV → Bool
  | [], _, [] => true
  | f :: fs, i, p :: ps => Nat.beq f.offset i && !(f.name == "_") && fitPV (P.underlying f.type) p && fitFields P fs (i + 1) ps
  | _, _, _ => false
def fitT (P : Program) (t : TypeId) : PV → Bool
  | .agg l => (match P.underlying t with | some (.struct fs) => fitFields P fs.toList 0 l && !P.stoodInHeld t | _ => false)
  | p => fitPV (P.underlying t) p

def big : Nat := 4294967296

def vcInt (op : BinOp) (k : IntKind) (a : Int) (k' : IntKind) (b : Int) (K : DV → Prop) : Prop :=
  match op with
  | .shl => 0 ≤ b ∧ K (.pv (.int k (k.wrap (a * 2 ^ (min b.toNat k.bits)))))
  | .shr => 0 ≤ b ∧ K (.pv (.int k (a.fdiv (2 ^ (min b.toNat k.bits)))))
  | op => match decide (k = k') with
    | false => False
    | true => match op with
      | .add => K (.pv (.int k (k.wrap (a + b))))
      | .sub => K (.pv (.int k (k.wrap (a - b))))
      | .mul => K (.pv (.int k (k.wrap (a * b))))
      | .quo => b ≠ 0 ∧ K (.pv (.int k (k.wrap (a.tdiv b))))
      | .rem => b ≠ 0 ∧ K (.pv (.int k (a.tmod b)))
      | .and => K (.pv (.int k (k.wrap ((BitVec.ofInt k.bits a &&& BitVec.ofInt k.bits b).toNat : Int))))
      | .or => K (.pv (.int k (k.wrap ((BitVec.ofInt k.bits a ||| BitVec.ofInt k.bits b).toNat : Int))))
      | .xor => K (.pv (.int k (k.wrap ((BitVec.ofInt k.bits a ^^^ BitVec.ofInt k.bits b).toNat : Int))))
      | .andNot => K (.pv (.int k (k.wrap ((BitVec.ofInt k.bits a &&& ~~~BitVec.ofInt k.bits b).toNat : Int))))
      | .eql => K (.pv (.bool (a == b)))
      | .neq => K (.pv (.bool (a != b)))
      | .lss => K (.pv (.bool (decide (a < b))))
      | .leq => K (.pv (.bool (decide (a ≤ b))))
      | .gtr => K (.pv (.bool (decide (a > b))))
      | .geq => K (.pv (.bool (decide (a ≥ b))))
      | _ => False

def isSlT (P : Program) (t : TypeId) : Bool := match P.underlying t with | some (.slice _) => true | _ => false

def vcBin (P : Program) (op : BinOp) (t : TypeId) (x y : DV) (K : DV → Prop) : Prop :=
  match x, y with
  | .pv (.int k a), .pv (.int k' b) => vcInt op k a k' b K
  | .pv (.bool a), .pv (.bool b) => (match fitPV (P.underlying t) (.bool a) with
    | true => (match op with | .eql => K (.pv (.bool (a == b))) | .neq => K (.pv (.bool (!(a == b)))) | _ => False)
    | false => False)
  | .pv (.str a), .pv (.str b) => (match op with | .eql => K (.pv (.bool (a.toList == b.toList))) | .neq => K (.pv (.bool (!(a.toList == b.toList)))) | .add => a.size + b.size ≤ big ∧ K (.pv (.str (a ++ b))) | _ => False)
  | .agg xs, .agg ys => purs xs fun ps => purs ys fun qs =>
      fitT P t (.agg ps) = true ∧ fitT P t (.agg qs) = true ∧ P.eqGuardType P.depth t = false ∧ (match op with | .eql => K (.pv (.bool (eqPVs ps qs))) | .neq => K (.pv (.bool (!eqPVs ps qs))) | _ => False)
  | .pv .nil, .pv .nil => (match isSlT P t with | true => (match op with | .eql => K (.pv (.bool true)) | .neq => K (.pv (.bool false)) | _ => False) | false => False)
  | .pv (.sl (_ :: _)), .pv .nil => (match isSlT P t with | true => (match op with | .eql => K (.pv (.bool false)) | .neq => K (.pv (.bool true)) | _ => False) | false => False)
  | _, _ => False

def elemT (P : Program) (t : TypeId) : Option TypeId := match P.underlying t with | some (.slice e) => some e | _ => none

/-- The first entry of a key, with its place. -/
noncomputable def mfnd (k : PV) : List (PV × PV) → Nat → Option (Nat × PV)
  | [], _ => none
  | e :: r, i => open Classical in if e.1 = k then some (i, e.2) else mfnd k r (i + 1)
noncomputable def mfind (es : List (PV × PV)) (k : PV) : Option PV := (mfnd k es 0).map Prod.snd
noncomputable def mput (es : List (PV × PV)) (k v : PV) : List (PV × PV) :=
  match mfnd k es 0 with
  | some (i, _) => es.set i (k, v)
  | none => es ++ [(k, v)]

def loOk (x : Option DV) (a : Nat) : Prop := match x with | none => a = 0 | some (.pv (.int _ n)) => n = (a : Int) | some _ => False
def hiOk (x : Option DV) (b len : Nat) : Prop := match x with | none => b = len | some (.pv (.int _ n)) => n = (b : Int) | some _ => False

/-- The elements that an append adds. -/
def srcOf (x : DV) (L : DH) (K : List PV → Prop) : Prop :=
  match x with
  | .pv .nil => K []
  | .e0 => K []
  | .pv (.sl l) => K l
  | .buf k n => (match L.get k with | some (.arr _ es) => n = es.length ∧ K es | some (.fz es) => n = es.length ∧ K es | _ => False)
  | _ => False
def notKey (x : DV) (k : Nat) : Bool := match x with | .buf j _ => !Nat.beq j k | _ => true
def cellsAll (sz : Nat) (xs : List PV) : Bool := xs.all fun p => Nat.beq p.cells.length sz && p.cells.all PV.one
def vcApp (P : Program) (t t2 : TypeId) (s x : DV) (L : DH) (K : DV → DH → Prop) : Prop :=
  match elemT P t, (match P.underlying t2 with | some (.slice _) => true | _ => false) with
  | some e, true => (match zeroOf P e, Nat.ble (byOf P e) 4096 && !Nat.beq (byOf P e) 0 && !Nat.beq (szOf P e) 0 with
    | some z, true => z.cells.length = szOf P e ∧ (match s with
      | .pv .nil => srcOf x L fun xs => cellsAll (szOf P e) xs = true ∧ xs.length ≤ big ∧ (match xs with
          | [] => K s L
          | _ :: _ => K (.buf L.next xs.length) (L.push (.arr (szOf P e) xs)))
      | .e0 => srcOf x L fun xs => cellsAll (szOf P e) xs = true ∧ xs.length ≤ big ∧ (match xs with
          | [] => K s L
          | _ :: _ => K (.buf L.next xs.length) (L.push (.arr (szOf P e) xs)))
      | .buf k n => (match L.get k with
        | some (.arr sz es) => (match Nat.beq sz (szOf P e) && Nat.ble L.lo k && notKey x k with
          | true => n = es.length ∧ srcOf x L fun xs => cellsAll (szOf P e) xs = true ∧ es.length + xs.length ≤ big ∧ K (.buf k (es ++ xs).length) (L.put k (.arr sz (es ++ xs)))
          | false => False)
        | _ => False)
      | _ => False)
    | _, _ => False)
  | _, _ => False

def vcBuiltin (P : Program) (b : Builtin) (ts : List TypeId) (args : List DV) (L : DH) (K : DV → DH → Prop) : Prop :=
  match b, args with
  | .len, [x] => (match ts with
    | t :: _ => (match P.underlying t, x with
      | some (.slice _), .pv .nil => K (.pv (.int .i64 0)) L
      | some (.slice _), .e0 => K (.pv (.int .i64 0)) L
      | some (.slice _), .pv (.sl l) => K (.pv (.int .i64 l.length)) L
      | some (.slice _), .buf _ n => K (.pv (.int .i64 n)) L
      | some .string, .pv (.str s) => K (.pv (.int .i64 s.size)) L
      | _, _ => False)
    | [] => False)
  | .append, [s, x] => (match ts with
    | [t, t2] => vcApp P t t2 s x L K
    | _ => False)
  | .max, [.pv (.int k a), .pv (.int k' b)] => (match decide (k = k') with | true => K (.pv (.int k (max a b))) L | false => False)
  | .min, [.pv (.int k a), .pv (.int k' b)] => (match decide (k = k') with | true => K (.pv (.int k (min a b))) L | false => False)
  | _, _ => False

def upto : Nat → Nat → List Nat
  | 0, _ => []
  | n + 1, i => i :: upto n (i + 1)

def PV.put (p : PV) (c : Nat) (cs : List PV) : PV :=
  match p with
  | .agg l => .agg (splice l c cs)
  | p => (match c, cs with | 0, [q] => q | _, _ => p)

/-- One of two bools; a side that is known only under a condition serves if that one holds there. -/
def pickV (t : Bool) (a b : DV) (K : DV → Prop) : Prop :=
  match a, b with
  | .pv (.bool x), .pv (.bool y) => K (.pv (.bool (bif t then x else y)))
  | .when c1 (.pv (.bool x)), .pv (.bool y) => (t = true → c1 = true) ∧ K (.pv (.bool (bif t then x else y)))
  | .pv (.bool x), .when c2 (.pv (.bool y)) => (t = false → c2 = true) ∧ K (.pv (.bool (bif t then x else y)))
  | .when c1 (.pv (.bool x)), .when c2 (.pv (.bool y)) => (t = true → c1 = true) ∧ (t = false → c2 = true) ∧ K (.pv (.bool (bif t then x else y)))
  | _, _ => False

/-- The condition of one operation. 'dr': inside a region whose order is open. -/
def vcOp (P : Program) (M : Nat → Prop) (w0 : World) (dr : Bool) (ρ : Operand → DV) (L : DH) (o : Oper) (K : DV → DH → Prop) : Prop :=
  match o.op with
  | .move x => K (ρ x) L
  | .assign x => K (ρ x) L
  | .pick c a b => (match ρ c with
    | .pv (.bool t) => pickV t (ρ a) (ρ b) fun d => K d L
    | .when c0 (.pv (.bool t)) => c0 = true ∧ pickV t (ρ a) (ρ b) fun d => K d L
    | _ => False)
  | .alloc t => (match zeroOf P t with
    | some z => (match z.cells.all DV.one with | true => K (.ref L.next 0) (L.push (.var z.cells)) | false => False)
    | none => False)
  | .box _ x => (match (ρ x).cells.all DV.one with | true => K (.ref L.next 0) (L.push (.var (ρ x).cells)) | false => False)
  | .build t parts => (match zeroOf P t, structOk P t with
    | some (.agg z), true => (match dfill P t z (parts.toList.map fun q => (q.1, ρ q.2)) with | some cs => K (.agg cs) L | none => False)
    | _, _ => False)
  | .buildSlice t n parts => (match elemT P t with
    | some e => (match (parts.toList.map (·.1) == upto n 0) && Nat.ble (n * szOf P e) 16777216 && (zeroOf P e).isSome && !Nat.beq (szOf P e) 0, dr with
      | true, false => frzs (parts.toList.map fun q => ρ q.2) L fun ps L' => cellsAll (szOf P e) ps = true ∧ (match n with | 0 => K .e0 L' | _ + 1 => K (.pv (.sl ps)) L')
      | true, true => purs (parts.toList.map fun q => ρ q.2) fun ps => cellsAll (szOf P e) ps = true ∧ (match n with | 0 => K .e0 L | _ + 1 => K (.pv (.sl ps)) L)
      | false, _ => False)
    | none => False)
  | .load t x => (match ρ x with
    | .ref k c => (match L.get k with | some (.var cs) => ldCells P t cs c fun d => K d L | _ => False)
    | .eptr p c => ldCells P t (p.cells.map .pv) c fun d => K d L
    | .aref k n i c => (match L.get k with
      | some (.arr _ es) => n = es.length ∧ ∃ p, es[i]? = some p ∧ ldCells P t (p.cells.map .pv) c fun d => K d L
      | some (.fz es) => n = es.length ∧ ∃ p, es[i]? = some p ∧ ldCells P t (p.cells.map .pv) c fun d => K d L
      | _ => False)
    | _ => False)
  | .store t x v => (match ρ x with
    | .ref k c => (match L.get k with
      | some (.var cs) => (match infoB P t && Nat.ble L.lo k && Nat.beq (ρ v).cells.length (szOf P t) && Nat.ble (c + (ρ v).cells.length) cs.length && (ρ v).cells.all DV.one with
        | true => K (.tup []) (L.put k (.var (splice cs c (ρ v).cells)))
        | false => False)
      | _ => False)
    | .aref k n i c => (match L.get k, infoB P t && Nat.ble L.lo k && Nat.beq (ρ v).cells.length (szOf P t) && (ρ v).cells.all DV.one && !dr with
      | some (.arr sz es), true => n = es.length ∧ ∃ p, es[i]? = some p ∧ c + (ρ v).cells.length ≤ sz ∧ purs (ρ v).cells fun qs => K (.tup []) (L.put k (.arr sz (es.set i (p.put c qs))))
      | _, _ => False)
    | _ => False)
  | .nilCheck x => (match ρ x with
    | .ref k c => (match L.get k with | some (.var _) => K (.ref k c) L | _ => False)
    | .eptr p c => K (.eptr p c) L
    | .clo f a b => K (.clo f a b) L
    | _ => False)
  | .binOp op t x y _ => vcBin P op t (ρ x) (ρ y) fun d => K d L
  | .unOp op _ x => (match op, ρ x with
    | .not, .pv (.bool b) => K (.pv (.bool (!b))) L
    | .neg, .pv (.int k n) => K (.pv (.int k (k.wrap (0 - n)))) L
    | .xor, .pv (.int k n) => K (.pv (.int k (k.wrap ((BitVec.ofInt k.bits (if k.signed then -1 else k.max) ^^^ BitVec.ofInt k.bits n).toNat : Int)))) L
    | _, _ => False)
  | .convert s d x => (match P.underlying s, P.underlying d, ρ x with
    | some (.int _), some (.int k), .pv (.int _ n) => K (.pv (.int k (k.wrap n))) L
    | some (.int _), some .string, .pv (.int _ n) => K (.pv (.str (Utf8.encode n))) L
    | _, _, _ => False)
  | .makeFunc (.func f) first captured => K (.clo f (first.toList.map ρ) (captured.toList.map ρ)) L
  | .makeMap _ none => K (.mp L.next) (L.push (.mp []))
  | .makeSlice t l c => (match elemT P t with
    | some e => (match zeroOf P e, Nat.ble (byOf P e) 4096 && !Nat.beq (szOf P e) 0, ρ l, ρ c with
      | some z, true, .pv (.int _ n), .pv (.int _ m) => pur z fun p => p.cells.length = szOf P e ∧ n = m ∧ 0 ≤ n ∧ n ≤ (big : Int) ∧ 
          K (.buf L.next (List.replicate n.toNat p).length) (L.push (.arr (szOf P e) (List.replicate n.toNat p)))
      | _, _, _, _ => False)
    | none => False)
  | .slice t x lo hi mx => (match elemT P t, mx, ρ x with
    | some e, none, .pv (.sl l) => infoB P e = true ∧ cellsAll (szOf P e) l = true ∧ ∃ a b : Nat, loOk (lo.map ρ) a ∧ hiOk (hi.map ρ) b l.length ∧ a ≤ b ∧ b ≤ l.length ∧ K (.pv (.sl ((l.drop a).take (b - a)))) L
    | some e, none, .pv .nil => infoB P e = true ∧ ∃ a b : Nat, loOk (lo.map ρ) a ∧ hiOk (hi.map ρ) b 0 ∧ a = 0 ∧ b = 0 ∧ K (.pv .nil) L
    | _, _, _ => False)
  | .fieldAddr s x f => (match fieldOf P s f with
    | some fd => (match Nat.beq (szOf P fd.type) 0, ρ x with
      | false, .ref k c => (match L.get k with | some (.var _) => K (.ref k (c + fd.offset)) L | _ => False)
      | false, .aref k n i c => (match L.get k with | some (.arr _ es) => n = es.length ∧ i < n ∧ K (.aref k n i (c + fd.offset)) L | _ => False)
      | false, .eptr p c => K (.eptr p (c + fd.offset)) L
      | _, _ => False)
    | none => False)
  | .field s x f => (match fieldOf P s f, ρ x with
    | some fd, .agg cs => ldCells P fd.type cs fd.offset fun d => K d L
    | _, _ => False)
  | .indexAddr t x i => (match elemT P t, ρ x, ρ i with
    | some e, .pv (.sl l), .pv (.int _ ix) => infoB P e = true ∧ ∃ (n : Nat) (p : PV), ix = (n : Int) ∧ l[n]? = some p ∧ Nat.beq p.cells.length (szOf P e) = true ∧ K (.eptr p 0) L
    | some e, .buf k n, .pv (.int _ ix) => (match L.get k with
      | some (.arr sz es) => (match infoB P e && Nat.beq sz (szOf P e) with
        | true => n = es.length ∧ ∃ m : Nat, ix = (m : Int) ∧ m < n ∧ K (.aref k n m 0) L
        | false => False)
      | some (.fz es) => infoB P e = true ∧ n = es.length ∧ ∃ (m : Nat) (p : PV), ix = (m : Int) ∧ es[m]? = some p ∧ Nat.beq p.cells.length (szOf P e) = true ∧ K (.eptr p 0) L
      | _ => False)
    | _, _, _ => False)
  | .lookup t m k ok => (match P.underlying t, ρ m with
    | some (.map kt et), .mp id => (match L.get id, zeroOf P et with
      | some (.mp es), some z => pur (ρ k) fun kp => fitT P kt kp = true ∧ (∀ kv, kv ∈ es → fitT P kt kv.1 = true) ∧ ∃ r, mfind es kp = r ∧ (match r, ok with
          | some v, true => K (.tup [v.dv0, .pv (.bool true)]) L
          | some v, false => K v.dv0 L
          | none, true => K (.tup [z, .pv (.bool false)]) L
          | none, false => K z L)
      | _, _ => False)
    | _, _ => False)
  | .mapUpdate t m k v => (match P.underlying t, ρ m with
    | some (.map kt _), .mp id => (match L.get id, Nat.ble L.lo id with
      | some (.mp es), true => pur (ρ k) fun kp => fitT P kt kp = true ∧ (∀ kv, kv ∈ es → fitT P kt kv.1 = true) ∧
          pur (ρ v) fun vp => K (.tup []) (L.put id (.mp (mput es kp vp)))
      | _, _ => False)
    | _, _ => False)
  | .extract x i => (match ρ x with
    | .tup l => (match l[i]? with | some d => K d L | none => False)
    | _ => False)
  | .call c => (match c.callee with
    | .builtin b => vcBuiltin P b c.argTypes.toList (c.args.toList.map ρ) L K
    | .value f => (match ρ f, dr with
      | .clo f first caps, false => DC P M w0 f (first ++ c.args.toList.map ρ ++ caps) L K
      | .clo f first caps, true => DCD P f (first ++ c.args.toList.map ρ ++ caps) L K
      | .fnv v, false => DCV P M w0 v (c.args.toList.map ρ) L K
      | _, _ => False)
    | _ => False)
  | _ => False

def okDst (N : Nat) : Option Tmp → Bool
  | some d => Nat.blt d N
  | none => true

def strip : DV → DV
  | .when _ d => d
  | d => d
def wcond : DV → Bool
  | .when c _ => c
  | _ => true
def allW (e : Env) : List Operand → Prop
  | [] => True
  | x :: r => match opd e x with
    | .when c _ => c = true ∧ allW e r
    | _ => allW e r
/-- When an operation under a guard is done. -/
def guardC (d : DV) (want : Bool) : Option Bool :=
  match d, want with
  | .pv (.bool g), true => some g
  | .pv (.bool g), false => some (!g)
  | .when c (.pv (.bool g)), true => some (c && g)
  | .when c (.pv (.bool g)), false => some (c && !g)
  | .tup [], _ => some false
  | _, _ => none
def isPick : Op → Bool
  | .pick _ _ _ => true
  | _ => false
/-- The condition of an operation that is done only under a condition. -/
def vcW (P : Program) (M : Nat → Prop) (w0 : World) (dr : Bool) (e : Env) (L : DH) (o : Oper) (K : DV → DH → Prop) : Prop :=
  match isPick o.op with
  | true => vcOp P M w0 dr (opd e) L o K
  | false => allW e o.op.operands.toList ∧ vcOp P M w0 dr (fun x => strip (opd e x)) L o K
@[irreducible] def WhenQ (A B : DV → Prop) : Prop := ∃ d, A d ∧ B d

/-- Does an operation look at the heap (1), not even that (0), or more (2)? -/
def opCls : Op → Nat
  | .move _ => 0
  | .assign _ => 0
  | .pick _ _ _ => 0
  | .build _ _ => 0
  | .buildSlice _ _ _ => 0
  | .binOp _ _ _ _ _ => 0
  | .unOp _ _ _ => 0
  | .convert _ _ _ => 0
  | .makeFunc _ _ _ => 0
  | .slice _ _ _ _ _ => 0
  | .field _ _ _ => 0
  | .extract _ _ => 0
  | .load _ _ => 1
  | .nilCheck _ => 1
  | .fieldAddr _ _ _ => 1
  | .indexAddr _ _ _ => 1
  | .lookup _ _ _ _ => 1
  | .call c => (match c.callee with | .builtin .append => 2 | _ => 1)
  | _ => 2

/-- 'K d', the value looked at first. -/
def force (d : DV) (K : DV → Prop) : Prop :=
  match d with
  | .pv (.int k n) => K (.pv (.int k n))
  | .pv (.bool b) => K (.pv (.bool b))
  | .pv (.str s) => K (.pv (.str s))
  | .pv .nil => K (.pv .nil)
  | .pv (.sl l) => K (.pv (.sl l))
  | .pv p => K (.pv p)
  | .e0 => K .e0
  | .agg l => K (.agg l)
  | .tup l => K (.tup l)
  | .ref k c => K (.ref k c)
  | .aref k n i c => K (.aref k n i c)
  | .eptr p c => K (.eptr p c)
  | .buf k n => K (.buf k n)
  | .mp k => K (.mp k)
  | .clo f a b => K (.clo f a b)
  | .fnv v => K (.fnv v)
  | .raw v => K (.raw v)
  | .when c d => K (.when c d)
  | .any => K .any
def fupd (e : Env) (dst : Option Nat) (d : DV) (K : Env → Prop) : Prop :=
  match dst with
  | some t => force d fun d => K (upd e (some t) d)
  | none => K e

/-- One operation of a region; under a guard: what it yields is known only where the guard holds. -/
def vcStep (P : Program) (M : Nat → Prop) (w0 : World) (dr : Bool) (N : Nat) (ops : List Oper) (o : Oper) (e : Env) (L : DH) (K : Env → DH → Prop) : Prop :=
  match okDst N o.dst with
  | false => False
  | true => match o.guard with
    | none => vcOp P M w0 dr (opd e) L o fun d L' => fupd e o.dst d fun e' => K e' L'
    | some (j, want) => match ops[j]? with
      | none => False
      | some oj => match oj.dst with
        | none => False
        | some t => match guardC (e t) want with
          | none => False
          | some c => match Nat.ble (opCls o.op) 1 with
            | true => WhenQ (fun d => c = true → vcW P M w0 dr e L o fun d' L' => force d' fun d' => d' = d ∧ L' = L) (fun d => fupd e o.dst (.when c d) fun e' => K e' L)
            | false => (c = true → vcW P M w0 dr e L o fun d L' => fupd e o.dst d fun e' => K e' L') ∧ (c = false → fupd e o.dst (.tup []) fun e' => K e' L)

def vcOps (P : Program) (M : Nat → Prop) (w0 : World) (dr : Bool) (N : Nat) (ops : List Oper) : List Oper → Env → DH → (Env → DH → Prop) → Prop
  | [], e, L, K => K e L
  | o :: r, e, L, K => vcStep P M w0 dr N ops o e L fun e' L' => vcOps P M w0 dr N ops r e' L' K

/-- An order of a region's operations: one after the other; where two may come next, either. -/
inductive Plan where
  | done
  | one (i : Nat) (r : Plan)
  | two (i : Nat) (a : Plan) (j : Nat) (b : Plan)
def Plan.lin : Nat → Nat → Plan
  | _, 0 => .done
  | k, n + 1 => .one k (Plan.lin (k + 1) n)

def memB (l : List Nat) (i : Nat) : Bool := l.any fun j => Nat.beq i j
def depsOf (ops : Array Oper) (n : Nat) : List Nat := match ops[n]? with | some o => (o.after.toList.filter fun e => Region.binds .any e).map (·.on) | none => []
/-- What an operation comes after. -/
def closB (ops : Array Oper) : Nat → List Nat → List Nat
  | 0, S => S
  | n + 1, S => closB ops n (bif memB S n then S ++ depsOf ops n else S)
/-- Sets of numbers as masks. -/
def bitB (m i : Nat) : Bool := Nat.beq (Nat.land 1 (Nat.shiftRight m i)) 1
def depM (ops : Array Oper) (k : Nat) : Nat := (depsOf ops k).foldl (fun m i => Nat.lor m (Nat.pow 2 i)) 0
/-- Is it not done yet, and all that it comes after done? -/
def inR (ops : Array Oper) (m i : Nat) : Bool := Nat.blt i ops.size && !bitB m i && Nat.beq (Nat.land (depM ops i) m) (depM ops i)
/-- May an operation be taken first? -/
def freeQ (ops : Array Oper) (eff : List Nat) (m : Nat) (i : Nat) : Bool :=
  match ops[i]? with
  | none => false
  | some oi => !memB eff i && Nat.ble (opCls oi.op) 1 && (List.range ops.size).all fun j => Nat.beq j i || bitB m j || bitB (depM ops j) i || match ops[j]? with
      | some oj => oi.apart ops oj && (Nat.beq (opCls oi.op) 0 || (Nat.ble (opCls oj.op) 1 && !memB eff j)) || memB (closB ops (j + 1) [j]) i
      | none => true
def soleB (ops : Array Oper) (m i j : Nat) : Bool := (List.range ops.size).all fun k => Nat.beq k i || Nat.beq k j || !inR ops m k
def planOk (ops : Array Oper) (eff : List Nat) : Nat → Plan → Nat → Bool
  | _, .done, m => (List.range ops.size).all fun k => !inR ops m k
  | n + 1, .one i r, m => inR ops m i && (freeQ ops eff m i || soleB ops m i i) && planOk ops eff n r (Nat.lor m (Nat.pow 2 i))
  | n + 1, .two i a j b, m => inR ops m i && inR ops m j && soleB ops m i j && planOk ops eff n a (Nat.lor m (Nat.pow 2 i)) && planOk ops eff n b (Nat.lor m (Nat.pow 2 j))
  | _, _, _ => false
def drawOk (ops : Array Oper) (eff : List Nat) (pl : Plan) : Bool := Region.noSelect ops && planOk ops eff ops.size pl 0

def vcI (P : Program) (M : Nat → Prop) (w0 : World) (N : Nat) (eff : List Nat) (ops : List Oper) (i : Nat) (e : Env) (L : DH) (K : Env → DH → Prop) : Prop :=
  match ops[i]? with
  | none => K e L
  | some o => vcStep P M w0 (!memB eff i) N ops o e L K
def vcPlan (P : Program) (M : Nat → Prop) (w0 : World) (N : Nat) (eff : List Nat) (ops : List Oper) : Plan → Env → DH → (Env → DH → Prop) → Prop
  | .done, e, L, K => K e L
  | .one i r, e, L, K => vcI P M w0 N eff ops i e L fun e' L' => vcPlan P M w0 N eff ops r e' L' K
  | .two i a j b, e, L, K => (vcI P M w0 N eff ops i e L fun e' L' => vcPlan P M w0 N eff ops a e' L' K) ∧ (vcI P M w0 N eff ops j e L fun e' L' => vcPlan P M w0 N eff ops b e' L' K)

def envOf : List (Nat × DV) → Env
  | [] => fun _ => .any
  | (t, d) :: r => fun u => bif Nat.beq u t then d else envOf r u
def objsOf : List (Nat × DObj) → Nat → Option DObj
  | [] => fun _ => none
  | (k, o) :: r => fun j => bif Nat.beq j k then some o else objsOf r j

/-- What a value may be taken for from here on. -/
inductive WkD (L : DH) (H : List (Nat × DObj)) : DV → DV → Prop where
  | same (d : DV) : WkD L H d d
  | any (d : DV) : WkD L H d .any
  | new (d : DV) (k sz : Nat) : (d = .pv .nil ∨ d = .e0) → L.get k = none → objsOf H k = some (.arr sz []) → WkD L H d (.buf k 0)
  | fz (k n : Nat) (es : List PV) : objsOf H k = none → ((∃ sz, L.get k = some (.arr sz es)) ∨ L.get k = some (.fz es)) → n = es.length → WkD L H (.buf k n) (.pv (.sl es))
  | nil (d : DV) : d = .pv .nil ∨ d = .e0 → WkD L H d (.pv (.sl []))
inductive WkO (L : DH) (H : List (Nat × DObj)) : Nat → DObj → Prop where
  | same (k : Nat) (o : DObj) : L.get k = some o → WkO L H k o
  | new (k sz : Nat) : L.get k = none → WkO L H k (.arr sz [])
  | var (k : Nat) (cs cs' : List DV) : L.get k = some (.var cs) → cs.length = cs'.length → (∀ (i : Nat) d d', cs[i]? = some d → cs'[i]? = some d' → WkD L H d d') → WkO L H k (.var cs')
  | fz (k sz : Nat) (es : List PV) : L.get k = some (.arr sz es) → (∀ q, q ∈ es → q.cells.length = sz) → WkO L H k (.fz es)

/-- The state is taken for a poorer one. -/
structure Wk (e : Env) (L : DH) (E : List (Nat × DV)) (nx : Nat) (H : List (Nat × DObj)) : Prop where
  env : ∀ q, q ∈ E → WkD L H (e q.1) q.2
  obj : ∀ q, q ∈ H → WkO L H q.1 q.2
  under : ∀ q, q ∈ E → q.2.under nx = true
  undero : ∀ q, q ∈ H → Nat.blt q.1 nx = true ∧ q.2.under nx = true
  lo : L.lo ≤ nx
  base : L.base ≤ nx
  new : ∀ q, q ∈ H → L.get q.1 = none → L.next ≤ q.1

def hOf (L : DH) (nx : Nat) (H : List (Nat × DObj)) : DH := ⟨nx, L.lo, L.base, objsOf H⟩

/-- The number of the region that a piece of code begins with. -/
def headId : Code → Nat
  | .region id _ _ => id
  | .seq a _ => headId a
  | .block _ c => headId c
  | .loop c => headId c
  | _ => big

/-- The condition of a piece of code. Ahead of the regions whose numbers are in C the state is taken for one of a family that is given. -/
def vc (P : Program) (M : Nat → Prop) (w0 : World) (N : Nat) (C : List Nat) (lo base : Nat) : Code → (Exit → Env → DH → Prop) → Env → DH → Prop
  | .skip, Q, e, L => Q .normal e L
  | .region _ ops false, Q, e, L => vcOps P M w0 false N ops.toList ops.toList e L (Q .normal)
  | .region _ ops true, Q, e, L => ∃ (pl : Plan) (eff : List Nat), drawOk ops eff pl = true ∧ vcPlan P M w0 N eff ops.toList pl e L (Q .normal)
  | .seq a b, Q, e, L => (match memB C (headId b) with
    | false => vc P M w0 N C lo base a (fun x e' L' => match x with | .normal => vc P M w0 N C lo base b Q e' L' | x => Q x e' L') e L
    | true => ∃ (ι : Type) (E : ι → List (Nat × DV)) (nx : ι → Nat) (H : ι → List (Nat × DObj)), vc P M w0 N C lo base a (fun x e' L' => match x with | .normal => ∃ j, Wk e' L' (E j) (nx j) (H j) | x => Q x e' L') e L ∧
        ∀ j, vc P M w0 N C lo base b Q (envOf (E j)) ⟨nx j, lo, base, objsOf (H j)⟩)
  | .cond c x y, Q, e, L => (match opd e c with
    | .pv (.bool b) => (b = true → vc P M w0 N C lo base x Q e L) ∧ (b = false → vc P M w0 N C lo base y Q e L)
    | _ => False)
  | .block id c, Q, e, L => vc P M w0 N C lo base c (fun x e' L' => match x with | .exit i => (bif Nat.beq i id then Q .normal e' L' else Q (.exit i) e' L') | x => Q x e' L') e L
  | .loop c, Q, e, L => ∃ (ι : Type) (E : ι → List (Nat × DV)) (nx : ι → Nat) (H : ι → List (Nat × DObj)) (m : ι → Nat), (∃ i, Wk e L (E i) (nx i) (H i)) ∧
      ∀ i, vc P M w0 N C lo base c (fun x e' L' => match x with | .normal => ∃ j, m j < m i ∧ Wk e' L' (E j) (nx j) (H j) | x => Q x e' L') (envOf (E i)) ⟨nx i, lo, base, objsOf (H i)⟩
  | .exit id, Q, e, L => Q (.exit id) e L
  | .label _, Q, e, L => Q .normal e L
  | .ret, Q, e, L => Q .ret e L
  | _, _, _, _ => False

end Go.Dv
