/- The evaluator: one operation, a region, code, a call; plain functions that the kernel reckons. -/
import Derived.Test.YtopeokonlaljlaaEng1
import Derived.Orders
set_option linter.unusedVariables false
set_option linter.unusedSectionVars false
namespace Go.Eng
variable [Dr]

/-- Names' values; some are lost. -/
abbrev Env := List (Nat × Option AV)
def lookE (env : Env) (t : Nat) : Option AV := match look env t with | some (some v) => some v | _ => none
/-- What the way through the code took for granted: each a Bool and what it was taken for. -/
abbrev Conds := List (Bool × Bool)

def constCell : Value → Option AV
  | .bool b => some (.bool b)
  | .int k n => some (.int k n)
  | .string s => some (.str s)
  | .pointer none => some .nilp
  | .slice none 0 0 => some .nils
  | .map none => some .nilm
  | .nilFunc => some .nilfn
  | .nilIface => some .nili
  | _ => none

def constCells : List Value → Option (List AV)
  | [] => some []
  | v :: r => match constCell v, constCells r with
    | some a, some l => some (a :: l)
    | _, _ => none

def constA : Value → Option AV
  | .agg cs => match constCells cs.toList with | some l => some (.agg l) | none => none
  | v => constCell v

def evA (env : Env) : Operand → Option AV
  | .tmp t => lookE env t
  | .const v => constA v
  | .func f => some (.fn (.func f) [] [])
  | .global _ => none

def evAs (env : Env) : List Operand → Option (List AV)
  | [] => some []
  | x :: r => match evA env x, evAs env r with
    | some a, some l => some (a :: l)
    | _, _ => none

def cellsA : AV → List AV
  | .agg cs => cs
  | v => [v]

/-- A value that may be stored. -/
def plainA : AV → Bool
  | .tup _ => false
  | _ => true

def szT (P : Program) (t : TypeId) : Option Nat := match P.info? t with | some i => some i.size | none => none
def aggT (P : Program) (t : TypeId) : Option Bool := match P.underlying t with | some (.struct _) | some (.array _ _) => some true | some _ => some false | none => none
def zeroT (P : Program) (t : TypeId) : Option AV := match P.info? t with | some i => (match i.zero with | some z => constA z | none => none) | none => none

/-- A part of cells as a value. -/
def partA (P : Program) (t : TypeId) (cs : List AV) (off : Nat) : Option AV :=
  match szT P t with
  | none => none
  | some n => match aggT P t with
    | some true => match Nat.ble (off + n) cs.length with | true => some (.agg ((cs.drop off).take n)) | false => none
    | some false => cs[off]?
    | none => none

def sets {α : Type} : List α → Nat → List α → List α
  | cs, _, [] => cs
  | cs, o, v :: r => sets (cs.set o v) (o + 1) r

def fillA (place : Nat → Option (Nat × Nat)) : List AV → List (Nat × AV) → Option (List AV)
  | cells, [] => some cells
  | cells, (i, v) :: rest =>
    match place i with
    | none => none
    | some (off, size) =>
      match Nat.beq (cellsA v).length size && Nat.ble (off + size) cells.length && plainA v with
      | true => fillA place (sets cells off (cellsA v)) rest
      | false => none

def evParts (env : Env) : List (Nat × Operand) → Option (List (Nat × AV))
  | [] => some []
  | (i, x) :: r => match evA env x, evParts env r with
    | some a, some l => some ((i, a) :: l)
    | _, _ => none

def placesT (P : Program) : List Field → Option (List (Nat × Nat))
  | [] => some []
  | f :: r => match szT P f.type, placesT P r with
    | some n, some l => some ((f.offset, n) :: l)
    | _, _ => none

def buildA (P : Program) (t : TypeId) (parts : List (Nat × AV)) : Option AV :=
  match zeroT P t, P.underlying t with
  | some z, some (.array _ e) => match szT P e with
    | some n => match fillA (fun i => some (i * n, n)) (cellsA z) parts with | some l => some (.agg l) | none => none
    | none => none
  | some z, some (.struct fs) => match placesT P fs.toList with
    | some ps => match fillA (fun i => ps[i]?) (cellsA z) parts with | some l => some (.agg l) | none => none
    | none => none
  | _, _ => none

def rep (z : List AV) : Nat → List AV
  | 0 => []
  | n + 1 => z ++ rep z n

/-- A slice literal: its cells. -/
def buildSliceA (P : Program) (e : TypeId) (n len : Nat) (parts : List (Nat × AV)) : Option (List AV) :=
  match Nat.ble (len * n) 16777216, Nat.ble 1 n with
  | true, true => match len with
    | 0 => match parts with | [] => some [] | _ => none
    | len + 1 => match zeroT P e with
      | some z => match Nat.beq (cellsA z).length n with
        | true => fillA (fun i => some (i * n, n)) (rep (cellsA z) (len + 1)) parts
        | false => none
      | none => none
  | _, _ => none

def eqCell : AV → AV → Option Bool
  | .bool a, .bool b => some (a == b)
  | .int k a, .int k' b => match decide (k = k') with | true => some (a == b) | false => none
  | .str a, .str b => some (a.toList == b.toList)
  | _, _ => none

/-- '==' of two structs, field by field, to the bottom. -/
def eqF (P : Program) (eq : TypeId → AV → AV → Option Bool) (xs ys : List AV) : List Field → Option Bool
  | [] => some true
  | f :: r =>
    match decide (f.name = "_") with
    | true => none
    | false => match partA P f.type xs f.offset, partA P f.type ys f.offset with
      | some a, some b => match eq f.type a b with
        | some q => match r with
          | [] => some q
          | g :: r' => match eqF P eq xs ys (g :: r') with | some s => some (q && s) | none => none
        | none => none
      | _, _ => none

def eqA (P : Program) : Nat → TypeId → AV → AV → Option Bool
  | 0, _, _, _ => none
  | d + 1, t, x, y =>
    match P.underlying t, x, y with
    | some .bool, .bool a, .bool b => some (a == b)
    | some (.int _), .int k a, .int k' b => match decide (k = k') with | true => some (a == b) | false => none
    | some .string, .str a, .str b => some (a.toList == b.toList)
    | some (.struct fs), .agg xs, .agg ys =>
      match P.stoodInHeld t with
      | true => none
      | false => eqF P (eqA P d) xs ys fs.toList
    | _, _, _ => none

def intA (op : BinOp) (k : IntKind) (a b : Int) : Option (AV × Conds) :=
  match op with
  | .add => some (.int k (k.wrap (a + b)), [])
  | .sub => some (.int k (k.wrap (a - b)), [])
  | .mul => some (.int k (k.wrap (a * b)), [])
  | .quo => some (.int k (k.wrap (a.tdiv b)), [(b == 0, false)])
  | .rem => some (.int k (a.tmod b), [(b == 0, false)])
  | .and => some (.int k (k.wrap (BitVec.ofInt k.bits a &&& BitVec.ofInt k.bits b).toNat), [])
  | .or => some (.int k (k.wrap (BitVec.ofInt k.bits a ||| BitVec.ofInt k.bits b).toNat), [])
  | .xor => some (.int k (k.wrap (BitVec.ofInt k.bits a ^^^ BitVec.ofInt k.bits b).toNat), [])
  | .andNot => some (.int k (k.wrap (BitVec.ofInt k.bits a &&& ~~~ BitVec.ofInt k.bits b).toNat), [])
  | .eql => some (.bool (a == b), [])
  | .neq => some (.bool (a != b), [])
  | .lss => some (.bool (decide (a < b)), [])
  | .leq => some (.bool (decide (a ≤ b)), [])
  | .gtr => some (.bool (decide (a > b)), [])
  | .geq => some (.bool (decide (a ≥ b)), [])
  | _ => none

def strA (op : BinOp) (a b : ByteArray) : Option (AV × Conds) :=
  match op with
  | .add => some (.str (a ++ b), [(decide (a.size + b.size ≤ 9223372036854775807), true)])
  | .eql => some (.bool (a.toList == b.toList), [])
  | .neq => some (.bool (!(a.toList == b.toList)), [])
  | .lss => some (.bool (Op.bytesLess a.toList b.toList), [])
  | .leq => some (.bool (Op.bytesLess a.toList b.toList || a.toList == b.toList), [])
  | .gtr => some (.bool (!(Op.bytesLess a.toList b.toList || a.toList == b.toList)), [])
  | .geq => some (.bool (!(Op.bytesLess a.toList b.toList)), [])
  | _ => none

def binA (P : Program) (op : BinOp) (t : TypeId) (x y : AV) : Option (AV × Conds) :=
  match op, x, y with
  | .shl, .int k a, .int _ b => some (.int k (k.wrap (a * 2 ^ (min b.toNat k.bits))), [(decide (b < 0), false)])
  | .shr, .int k a, .int _ b => some (.int k (a.fdiv (2 ^ (min b.toNat k.bits))), [(decide (b < 0), false)])
  | op, .int k a, .int k' b => match decide (k = k') with | true => intA op k a b | false => none
  | op, .str a, .str b => strA op a b
  | .eql, .bool a, .bool b => match P.underlying t with | some .bool => some (.bool (a == b), []) | _ => none
  | .neq, .bool a, .bool b => match P.underlying t with | some .bool => some (.bool (!(a == b)), []) | _ => none
  | .eql, .agg xs, .agg ys => match P.eqGuardType P.depth t, eqA P 40 t (.agg xs) (.agg ys) with | false, some q => some (.bool q, []) | _, _ => none
  | .neq, .agg xs, .agg ys => match P.eqGuardType P.depth t, eqA P 40 t (.agg xs) (.agg ys) with | false, some q => some (.bool (!q), []) | _, _ => none
  | _, _, _ => none

def unA (op : UnOp) (x : AV) : Option AV :=
  match op, x with
  | .not, .bool b => some (.bool (!b))
  | .neg, .int k n => some (.int k (k.wrap (0 - n)))
  | _, _ => none

def fieldT (P : Program) (s : TypeId) (f : Nat) : Option Field := match P.underlying s with | some (.struct fs) => fs[f]? | _ => none
def elemT (P : Program) (t : TypeId) : Option TypeId := match P.underlying t with | some (.slice e) => some e | _ => none

/-- A slice by what it holds: the cells of an element, how many, which; and what must be so. -/
def rowOf (h : Heap) : AV → Option (Nat × Nat × (Nat → Nat → AV) × Bool)
  | .sl id off len _ => match lookH h id with
    | some (.row _ sz n elem) => match off with
      | 0 => some (sz, len, elem, decide (len ≤ n))
      | off + 1 => some (sz, len, fun i k => elem (off + 1 + i) k, decide (off + 1 + len ≤ n))
    | _ => none
  | .dsl sz n elem => some (sz, n, elem, true)
  | _ => none

def intOfA : AV → Option Int
  | .int _ n => some n
  | _ => none

def boundA (env : Env) (d : Int) : Option Operand → Option Int
  | none => some d
  | some x => match evA env x with | some v => intOfA v | none => none

/-- How many elements of a row are known. -/
def knownA (h : Heap) (id : Nat) : Option (Nat × Nat) := match lookH h id with | some (.row _ sz n _) => some (sz, n) | _ => none

structure Got where
  val : Option AV
  heap : Heap
  next : Nat
  conds : Conds

def Got.pure (h : Heap) (n : Nat) (r : Option AV) : Option Got := match r with | some v => some ⟨some v, h, n, []⟩ | none => none
def Got.pureC (h : Heap) (n : Nat) (r : Option (AV × Conds)) : Option Got := match r with | some (v, c) => some ⟨some v, h, n, c⟩ | none => none

def boxA (h : Heap) (n : Nat) (t : TypeId) (v : AV) : Option Got := match plainA v with | true => some ⟨some (.ptr n 0 0), (n, some (.box t (cellsA v))) :: h, n + 1, []⟩ | false => none

def lodA (P : Program) (h : Heap) (n : Nat) (t : TypeId) (a : AV) : Option Got :=
  match a with
  | .ptr id idx off => match lookH h id with
    | some (.box _ cells) => match idx with
      | 0 => Got.pure h n (partA P t cells off)
      | _ => none
    | some (.row _ sz m elem) => match szT P t with
      | some s => match aggT P t, Nat.ble (off + s) sz, Nat.ble (off + 1) sz with
        | some true, true, _ => some ⟨some (.agg ((List.range s).map fun k => elem idx (off + k))), h, n, [(decide (idx < m), true)]⟩
        | some false, _, true => some ⟨some (elem idx off), h, n, [(decide (idx < m), true)]⟩
        | _, _, _ => none
      | none => none
    | _ => none
  | .dptr sz cell => match szT P t with
    | some s => match aggT P t, Nat.ble s sz, Nat.ble 1 sz with
      | some true, true, _ => some ⟨some (.agg ((List.range s).map fun k => cell k)), h, n, []⟩
      | some false, _, true => some ⟨some (cell 0), h, n, []⟩
      | _, _, _ => none
    | none => none
  | _ => none

def stoA (P : Program) (h : Heap) (n : Nat) (t : TypeId) (a v : AV) : Option Got :=
  match szT P t, plainA v with
  | some s, true => match Nat.beq (cellsA v).length s with
    | true => match a with
      | .ptr id idx off => match lookH h id with
        | some (.box ty cells) => match idx, Nat.ble (off + s) cells.length with
          | 0, true => some ⟨none, (id, some (.box ty (sets cells off (cellsA v)))) :: h, n, []⟩
          | _, _ => none
        | some (.row ty sz m elem) => match Nat.ble (off + s) sz with
          | true => some ⟨none, (id, some (.row ty sz m fun i k => if i = idx ∧ off ≤ k ∧ k < off + s then (cellsA v).getD (k - off) .nilp else elem i k)) :: h, n, [(decide (idx < m), true)]⟩
          | false => none
        | _ => none
      | _ => none
    | false => none
  | _, _ => none

def idxA (P : Program) (h : Heap) (n : Nat) (t : TypeId) (x i : AV) : Option Got :=
  match elemT P t, intOfA i with
  | some e, some j => match szT P e, x with
    | some s, .sl id off len cap => match knownA h id with
      | some (sz, m) => match Nat.beq s sz, Nat.ble 1 s with
        | true, true => some ⟨some (.ptr id (off + j.toNat) 0), h, n, [(decide (0 ≤ j ∧ j < (len : Int)), true)]⟩
        | _, _ => none
      | none => none
    | some s, .dsl sz len elem => match Nat.beq s sz, Nat.ble 1 s with
      | true, true => some ⟨some (.dptr sz (elem j.toNat)), h, n, [(decide (0 ≤ j ∧ j < (len : Int)), true)]⟩
      | _, _ => none
    | _, _ => none
  | _, _ => none

def fldA (P : Program) (s : TypeId) (a : AV) (f : Nat) : Option AV :=
  match fieldT P s f with
  | some fd => match szT P fd.type with
    | some (_ + 1) => match a with
      | .ptr id idx off => some (.ptr id idx (off + fd.offset))
      | .dptr sz cell => match Nat.ble fd.offset sz with | true => some (.dptr (sz - fd.offset) fun k => cell (fd.offset + k)) | false => none
      | _ => none
    | _ => none
  | none => none

def idxV (P : Program) (t : TypeId) (x i : AV) : Option (AV × Conds) :=
  match P.underlying t, x, i with
  | some (.array len e), .agg cs, .int _ j => match szT P e with
    | some s => match partA P e cs (j.toNat * s) with | some v => some (v, [(decide (0 ≤ j ∧ j < (len : Int)), true)]) | none => none
    | none => none
  | some .string, .str s, .int _ j => some (.int .u8 (s.data.getD j.toNat 0).toNat, [(decide (0 ≤ j ∧ j < (s.size : Int)), true)])
  | _, _, _ => none

def sliceA (P : Program) (env : Env) (h : Heap) (n : Nat) (t : TypeId) (x : AV) (lo hi : Option Operand) : Option Got :=
  match x with
  | .str s => match P.underlying t, boundA env 0 lo, boundA env s.size hi with
    | some .string, some l, some u => some ⟨some (.str (s.extract l.toNat u.toNat)), h, n, [(decide (0 ≤ l ∧ l ≤ u ∧ u ≤ (s.size : Int)), true)]⟩
    | _, _, _ => none
  | .sl id off len cap => match elemT P t, boundA env 0 lo, boundA env len hi with
    | some e, some l, some u => match szT P e, knownA h id with
      | some s, some (sz, m) => match Nat.beq s sz with
        | true => some ⟨some (.sl id (off + l.toNat) (u.toNat - l.toNat) (cap - l.toNat)), h, n, [(decide (0 ≤ l ∧ l ≤ u ∧ u ≤ (cap : Int)), true)]⟩
        | false => none
      | _, _ => none
    | _, _, _ => none
  | .dsl sz len elem => match elemT P t, boundA env 0 lo, boundA env len hi with
    | some e, some l, some u => match szT P e with
      | some s => match Nat.beq s sz with
        | true => some ⟨some (.dsl sz (u.toNat - l.toNat) fun i k => elem (l.toNat + i) k), h, n, [(decide (0 ≤ l ∧ l ≤ u ∧ u ≤ (len : Int)), true)]⟩
        | false => none
      | none => none
    | _, _, _ => none
  | .nils => match elemT P t, boundA env 0 lo, boundA env 0 hi with
    | some e, some l, some u => match szT P e with
      | some s => some ⟨some .nils, h, n, [(decide (l = 0 ∧ u = 0), true)]⟩
      | none => none
    | _, _, _ => none
  | _ => none

def lenA (P : Program) (h : Heap) (t : TypeId) (x : AV) : Option AV :=
  match P.underlying t, x with
  | some .string, .str s => some (.int .i64 s.size)
  | some (.slice _), .sl _ _ len _ => some (.int .i64 len)
  | some (.slice _), .dsl _ n _ => some (.int .i64 n)
  | some (.slice _), .nils => some (.int .i64 0)
  | some (.map _ _), .nilm => some (.int .i64 0)
  | some (.map _ _), .map id => match lookH h id with | some (.map es) => some (.int .i64 es.length) | _ => none
  | _, _ => none

/-- cap: of no slice. -/
def capA (P : Program) (t : TypeId) (x : AV) : Option AV := match P.underlying t, x with
  | some (.slice _), .nils => some (.int .i64 0)
  | _, _ => none

/-- append: a new row in the old one's place; the old one is forgotten. -/
def appTo (h : Heap) (n : Nat) (e : TypeId) (size bytes m : Nat) (el : Nat → Nat → AV) (x : AV) : Option Got :=
  match x with
  | .nils => some ⟨some (.sl n 0 m m), (n, some (.row e size m el)) :: h, n + 1, [(decide (m * bytes ≤ 140737488355328), true)]⟩
  | .sl id off len cap => match lookH h id with
    | some (.row ty sz k elem) => match Nat.beq sz size && Nat.beq ty e with
      | true => some ⟨some (.sl n 0 (len + m) (len + m)), (n, some (.row e size (len + m) fun i c => if i < len then elem (off + i) c else el (i - len) c)) :: (id, none) :: h, n + 1,
          [(decide ((len + m) * bytes ≤ 140737488355328), true), (decide (off + len ≤ k), true)]⟩
      | false => none
    | _ => none
  | _ => none

def moreA (h : Heap) (size : Nat) (y : AV) : Option (Nat × (Nat → Nat → AV) × Bool) :=
  match y with
  | .nils => some (0, fun _ _ => .nilp, true)
  | y => match rowOf h y with | some (sz, m, el, b) => (match Nat.beq sz size with | true => some (m, el, b) | false => none) | none => none

def appA (P : Program) (h : Heap) (n : Nat) (t : TypeId) (x y : AV) : Option Got :=
  match elemT P t with
  | some e => match P.info? e with
    | some ie => match ie.zero, Nat.ble 1 ie.size, Nat.ble 1 ie.bytes with
      | some z, true, true => match Nat.beq z.cells.size ie.size, moreA h ie.size y with
        | true, some (m, el, b) => match appTo h n e ie.size ie.bytes m el x with
          | some g => some ⟨g.val, g.heap, g.next, (b, true) :: g.conds⟩
          | none => none
        | _, _ => none
      | _, _, _ => none
    | none => none
  | none => none

def minmaxA (mx : Bool) : List AV → Option AV
  | .int k a :: .int k' b :: r => match decide (k = k') with
    | true => match r with
      | [] => some (.int k (match mx with | true => if b > a then b else a | false => if b < a then b else a))
      | _ => none
    | false => none
  | _ => none

def makA (P : Program) (h : Heap) (n : Nat) (t : TypeId) (l c : AV) : Option Got :=
  match elemT P t, l, c with
  | some e, .int .i64 a, .int .i64 b => match P.info? e with
    | some ie => match ie.zero with
      | some z => match constA z with
        | some za => match Nat.beq (cellsA za).length ie.size, Nat.ble 1 ie.size with
          | true, true => some ⟨some (.sl n 0 a.toNat a.toNat), (n, some (.row e ie.size a.toNat fun _ k => (cellsA za).getD k .nilp)) :: h, n + 1,
              [(a == b, true), (decide (0 ≤ a ∧ a * ie.bytes ≤ 140737488355328 ∧ a ≤ 140737488355328), true)]⟩
          | _, _ => none
        | none => none
      | none => none
    | none => none
  | _, _, _ => none

/-- One operation that calls nobody. -/
def stepA (P : Program) (env : Env) (h : Heap) (n : Nat) (o : Op) : Option Got :=
  match o with
  | .move x | .assign x => Got.pure h n (evA env x)
  | .pick c a b => match evA env c with
    | some (.bool true) => Got.pure h n (evA env a)
    | some (.bool false) => Got.pure h n (evA env b)
    | _ => none
  | .alloc t => match zeroT P t with | some z => boxA h n t z | none => none
  | .box t x => match evA env x with | some v => boxA h n t v | none => none
  | .build t parts => match evParts env parts.toList with | some ps => Got.pure h n (buildA P t ps) | none => none
  | .buildSlice t len parts => match evParts env parts.toList, elemT P t with
    | some ps, some e => match szT P e with
      | some s => match buildSliceA P e s len ps with
        | some cells => some ⟨some (.sl n 0 len len), (n, some (.row e s len fun i k => cells.getD (i * s + k) .nilp)) :: h, n + 1, []⟩
        | none => none
      | none => none
    | _, _ => none
  | .load t a => match evA env a with | some v => lodA P h n t v | none => none
  | .store t a x => match evA env a, evA env x with | some v, some u => stoA P h n t v u | _, _ => none
  | .nilCheck x => match evA env x with
    | some (.ptr id idx off) => Got.pure h n (some (.ptr id idx off))
    | some (.dptr sz c) => Got.pure h n (some (.dptr sz c))
    | _ => none
  | .binOp op t x y _ => match evA env x, evA env y with | some a, some b => Got.pureC h n (binA P op t a b) | _, _ => none
  | .unOp op _ x => match evA env x with | some a => Got.pure h n (unA op a) | none => none
  | .convert s t x => match evA env x, P.underlying s, P.underlying t with
    | some (.int _ a), some (.int _), some (.int k) => Got.pure h n (some (.int k (k.wrap a)))
    | some (.str a), some .string, some .string => Got.pure h n (some (.str a))
    | _, _, _ => none
  | .makeInterface t x => match evA env x, P.concrete t with | some a, true => Got.pure h n (some (.iface t a)) | _, _ => none
  | .makeFunc f first cap => match evAs env first.toList, evAs env cap.toList with | some a, some b => Got.pure h n (some (.fn f a b)) | _, _ => none
  | .makeSlice t l c => match evA env l, evA env c with | some a, some b => makA P h n t a b | _, _ => none
  | .slice t x lo hi none => match evA env x with | some v => sliceA P env h n t v lo hi | none => none
  | .fieldAddr s x f => match evA env x with | some v => Got.pure h n (fldA P s v f) | none => none
  | .field s x f => match evA env x, fieldT P s f with | some (.agg cs), some fd => Got.pure h n (partA P fd.type cs fd.offset) | _, _ => none
  | .indexAddr t x i => match evA env x, evA env i with | some v, some j => idxA P h n t v j | _, _ => none
  | .index t x i => match evA env x, evA env i with | some v, some j => Got.pureC h n (idxV P t v j) | _, _ => none
  | .extract x i => match evA env x with | some (.tup l) => Got.pure h n l[i]? | _ => none
  | .call { callee := .builtin .len, args := args, argTypes := ts } => match args.toList, ts.toList with
    | [x], [t] => match evA env x with | some v => Got.pure h n (lenA P h t v) | none => none
    | _, _ => none
  | .call { callee := .builtin .cap, args := args, argTypes := ts } => match args.toList, ts.toList with
    | [x], [t] => match evA env x with | some v => Got.pure h n (capA P t v) | none => none
    | _, _ => none
  | .call { callee := .builtin .append, args := args, argTypes := ts } => match args.toList, ts.toList with
    | [x, y], [t, u] => match evA env x, evA env y, P.underlying u with | some v, some z, some (.slice _) => appA P h n t v z | _, _, _ => none
    | _, _ => none
  | .call { callee := .builtin .max, args := args, argTypes := _ } => match evAs env args.toList with | some l => Got.pure h n (minmaxA true l) | none => none
  | .call { callee := .builtin .min, args := args, argTypes := _ } => match evAs env args.toList with | some l => Got.pure h n (minmaxA false l) | none => none
  | _ => none

/-! ### Calls and code -/
inductive AEnd where
  | ret (v : AV)
  | pan (v : AV)

/-- A decision: 'go k d': k Bools that are numerals, then 'd'; 'halt k': k such, then the way ends. Behind the last one all must be numerals. -/
inductive Dec where
  | go (k : Nat) (d : Bool)
  | halt (k : Nat)

def decideA : List Dec → Bool → Option (Bool × List Dec × Conds)
  | [], b => some (b, [], [])
  | .go k d :: r, b => match k with
    | 0 => some (d, r, [(d, b)])
    | k + 1 => some (b, .go k d :: r, [])
  | .halt k :: r, b => match k with
    | 0 => none
    | k + 1 => some (b, .halt k :: r, [])

/-- What comes of a piece: the store of objects, the next number, the decisions left, what was taken for granted. -/
structure Came (α : Type) where
  out : α
  heap : Heap
  next : Nat
  ds : List Dec
  conds : Conds

inductive AExit where
  | normal
  | exit (id : Nat)
  | goto (l : Nat)
  | ret
  | panic (v : AV)

structure AOut where
  exit : AExit
  env : Env

/-- A call, the Bools on the way decided by the list. -/
abbrev CallF := FuncId → List AV → Heap → Nat → List Dec → Option (Came AEnd)

/-- Contracts: what a call of a function comes to. -/
abbrev Delta := FuncId → List AV → Heap → Nat → Option (AEnd × Heap × Nat × Conds)

def lostA (env : Env) : Option Tmp → Env
  | some t => (t, some (.tup [])) :: env
  | none => env

def isGuardL (j : Nat) : List Oper → Bool
  | [] => false
  | o :: l => match o.guard with | some (k, _) => (match Nat.beq k j with | true => true | false => isGuardL j l) | none => isGuardL j l
def isGuard (ops : Array Oper) (j : Nat) : Bool := isGuardL j ops.toList

def putA (env : Env) : Option Tmp → Option AV → Option Env
  | some t, some v => some ((t, some v) :: env)
  | none, _ => some env
  | some _, none => none

def calleeA (env : Env) : Callee → Option (FuncId × List AV × List AV)
  | .value f => match evA env f with
    | some (.fn (.func k) first cap) => some (k, first, cap)
    | _ => none
  | _ => none

/-- Is an operation wanted? Its guard's Bool tells. -/
def wantedA (ops : Array Oper) (env : Env) (o : Oper) : Option Bool := match o.guard with
  | none => some true
  | some (g, want) => match ((ops[g]?).bind (·.dst)) with
    | some t => match lookE env t with
      | some (.bool true) => some want
      | some (.bool false) => some (!want)
      | some (.tup _) => some false
      | _ => none
    | none => none

/-- The operations of a region, in the text's order. 'guards': which of them are looked at by a later one (their Bools are decided at once). -/
def runOps (P : Program) (N : Nat) (cf : CallF) (ops : Array Oper) : List Oper → Nat → Env → Heap → Nat → List Dec → Option (Came AOut)
  | [], _, env, h, n, ds => some ⟨⟨.normal, env⟩, h, n, ds, []⟩
  | o :: rest, j, env, h, n, ds =>
    let dstOk : Bool := match o.dst with | some t => Nat.blt t N | none => true
    match dstOk, wantedA ops env o with
    | true, some false => runOps P N cf ops rest (j + 1) (lostA env o.dst) h n ds
    | true, some true =>
      let fin (env : Env) (h : Heap) (n : Nat) (ds : List Dec) (c : Conds) : Option (Came AOut) :=
        match runOps P N cf ops rest (j + 1) env h n ds with
        | some r => some ⟨r.out, r.heap, r.next, r.ds, c ++ r.conds⟩
        | none => none
      let put (v : Option AV) (h : Heap) (n : Nat) (ds : List Dec) (c : Conds) : Option (Came AOut) :=
        match isGuard ops j with
        | false => match putA env o.dst v with | some e => fin e h n ds c | none => none
        | true => match v with
          | some (.bool b) => match decideA ds b with
            | some (true, ds, c2) => match putA env o.dst (some (.bool true)) with | some e => fin e h n ds (c2 ++ c) | none => none
            | some (false, ds, c2) => match putA env o.dst (some (.bool false)) with | some e => fin e h n ds (c2 ++ c) | none => none
            | none => none
          | _ => none
      match o.op with
      | .call { callee := .value f, args := args, argTypes := _ } =>
        match calleeA env (.value f), evAs env args.toList with
        | some (k, first, cap), some l => match cf k (first ++ l ++ cap) h n ds with
          | some r => match r.out with
            | .ret v => match put (some v) r.heap r.next r.ds [] with
              | some s => some ⟨s.out, s.heap, s.next, s.ds, r.conds ++ s.conds⟩
              | none => none
            | .pan v => some ⟨⟨.panic v, env⟩, r.heap, r.next, r.ds, r.conds⟩
          | none => none
        | _, _ => none
      | .panic x => match evA env x with
        | some (.iface t v) => some ⟨⟨.panic (.iface t v), env⟩, h, n, ds, []⟩
        | _ => none
      | op => match stepA P env h n op with
        | some g => put g.val g.heap g.next ds g.conds
        | none => none
    | _, _ => none

/-! ### A region that draws its order: operations that read, and stores; whatever is not ordered must be apart -/
/-- The object that an operation looks at; does it write it? (none: not taken here) -/
def dIds (env : Env) : Op → Option (Option Nat × Bool)
  | .move _ | .assign _ | .pick _ _ _ | .build _ _ | .binOp _ _ _ _ _ | .unOp _ _ _ | .convert _ _ _ | .makeInterface _ _ | .makeFunc _ _ _ | .field _ _ _ | .fieldAddr _ _ _ | .nilCheck _ | .index _ _ _ | .extract _ _ => some (none, false)
  | .load _ a => match evA env a with | some (.ptr id _ _) => some (some id, false) | some (.dptr _ _) => some (none, false) | _ => none
  | .store _ a _ => match evA env a with | some (.ptr id _ _) => some (some id, true) | _ => none
  | .indexAddr _ x _ => match evA env x with | some (.sl id _ _ _) => some (some id, false) | some (.dsl _ _ _) => some (none, false) | _ => none
  | .slice _ x _ _ none => match evA env x with | some (.sl id _ _ _) => some (some id, false) | some (.dsl _ _ _) => some (none, false) | some (.str _) => some (none, false) | _ => none
  | .call { callee := .value _, args := _, argTypes := _ } => some (none, false)
  | .call { callee := .builtin .len, args := args, argTypes := _ } => match args.toList with
    | [x] => match evA env x with
      | some (.map id) => some (some id, false)
      | some _ => some (none, false)
      | none => none
    | _ => none
  | .call { callee := .builtin .max, args := _, argTypes := _ } => some (none, false)
  | .call { callee := .builtin .min, args := _, argTypes := _ } => some (none, false)
  | _ => none

/-- No address of the evaluator's objects in it. -/
def flatCell : AV → Bool
  | .bool _ | .int _ _ | .str _ | .nilp | .nils | .nilm | .nilfn | .nili | .dsl _ _ _ | .dptr _ _ => true
  | _ => false
def flatA : AV → Bool
  | .agg l => l.all flatCell
  | .iface _ v => flatCell v
  | v => flatCell v
def flatV : AV → Bool
  | .tup l => l.all flatA
  | v => flatA v

/-- No address at all in it. -/
def bareCell : AV → Bool
  | .bool _ | .int _ _ | .str _ | .nilp | .nils | .nilm | .nilfn | .nili => true
  | _ => false
def bareA : AV → Bool
  | .agg l => l.all bareCell
  | .iface _ v => bareCell v
  | v => bareCell v
def bareV : AV → Bool
  | .tup l => l.all bareA
  | v => bareA v

/-- One operation of such a region; 'cds': how a call decides. -/
def stepD (P : Program) (cf : CallF) (cds : List Dec) (env : Env) (h : Heap) (n : Nat) (o : Op) : Option (Option AV × Heap × Conds) :=
  match o with
  | .call { callee := .value f, args := args, argTypes := _ } =>
    match calleeA env (.value f), evAs env args.toList with
    | some (k, first, cap), some l => match (first ++ l ++ cap).all flatV, cf k (first ++ l ++ cap) [] 0 cds with
      | true, some r => match r.out with
        | .ret v => match bareV v with | true => some (some v, h, r.conds) | false => none
        | .pan _ => none
      | _, _ => none
    | _, _ => none
  | op => match stepA P env h n op with
    | some g => match Nat.beq g.next n with | true => some (g.val, g.heap, g.conds) | false => none
    | none => none

structure DSt where
  env : Env
  heap : Heap

/-- What an operation is taken to touch, and what its Bool is taken for. -/
structure DTab where
  id : Option Nat
  wr : Bool
  lit : Option Bool
  cds : List Dec

def eqON : Option Nat → Option Nat → Bool
  | some a, some b => Nat.beq a b
  | none, none => true
  | _, _ => false

def litA (v : Option AV) : Option Bool → Option (Option AV × Conds)
  | none => some (v, [])
  | some d => match v with | some (.bool b) => some (some (.bool d), [(d, b)]) | _ => none

/-- One step; what it touches must be what the table says. -/
def dStep (P : Program) (cf : CallF) (N n : Nat) (ops : Array Oper) (tab : Nat → DTab) (i : Nat) (s : DSt) : Option (DSt × Conds) :=
  match ops[i]? with
  | none => none
  | some o =>
    match (match o.dst with | some t => Nat.blt t N | none => true), wantedA ops s.env o with
    | true, some false => some (⟨lostA s.env o.dst, s.heap⟩, [])
    | true, some true => match dIds s.env o.op with
      | some (id, wr) => match eqON id (tab i).id && wr == (tab i).wr with
        | true => match stepD P cf (tab i).cds s.env s.heap n o.op with
          | some (v, h, c) => match litA v (tab i).lit with
            | some (v, c2) => match putA s.env o.dst v with
              | some env => some (⟨env, h⟩, c2 ++ c)
              | none => none
            | none => none
          | none => none
        | false => none
      | none => none
    | _, _ => none

def dRun (P : Program) (cf : CallF) (N n : Nat) (ops : Array Oper) (tab : Nat → DTab) : List Nat → DSt → Option (DSt × Conds)
  | [], s => some (s, [])
  | i :: l, s => match dStep P cf N n ops tab i s with
    | some (s1, c1) => match dRun P cf N n ops tab l s1 with
      | some (s2, c2) => some (s2, c1 ++ c2)
      | none => none
    | none => none

/-- The table, out of a first run in the text's order. -/
def dTab (P : Program) (cf : CallF) (N n : Nat) (ops : Array Oper) : List Oper → Nat → DSt → List Dec → Option (List DTab × List Dec)
  | [], _, _, ds => some ([], ds)
  | o :: l, i, s, ds =>
    let go (t : DTab) (ds' : List Dec) : Option (List DTab × List Dec) :=
      match dStep P cf N n ops (fun _ => t) i s with
      | some (s1, _) => match dTab P cf N n ops l (i + 1) s1 ds' with
        | some (ts, ds) => some (t :: ts, ds)
        | none => none
      | none => none
    match wantedA ops s.env o with
    | some false => go ⟨none, false, none, []⟩ ds
    | some true =>
      match dIds s.env o.op, stepD P cf ds s.env s.heap n o.op with
      | some (id, wr), some (v, _, _) =>
        -- what is left of the decisions behind a call
        let ds1 : List Dec := match o.op with
          | .call { callee := .value f, args := args, argTypes := _ } => match calleeA s.env (.value f), evAs s.env args.toList with
            | some (k, first, cap), some l => match cf k (first ++ l ++ cap) [] 0 ds with
              | some r => r.ds
              | none => ds
            | _, _ => ds
          | _ => ds
        match isGuard ops i, v with
        | true, some (.bool b) => match ds1, decideA ds1 b with
          | .go 0 d :: _, some (_, ds2, _) => go ⟨id, wr, some d, ds⟩ ds2
          | _, some (true, ds2, _) => go ⟨id, wr, none, ds⟩ ds2
          | _, some (false, ds2, _) => go ⟨id, wr, none, ds⟩ ds2
          | _, none => none
        | _, _ => go ⟨id, wr, none, ds⟩ ds1
      | _, _ => none
    | none => none

/-- What each operation waits for, all in all, as bits. -/
def befs : List Oper → List Nat → List Nat
  | [], acc => acc
  | o :: l, acc => befs l (acc ++ [o.after.toList.foldl (fun s e => match Region.binds .any e with | true => s ||| 2 ^ e.on ||| acc.getD e.on 0 | false => s) 0])

def apartT (a b : DTab) : Bool := match a.id, b.id with
  | some x, some y => !(Nat.beq x y) || (!a.wr && !b.wr)
  | _, _ => true

def pairOk (ops : Array Oper) (B : List Nat) (tab : Nat → DTab) (j i : Nat) : Bool :=
  (B.getD i 0).testBit j || (match ops[j]?, ops[i]? with | some x, some y => x.apart ops y && apartT (tab j) (tab i) | _, _ => false)

def pairsOk (ops : Array Oper) (B : List Nat) (tab : Nat → DTab) (n : Nat) : Bool :=
  (List.range n).all fun i => (List.range i).all fun j => pairOk ops B tab j i

/-- What an operation waits for lies ahead of it in the text. -/
def edgesOk : List Oper → Nat → Bool
  | [], _ => true
  | o :: l, i => o.after.toList.all (fun e => match Region.binds .any e with | true => Nat.blt e.on i | false => true) && edgesOk l (i + 1)

/-- Does it wait for the operation j? -/
def hasEdge (o : Oper) (j : Nat) : Bool := o.after.toList.any fun e => match Region.binds .any e with | true => Nat.beq e.on j | false => false
/-- From the operation j on each waits for the one ahead of it (the list begins behind j). -/
def chainOk : List Oper → Nat → Bool
  | [], _ => true
  | o :: l, j => hasEdge o j && chainOk l (j + 1)
/-- From the operation c on each waits for all ahead of c. -/
def fullOk (B : List Nat) (c : Nat) : Bool := (B.drop c).all fun b => Nat.beq (Nat.land b (2 ^ c - 1)) (2 ^ c - 1)
/-- Where the operations begin that stand in a row: all others lie ahead of them. -/
def splitGo (ops : List Oper) (B : List Nat) : Nat → Nat → Nat
  | 0, best => best
  | c + 1, best => match (match ops.drop (c + 1) with | [] => true | o :: _ => hasEdge o c) with
    | true => splitGo ops B c (match fullOk B c with | true => c | false => best)
    | false => best

/-- The whole region: first the operations that are free in their order, then those that stand in a row. -/
def runDraw (P : Program) (cf : CallF) (N : Nat) (ops : Array Oper) (env : Env) (h : Heap) (n : Nat) (ds : List Dec) : Option (Came AOut) :=
  let B := befs ops.toList []
  let c := splitGo ops.toList B ops.size ops.size
  match dTab P cf N n ops (ops.toList.take c) 0 ⟨env, h⟩ ds with
  | some (ts, ds) =>
    let tab := fun i => ts.getD i ⟨none, false, none, []⟩
    match Nat.ble c ops.size && (pairsOk ops B tab c && edgesOk ops.toList 0 && (fullOk B c && chainOk (ops.toList.drop (c + 1)) c)), dRun P cf N n ops tab (List.range c) ⟨env, h⟩ with
    | true, some (s, c1) => match runOps P N cf ops (ops.toList.drop c) c s.env s.heap n ds with
      | some r => some ⟨r.out, r.heap, r.next, r.ds, c1 ++ r.conds⟩
      | none => none
    | _, _ => none
  | none => none

/-- Code without endless loops: 'fuel' bounds the rounds. -/
def runC (P : Program) (N : Nat) (cf : CallF) (fuel : Nat) : Code → Env → Heap → Nat → List Dec → Option (Came AOut)
  | .skip, env, h, n, ds => some ⟨⟨.normal, env⟩, h, n, ds, []⟩
  | .label _, env, h, n, ds => some ⟨⟨.normal, env⟩, h, n, ds, []⟩
  | .region _ ops false, env, h, n, ds => runOps P N cf ops ops.toList 0 env h n ds
  | .region _ ops true, env, h, n, ds => runDraw P cf N ops env h n ds
  | .seq a b, env, h, n, ds =>
    match runC P N cf fuel a env h n ds with
    | some r => match r.out.exit with
      | .normal => match runC P N cf fuel b r.out.env r.heap r.next r.ds with
        | some s => some ⟨s.out, s.heap, s.next, s.ds, r.conds ++ s.conds⟩
        | none => none
      | _ => some r
    | none => none
  | .cond c x y, env, h, n, ds =>
    match evA env c with
    | some (.bool b) => match decideA ds b with
      | some (true, ds, c1) => match runC P N cf fuel x env h n ds with | some r => some ⟨r.out, r.heap, r.next, r.ds, c1 ++ r.conds⟩ | none => none
      | some (false, ds, c1) => match runC P N cf fuel y env h n ds with | some r => some ⟨r.out, r.heap, r.next, r.ds, c1 ++ r.conds⟩ | none => none
      | none => none
    | _ => none
  | .block id c, env, h, n, ds =>
    match runC P N cf fuel c env h n ds with
    | some r => match r.out.exit with
      | .exit id' => match Nat.beq id' id with
        | true => some ⟨⟨.normal, r.out.env⟩, r.heap, r.next, r.ds, r.conds⟩
        | false => some r
      | _ => some r
    | none => none
  | .loop c, env, h, n, ds => runLoop fuel (runC P N cf fuel c) env h n ds
  | .exit id, env, h, n, ds => some ⟨⟨.exit id, env⟩, h, n, ds, []⟩
  | .ret, env, h, n, ds => some ⟨⟨.ret, env⟩, h, n, ds, []⟩
  | _, _, _, _, _ => none
where
  runLoop : Nat → (Env → Heap → Nat → List Dec → Option (Came AOut)) → Env → Heap → Nat → List Dec → Option (Came AOut)
    | 0, _, _, _, _, _ => none
    | k + 1, f, env, h, n, ds =>
      match f env h n ds with
      | some r => match r.out.exit with
        | .normal => match runLoop k f r.out.env r.heap r.next r.ds with
          | some s => some ⟨s.out, s.heap, s.next, s.ds, r.conds ++ s.conds⟩
          | none => none
        | _ => some r
      | none => none

def params (l : List AV) : Nat → Env
  | i => match l with
    | [] => []
    | v :: r => (i, some v) :: params r (i + 1)

def resA (P : Program) (env : Env) (h : Heap) (n : Nat) : List ResultVar → Option (List AV)
  | [] => some []
  | .tmp t :: r => match lookE env t, resA P env h n r with
    | some v, some l => some (v :: l)
    | _, _ => none
  | .cell a t :: r => match lookE env a with
    | some (.ptr id idx off) => match lodA P h n t (.ptr id idx off), resA P env h n r with
      | some ⟨some v, _, _, []⟩, some l => some (v :: l)
      | _, _ => none
    | _ => none

def oneOf : List AV → AV
  | [v] => v
  | l => .tup l

def runF (P : Program) (Δ : Delta) (fuel : Nat) : Nat → CallF
  | 0, _, _, _, _, _ => none
  | d + 1, f, args, h, n, ds =>
    match Δ f args h n with
    | some (e, h', n', c) => some ⟨e, h', n', ds, c⟩
    | none =>
      match P.funcs[f]? with
      | some fn => match fn.body with
        | some c => match Nat.ble args.length fn.ntmps, runC P fn.ntmps (runF P Δ fuel d) fuel c (params args 0) h n ds with
          | true, some r => match r.out.exit with
            | .normal => match resA P r.out.env r.heap r.next fn.results.toList with | some l => some ⟨.ret (oneOf l), r.heap, r.next, r.ds, r.conds⟩ | none => none
            | .ret => match resA P r.out.env r.heap r.next fn.results.toList with | some l => some ⟨.ret (oneOf l), r.heap, r.next, r.ds, r.conds⟩ | none => none
            | .panic v => some ⟨.pan v, r.heap, r.next, r.ds, r.conds⟩
            | _ => none
          | _, _ => none
        | none => none
      | none => none

end Go.Eng
