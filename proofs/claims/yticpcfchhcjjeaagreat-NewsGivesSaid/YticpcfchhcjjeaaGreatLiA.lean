/-
  A logical interpreter of the model's code: values instead of memory. Definitions alone. No program is named here.
-/
import Derived.RangeFuncLeaves
import Derived.RangeFuncCalls
import Derived.Below
import Derived.OrdersIn
import Derived.Still
namespace Go.Proofs.YticpcfchhcjjeaaGreat.LI
open Go Go.RowKit

/-- Logical values. -/
inductive LV where
  | undef
  | sc (v : Value)
  | nils
  | slice (es : List LV)
  | nslice (es : List LV)
  | mref (r n : Nat)
  | mview (r n lo hi sz : Nat)
  | mapr (m : Nat)
  | agg (cs : List LV)
  | tuple (vs : List LV)
  | bptr (b off : Nat)
  | pptr (cs : List LV)
  | rptr (r n i sz off : Nat)
  | func (fn : Fn) (fst caps : List LV)
  deriving Inhabited

namespace LV
abbrev int (n : Int) : LV := .sc (.int .i64 n)
abbrev bool (b : Bool) : LV := .sc (.bool b)
abbrev str (s : ByteArray) : LV := .sc (.string s)
abbrev byte (n : Int) : LV := .sc (.int .u8 n)
/-- The cells of a value. -/
def cells : LV → List LV
  | .agg cs => cs
  | v => [v]
end LV

/-- Values of one cell that hold no memory. -/
def plainV : Value → Bool
  | .bool _ | .int _ _ | .string _ | .pointer none | .nilFunc | .nilIface | .map none => true
  | _ => false

def ofConst1 : Value → LV
  | .slice none 0 0 => .nils
  | v => if plainV v then .sc v else .undef
def ofConst : Value → LV
  | .agg cs => if cs.toList.all (·.oneCell') then .agg (cs.toList.map ofConst1) else .undef
  | .tuple vs => if vs.size = 0 then .tuple [] else .undef
  | v => ofConst1 v

/-- No reference into the store. -/
def refFree : LV → Bool
  | .undef => true
  | .sc _ => true
  | .nils => true
  | .slice es => refFreeL es
  | .nslice es => refFreeL es
  | .mref _ _ => false
  | .mview _ _ _ _ _ => false
  | .mapr _ => false
  | .agg cs => refFreeL cs
  | .tuple vs => refFreeL vs
  | .bptr _ _ => false
  | .pptr cs => refFreeL cs
  | .rptr _ _ _ _ _ => false
  | .func fn fst caps => (match fn with | .yield _ => false | _ => true) && refFreeL fst && refFreeL caps
where
  refFreeL : List LV → Bool
  | [] => true
  | v :: vs => refFree v && refFreeL vs

/-- A row of elements of the call's own: of which type, how many cells an element has, whether they may still be written. -/
structure Row where
  xs : List LV
  e : TypeId
  sz : Nat
  wr : Bool
  deriving Inhabited

structure Env where
  fn : FuncId
  t : List LV
  deriving Inhabited

structure LoopRec where
  env : Env
  params : List Tmp
  assign : Code
  body : Code
  pending : Option Code
  state : LoopState
  deriving Inhabited

/-- A map of the call's own: its keys and values, in the order in which they lie there. -/
structure MapS where
  ks : List LV
  vs : List LV
  deriving Inhabited

structure St where
  boxes : List (List LV) := []
  rows : List Row := []
  loops : List LoopRec := []
  maps : List MapS := []
  deriving Inhabited

/-- What is left open: which functions are called on an empty store, which have a given answer, which slots live across rounds. -/
structure Th where
  ent : FuncId → Bool
  pureF : FuncId → Bool
  prim : FuncId → Option (List LV → Option (LV × List Row))
  ext : FuncId → Option (List LV → Option LV)
  extS : FuncId → Option (List LV → St → Option (LV × St))
  keep : FuncId → Option Nat → List Bool
  own : FuncId → Tmp → Bool
  fresh : FuncId → List (Option (TypeId × Nat))
  frz : FuncId → Tmp → Bool
def Th.frzs (Θ : Th) (f : FuncId) (d : Option Tmp) : Bool := match d with
  | some d => Θ.frz f d
  | none => false
def Th.owns (Θ : Th) (f : FuncId) (d : Option Tmp) : Bool := match d with
  | some d => Θ.own f d
  | none => false

/-! ### freezing: a row that is read as a list -/
def frzV (σ : St) : LV → LV
  | .mref r n => match σ.rows[r]? with
    | some row => if row.xs.length = n then .slice row.xs else .undef
    | none => .undef
  | .mview r n lo hi sz => match σ.rows[r]? with
    | some row => if row.xs.length = n ∧ row.sz = sz ∧ lo ≤ hi ∧ hi ≤ n then .slice ((row.xs.drop lo).take (hi - lo)) else .undef
    | none => .undef
  | .nils => .slice []
  | .nslice es => .slice es
  | .agg cs => .agg (frzL cs)
  | .tuple vs => .tuple (frzL vs)
  | .func fn fst caps => .func fn (frzL fst) (frzL caps)
  | v => v
where
  frzL : List LV → List LV
  | [] => []
  | v :: vs => frzV σ v :: frzL vs

def rowsIn : LV → List Nat
  | .mref r _ => [r]
  | .mview r _ _ _ _ => [r]
  | .agg cs => rowsInL cs
  | .tuple vs => rowsInL vs
  | .func _ fst caps => rowsInL fst ++ rowsInL caps
  | _ => []
where
  rowsInL : List LV → List Nat
  | [] => []
  | v :: vs => rowsIn v ++ rowsInL vs

def frzS (σ : St) : List Nat → St
  | [] => σ
  | r :: rs => frzS { σ with rows := match σ.rows[r]? with | some row => σ.rows.set r { row with wr := false } | none => σ.rows } rs

/-! ### types -/
def isAggB (P : Program) (t : TypeId) : Option Bool :=
  match P.underlying t with
  | some (.struct _) | some (.array _ _) => some true
  | some _ => some false
  | none => none
def sizeB (P : Program) (t : TypeId) : Option Nat := (P.info? t).map (·.size)
def zeroB (P : Program) (t : TypeId) : Option (List LV) := (P.info? t).bind fun i => i.zero.bind fun z =>
  if z.cells.size = i.size ∧ (z.cells.toList.all fun u => u.oneCell') = true then some (z.cells.toList.map ofConst1) else none
def bytesB (P : Program) (t : TypeId) : Option Nat := (P.info? t).map (·.bytes)

/-- A value of type t out of the cells from there on. -/
def readCells (P : Program) (t : TypeId) (cs : List LV) : Option LV := do
  let n ← sizeB P t
  if ← isAggB P t then (if n ≤ cs.length then some (.agg (cs.take n)) else none)
  else cs.head?
/-- cs with the cells of a value laid from off on. -/
def splice (cs : List LV) (off : Nat) (new : List LV) : List LV := cs.take off ++ new ++ cs.drop (off + new.length)

/-- Lists of elements are kept below this bound. -/
def maxEls : Nat := 2 ^ 40

/-! ### operations -/
def binInt (op : BinOp) (k : IntKind) (a b : Int) : Option LV :=
  match op with
  | .add => some (.sc (.int k (k.wrap (a + b))))
  | .sub => some (.sc (.int k (k.wrap (a - b))))
  | .mul => some (.sc (.int k (k.wrap (a * b))))
  | .quo => if b = 0 then none else some (.sc (.int k (k.wrap (a.tdiv b))))
  | .rem => if b = 0 then none else some (.sc (.int k (a.tmod b)))
  | .eql => some (.bool (a == b))
  | .neq => some (.bool (a != b))
  | .lss => some (.bool (decide (a < b)))
  | .leq => some (.bool (decide (a ≤ b)))
  | .gtr => some (.bool (decide (a > b)))
  | .geq => some (.bool (decide (a ≥ b)))
  | _ => none
def binStr (op : BinOp) (a b : ByteArray) : Option LV :=
  match op with
  | .add => if a.size + b.size < 2 ^ 62 then some (.str (a ++ b)) else none
  | .eql => some (.bool (a.toList == b.toList))
  | .neq => some (.bool !(a.toList == b.toList))
  | .lss => some (.bool (Op.bytesLess a.toList b.toList))
  | .leq => some (.bool (Op.bytesLess a.toList b.toList || (a.toList == b.toList)))
  | .gtr => some (.bool !(Op.bytesLess a.toList b.toList || (a.toList == b.toList)))
  | .geq => some (.bool !(Op.bytesLess a.toList b.toList))
  | _ => none
def binLV (op : BinOp) (x y : LV) : Option LV :=
  match x, y with
  | .sc (.int k a), .sc (.int k' b) => if k = k' then binInt op k a b else none
  | .sc (.string a), .sc (.string b) => binStr op a b
  | _, _ => none
/-- Is a slice nil? -/
def nilT (P : Program) (op : BinOp) (t : TypeId) (b : Bool) : Option LV :=
  match P.underlying t, op with
  | some (.slice _), .eql => some (.bool b)
  | some (.slice _), .neq => some (.bool !b)
  | _, _ => none
/-- Bools are compared by their type. -/
def binTL (P : Program) (op : BinOp) (t : TypeId) (x y : LV) : Option LV :=
  match x, y with
  | .sc (.bool a), .sc (.bool b) => match P.underlying t, op with
    | some .bool, .eql => some (.bool (a == b))
    | some .bool, .neq => some (.bool !(a == b))
    | _, _ => none
  | .nils, .nils => nilT P op t true
  | .nslice _, .nils => nilT P op t false
  | .slice (_ :: _), .nils => nilT P op t false
  | x, y => binLV op x y
def unLV (op : UnOp) (x : LV) : Option LV :=
  match op, x with
  | .not, .sc (.bool b) => some (.bool !b)
  | .neg, .sc (.int k n) => some (.sc (.int k (k.wrap (0 - n))))
  | _, _ => none

def asInt64 : LV → Option Int
  | .sc (.int _ n) => some n
  | _ => none

/-- The elements of a slice that is read. -/
def elems (σ : St) : LV → Option (List LV)
  | .nils => some []
  | .slice es => some es
  | .nslice es => some es
  | .mref r n => match σ.rows[r]? with
    | some row => if row.xs.length = n then some row.xs else none
    | none => none
  | .mview r n lo hi sz => match σ.rows[r]? with
    | some row => if row.xs.length = n ∧ row.sz = sz ∧ lo ≤ hi ∧ hi ≤ n then some ((row.xs.drop lo).take (hi - lo)) else none
    | none => none
  | _ => none

def byteOf : LV → Option UInt8
  | .sc (.int .u8 n) => some (UInt8.ofNat n.toNat)
  | _ => none
def bytesLV (s : ByteArray) : List LV := s.data.toList.map fun b => LV.byte b.toNat
def allBytes : List LV → Option (List UInt8)
  | [] => some []
  | v :: vs => match byteOf v, allBytes vs with
    | some b, some bs => some (b :: bs)
    | _, _ => none

/-- The place of field f of a struct type. -/
def fieldB (P : Program) (s : TypeId) (f : Nat) : Option (Nat × TypeId) :=
  match P.underlying s with
  | some (.struct fs) => fs[f]?.map fun x => (x.offset, x.type)
  | _ => none
def elemB (P : Program) (t : TypeId) : Option TypeId :=
  match P.underlying t with
  | some (.slice e) => some e
  | _ => none

/-- What may lie in memory. -/
def storable : LV → Bool
  | .undef => false
  | .tuple _ => false
  | _ => true

/-- Elements of so many cells each, that may lie in memory. -/
def elemsOk (sz : Nat) (es : List LV) : Bool := es.all fun y => y.cells.length == sz && storable y
def newRowS (σ : St) (xs : List LV) (e : TypeId) (sz : Nat) : LV × St :=
  (.mref σ.rows.length xs.length, { σ with rows := σ.rows ++ [{ xs, e, sz, wr := true }] })
/-- Elements are laid into memory as they read. -/
def layS (σ : St) (xs : List LV) : List LV × St := (frzV.frzL σ xs, frzS σ (rowsIn.rowsInL xs))

/-- Parts laid into cells, each at its place. -/
def fillL (place : Nat → Option (Nat × Nat)) (cells : List LV) : List (Nat × LV) → Option (List LV)
  | [] => some cells
  | (i, v) :: rest => match place i with
    | none => none
    | some (off, n) => if v.cells.length = n ∧ storable v ∧ off + n ≤ cells.length then fillL place (splice cells off v.cells) rest else none
def placesB (P : Program) (t : TypeId) : Option (List (Nat × Nat)) :=
  match P.underlying t with
  | some (.struct fields) => fields.toList.mapM (fun f => (P.info? f.type).map fun i => (f.offset, i.size))
  | some (.array n e) => if n ≤ 64 then (P.info? e).map fun i => (List.range n).map fun k => (k * i.size, i.size) else none
  | _ => none
def builtL (P : Program) (t : TypeId) (parts : List (Nat × LV)) : Option (List LV) :=
  (zeroB P t).bind fun zs => (placesB P t).bind fun pl => fillL (fun i => pl[i]?) zs parts

def bndL (v : Option LV) (dflt n : Nat) : Option Nat :=
  match v with
  | none => some dflt
  | some v => match asInt64 v with
    | some x => if 0 ≤ x ∧ x ≤ n then some x.toNat else none
    | none => none
def sliceBnd (lo hi : Option LV) (n m : Nat) : Option (Nat × Nat) := (bndL hi n m).bind fun h => (bndL lo 0 h).bind fun l => some (l, h)

/-- A type's zero value. -/
def zeroLV (P : Program) (t : TypeId) : Option LV := (P.info? t).bind fun i => i.zero.bind fun z =>
  if z.cells.size = i.size ∧ (z.cells.toList.all fun u => u.oneCell') = true then some (frzV {} (match z with | .agg cs => .agg (cs.toList.map ofConst1) | z => ofConst1 z)) else none
/-- A part of a list laid anew. -/
def overL (xs : List LV) (lo : Nat) (ys : List LV) : List LV := xs.take lo ++ ys ++ xs.drop (lo + ys.length)

/-- Which cells of a type hold slices, of which elements. -/
def sliceCells (P : Program) : Nat → TypeId → List (Option (TypeId × Nat))
  | 0, _ => []
  | d + 1, t => match P.underlying t with
    | some (.struct fs) => fs.toList.flatMap fun f => sliceCells P d f.type
    | some (.array n e) => (List.replicate (min n 64) (sliceCells P d e)).flatten
    | some (.slice e) => [(sizeB P e).map fun n => (e, n)]
    | _ => [none]
/-- Cells that hold nil become rows of the call's own, without elements. -/
def ownCells (σ : St) : List (Option (TypeId × Nat)) → List LV → List LV × St
  | some (e, sz) :: ls, .nils :: cs => if 0 < sz then
      (.mref σ.rows.length 0 :: (ownCells { σ with rows := σ.rows ++ [{ xs := [], e, sz, wr := true }] } ls cs).1, (ownCells { σ with rows := σ.rows ++ [{ xs := [], e, sz, wr := true }] } ls cs).2)
    else (.nils :: (ownCells σ ls cs).1, (ownCells σ ls cs).2)
  | _ :: ls, c :: cs => (c :: (ownCells σ ls cs).1, (ownCells σ ls cs).2)
  | [], cs => (cs, σ)
  | _, [] => ([], σ)

/-- Where a part of a row lies: its elements' row, from where, to where. -/
def partOf (σ : St) : LV → Option (Nat × Row × Nat × Nat)
  | .mref r n => match σ.rows[r]? with
    | some row => if row.xs.length = n then some (r, row, 0, n) else none
    | none => none
  | .mview r n lo hi sz => match σ.rows[r]? with
    | some row => if row.xs.length = n ∧ row.sz = sz ∧ lo ≤ hi ∧ hi ≤ n then some (r, row, lo, hi) else none
    | none => none
  | _ => none

/-! ### maps -/
/-- Are two keys the same? (str: they are strings.) -/
def keyEq : Bool → LV → LV → Option Bool
  | false, .sc (.int k a), .sc (.int k' b) => if k = k' then some (a == b) else none
  | true, .sc (.string a), .sc (.string b) => some (a.toList == b.toList)
  | _, _, _ => none
def findK (str : Bool) (k : LV) : List LV → Option (Option Nat)
  | [] => some none
  | x :: xs => match keyEq str k x with
    | some true => some (some 0)
    | some false => (findK str k xs).map fun o => o.map (· + 1)
    | none => none
/-- A map's elements' type; are its keys strings? -/
def mapB (P : Program) (t : TypeId) : Option (TypeId × Bool) :=
  match P.underlying t with
  | some (.map k e) => match P.underlying k with
    | some (.int _) => some (e, false)
    | some .string => some (e, true)
    | _ => none
  | _ => none

/-- d with ys behind it. -/
def appendL (d : LV) (ys : List LV) (e : TypeId) (sz : Nat) (σ : St) : Option (LV × St) :=
  match d with
  | .nils => if ys.length ≤ maxEls then some (newRowS σ ys e sz) else none
  | .mref r n => match σ.rows[r]? with
    | some row => if row.xs.length = n ∧ row.e = e ∧ row.sz = sz ∧ n + ys.length ≤ maxEls then
        some (.mref r (n + ys.length), { σ with rows := σ.rows.set r { row with xs := row.xs ++ ys } })
      else none
    | none => none
  | .mview r n lo hi sz' => match σ.rows[r]? with
    | some row => if row.xs.length = n ∧ row.e = e ∧ row.sz = sz ∧ sz' = sz ∧ row.wr = true ∧ lo ≤ hi ∧ hi + ys.length ≤ n then
        some (.mview r n lo (hi + ys.length) sz, { σ with rows := σ.rows.set r { row with xs := overL row.xs hi ys } })
      else none
    | none => none
  | _ => none
/-- What is appended: elements of sz cells. -/
def sourceL (P : Program) (tx : TypeId) (sz : Nat) (σ : St) (x : LV) : Option (List LV) :=
  match P.underlying tx, x with
  | some .string, .sc (.string s) => if sz = 1 then some (bytesLV s) else none
  | some (.slice _), x => elems σ x
  | _, _ => none
/-- So many zero values behind nil ('append(s, make(..)..)'). -/
def zerosL (P : Program) (d x : LV) (e : TypeId) (sz bs : Nat) (σ : St) : Option (LV × St) :=
  match d, x with
  | .nils, .sc (.int _ n) => (zeroLV P e).bind fun z => if 0 < n ∧ n ≤ maxEls ∧ bs ≤ 128 ∧ 0 < sz ∧ z.cells.length = sz ∧ storable z = true then some (newRowS σ (List.replicate n.toNat z) e sz) else none
  | _, _ => none
def isIntB (P : Program) (t : TypeId) : Bool :=
  match P.underlying t with
  | some (.int _) => true
  | _ => false

def builtinL (P : Program) (b : Builtin) (ats : List TypeId) (args : List LV) (σ : St) : Option (LV × St) :=
  match b, ats, args with
  | .len, [t], [x] => match P.underlying t, x with
    | some .string, .sc (.string s) => some (.int s.size, σ)
    | some (.slice _), x => (elems σ x).map fun es => (.int es.length, σ)
    | some (.map _ _), .mapr m => (σ.maps[m]?).map fun q => (.int q.ks.length, σ)
    | _, _ => none
  | .cap, [t], [.nils] => (elemB P t).map fun _ => (.int 0, σ)
  | .append, [t, tx], [d, x] =>
    (elemB P t).bind fun e => (sizeB P e).bind fun sz => (zeroB P e).bind fun _ => (bytesB P e).bind fun bs => if isIntB P tx then zerosL P d x e sz bs σ else (sourceL P tx sz σ x).bind fun ys =>
      if bs ≤ 128 ∧ 0 < sz ∧ elemsOk sz ys then appendL d ys e sz σ else none
  | .copy, [t, tx], [d, x] =>
    (elemB P t).bind fun e => (sizeB P e).bind fun sz => (sourceL P tx sz σ x).bind fun ys => (partOf σ d).bind fun p =>
      if p.2.1.wr = true ∧ p.2.1.sz = sz ∧ 0 < sz ∧ elemsOk sz ys then
        some (.int ((min ys.length (p.2.2.2 - p.2.2.1) : Nat) : Int), { σ with rows := σ.rows.set p.1 { p.2.1 with xs := overL p.2.1.xs p.2.2.1 (ys.take (p.2.2.2 - p.2.2.1)) } })
      else none
  | .clear, [t], [d] =>
    (elemB P t).bind fun e => (sizeB P e).bind fun sz => (zeroLV P e).bind fun z => (partOf σ d).bind fun p =>
      if p.2.1.wr = true ∧ p.2.1.sz = sz ∧ 0 < sz ∧ z.cells.length = sz ∧ storable z = true then
        some (.tuple [], { σ with rows := σ.rows.set p.1 { p.2.1 with xs := overL p.2.1.xs p.2.2.1 (List.replicate (p.2.2.2 - p.2.2.1) z) } })
      else none
  | .delete, [t, _], [.mapr m, k] => (mapB P t).bind fun ke => (σ.maps[m]?).bind fun q => (findK ke.2 k q.ks).map fun o => match o with
    | some i => (.tuple [], { σ with maps := σ.maps.set m { ks := q.ks.eraseIdx i, vs := q.vs.eraseIdx i } })
    | none => (.tuple [], σ)
  | .min, _, [.sc (.int k a), .sc (.int k' b)] => if k = k' then some (.sc (.int k (if b < a then b else a)), σ) else none
  | .max, _, [.sc (.int k a), .sc (.int k' b)] => if k = k' then some (.sc (.int k (if a < b then b else a)), σ) else none
  | _, _, _ => none

/-- What is appended to nil, as data that changes no more. -/
def appendNew (P : Program) (ats : List TypeId) (args : List LV) (σ : St) : Option (LV × St) :=
  match ats, args with
  | [t, tx], [.nils, x] =>
    (elemB P t).bind fun e => (sizeB P e).bind fun sz => (zeroB P e).bind fun _ => (bytesB P e).bind fun bs => (sourceL P tx sz σ x).bind fun ys =>
      if bs ≤ 128 ∧ 0 < sz ∧ elemsOk sz ys = true ∧ ys.length ≤ maxEls ∧ isIntB P tx = false then some (.slice ys, σ) else none
  | _, _ => none
def isApp : Builtin → Bool
  | .append => true
  | _ => false

/-- The one or the other, after a test (of '&&', '||'). -/
def pickLV : LV → LV → LV → Option LV
  | .sc (.bool true), x, _ => some x
  | .sc (.bool false), _, y => some y
  | _, _, _ => none

/-- Nil that is to grow: a row of the call's own, without elements. -/
def ownNil (P : Program) (own : Bool) (t : TypeId) (v : LV) (σ : St) : LV × St :=
  match own, v, elemB P t with
  | true, .nils, some e => match sizeB P e with
    | some sz => if 0 < sz then newRowS σ [] e sz else (v, σ)
    | none => (v, σ)
  | _, _, _ => (v, σ)
def newBoxS (P : Program) (own : Bool) (t : TypeId) (cs : List LV) (σ : St) : LV × St :=
  if own then (.bptr σ.boxes.length 0, { (ownCells σ (sliceCells P 8 t) cs).2 with boxes := (ownCells σ (sliceCells P 8 t) cs).2.boxes ++ [(ownCells σ (sliceCells P 8 t) cs).1] })
  else (.bptr σ.boxes.length 0, { σ with boxes := σ.boxes ++ [cs] })

/-- One operation; own: what it makes is the call's own. -/
def opStep (P : Program) (own : Bool) (o : Oper) (ρ : Operand → LV) (σ : St) : Option (LV × St) :=
  match o.op with
  | .move x | .assign x => some (ownNil P own o.type (ρ x) σ)
  | .pick c a b => (pickLV (ρ c) (ρ a) (ρ b)).map fun v => (v, σ)
  | .alloc t => (zeroB P t).map fun cs => newBoxS P own t cs σ
  | .box t x => do
    let n ← sizeB P t
    if (ρ x).cells.length = n ∧ storable (ρ x) then some (newBoxS P own t (ρ x).cells σ) else none
  | .build t parts => (builtL P t (parts.toList.map fun p => (p.1, ρ p.2))).map fun cs => (.agg cs, σ)
  | .buildSlice t len parts => bif own && (Nat.beq len 0 && parts.toList.isEmpty) then (elemB P t).bind fun e => (sizeB P e).bind fun sz => (zeroB P e).bind fun _ => if 0 < sz then some (newRowS σ [] e sz) else none else (elemB P t).bind fun e => (sizeB P e).bind fun sz => (zeroB P e).bind fun _ =>
    if len = 0 ∧ parts.toList.length = 0 then some (.slice [], σ) else if parts.toList.map (·.1) = List.range len ∧ elemsOk sz (layS σ (parts.toList.map fun p => ρ p.2)).1 ∧ len * sz ≤ 4096 ∧ 0 < sz ∧ 0 < len then
      some (.slice (layS σ (parts.toList.map fun p => ρ p.2)).1, (layS σ (parts.toList.map fun p => ρ p.2)).2)
    else none
  | .load t a => match ρ a with
    | .bptr b off => do
      let cs ← σ.boxes[b]?
      let v ← readCells P t (cs.drop off)
      some (v, σ)
    | .pptr cs => (readCells P t cs).map fun v => (v, σ)
    | .rptr r n i sz off => do
      let row ← σ.rows[r]?
      let x ← row.xs[i]?
      if row.xs.length = n ∧ row.sz = sz ∧ storable x then (readCells P t (x.cells.drop off)).map fun v => (v, σ) else none
    | _ => none
  | .store t a x => match ρ a with
    | .bptr b off => do
      let cs ← σ.boxes[b]?
      let n ← sizeB P t
      if (ρ x).cells.length = n ∧ storable (ρ x) ∧ off + n ≤ cs.length then
        some (.tuple [], { σ with boxes := σ.boxes.set b (splice cs off (ρ x).cells) })
      else none
    | .rptr r n i sz off => do
      let k ← sizeB P t
      let row ← σ.rows[r]?
      if row.xs.length = n ∧ row.wr = true ∧ off = 0 ∧ k = sz ∧ row.sz = sz ∧ i < n ∧ (frzV σ (ρ x)).cells.length = sz ∧ storable (frzV σ (ρ x)) ∧ r ∉ rowsIn (ρ x) then
        some (.tuple [], { frzS σ (rowsIn (ρ x)) with rows := (frzS σ (rowsIn (ρ x))).rows.set r { row with xs := row.xs.set i (frzV σ (ρ x)) } })
      else none
    | _ => none
  | .binOp op t x y _ => (binTL P op t (ρ x) (ρ y)).map fun v => (v, σ)
  | .unOp op _ x => (unLV op (ρ x)).map fun v => (v, σ)
  | .convert src dst x => match P.underlying src, P.underlying dst, ρ x with
    | some (.int _), some (.int k), .sc (.int _ n) => some (.sc (.int k (k.wrap n)), σ)
    | some .string, some .string, .sc (.string s) => some (.str s, σ)
    | some (.slice e), some .string, x => match P.underlying e with
      | some (.int .u8) => do
        let es ← elems σ x
        let bs ← allBytes es
        some (.str ⟨bs.toArray⟩, σ)
      | _ => none
    | some .string, some (.slice e), .sc (.string s) => match P.underlying e with
      | some (.int .u8) => if s.size ≤ maxEls then some (.slice (bytesLV s), σ) else none
      | _ => none
    | _, _, _ => none
  | .nilCheck x => match ρ x with
    | .bptr b off => some (.bptr b off, σ)
    | .pptr cs => some (.pptr cs, σ)
    | .rptr r n i sz off => some (.rptr r n i sz off, σ)
    | _ => none
  | .makeFunc fn fst caps => match fn with
    | .yield _ => none
    | fn => some (.func fn (fst.toList.map ρ) (caps.toList.map ρ), σ)
  | .slice t x lo hi mx => match P.underlying t, ρ x with
    | some .string, .sc (.string s) => if mx.isSome then none else (sliceBnd (lo.map ρ) (hi.map ρ) s.size s.size).map fun (l, h) => (.str (s.extract l h), σ)
    | some (.slice e), .nils => if mx.isSome then none else (sizeB P e).bind fun _ => (sliceBnd (lo.map ρ) (hi.map ρ) 0 0).map fun _ => (.nils, σ)
    | some (.slice e), x => (sizeB P e).bind fun sz =>
      if own then (partOf σ x).bind fun p => match mx with
        | some m => (bndL (some (ρ m)) 0 (p.2.2.2 - p.2.2.1)).bind fun q => (hi.bind fun h => bndL (some (ρ h)) 0 q).bind fun h => (bndL (lo.map ρ) 0 h).bind fun _ => some (.undef, σ)
        | none => match x with
          | .mref r n | .mview r n _ _ _ => if mx.isSome = false ∧ p.2.1.sz = sz then
              (sliceBnd (lo.map ρ) (hi.map ρ) (p.2.2.2 - p.2.2.1) (n - p.2.2.1)).map fun b => (.mview r n (p.2.2.1 + b.1) (p.2.2.1 + b.2) sz, σ) else none
          | _ => none
      else (elems σ x).bind fun es =>
        match mx with
        | none => (sliceBnd (lo.map ρ) (hi.map ρ) es.length es.length).bind fun b =>
          if elemsOk sz es then some (.slice ((es.drop b.1).take (b.2 - b.1)), frzS σ (rowsIn x)) else none
        | some m => (bndL (some (ρ m)) 0 es.length).bind fun q => (hi.bind fun h => bndL (some (ρ h)) 0 q).bind fun h => (bndL (lo.map ρ) 0 h).bind fun l =>
          if elemsOk sz es then some (.slice ((es.drop l).take (h - l)), frzS σ (rowsIn x)) else none
    | _, _ => none
  | .fieldAddr s x f => do
    let (off, t) ← fieldB P s f
    let n ← sizeB P t
    if n = 0 then none else match ρ x with
    | .bptr b o => some (.bptr b (o + off), σ)
    | .pptr cs => if off < cs.length then some (.pptr (cs.drop off), σ) else none
    | .rptr r n i sz o => some (.rptr r n i sz (o + off), σ)
    | _ => none
  | .field s x f => do
    let (off, t) ← fieldB P s f
    match ρ x with
    | .agg cs => (readCells P t (cs.drop off)).map fun v => (v, σ)
    | _ => none
  | .indexAddr t x i => match P.underlying t with
    | some (.array m e) => (sizeB P e).bind fun sz => (asInt64 (ρ i)).bind fun k =>
      if 0 ≤ k ∧ k < m ∧ 1 < m ∧ 0 < sz then match ρ x with
        | .bptr b o => some (.bptr b (o + k.toNat * sz), σ)
        | .pptr cs => if k.toNat * sz < cs.length then some (.pptr (cs.drop (k.toNat * sz)), σ) else none
        | .rptr r n j z o => some (.rptr r n j z (o + k.toNat * sz), σ)
        | _ => none
      else none
    | _ => do
    let e ← elemB P t
    let sz ← sizeB P e
    let k ← asInt64 (ρ i)
    if 0 ≤ k then match ρ x with
      | .slice es => do
        let y ← es[k.toNat]?
        if y.cells.length = sz ∧ storable y ∧ 0 < sz then some (.pptr y.cells, σ) else none
      | .mref r n => do
        let row ← σ.rows[r]?
        if row.xs.length = n ∧ row.sz = sz ∧ k < n then some (.rptr r n k.toNat sz 0, σ) else none
      | .mview r n lo hi sz' => do
        let row ← σ.rows[r]?
        if row.xs.length = n ∧ row.sz = sz ∧ sz' = sz ∧ lo ≤ hi ∧ hi ≤ n ∧ k < (hi - lo : Nat) then some (.rptr r n (lo + k.toNat) sz 0, σ) else none
      | _ => none
    else none
  | .index t x i => do
    let k ← asInt64 (ρ i)
    match P.underlying t, ρ x with
    | some .string, .sc (.string s) => if 0 ≤ k then (s[k.toNat]?).map fun b => (LV.byte b.toNat, σ) else none
    | some (.array m e), .agg cs => if 0 ≤ k ∧ k < m then (sizeB P e).bind fun sz => (readCells P e (cs.drop (k.toNat * sz))).map fun v => (v, σ) else none
    | _, _ => none
  | .makeMap t none => (mapB P t).map fun _ => (.mapr σ.maps.length, { σ with maps := σ.maps ++ [{ ks := [], vs := [] }] })
  | .mapUpdate t m k v => match ρ m with
    | .mapr m => (mapB P t).bind fun ke => (σ.maps[m]?).bind fun q => (findK ke.2 (ρ k) q.ks).bind fun o =>
      if storable (frzV σ (ρ v)) = true ∧ q.ks.length < maxEls then match o with
        | some i => some (.tuple [], { frzS σ (rowsIn (ρ v)) with maps := σ.maps.set m { ks := q.ks.set i (ρ k), vs := q.vs.set i (frzV σ (ρ v)) } })
        | none => match ρ k with
          | .sc _ => some (.tuple [], { frzS σ (rowsIn (ρ v)) with maps := σ.maps.set m { ks := q.ks ++ [ρ k], vs := q.vs ++ [frzV σ (ρ v)] } })
          | _ => none
      else none
    | _ => none
  | .lookup t m k ok => match ρ m with
    | .mapr m => (mapB P t).bind fun ke => (σ.maps[m]?).bind fun q => (findK ke.2 (ρ k) q.ks).bind fun o => (zeroLV P ke.1).bind fun z => match o with
      | some i => (q.vs[i]?).map fun v => (bif ok then .tuple [v, .bool true] else v, σ)
      | none => some (bif ok then .tuple [z, .bool false] else z, σ)
    | _ => none
  | .makeSlice t l c => (elemB P t).bind fun e => (sizeB P e).bind fun sz => (zeroLV P e).bind fun z => (bytesB P e).bind fun bs => (asInt64 (ρ l)).bind fun n => (asInt64 (ρ c)).bind fun m =>
    if n = m ∧ 0 ≤ n ∧ n ≤ maxEls ∧ bs ≤ 128 ∧ 0 < sz ∧ z.cells.length = sz ∧ storable z = true then some (newRowS σ (List.replicate n.toNat z) e sz) else none
  | .extract t i => match ρ t with
    | .tuple vs => (vs[i]?).map fun v => (v, σ)
    | _ => none
  | .call { callee := .builtin b, args, argTypes } => bif own && isApp b then appendNew P argTypes.toList (args.toList.map ρ) σ else builtinL P b argTypes.toList (args.toList.map ρ) σ
  | _ => none

def Env.ev (e : Env) : Operand → LV
  | .tmp t => e.t.getD t .undef
  | .const v => ofConst v
  | .global _ => .undef
  | .func f => .func (.func f) [] []
def Env.put (e : Env) (dst : Option Tmp) (v : LV) : Env :=
  match dst with
  | some d => { e with t := e.t.set d v }
  | none => e

/-- Bytes that are written out, and their conversion to the type that they have ('[]byte("..")'), at a region's beginning. -/
def litStart (P : Program) : List Oper → Bool
  | o1 :: o2 :: _ => match o1.op, o2.op, o1.guard, o2.guard, o1.dst with
    | .buildSlice t _ _, .convert s d (.tmp x), none, none, some d1 => decide (s = t ∧ d = t ∧ x = d1) && (match elemB P t with | some el => (match P.underlying el with | some (.int .u8) => true | _ => false) | none => false)
    | _, _, _, _, _ => false
  | _ => false

/-- What has become of a piece of code. -/
inductive Ex where
  | normal
  | exit (id : Nat)
  | goto (l : Nat)
  | ret
  deriving DecidableEq, Inhabited

structure Res where
  ex : Ex := .normal
  v : LV := .undef
  env : Env := default
  σ : St := {}
  deriving Inhabited

inductive Task where
  | call (f : FuncId) (args : List LV)
  | callS (f : FuncId) (args : List LV) (σ : St)
  | apply (own : Bool) (f : LV) (args : List LV) (σ : St)
  | code (c : Code) (e : Env) (σ : St)

/-- Is the operation carried out? -/
def wantedL (all : List Oper) (o : Oper) (e : Env) : Option Bool :=
  match o.guard with
  | none => some true
  | some (j, want) => match (all[j]?).bind (·.dst) with
    | none => none
    | some d => match e.t.getD d .undef with
      | .sc (.bool b) => some (b == want)
      | .tuple [] => some false
      | _ => none

/-- How an operation stands to the store: 0: it does not look at it · 1: it looks at it · 2: it lays something new behind it · 3: it changes it. -/
def opClass0 (Θ : Th) (fn : FuncId) (o : Oper) : Nat :=
  match o.op with
  | .move _ | .assign _ => if Θ.owns fn o.dst then 3 else 0
  | .pick .. | .binOp .. | .unOp .. | .fieldAddr .. | .field .. | .index .. | .extract .. | .makeFunc .. | .nilCheck _ => 0
  | .load .. | .indexAddr .. | .slice .. | .convert .. | .build .. | .lookup .. => 1
  | .buildSlice .. => if Θ.owns fn o.dst then 2 else 1
  | .call { callee := .builtin .len, .. } => 1
  | .call { callee := .builtin .append, .. } => if Θ.owns fn o.dst then 1 else 3
  | .call { callee := .value _, .. } => if Θ.owns fn o.dst then 3 else 1
  | .alloc _ | .box .. => if Θ.owns fn o.dst then 3 else 2
  | _ => 3

/-- The same, where what comes of it is frozen, too. -/
def opClass (Θ : Th) (fn : FuncId) (o : Oper) : Nat := bif Θ.frzs fn o.dst then 3 else opClass0 Θ fn o

def callV (o : Oper) : Option (Operand × Array Operand) :=
  match o.op with
  | .call { callee := .value f, args, .. } => some (f, args)
  | _ => none

/-- What comes of an operation, frozen or not. -/
def frzRes (b : Bool) (r : LV × St) : LV × St := bif b then (frzV r.2 r.1, frzS r.2 (rowsIn r.1)) else r
/-- One operation, calls among them. -/
def opRaw (P : Program) (Θ : Th) (rec : Task → Option Res) (o : Oper) (e : Env) (σ : St) : Option (LV × St) :=
  match callV o with
  | some (f, args) => (rec (.apply (Θ.owns e.fn o.dst) (e.ev f) (args.toList.map e.ev) σ)).map fun r => (r.v, r.σ)
  | none => opStep P (Θ.owns e.fn o.dst) o e.ev σ
def opEval (P : Program) (Θ : Th) (rec : Task → Option Res) (o : Oper) (e : Env) (σ : St) : Option (LV × St) := (opRaw P Θ rec o e σ).map (frzRes (Θ.frzs e.fn o.dst))

open Classical in
/-- Operations, one behind the other; 'strict': what only looks must leave the store as it is. -/
noncomputable def execOps (P : Program) (Θ : Th) (rec : Task → Option Res) (strict : Bool) (all : List Oper) : List Oper → Env → St → Option (Env × St)
  | [], e, σ => some (e, σ)
  | o :: os, e, σ => (wantedL all o e).bind fun b =>
    bif b then
      (opEval P Θ rec o e σ).bind fun r =>
        if strict = true ∧ opClass Θ e.fn o ≤ 1 ∧ r.2 ≠ σ then none else execOps P Θ rec strict all os (e.put o.dst r.1) r.2
    else execOps P Θ rec strict all os (e.put o.dst (.tuple [])) σ

/-- What only looks, and sees the same where there are more variables. -/
def monoOp (Θ : Th) (o : Oper) : Bool := match o.op with
  | .load .. | .indexAddr .. | .slice .. | .convert .. | .build .. | .lookup .. | .buildSlice .. => true
  | .call { callee := .builtin .len, .. } => true
  | .call { callee := .builtin .append, .. } => true
  | .call { callee := .value (.func f), .. } => Θ.ent f && Θ.pureF f
  | _ => false
/-- What makes a variable. -/
def growOp (o : Oper) : Bool := match o.op with
  | .alloc _ | .box .. => true
  | _ => false
/-- Whether two operations, the second one behind the first one, may come either way round. -/
def mayTurn (Θ : Th) (fn : FuncId) (a b : Oper) : Bool :=
  opClass Θ fn a == 0 || opClass Θ fn b == 0 || (opClass Θ fn a == 1 && opClass Θ fn b == 1) || (opClass Θ fn a == 1 && opClass Θ fn b == 2 && monoOp Θ a && growOp b)
/-- Which operations each one must come behind. -/
def ancStep (acc : List (List Nat)) (o : Oper) : List (List Nat) :=
  acc ++ [o.after.toList.flatMap fun e => if Region.binds .any e then e.on :: acc.getD e.on [] else []]
def ancs (ops : List Oper) : List (List Nat) := ops.foldl ancStep []
/-- The same as numbers' bits. -/
def ancBit (acc : List Nat) (m : Nat) (e : Edge) : Nat := bif Region.binds .any e then Nat.lor (Nat.lor m (acc.getD e.on 0)) (Nat.shiftLeft 1 e.on) else m
def ancBStep (acc : List Nat) (o : Oper) : List Nat := acc ++ [o.after.toList.foldl (ancBit acc) 0]
def ancB (ops : List Oper) : List Nat := ops.foldl ancBStep []
def drawOne (Θ : Th) (fn : FuncId) (ops : Array Oper) (M : List Nat) (i : Nat) : Bool :=
  match ops[i]? with
  | some b => b.after.toList.all (fun e => !Region.binds .any e || decide (e.on < i)) &&
    (List.range i).all fun j => (M.getD i 0).testBit j ||
      (match ops[j]? with | some a => mayTurn Θ fn a b && a.apart ops b && b.apart ops a | none => false)
  | none => false
/-- A region that draws its order, and whose outcome does not hang on it. -/
def drawOk (Θ : Th) (fn : FuncId) (ops : Array Oper) : Bool := (List.range ops.size).all (drawOne Θ fn ops (ancB ops.toList))

structure Sz where
  nb : Nat
  nr : Nat
  nl : Nat
  nm : Nat
/-- All references are to what lies below these numbers. -/
def below (n : Sz) : LV → Bool
  | .undef => true
  | .sc _ => true
  | .nils => true
  | .slice es => belowL n es
  | .nslice es => belowL n es
  | .mref r _ => decide (r < n.nr)
  | .mview r _ _ _ _ => decide (r < n.nr)
  | .mapr m => decide (m < n.nm)
  | .agg cs => belowL n cs
  | .tuple vs => belowL n vs
  | .bptr b _ => decide (b < n.nb)
  | .pptr cs => belowL n cs
  | .rptr r _ _ _ _ => decide (r < n.nr)
  | .func fn fst caps => (match fn with | .yield l => decide (l < n.nl) | _ => true) && belowL n fst && belowL n caps
where
  belowL (n : Sz) : List LV → Bool
  | [] => true
  | v :: vs => below n v && belowL n vs
def St.sz (σ : St) : Sz := ⟨σ.boxes.length, σ.rows.length, σ.loops.length, σ.maps.length⟩
def trimOk (n : Sz) (vs : List LV) (σ : St) : Bool :=
  below.belowL n vs && (σ.boxes.take n.nb).all (below.belowL n) && (σ.rows.take n.nr).all (fun r => below.belowL n r.xs) && (σ.loops.take n.nl).all (fun l => below.belowL n l.env.t) && (σ.maps.take n.nm).all (fun q => below.belowL n q.ks && below.belowL n q.vs)
/-- What lies behind these numbers is dropped, if nothing leads there any more. -/
def trim (n : Sz) (vs : List LV) (σ : St) : St :=
  if σ.boxes.length = n.nb ∧ σ.rows.length = n.nr ∧ σ.loops.length = n.nl ∧ σ.maps.length = n.nm then σ
  else if trimOk n vs σ then { boxes := σ.boxes.take n.nb, rows := σ.rows.take n.nr, loops := σ.loops.take n.nl, maps := σ.maps.take n.nm } else σ

/-- Slots that are not to be kept from one round to the next are forgotten. -/
def maskL : List Bool → List LV → List LV
  | true :: m, v :: t => v :: maskL m t
  | false :: m, _ :: t => .undef :: maskL m t
  | [], _ :: t => .undef :: maskL [] t
  | _, [] => []
/-- The first region's number. -/
def loopKey : Code → Option Nat
  | .region id _ _ => some id
  | .seq a b => match loopKey a with
    | some n => some n
    | none => loopKey b
  | .cond _ a b => match loopKey a with
    | some n => some n
    | none => loopKey b
  | .block _ a => loopKey a
  | .loop a => loopKey a
  | _ => none
def tidy (Θ : Th) (k : Option Nat) (e : Env) : Env := { e with t := maskL (Θ.keep e.fn k) e.t }

def resOne (P : Program) (e : Env) (σ : St) : ResultVar → Option LV
  | .tmp t => some (e.t.getD t .undef)
  | .cell a t => match e.t.getD a .undef with
    | .bptr b 0 => (σ.boxes[b]?).bind fun cs => readCells P t cs
    | _ => none
def resultL (P : Program) (fn : Func) (e : Env) (σ : St) : Option LV :=
  match fn.results.toList with
  | [] => some (.tuple [])
  | [r] => resOne P e σ r
  | rs => (rs.mapM (resOne P e σ)).map .tuple

/-- A jump as code. -/
def Ex.code : Ex → Option Code
  | .normal => none
  | .ret => some .ret
  | .exit id => some (.exit id)
  | .goto t => some (.goto t)
def setState (σ : St) (l : Nat) (f : LoopRec → LoopRec) : St := { σ with loops := match σ.loops[l]? with | some r => σ.loops.set l (f r) | none => σ.loops }

/-- A function of the program's that is entered. -/
def LV.isFn (Θ : Th) : LV → Bool
  | .func (.func f) _ _ => Θ.ent f
  | _ => false
def extL (Θ : Th) (f : FuncId) (args : List LV) (σ : St) : Option Res :=
  match Θ.ext f with
  | some p => (p (frzV.frzL σ args)).bind fun v => if refFree v then some { v, σ := frzS σ (rowsIn.rowsInL args) } else none
  | none => none
def isReady (σ : St) (l : Nat) : Bool := match σ.loops[l]? with | some r => decide (r.state = .ready) | none => false

/-- The store behind a range over a function that began at σ. -/
def endL (σ : St) (e : Env) (τ : St) : St := trim σ.sz e.t (setState τ σ.loops.length fun q => { q with state := .exhausted })
/-- An answer's rows that may be the caller's own: the answer, those rows. -/
def thawGo (σ : St) : List (Option (TypeId × Nat)) → List LV → List Nat → List Row → Option (List LV × List Row)
  | some (e, sz) :: ks, v :: vs, used, acc => match v with
    | .nils => if 0 < sz then (thawGo σ ks vs used (acc ++ [{ xs := [], e, sz, wr := true }])).map fun q => (.mref acc.length 0 :: q.1, q.2) else none
    | .mref r n => match σ.rows[r]? with
      | some row => if row.xs.length = n ∧ row.e = e ∧ row.sz = sz ∧ row.wr = true ∧ r ∉ used ∧ refFree.refFreeL row.xs = true then
          (thawGo σ ks vs (r :: used) (acc ++ [row])).map fun q => (.mref acc.length n :: q.1, q.2) else none
      | none => none
    | .mview r n 0 hi z => match σ.rows[r]? with
      | some row => if row.xs.length = n ∧ row.e = e ∧ row.sz = sz ∧ z = sz ∧ row.wr = true ∧ r ∉ used ∧ hi ≤ n ∧ 0 < n ∧ refFree.refFreeL row.xs = true then
          (thawGo σ ks vs (r :: used) (acc ++ [{ row with xs := row.xs.take hi }])).map fun q => (.mref acc.length hi :: q.1, q.2) else none
      | none => none
    | _ => none
  | _ :: ks, v :: vs, used, acc => if refFree (frzV σ v) then (thawGo σ ks vs used acc).map fun q => (frzV σ v :: q.1, q.2) else none
  | [], vs, _, acc => if refFree.refFreeL (frzV.frzL σ vs) then some (frzV.frzL σ vs, acc) else none
  | _, [], _, acc => some ([], acc)
/-- The results that are not to be the caller's own. -/
def shutIn : List (Option (TypeId × Nat)) → List LV → List Nat
  | some _ :: ks, _ :: vs => shutIn ks vs
  | none :: ks, v :: vs => rowsIn v ++ shutIn ks vs
  | [], vs => rowsIn.rowsInL vs
  | _, [] => []
def thaw (σ : St) (ks : List (Option (TypeId × Nat))) (v : LV) : Option (LV × List Row) :=
  match v with
  | .tuple vs => (thawGo (frzS σ (shutIn ks vs)) ks vs [] []).map fun q => (.tuple q.1, q.2)
  | v => (thawGo (frzS σ (shutIn ks [v])) ks [v] [] []).bind fun q => (q.1.head?).map fun x => (x, q.2)
def isMref : LV → Bool
  | .mref _ _ => true
  | _ => false
/-- Rows are referred to at the top alone, and hold data. -/
def callOk (v : LV) (rows : List Row) : Bool :=
  (match v with
  | .mref _ _ => true
  | .tuple vs => vs.all fun v => isMref v || refFree v
  | v => refFree v) && rows.all fun r => refFree.refFreeL r.xs
def callEnd (q : LV × List Row) : Option Res := if callOk q.1 q.2 = true then some { v := q.1, σ := { rows := q.2 } } else none
/-- References to rows, moved. -/
def shift1 (d : Nat) : LV → LV
  | .mref r n => .mref (r + d) n
  | v => v
def shiftV (d : Nat) : LV → LV
  | .tuple vs => .tuple (vs.map (shift1 d))
  | v => shift1 d v
/-- An answer that is taken over: its rows come behind the caller's own, or are frozen. -/
def takeOver (own : Bool) (v : LV) (rows : List Row) (σ : St) : LV × St :=
  if own then (shiftV σ.rows.length v, { σ with rows := σ.rows ++ rows }) else (frzV { rows } v, σ)

/-- No memory in it. -/
def noMem : LV → Bool
  | .sc _ => true
  | .tuple vs => noMemL vs
  | .agg cs => noMemL cs
  | _ => false
where
  noMemL : List LV → Bool
  | [] => true
  | v :: vs => noMem v && noMemL vs
/-- Behind a call on frozen arguments: where the answer holds no memory the rows that were read may be written again. -/
def afterPure (own : Bool) (v : LV) (rows : List Row) (σ : St) (rs : List Nat) : LV × St := if noMem v then (v, σ) else takeOver own v rows (frzS σ rs)

/-- One step's worth: 'rec' answers the tasks inside. -/
noncomputable def stepT (P : Program) (Θ : Th) (rec : Task → Option Res) : Task → Option Res
  | .call f args => match Θ.prim f with
    | some p => if refFree.refFreeL args then (p args).bind callEnd else none
    | none => if refFree.refFreeL args then (rec (.callS f args {})).bind fun r => (thaw r.σ (Θ.fresh f) r.v).bind callEnd
      else none
  | .callS f args σ => (P.funcs[f]?).bind fun fn => fn.body.bind fun c =>
      (rec (.code c { fn := f, t := args ++ List.replicate (fn.ntmps - args.length) .undef } σ)).bind fun r =>
        match r.ex with
        | .normal | .ret => (resultL P fn r.env r.σ).map fun v => { v, σ := trim σ.sz [v] r.σ }
        | _ => none
  | .apply own f args σ => match f with
    | .func (.func f) fst caps =>
      if Θ.ent f then
        if Θ.pureF f then (rec (.call f (frzV.frzL σ (fst ++ args ++ caps)))).map fun r =>
          { v := (afterPure own r.v r.σ.rows σ (rowsIn.rowsInL (fst ++ args ++ caps))).1, σ := (afterPure own r.v r.σ.rows σ (rowsIn.rowsInL (fst ++ args ++ caps))).2 }
        else match Θ.extS f with
          | some p => (p (fst ++ args ++ caps) σ).map fun q => { v := q.1, σ := q.2 }
          | none => rec (.callS f (fst ++ args ++ caps) σ)
      else extL Θ f (fst ++ args ++ caps) σ
    | .func (.yield l) [] [] => (σ.loops[l]?).bind fun lr =>
      if lr.state = .ready ∧ args.length = lr.params.length then
        (rec (.code lr.assign { lr.env with t := (lr.params.zip args).foldl (fun t (p : Nat × LV) => t.set p.1 p.2) lr.env.t } σ)).bind fun r1 =>
          if r1.ex = .normal ∧ isReady r1.σ l = true then
            (rec (.code lr.body r1.env (setState r1.σ l fun q => { q with state := .busy }))).map fun r2 =>
              { v := .bool (r2.ex.code).isNone, σ := trim σ.sz [] (setState r2.σ l fun q => { q with state := if (r2.ex.code).isNone then .ready else .done, pending := r2.ex.code }) }
          else none
      else none
    | _ => none
  | .code c e σ => match c with
    | .skip | .label _ => some { env := e, σ }
    | .region _ ops draw =>
      if draw then
        if drawOk Θ e.fn ops then (execOps P Θ rec true ops.toList ops.toList e σ).map fun r => { env := r.1, σ := r.2 } else none
      else bif litStart P ops.toList then
        match ops.toList with
        | o1 :: o2 :: os => (o1.dst.bind fun d => e.t[d]?).bind fun _ => (opStep P false o1 e.ev σ).bind fun r => (execOps P Θ rec false ops.toList os ((e.put o1.dst r.1).put o2.dst r.1) r.2).map fun r => { env := r.1, σ := r.2 }
        | _ => none
      else (execOps P Θ rec false ops.toList ops.toList e σ).map fun r => { env := r.1, σ := r.2 }
    | .seq a b => (rec (.code a e σ)).bind fun r =>
      match r.ex with
      | .normal => rec (.code b r.env r.σ)
      | _ => some r
    | .cond c a b => match e.ev c with
      | .sc (.bool true) => rec (.code a e σ)
      | .sc (.bool false) => rec (.code b e σ)
      | _ => none
    | .block id a => (rec (.code a e σ)).bind fun r =>
      match r.ex with
      | .exit i => if i = id then some { r with ex := .normal } else some r
      | _ => some r
    | .loop a => (rec (.code a (tidy Θ (loopKey a) e) σ)).bind fun r =>
      match r.ex with
      | .normal => rec (.code (.loop a) (tidy Θ (loopKey a) r.env) (trim σ.sz (tidy Θ (loopKey a) r.env).t r.σ))
      | _ => some { r with env := tidy Θ (loopKey a) r.env }
    | .rangeFunc f ps assign body =>
      if (e.ev f).isFn Θ = false then none else
      (rec (.apply false (e.ev f) [.func (.yield σ.loops.length) [] []] { σ with loops := σ.loops ++ [{ env := tidy Θ (loopKey assign) e, params := ps.toList, assign, body, pending := none, state := .ready }] })).bind fun r =>
        (r.σ.loops[σ.loops.length]?).bind fun lr =>
          if lr.state = .busy then none else
          match lr.pending with
          | none => some { env := e, σ := endL σ e r.σ }
          | some .ret => some { ex := .ret, env := e, σ := endL σ e r.σ }
          | some (.exit id) => some { ex := .exit id, env := e, σ := endL σ e r.σ }
          | some (.goto t) => some { ex := .goto t, env := e, σ := endL σ e r.σ }
          | some _ => none
    | .exit id => some { ex := .exit id, env := e, σ }
    | .goto t => some { ex := .goto t, env := e, σ }
    | .ret => some { ex := .ret, env := e, σ }
    | .scope _ => none
    | .refuse _ => none

noncomputable def runF (P : Program) (Θ : Th) : Nat → Task → Option Res
  | 0, _ => none
  | k + 1, t => stepT P Θ (runF P Θ k) t

end Go.Proofs.YticpcfchhcjjeaaGreat.LI
