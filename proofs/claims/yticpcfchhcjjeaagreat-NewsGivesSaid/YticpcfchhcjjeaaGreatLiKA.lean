/-
  The interpreter with letters in it: values whose shape is written out, and whose contents are Lean terms; tests that hang on them fork. Definitions alone. No program is named here.
-/
import Derived.Test.YticpcfchhcjjeaaGreatLiD
namespace Go.Proofs.YticpcfchhcjjeaaGreat.LI
open Go Go.RowKit

/-- Types of data. -/
inductive Ty where
  | int (k : IntKind)
  | byte
  | bool
  | str
  | list (t : Ty)
  | unit
  | pair (a b : Ty)
  deriving DecidableEq, Inhabited
abbrev Ty.den : Ty → Type
  | .int _ => Int
  | .byte => UInt8
  | .bool => Bool
  | .str => ByteArray
  | .list t => List t.den
  | .unit => Unit
  | .pair a b => a.den × b.den
def Ty.dfl : (t : Ty) → t.den
  | .int _ => (0 : Int)
  | .byte => (0 : UInt8)
  | .bool => false
  | .str => ByteArray.empty
  | .list _ => []
  | .unit => ()
  | .pair a b => (a.dfl, b.dfl)
def Ty.isAgg : Ty → Bool
  | .unit => true
  | .pair _ _ => true
  | _ => false
def Ty.ncells : Ty → Nat
  | .unit => 0
  | .pair a b => a.ncells + b.ncells
  | _ => 1

def oneL (agg : Bool) (cs : List LV) : LV := bif agg then .agg cs else cs.headD .undef
def cellsL : (t : Ty) → t.den → List LV
  | .int k, n => [.sc (.int k n)]
  | .byte, n => [.sc (.int .u8 (UInt8.toNat n))]
  | .bool, b => [.sc (.bool b)]
  | .str, s => [.sc (.string s)]
  | .list t, p => [.slice (p.map fun x => oneL t.isAgg (cellsL t x))]
  | .unit, _ => []
  | .pair a b, p => cellsL a p.1 ++ cellsL b p.2
/-- A datum as a logical value. -/
def encL (t : Ty) (x : t.den) : LV := oneL t.isAgg (cellsL t x)
def lstL (t : Ty) (l : List t.den) : LV := .slice (l.map (encL t))

inductive KV where
  | undef
  | sc (v : Value)
  | st (v : Value)
  | nils
  | lst (t : Ty) (l : List t.den)
  | mref (r n : Nat)
  | mview (r n lo hi sz : Nat)
  | mapr (m : Nat)
  | agg (cs : List KV)
  | tuple (vs : List KV)
  | bptr (b off : Nat)
  | pptr (cs : List KV)
  | rptr (r n i sz off : Nat)
  | func (fn : Fn) (fst caps : List KV)
  deriving Inhabited
namespace KV
def cells : KV → List KV
  | .agg cs => cs
  | v => [v]
def toL : KV → LV
  | .undef => .undef
  | .sc v => .sc v
  | .st v => .sc v
  | .nils => .nils
  | .lst t l => lstL t l
  | .mref r n => .mref r n
  | .mview r n lo hi sz => .mview r n lo hi sz
  | .mapr m => .mapr m
  | .agg cs => .agg (toLs cs)
  | .tuple vs => .tuple (toLs vs)
  | .bptr b o => .bptr b o
  | .pptr cs => .pptr (toLs cs)
  | .rptr r n i sz o => .rptr r n i sz o
  | .func fn fst caps => .func fn (toLs fst) (toLs caps)
where
  toLs : List KV → List LV
  | [] => []
  | v :: vs => toL v :: toLs vs
abbrev int (n : Int) : KV := .sc (.int .i64 n)
abbrev bool (b : Bool) : KV := .sc (.bool b)
abbrev str (s : ByteArray) : KV := .sc (.string s)
def storable : KV → Bool
  | .undef => false
  | .tuple _ => false
  | _ => true
/-- A number: whether it is written out, its kind, itself. -/
def int? : KV → Option (Bool × IntKind × Int)
  | .st (.int k n) => some (true, k, n)
  | .sc (.int k n) => some (false, k, n)
  | _ => none
def bool? : KV → Option (Bool × Bool)
  | .st (.bool b) => some (true, b)
  | .sc (.bool b) => some (false, b)
  | _ => none
def str? : KV → Option (Bool × ByteArray)
  | .st (.string s) => some (true, s)
  | .sc (.string s) => some (false, s)
  | _ => none
/-- A value that is written out, or not. -/
def mk (s : Bool) (v : Value) : KV :=
  match s with
  | true => .st v
  | false => .sc v
/-- Nothing is told to be written out. -/
def dyn : KV → KV
  | .st v => .sc v
  | .agg cs => .agg (dyns cs)
  | .tuple vs => .tuple (dyns vs)
  | .pptr cs => .pptr (dyns cs)
  | .func fn fst caps => .func fn (dyns fst) (dyns caps)
  | v => v
where
  dyns : List KV → List KV
  | [] => []
  | v :: vs => dyn v :: dyns vs
end KV
/-- What must hold. -/
inductive Ck where
  | ok
  | is (b : Bool)
  | and (a b : Ck)
def Ck.val : Ck → Bool
  | .ok => true
  | .is b => b
  | .and a b => a.val && b.val
/-- A test that is carried out at once, where all is written out. -/
def Ck.st (s : Bool) (b : Bool) : Ck :=
  match s with
  | true => (match b with
    | true => .ok
    | false => .is false)
  | false => .is b
def cellsT : (t : Ty) → t.den → List KV
  | .int k, n => [.sc (.int k n)]
  | .byte, n => [.sc (.int .u8 (UInt8.toNat n))]
  | .bool, b => [.sc (.bool b)]
  | .str, s => [.sc (.string s)]
  | .list t, p => [.lst t p]
  | .unit, _ => []
  | .pair a b, p => cellsT a p.1 ++ cellsT b p.2
def encT (t : Ty) (x : t.den) : KV := bif t.isAgg then .agg (cellsT t x) else (cellsT t x).headD .undef
/-- Cells as a datum: what must hold for it, the datum, the cells behind it. -/
def decInt (k : IntKind) : List KV → Option (Ck × Int × List KV)
  | x :: r => match x.int? with
    | some (_, k', n) => if k = k' then some (.ok, n, r) else none
    | none => none
  | _ => none
def decByte : List KV → Option (Ck × UInt8 × List KV)
  | x :: r => match x.int? with
    | some (s, .u8, n) => some (.st s (decide (0 ≤ n) && decide (n < 256)), UInt8.ofNat n.toNat, r)
    | _ => none
  | _ => none
def decBool : List KV → Option (Ck × Bool × List KV)
  | x :: r => match x.bool? with
    | some (_, b) => some (.ok, b, r)
    | none => none
  | _ => none
def decStr : List KV → Option (Ck × ByteArray × List KV)
  | x :: r => match x.str? with
    | some (_, s) => some (.ok, s, r)
    | none => none
  | _ => none
def decList (t : Ty) : List KV → Option (Ck × List t.den × List KV)
  | .lst t' l :: r => if h : t' = t then some (.ok, h ▸ l, r) else (match t', l with
    | .unit, [] => some (.ok, [], r)
    | _, _ => none)
  | _ => none
/-- Cells as a datum: what must hold for it, the datum, the cells behind it. -/
def decT : (t : Ty) → List KV → Option (Ck × t.den × List KV)
  | .int k => decInt k
  | .byte => decByte
  | .bool => decBool
  | .str => decStr
  | .list t => decList t
  | .unit => fun r => some (.ok, (), r)
  | .pair a b => fun r => match decT a r with
    | some (c, x, r') => match decT b r' with
      | some (c', y, r'') => some (.and c c', (x, y), r'')
      | none => none
    | none => none
def isAggK : KV → Bool
  | .agg _ => true
  | _ => false
def decV (t : Ty) (v : KV) : Option (Ck × t.den) :=
  if isAggK v = t.isAgg then match decT t v.cells with
    | some (c, x, []) => some (c, x)
    | _ => none
  else none
def decVs (t : Ty) : List KV → Option (Ck × List t.den)
  | [] => some (.ok, [])
  | v :: vs => match decV t v, decVs t vs with
    | some (c, x), some (c', xs) => some (.and c c', x :: xs)
    | _, _ => none
def castL (t' t : Ty) (l : List t'.den) : Option (List t.den) := if h : t' = t then some (h ▸ l) else none

structure KRow where
  t : Ty
  l : List t.den
  e : TypeId
  sz : Nat
  wr : Bool
structure KEnv where
  fn : FuncId
  t : List KV
  deriving Inhabited
structure KLoop where
  env : KEnv
  params : List Tmp
  assign : Code
  body : Code
  pending : Option Code
  state : LoopState
/-- A map of the call's own. -/
structure KMap where
  kt : Ty
  vt : Ty
  l : List (kt.den × vt.den)
structure KSt where
  boxes : List (List KV) := []
  rows : List KRow := []
  loops : List KLoop := []
  maps : List KMap := []
  deriving Inhabited
structure KRes where
  ex : Ex := .normal
  v : KV := .undef
  env : KEnv := default
  σ : KSt := {}
  deriving Inhabited
inductive KTask where
  | call (f : FuncId) (args : List KV)
  | callS (f : FuncId) (args : List KV) (σ : KSt)
  | apply (own : Bool) (f : KV) (args : List KV) (σ : KSt)
  | code (c : Code) (e : KEnv) (σ : KSt)
def KRow.toL (r : KRow) : Row := ⟨r.l.map (encL r.t), r.e, r.sz, r.wr⟩
def KEnv.toL (e : KEnv) : Env := ⟨e.fn, KV.toL.toLs e.t⟩
def KLoop.toL (l : KLoop) : LoopRec := ⟨l.env.toL, l.params, l.assign, l.body, l.pending, l.state⟩
def KMap.toL (m : KMap) : MapS := ⟨m.l.map fun p => encL m.kt p.1, m.l.map fun p => encL m.vt p.2⟩
def KSt.toL (σ : KSt) : St := ⟨σ.boxes.map KV.toL.toLs, σ.rows.map KRow.toL, σ.loops.map KLoop.toL, σ.maps.map KMap.toL⟩
def KRes.toL (r : KRes) : Res := ⟨r.ex, r.v.toL, r.env.toL, r.σ.toL⟩
def KTask.toL : KTask → Task
  | .call f args => .call f (KV.toL.toLs args)
  | .callS f args σ => .callS f (KV.toL.toLs args) σ.toL
  | .apply own f args σ => .apply own f.toL (KV.toL.toLs args) σ.toL
  | .code c e σ => .code c e.toL σ.toL

/-! ### freezing -/
def frzK (σ : KSt) : KV → Ck × KV
  | .mref r n => match σ.rows[r]? with
    | some row => (.is (decide (row.l.length = n)), .lst row.t row.l)
    | none => (.is false, .undef)
  | .mview r n lo hi sz => match σ.rows[r]? with
    | some row => (.and (.is (decide (row.l.length = n))) (.and (.st true (Nat.beq row.sz sz)) (.and (.is (decide (lo ≤ hi))) (.is (decide (hi ≤ n))))), .lst row.t ((row.l.drop lo).take (hi - lo)))
    | none => (.is false, .undef)
  | .nils => (.ok, .lst .unit [])
  | .agg cs => ((frzKL cs).1, .agg (frzKL cs).2)
  | .tuple vs => ((frzKL vs).1, .tuple (frzKL vs).2)
  | .func fn fst caps => (.and (frzKL fst).1 (frzKL caps).1, .func fn (frzKL fst).2 (frzKL caps).2)
  | v => (.ok, v)
where
  frzKL : List KV → Ck × List KV
  | [] => (.ok, [])
  | v :: vs => (.and (frzK σ v).1 (frzKL vs).1, (frzK σ v).2 :: (frzKL vs).2)
def rowsK : KV → List Nat
  | .mref r _ => [r]
  | .mview r _ _ _ _ => [r]
  | .agg cs => rowsKL cs
  | .tuple vs => rowsKL vs
  | .func _ fst caps => rowsKL fst ++ rowsKL caps
  | _ => []
where
  rowsKL : List KV → List Nat
  | [] => []
  | v :: vs => rowsK v ++ rowsKL vs
def frzKS (σ : KSt) : List Nat → KSt
  | [] => σ
  | r :: rs => frzKS { σ with rows := match σ.rows[r]? with | some row => σ.rows.set r { row with wr := false } | none => σ.rows } rs
def freeK : KV → Bool
  | .undef => true
  | .sc _ => true
  | .st _ => true
  | .nils => true
  | .lst _ _ => true
  | .mref _ _ => false
  | .mview _ _ _ _ _ => false
  | .mapr _ => false
  | .agg cs => freeKL cs
  | .tuple vs => freeKL vs
  | .bptr _ _ => false
  | .pptr cs => freeKL cs
  | .rptr _ _ _ _ _ => false
  | .func fn fst caps => (match fn with | .yield _ => false | _ => true) && freeKL fst && freeKL caps
where
  freeKL : List KV → Bool
  | [] => true
  | v :: vs => freeK v && freeKL vs

/-! ### operations: what must hold, the value, the store -/
def scK : Value → KV
  | .bool b => .st (.bool b)
  | .int k n => .st (.int k n)
  | .string s => .st (.string s)
  | v => .sc v
def ofConst1K : Value → KV
  | .slice none 0 0 => .nils
  | v => if plainV v then scK v else .undef
def ofConstK : Value → KV
  | .agg cs => if cs.toList.all (·.oneCell') then .agg (cs.toList.map ofConst1K) else .undef
  | .tuple vs => if vs.size = 0 then .tuple [] else .undef
  | v => ofConst1K v
def zeroK (P : Program) (t : TypeId) : Option (List KV) := (P.info? t).bind fun i => i.zero.bind fun z =>
  if z.cells.size = i.size ∧ (z.cells.toList.all fun u => u.oneCell') = true then some (z.cells.toList.map ofConst1K) else none
def readK (P : Program) (t : TypeId) (cs : List KV) : Option KV := do
  let n ← sizeB P t
  if ← isAggB P t then (if n ≤ cs.length then some (.agg (cs.take n)) else none)
  else cs.head?
def spliceK (cs : List KV) (off : Nat) (new : List KV) : List KV := cs.take off ++ new ++ cs.drop (off + new.length)
def KEnv.ev (e : KEnv) : Operand → KV
  | .tmp t => e.t.getD t .undef
  | .const v => ofConstK v
  | .global _ => .undef
  | .func f => .func (.func f) [] []
def KEnv.put (e : KEnv) (dst : Option Tmp) (v : KV) : KEnv :=
  match dst with
  | some d => { e with t := e.t.set d v }
  | none => e
/-- What must hold of a part. -/
def viewC (row : KRow) (n lo hi sz : Nat) : Ck := .and (.is (decide (row.l.length = n))) (.and (.st true (Nat.beq row.sz sz)) (.and (.is (decide (lo ≤ hi))) (.is (decide (hi ≤ n)))))
/-- The elements of a slice that is read. -/
def elemsK (σ : KSt) : KV → Option (Ck × (t : Ty) × List t.den)
  | .nils => some (.ok, ⟨.unit, []⟩)
  | .lst t l => some (.ok, ⟨t, l⟩)
  | .mref r n => match σ.rows[r]? with
    | some row => some (.is (decide (row.l.length = n)), ⟨row.t, row.l⟩)
    | none => none
  | .mview r n lo hi sz => match σ.rows[r]? with
    | some row => some (viewC row n lo hi sz, ⟨row.t, (row.l.drop lo).take (hi - lo)⟩)
    | none => none
  | _ => none
/-- Their number, and whether it is written out. -/
def lenK (σ : KSt) : KV → Option (Ck × Bool × Nat)
  | .nils => some (.ok, true, 0)
  | .lst _ l => some (.ok, false, l.length)
  | .mref r n => match σ.rows[r]? with
    | some row => some (.is (decide (row.l.length = n)), false, row.l.length)
    | none => none
  | .mview r n lo hi sz => match σ.rows[r]? with
    | some row => some (viewC row n lo hi sz, false, hi - lo)
    | none => none
  | _ => none
/-- Where a part of a row lies. -/
def partK (σ : KSt) : KV → Option (Ck × Nat × KRow × Nat × Nat)
  | .mref r n => match σ.rows[r]? with
    | some row => some (.is (decide (row.l.length = n)), r, row, 0, n)
    | none => none
  | .mview r n lo hi sz => match σ.rows[r]? with
    | some row => some (viewC row n lo hi sz, r, row, lo, hi)
    | none => none
  | _ => none
/-- A part of a list laid anew. -/
def overT {β : Type} (xs : List β) (lo : Nat) (ys : List β) : List β := xs.take lo ++ ys ++ xs.drop (lo + ys.length)
/-- Cells that hold nil become rows of the call's own. -/
def ownCellsK (T : TypeId → Option Ty) (σ : KSt) : List (Option (TypeId × Nat)) → List KV → Option (List KV × KSt)
  | some (e, sz) :: ls, c :: cs => match c with
    | .nils => if 0 < sz then match T e with
      | some t => match ownCellsK T { σ with rows := σ.rows ++ [⟨t, [], e, sz, true⟩] } ls cs with
        | some (cs', σ') => some (.mref σ.rows.length 0 :: cs', σ')
        | none => none
      | none => none
      else match ownCellsK T σ ls cs with
        | some (cs', σ') => some (.nils :: cs', σ')
        | none => none
    | c => match ownCellsK T σ ls cs with
      | some (cs', σ') => some (c :: cs', σ')
      | none => none
  | none :: ls, c :: cs => match ownCellsK T σ ls cs with
    | some (cs', σ') => some (c :: cs', σ')
    | none => none
  | [], cs => some (cs, σ)
  | _, [] => some ([], σ)
def isNilsK : KV → Bool
  | .nils => true
  | _ => false
def newBoxK (T : TypeId → Option Ty) (P : Program) (own : Bool) (t : TypeId) (cs : List KV) (σ : KSt) : Option (KV × KSt) :=
  match own with
  | true => match ownCellsK T σ (sliceCells P 8 t) cs with
    | some (cs', σ') => some (.bptr σ.boxes.length 0, { σ' with boxes := σ'.boxes ++ [cs'] })
    | none => none
  | false => some (.bptr σ.boxes.length 0, { σ with boxes := σ.boxes ++ [cs] })
def ownNilK (T : TypeId → Option Ty) (P : Program) (own : Bool) (t : TypeId) (v : KV) (σ : KSt) : Option (KV × KSt) :=
  match own with
  | false => some (v, σ)
  | true => match v with
    | .nils => match elemB P t with
      | some e => match sizeB P e, T e with
        | some sz, some ty => if 0 < sz then some (.mref σ.rows.length 0, { σ with rows := σ.rows ++ [⟨ty, [], e, sz, true⟩] }) else none
        | _, _ => none
      | none => none
    | v => some (v, σ)
def zeroKV (P : Program) (t : TypeId) : Option KV := (P.info? t).bind fun i => i.zero.bind fun z =>
  if z.cells.size = i.size ∧ (z.cells.toList.all fun u => u.oneCell') = true then some (frzK {} (match z with | .agg cs => .agg (cs.toList.map ofConst1K) | z => ofConst1K z)).2 else none
/-- Keys. -/
def eqK : (t : Ty) → t.den → t.den → Bool
  | .int _, a, b => (show Int from a) == (show Int from b)
  | .str, a, b => ByteArray.toList a == ByteArray.toList b
  | _, _, _ => false
def posK (kt vt : Ty) (k : kt.den) (l : List (kt.den × vt.den)) : Option Nat := l.findIdx? fun p => eqK kt k p.1
def putK (kt vt : Ty) (k : kt.den) (v : vt.den) (l : List (kt.den × vt.den)) : List (kt.den × vt.den) :=
  match posK kt vt k l with
  | some i => l.set i (k, v)
  | none => l ++ [(k, v)]
def delK (kt vt : Ty) (k : kt.den) (l : List (kt.den × vt.den)) : List (kt.den × vt.den) :=
  match posK kt vt k l with
  | some i => l.eraseIdx i
  | none => l
def getK (kt vt : Ty) (k : kt.den) (z : vt.den) (l : List (kt.den × vt.den)) : vt.den :=
  match posK kt vt k l with
  | some i => (l.map (·.2)).getD i z
  | none => z
def hasK (kt vt : Ty) (k : kt.den) (l : List (kt.den × vt.den)) : Bool := (posK kt vt k l).isSome
def keyOkK (str : Bool) : Ty → Bool
  | .int _ => !str
  | .str => str
  | _ => false
def binIntK (op : BinOp) (s : Bool) (k : IntKind) (a b : Int) : Option (Ck × KV) :=
  match op with
  | .add => some (.ok, .mk s (.int k (k.wrap (a + b))))
  | .sub => some (.ok, .mk s (.int k (k.wrap (a - b))))
  | .mul => some (.ok, .mk s (.int k (k.wrap (a * b))))
  | .quo => some (.is (!decide (b = 0)), .mk s (.int k (k.wrap (a.tdiv b))))
  | .rem => some (.is (!decide (b = 0)), .mk s (.int k (a.tmod b)))
  | .eql => some (.ok, .mk s (.bool (a == b)))
  | .neq => some (.ok, .mk s (.bool (a != b)))
  | .lss => some (.ok, .mk s (.bool (decide (a < b))))
  | .leq => some (.ok, .mk s (.bool (decide (a ≤ b))))
  | .gtr => some (.ok, .mk s (.bool (decide (a > b))))
  | .geq => some (.ok, .mk s (.bool (decide (a ≥ b))))
  | _ => none
def binStrK (op : BinOp) (s : Bool) (a b : ByteArray) : Option (Ck × KV) :=
  match op with
  | .add => some (.is (decide (a.size + b.size < 2 ^ 62)), .mk s (.string (a ++ b)))
  | .eql => some (.ok, .mk s (.bool (a.toList == b.toList)))
  | .neq => some (.ok, .mk s (.bool !(a.toList == b.toList)))
  | .lss => some (.ok, .mk s (.bool (Op.bytesLess a.toList b.toList)))
  | .leq => some (.ok, .mk s (.bool (Op.bytesLess a.toList b.toList || (a.toList == b.toList))))
  | .gtr => some (.ok, .mk s (.bool !(Op.bytesLess a.toList b.toList || (a.toList == b.toList))))
  | .geq => some (.ok, .mk s (.bool !(Op.bytesLess a.toList b.toList)))
  | _ => none
/-- Is a slice nil? -/
def nilK (P : Program) (op : BinOp) (t : TypeId) (b : Bool) : Option KV :=
  match P.underlying t, op with
  | some (.slice _), .eql => some (.st (.bool b))
  | some (.slice _), .neq => some (.st (.bool !b))
  | _, _ => none
def binK (P : Program) (op : BinOp) (t : TypeId) (x y : KV) : Option (Ck × KV) :=
  match isNilsK y with
  | true => (match x with
    | .nils => (match nilK P op t true with
      | some v => some (.ok, v)
      | none => none)
    | .lst _ l => (match nilK P op t false with
      | some v => some (.is (!l.isEmpty), v)
      | none => none)
    | _ => none)
  | false => match x.int?, y.int? with
  | some (s, k, a), some (s', k', b) => if k = k' then binIntK op (s && s') k a b else none
  | _, _ => match x.str?, y.str? with
    | some (s, a), some (s', b) => binStrK op (s && s') a b
    | _, _ => match x.bool?, y.bool? with
      | some (s, a), some (s', b) => match P.underlying t, op with
        | some .bool, .eql => some (.ok, .mk (s && s') (.bool (a == b)))
        | some .bool, .neq => some (.ok, .mk (s && s') (.bool !(a == b)))
        | _, _ => none
      | _, _ => none
def unK (op : UnOp) (x : KV) : Option KV :=
  match op with
  | .not => match x.bool? with
    | some (s, b) => some (.mk s (.bool !b))
    | none => none
  | .neg => match x.int? with
    | some (s, k, n) => some (.mk s (.int k (k.wrap (0 - n))))
    | none => none
  | _ => none
/-- The one or the other, after a test. -/
def pickK (c x y : KV) : Option KV :=
  match c.bool? with
  | some (true, c) => (match c with
    | true => some x
    | false => some y)
  | some (false, c) => match x.bool?, y.bool? with
    | some (_, a), some (_, b) => some (.sc (.bool (bif c then a else b)))
    | _, _ => none
  | none => none
def fillK (place : Nat → Option (Nat × Nat)) (cells : List KV) : List (Nat × KV) → Option (List KV)
  | [] => some cells
  | (i, v) :: rest => match place i with
    | none => none
    | some (off, n) => if v.cells.length = n ∧ v.storable = true ∧ off + n ≤ cells.length then fillK place (spliceK cells off v.cells) rest else none
def builtK (P : Program) (t : TypeId) (parts : List (Nat × KV)) : Option (List KV) :=
  (zeroK P t).bind fun zs => (placesB P t).bind fun pl => fillK (fun i => pl[i]?) zs parts
def bndHi (v : Option KV) (n m : Nat) : Option (Ck × Nat) :=
  match v with
  | none => some (.ok, n)
  | some v => match v.int? with
    | some (s, _, x) => some (.and (.st s (decide (0 ≤ x))) (.is (decide (x ≤ m))), x.toNat)
    | none => none
def bndLo (v : Option KV) (h : Nat) : Option (Ck × Nat) :=
  match v with
  | none => some (.ok, 0)
  | some v => match v.int? with
    | some (s, _, x) => some (.and (.st s (decide (0 ≤ x))) (.is (decide (x ≤ h))), x.toNat)
    | none => none
/-- What is appended, as data. -/
def sourceK (P : Program) (tx : TypeId) (t : Ty) (sz : Nat) (σ : KSt) (x : KV) : Option (Ck × List t.den) :=
  match P.underlying tx with
  | some .string => match x.str? with
    | some (_, s) => if sz = 1 then (match castL .byte t s.data.toList with
      | some l => some (.ok, l)
      | none => none) else none
    | none => none
  | some (.slice _) => match elemsK σ x with
    | some (c, ⟨t', l⟩) => (match castL t' t l with
      | some l => some (c, l)
      | none => (match t', l with
        | .unit, [] => some (c, [])
        | _, _ => none))
    | none => none
  | _ => none
def newK (T : TypeId → Option Ty) (P : Program) (tx : TypeId) (x : KV) (e : TypeId) (sz : Nat) (σ : KSt) : Option (Ck × KV × KSt) :=
  match T e with
  | some t => if t.ncells = sz then match sourceK P tx t sz σ x with
    | some (c, ys) => some (.and c (.is (decide (ys.length ≤ maxEls))), .mref σ.rows.length ys.length, { σ with rows := σ.rows ++ [⟨t, ys, e, sz, true⟩] })
    | none => none else none
  | none => none
def appendK (T : TypeId → Option Ty) (P : Program) (tx : TypeId) (d x : KV) (e : TypeId) (sz : Nat) (σ : KSt) : Option (Ck × KV × KSt) :=
  match d with
  | .nils => newK T P tx x e sz σ
  | .mref r n => match σ.rows[r]? with
    | some row => if row.e = e ∧ row.sz = sz ∧ row.t.ncells = sz then match sourceK P tx row.t sz σ x with
      | some (c, ys) => some (.and c (.and (.is (decide (row.l.length = n))) (.is (decide ((row.l ++ ys).length ≤ maxEls)))), .mref r (row.l ++ ys).length, { σ with rows := σ.rows.set r { row with l := row.l ++ ys } })
      | none => none else none
    | none => none
  | .mview r n lo hi sz' => match σ.rows[r]? with
    | some row => if row.e = e ∧ row.sz = sz ∧ sz' = sz ∧ row.wr = true ∧ row.t.ncells = sz then match sourceK P tx row.t sz σ x with
      | some (c, ys) => some (.and c (.and (.is (decide (row.l.length = n))) (.and (.is (decide (lo ≤ hi))) (.is (decide (hi + ys.length ≤ n))))), .mview r n lo (hi + ys.length) sz, { σ with rows := σ.rows.set r { row with l := overT row.l hi ys } })
      | none => none else none
    | none => none
  | _ => none
/-- A row of zero values. -/
def zeroRowK (T : TypeId → Option Ty) (P : Program) (e : TypeId) (sz : Nat) (n : Nat) (σ : KSt) : Option (Ck × KV × KSt) :=
  match T e, zeroKV P e with
  | some t, some z => if t.ncells = sz then match decV t z with
    | some (c, x) => some (c, .mref σ.rows.length (List.replicate n x).length, { σ with rows := σ.rows ++ [⟨t, List.replicate n x, e, sz, true⟩] })
    | none => none else none
  | _, _ => none
def builtinK (T : TypeId → Option Ty) (P : Program) (b : Builtin) (ats : List TypeId) (args : List KV) (σ : KSt) : Option (Ck × KV × KSt) :=
  match b, ats, args with
  | .len, [t], [x] => match P.underlying t with
    | some .string => (match x.str? with
      | some (st, s) => some (.ok, .mk st (.int .i64 s.size), σ)
      | none => none)
    | some (.slice _) => (match lenK σ x with
      | some (c, s, n) => some (c, .mk s (.int .i64 n), σ)
      | none => none)
    | some (.map _ _) => match x with
      | .mapr m => (match σ.maps[m]? with
        | some q => some (.ok, .sc (.int .i64 q.l.length), σ)
        | none => none)
      | _ => none
    | _ => none
  | .cap, [t], [x] => match x with
    | .nils => (match elemB P t with
      | some _ => some (.ok, .st (.int .i64 0), σ)
      | none => none)
    | _ => none
  | .append, [t, tx], [d, x] => match elemB P t with
    | some e => match sizeB P e, zeroB P e, bytesB P e with
      | some sz, some _, some bs => if bs ≤ 128 ∧ 0 < sz then match isIntB P tx with
        | true => (match d with
          | .nils => (match x.int? with
            | some (s, _, n) => (match zeroRowK T P e sz n.toNat σ with
              | some (c, v, σ') => some (.and (.st s (decide (0 < n))) (.and (.st s (decide (n ≤ maxEls))) c), v, σ')
              | none => none)
            | none => none)
          | _ => none)
        | false => appendK T P tx d x e sz σ
        else none
      | _, _, _ => none
    | none => none
  | .copy, [t, tx], [d, x] => match elemB P t with
    | some e => match sizeB P e, partK σ d with
      | some sz, some (c, r, row, lo, hi) => if row.wr = true ∧ row.sz = sz ∧ 0 < sz ∧ row.t.ncells = sz then match sourceK P tx row.t sz σ x with
        | some (c', ys) => some (.and c c', .sc (.int .i64 ((min ys.length (hi - lo) : Nat) : Int)), { σ with rows := σ.rows.set r { row with l := overT row.l lo (ys.take (hi - lo)) } })
        | none => none else none
      | _, _ => none
    | none => none
  | .clear, [t], [d] => match elemB P t with
    | some e => match sizeB P e, zeroKV P e, partK σ d with
      | some sz, some z, some (c, r, row, lo, hi) => if row.wr = true ∧ row.sz = sz ∧ 0 < sz ∧ row.t.ncells = sz then match decV row.t z with
        | some (c', x) => some (.and c c', .tuple [], { σ with rows := σ.rows.set r { row with l := overT row.l lo (List.replicate (hi - lo) x) } })
        | none => none else none
      | _, _, _ => none
    | none => none
  | .delete, [t, _], [m, k] => match m with
    | .mapr m => match mapB P t, σ.maps[m]? with
      | some (_, str), some q => if keyOkK str q.kt = true then match decV q.kt k with
        | some (c, k) => some (c, .tuple [], { σ with maps := σ.maps.set m { q with l := delK q.kt q.vt k q.l } })
        | none => none else none
      | _, _ => none
    | _ => none
  | .min, _, [x, y] => match x.int?, y.int? with
    | some (s, k, a), some (s', k', b) => if k = k' then some (.ok, .mk (s && s') (.int k (bif decide (b < a) then b else a)), σ) else none
    | _, _ => none
  | .max, _, [x, y] => match x.int?, y.int? with
    | some (s, k, a), some (s', k', b) => if k = k' then some (.ok, .mk (s && s') (.int k (bif decide (a < b) then b else a)), σ) else none
    | _, _ => none
  | _, _, _ => none
def loadK (P : Program) (t : TypeId) (σ : KSt) : KV → Option (Ck × KV)
  | .bptr b off => match σ.boxes[b]? with
    | some cs => (match readK P t (cs.drop off) with
      | some v => some (.ok, v)
      | none => none)
    | none => none
  | .pptr cs => match readK P t cs with
    | some v => some (.ok, v)
    | none => none
  | .rptr r n i sz off => match σ.rows[r]? with
    | some row => if row.sz = sz then (match readK P t ((encT row.t (row.l.getD i row.t.dfl)).cells.drop off) with
      | some v => some (.and (.is (decide (row.l.length = n))) (.is (decide (i < row.l.length))), v)
      | none => none) else none
    | none => none
  | _ => none
/-- What is appended to nil, as data. -/
def appendNewK (T : TypeId → Option Ty) (P : Program) (ats : List TypeId) (args : List KV) (σ : KSt) : Option (Ck × KV × KSt) :=
  match ats, args with
  | [t, tx], [.nils, x] => match elemB P t with
    | some e => match sizeB P e, zeroB P e, bytesB P e, T e with
      | some sz, some _, some bs, some ty => if bs ≤ 128 ∧ 0 < sz ∧ isIntB P tx = false ∧ ty.ncells = sz then (match sourceK P tx ty sz σ x with
        | some (c, ys) => some (.and c (.is (decide (ys.length ≤ maxEls))), .lst ty ys, σ)
        | none => none) else none
      | _, _, _, _ => none
    | none => none
  | _, _ => none
def opK (T : TypeId → Option Ty) (P : Program) (own : Bool) (oty : TypeId) (op : Op) (ρ : Operand → KV) (σ : KSt) : Option (Ck × KV × KSt) :=
  match op with
  | .move x | .assign x => match ownNilK T P own oty (ρ x) σ with
    | some (v, σ') => some (.ok, v, σ')
    | none => none
  | .pick c a b => match pickK (ρ c) (ρ a) (ρ b) with
    | some v => some (.ok, v, σ)
    | none => none
  | .alloc t => match zeroK P t with
    | some cs => (match newBoxK T P own t cs σ with
      | some (v, σ') => some (.ok, v, σ')
      | none => none)
    | none => none
  | .box t x => match sizeB P t with
    | some n => if (ρ x).cells.length = n ∧ (ρ x).storable = true then (match newBoxK T P own t (ρ x).cells σ with
      | some (v, σ') => some (.ok, v, σ')
      | none => none) else none
    | none => none
  | .build t parts => match builtK P t (parts.toList.map fun p => (p.1, ρ p.2)) with
    | some cs => some (.ok, .agg cs, σ)
    | none => none
  | .buildSlice t len parts => match elemB P t with
    | some e => match sizeB P e, zeroB P e, T e with
      | some sz, some _, some ty =>
        bif own && (Nat.beq len 0 && parts.toList.isEmpty) then (if 0 < sz then some (.ok, .mref σ.rows.length 0, { σ with rows := σ.rows ++ [⟨ty, [], e, sz, true⟩] }) else none) else
        if len = 0 ∧ parts.toList.length = 0 then some (.ok, .lst ty [], σ) else if parts.toList.map (·.1) = List.range len ∧ ty.ncells = sz ∧ len * sz ≤ 4096 ∧ 0 < sz ∧ 0 < len then
          match decVs ty (frzK.frzKL σ (parts.toList.map fun p => ρ p.2)).2 with
          | some (c, xs) => some (.and (frzK.frzKL σ (parts.toList.map fun p => ρ p.2)).1 c, .lst ty xs, frzKS σ (rowsK.rowsKL (parts.toList.map fun p => ρ p.2)))
          | none => none
        else none
      | _, _, _ => none
    | none => none
  | .load t a => match loadK P t σ (ρ a) with
    | some (c, v) => some (c, v, σ)
    | none => none
  | .store t a x => match ρ a with
    | .bptr b off => match σ.boxes[b]?, sizeB P t with
      | some cs, some n => if (ρ x).cells.length = n ∧ (ρ x).storable = true ∧ off + n ≤ cs.length then
          some (.ok, .tuple [], { σ with boxes := σ.boxes.set b (spliceK cs off (ρ x).cells) }) else none
      | _, _ => none
    | .rptr r n i sz off => match sizeB P t, σ.rows[r]? with
      | some k, some row => if row.wr = true ∧ off = 0 ∧ k = sz ∧ row.sz = sz ∧ row.t.ncells = sz ∧ r ∉ rowsK (ρ x) then
          match decV row.t (frzK σ (ρ x)).2 with
          | some (c, y) => some (.and (frzK σ (ρ x)).1 (.and c (.and (.is (decide (row.l.length = n))) (.is (decide (i < n))))), .tuple [], { frzKS σ (rowsK (ρ x)) with rows := (frzKS σ (rowsK (ρ x))).rows.set r { row with l := row.l.set i y } })
          | none => none
        else none
      | _, _ => none
    | _ => none
  | .binOp op t x y _ => match binK P op t (ρ x) (ρ y) with
    | some (c, v) => some (c, v, σ)
    | none => none
  | .unOp op _ x => match unK op (ρ x) with
    | some v => some (.ok, v, σ)
    | none => none
  | .convert src dst x => match P.underlying src, P.underlying dst with
    | some (.int _), some (.int k) => (match (ρ x).int? with
      | some (s, _, n) => some (.ok, .mk s (.int k (k.wrap n)), σ)
      | none => none)
    | some .string, some .string => (match (ρ x).str? with
      | some (st, s) => some (.ok, .mk st (.string s), σ)
      | none => none)
    | some (.slice e), some .string => (match P.underlying e, ρ x with
      | some (.int .u8), .nils => some (.ok, .str ⟨([] : List UInt8).toArray⟩, σ)
      | some (.int .u8), .lst .byte l => some (.ok, .str ⟨List.toArray l⟩, σ)
      | some (.int .u8), .mref r n => (match σ.rows[r]? with
        | some ⟨.byte, l, _, _, _⟩ => some (.is (decide (List.length l = n)), .str ⟨List.toArray l⟩, σ)
        | _ => none)
      | _, _ => none)
    | some .string, some (.slice e) => (match P.underlying e, (ρ x).str? with
      | some (.int .u8), some (_, s) => some (.is (decide (s.size ≤ maxEls)), .lst .byte s.data.toList, σ)
      | _, _ => none)
    | _, _ => none
  | .nilCheck x => match ρ x with
    | .bptr b off => some (.ok, .bptr b off, σ)
    | .pptr cs => some (.ok, .pptr cs, σ)
    | .rptr r n i sz off => some (.ok, .rptr r n i sz off, σ)
    | _ => none
  | .makeFunc fn fst caps => match fn with
    | .yield _ => none
    | fn => some (.ok, .func fn (fst.toList.map ρ) (caps.toList.map ρ), σ)
  | .slice t x lo hi mx => match P.underlying t with
    | some .string => if mx.isSome then none else (match (ρ x).str? with
      | some (_, s) => (match bndHi (hi.map ρ) s.size s.size with
        | some (c, h) => (match bndLo (lo.map ρ) h with
          | some (c', l) => some (.and c c', .str (s.extract l h), σ)
          | none => none)
        | none => none)
      | none => none)
    | some (.slice e) => match isNilsK (ρ x), own with
      | true, _ => if mx.isSome then none else (match sizeB P e, bndHi (hi.map ρ) 0 0 with
        | some _, some (c, h) => (match bndLo (lo.map ρ) h with
          | some (c', _) => some (.and c c', .nils, σ)
          | none => none)
        | _, _ => none)
      | false, true => (match sizeB P e, partK σ (ρ x) with
        | some sz, some (c0, r, row, a, b) => (match mx with
         | some m => (match bndLo (some (ρ m)) (b - a), hi with
            | some (c, q), some hi => (match bndLo (some (ρ hi)) q with
              | some (c', h) => (match bndLo (lo.map ρ) h with
                | some (c'', _) => some (.and c0 (.and c (.and c' c'')), .undef, σ)
                | none => none)
              | none => none)
            | _, _ => none)
         | none => match bndHi (hi.map ρ) (b - a) (row.l.length - a) with
          | some (c, h) => (match bndLo (lo.map ρ) h with
            | some (c', l) => if row.sz = sz then some (.and c0 (.and c c'), .mview r row.l.length (a + l) (a + h) sz, σ) else none
            | none => none)
          | none => none)
        | _, _ => none)
      | false, false => (match sizeB P e, elemsK σ (ρ x) with
        | some sz, some (c0, ⟨ty, es⟩) => (match mx with
          | none => (match bndHi (hi.map ρ) es.length es.length with
            | some (c, h) => (match bndLo (lo.map ρ) h with
              | some (c', l) => if (ty.ncells == sz || es.isEmpty) = true then some (.and c0 (.and c c'), .lst ty ((es.drop l).take (h - l)), frzKS σ (rowsK (ρ x))) else none
              | none => none)
            | none => none)
          | some m => (match bndLo (some (ρ m)) es.length, hi with
            | some (c, q), some hi => (match bndLo (some (ρ hi)) q with
              | some (c', h) => (match bndLo (lo.map ρ) h with
                | some (c'', l) => if (ty.ncells == sz || es.isEmpty) = true then some (.and c0 (.and c (.and c' c'')), .lst ty ((es.drop l).take (h - l)), frzKS σ (rowsK (ρ x))) else none
                | none => none)
              | none => none)
            | _, _ => none))
        | _, _ => none)
    | _ => none
  | .fieldAddr s x f => match fieldB P s f with
    | some (off, t) => match sizeB P t with
      | some n => if n = 0 then none else match ρ x with
        | .bptr b o => some (.ok, .bptr b (o + off), σ)
        | .pptr cs => if off < cs.length then some (.ok, .pptr (cs.drop off), σ) else none
        | .rptr r n i sz o => some (.ok, .rptr r n i sz (o + off), σ)
        | _ => none
      | none => none
    | none => none
  | .field s x f => match fieldB P s f, ρ x with
    | some (off, t), .agg cs => match readK P t (cs.drop off) with
      | some v => some (.ok, v, σ)
      | none => none
    | _, _ => none
  | .indexAddr t x i => match P.underlying t with
    | some (.array m e) => (match sizeB P e, (ρ i).int? with
      | some sz, some (true, _, k) => if 0 ≤ k ∧ k < m ∧ 1 < m ∧ 0 < sz then (match ρ x with
        | .bptr b o => some (.ok, .bptr b (o + k.toNat * sz), σ)
        | .pptr cs => if k.toNat * sz < cs.length then some (.ok, .pptr (cs.drop (k.toNat * sz)), σ) else none
        | .rptr r n j z o => some (.ok, .rptr r n j z (o + k.toNat * sz), σ)
        | _ => none) else none
      | _, _ => none)
    | _ => match elemB P t with
    | some e => match sizeB P e, (ρ i).int? with
      | some sz, some (s, _, k) => match ρ x with
        | .lst ty l => if ty.ncells = sz ∧ 0 < sz then some (.and (.st s (decide (0 ≤ k))) (.is (decide (k < l.length))), .pptr (encT ty (l.getD k.toNat ty.dfl)).cells, σ) else none
        | .mref r n => (match σ.rows[r]? with
          | some row => if row.sz = sz then some (.and (.st s (decide (0 ≤ k))) (.and (.is (decide (row.l.length = n))) (.is (decide (k < n)))), .rptr r n k.toNat sz 0, σ) else none
          | none => none)
        | .mview r n lo hi sz' => (match σ.rows[r]? with
          | some row => if row.sz = sz ∧ sz' = sz then some (.and (.st s (decide (0 ≤ k))) (.and (viewC row n lo hi sz) (.is (decide (k < (hi - lo : Nat))))), .rptr r n (lo + k.toNat) sz 0, σ) else none
          | none => none)
        | _ => none
      | _, _ => none
    | none => none
  | .index t x i => match P.underlying t with
    | some .string => (match (ρ x).str?, (ρ i).int? with
      | some (_, s), some (st, _, k) => some (.and (.st st (decide (0 ≤ k))) (.is (decide (k < s.size))), .sc (.int .u8 (UInt8.toNat (s.data.toList.getD k.toNat 0))), σ)
      | _, _ => none)
    | some (.array m e) => (match ρ x, (ρ i).int?, sizeB P e with
      | .agg cs, some (true, _, k), some sz => if 0 ≤ k ∧ k < m then (match readK P e (cs.drop (k.toNat * sz)) with
        | some v => some (.ok, v, σ)
        | none => none) else none
      | _, _, _ => none)
    | _ => none
  | .makeMap t r => match r, P.underlying t with
    | none, some (.map k e) => (match mapB P t, T k, T e with
      | some _, some kt, some vt => some (.ok, .mapr σ.maps.length, { σ with maps := σ.maps ++ [⟨kt, vt, []⟩] })
      | _, _, _ => none)
    | _, _ => none
  | .mapUpdate t m k v => match ρ m with
    | .mapr m => (match mapB P t, σ.maps[m]? with
      | some (_, str), some q => if keyOkK str q.kt = true then (match decV q.kt (ρ k), decV q.vt (frzK σ (ρ v)).2 with
        | some (c, k), some (c', x) => some (.and (frzK σ (ρ v)).1 (.and c (.and c' (.is (decide (q.l.length < maxEls))))), .tuple [], { frzKS σ (rowsK (ρ v)) with maps := σ.maps.set m { q with l := putK q.kt q.vt k x q.l } })
        | _, _ => none) else none
      | _, _ => none)
    | _ => none
  | .lookup t m k ok => match ρ m with
    | .mapr m => (match mapB P t, σ.maps[m]? with
      | some (e, str), some q => if keyOkK str q.kt = true then (match decV q.kt (ρ k), zeroKV P e with
        | some (c, k), some z => (match decV q.vt z with
          | some (c', z) => some (.and c c', (match ok with
            | true => .tuple [encT q.vt (getK q.kt q.vt k z q.l), .sc (.bool (hasK q.kt q.vt k q.l))]
            | false => encT q.vt (getK q.kt q.vt k z q.l)), σ)
          | none => none)
        | _, _ => none) else none
      | _, _ => none)
    | _ => none
  | .makeSlice t l c => match elemB P t with
    | some e => (match sizeB P e, bytesB P e, (ρ l).int?, (ρ c).int? with
      | some sz, some bs, some (s, _, n), some (s', _, m) => if bs ≤ 128 ∧ 0 < sz then (match zeroRowK T P e sz n.toNat σ with
        | some (c, v, σ') => some (.and (.st (s && s') (decide (n = m))) (.and (.st s (decide (0 ≤ n))) (.and (.st s (decide (n ≤ maxEls))) c)), v, σ')
        | none => none) else none
      | _, _, _, _ => none)
    | none => none
  | .extract t i => match ρ t with
    | .tuple vs => match vs[i]? with
      | some v => some (.ok, v, σ)
      | none => none
    | _ => none
  | .call { callee := .builtin b, args, argTypes } => match own && isApp b with
    | true => appendNewK T P argTypes.toList (args.toList.map ρ) σ
    | false => builtinK T P b argTypes.toList (args.toList.map ρ) σ
  | _ => none
end Go.Proofs.YticpcfchhcjjeaaGreat.LI
