/-
  An interpreter over values is sound, part 0.
-/
import Derived.RangeFuncLeaves
import Derived.RangeFuncCalls
import Derived.Below
import Derived.OrdersIn
import Derived.Still
import Derived.Laws.AppendOwn
import Derived.RangeFuncKeeps
import Derived.Maps.AppendAt
import Derived.Deep.AppendSrc
import Derived.Laws.Slices
import Derived.RowKit3
import Derived.Laws.Small
import Derived.Lib.SliceRun
import Derived.Laws.Tables
import Derived.Laws.BytesArg
import Derived.Lib.ConvBytes
import Derived.RangeFuncRecord
import Derived.Laws.StructEq
namespace Go.Proofs.YtpeaaophmddhnaaGreat.LI
open Go Go.RowKit
inductive FT (α : Type) where
 | leaf
 | node (k : Nat) (v : α) (l r : FT α)
def FT.find {α : Type} : FT α → Nat → Option α
 | .leaf, _ => none
 | .node k v l r, n => bif Nat.beq n k then some v else bif Nat.blt n k then l.find n else r.find n
def FT.has {α : Type} (t : FT α) (n : Nat) : Bool := match t.find n with
 | some _ => true
 | none => false
def FT.keys {α : Type} : FT α → List Nat
 | .leaf => []
 | .node k _ l r => k :: (l.keys ++ r.keys)
def qSb (n : Nat) : List Nat → Bool
 | [] => false
 | x :: xs => bif Nat.beq x n then true else qSb n xs
def FT.mem (t : FT (List Nat)) (n x : Nat) : Bool := match t.find n with
 | some l => qSb x l
 | none => false
inductive LV where
 | undef
 | sc (v : Value)
 | nils
 | slice (es : List LV)
 | nslice (es : List LV)
 | mref (r n : Nat)
 | mview (r n lo hi sz : Nat)
 | mapr (m : Nat)
 | agg (cs : List LV)
 | tuple (vs : List LV)
 | bptr (b off : Nat)
 | pptr (cs : List LV)
 | rptr (r n i sz off : Nat)
 | func (fn : Fn) (fst caps : List LV)
 deriving Inhabited
namespace LV
abbrev int (n : Int) : LV := .sc (.int .i64 n)
abbrev bool (b : Bool) : LV := .sc (.bool b)
abbrev str (s : ByteArray) : LV := .sc (.string s)
abbrev byte (n : Int) : LV := .sc (.int .u8 n)
def cells : LV → List LV
 | .agg cs => cs
 | v => [v]
end LV
def jRa : Value → Bool
 | .bool _ | .int _ _ | .string _ | .pointer none | .nilFunc | .nilIface | .map none => true
 | _ => false
def bQa : Value → LV
 | .slice none 0 0 => .nils
 | v => if jRa v then .sc v else .undef
def nZa : Value → LV
 | .agg cs => if cs.toList.all (·.oneCell') then .agg (cs.toList.map bQa) else .undef
 | .tuple vs => if vs.size = 0 then .tuple [] else .undef
 | v => bQa v
def aAa : LV → Bool
 | .undef => true
 | .sc _ => true
 | .nils => true
 | .slice es => refFreeL es
 | .nslice es => refFreeL es
 | .mref _ _ => false
 | .mview _ _ _ _ _ => false
 | .mapr _ => false
 | .agg cs => refFreeL cs
 | .tuple vs => refFreeL vs
 | .bptr _ _ => false
 | .pptr cs => refFreeL cs
 | .rptr _ _ _ _ _ => false
 | .func fn fst caps => (match fn with | .yield _ => false | _ => true) && refFreeL fst && refFreeL caps
where
 refFreeL : List LV → Bool
 | [] => true
 | v :: vs => aAa v && refFreeL vs
structure Row where
 xs : List LV
 e : TypeId
 sz : Nat
 wr : Bool
 deriving Inhabited
structure Env where
 fn : FuncId
 t : List LV
 deriving Inhabited
structure cOa where
 env : Env
 params : List Tmp
 assign : Code
 body : Code
 pending : Option Code
 state : LoopState
 deriving Inhabited
structure jGb where
 ks : List LV
 vs : List LV
 deriving Inhabited
structure St where
 boxes : List (List LV) := []
 rows : List Row := []
 loops : List cOa := []
 maps : List jGb := []
 deriving Inhabited
structure Th where
 ent : FuncId → Bool
 pureF : FuncId → Bool
 prim : FuncId → Option (List LV → Option (LV × List Row))
 ext : FuncId → Option (List LV → Option LV)
 extS : FuncId → Option (List LV → St → Option (LV × St))
 keep : FuncId → Option Nat → List Bool
 own : FuncId → Tmp → Bool
 fresh : FuncId → List (Option (TypeId × Nat))
 frz : FuncId → Tmp → Bool
 grow : FuncId → Bool
 gcF : FuncId → Bool
 gc : FuncId → Nat → Option Nat
def Th.frzs (Θ : Th) (f : FuncId) (d : Option Tmp) : Bool := match d with
 | some d => Θ.frz f d
 | none => false
def Th.owns (Θ : Th) (f : FuncId) (d : Option Tmp) : Bool := match d with
 | some d => Θ.own f d
 | none => false
def bIa (σ : St) : LV → LV
 | .mref r n => match σ.rows[r]? with
  | some row => if row.xs.length = n then .slice row.xs else .undef
  | none => .undef
 | .mview r n lo hi sz => match σ.rows[r]? with
  | some row => if row.xs.length = n ∧ row.sz = sz ∧ lo ≤ hi ∧ hi ≤ n then .slice ((row.xs.drop lo).take (hi - lo)) else .undef
  | none => .undef
 | .nils => .slice []
 | .nslice es => .slice es
 | .agg cs => .agg (frzL cs)
 | .tuple vs => .tuple (frzL vs)
 | .func fn fst caps => .func fn (frzL fst) (frzL caps)
 | v => v
where
 frzL : List LV → List LV
 | [] => []
 | v :: vs => bIa σ v :: frzL vs
def aQa : LV → List Nat
 | .mref r _ => [r]
 | .mview r _ _ _ _ => [r]
 | .agg cs => rowsInL cs
 | .tuple vs => rowsInL vs
 | .func _ fst caps => rowsInL fst ++ rowsInL caps
 | _ => []
where
 rowsInL : List LV → List Nat
 | [] => []
 | v :: vs => aQa v ++ rowsInL vs
def gVa (σ : St) : List Nat → St
 | [] => σ
 | r :: rs => gVa { σ with rows := match σ.rows[r]? with | some row => σ.rows.set r { row with wr := false } | none => σ.rows } rs
def xVa (P : Program) (t : TypeId) : Option Bool :=
 match P.underlying t with
 | some (.struct _) | some (.array _ _) => some true
 | some _ => some false
 | none => none
def bKa (P : Program) (t : TypeId) : Option Nat := (P.info? t).map (·.size)
def iVa (P : Program) (t : TypeId) : Option (List LV) := (P.info? t).bind fun i => i.zero.bind fun z =>
 if z.cells.size = i.size ∧ (z.cells.toList.all fun u => u.oneCell') = true then some (z.cells.toList.map bQa) else none
def iXa (P : Program) (t : TypeId) : Option Nat := (P.info? t).map (·.bytes)
def bDa (P : Program) (t : TypeId) (cs : List LV) : Option LV := do
 let n ← bKa P t
 if ← xVa P t then (if n ≤ cs.length then some (.agg (cs.take n)) else none)
 else cs.head?
def dIa (cs : List LV) (off : Nat) (new : List LV) : List LV := cs.take off ++ new ++ cs.drop (off + new.length)
def bBa : Nat := 2 ^ 40
def bTb (op : BinOp) (k : IntKind) (a b : Int) : Option LV :=
 match op with
 | .add => some (.sc (.int k (k.wrap (a + b))))
 | .sub => some (.sc (.int k (k.wrap (a - b))))
 | .mul => some (.sc (.int k (k.wrap (a * b))))
 | .quo => if b = 0 then none else some (.sc (.int k (k.wrap (a.tdiv b))))
 | .rem => if b = 0 then none else some (.sc (.int k (a.tmod b)))
 | .eql => some (.bool (a == b))
 | .neq => some (.bool (a != b))
 | .lss => some (.bool (decide (a < b)))
 | .leq => some (.bool (decide (a ≤ b)))
 | .gtr => some (.bool (decide (a > b)))
 | .geq => some (.bool (decide (a ≥ b)))
 | _ => none
def bUb (op : BinOp) (a b : ByteArray) : Option LV :=
 match op with
 | .add => if a.size + b.size < 2 ^ 62 then some (.str (a ++ b)) else none
 | .eql => some (.bool (a.toList == b.toList))
 | .neq => some (.bool !(a.toList == b.toList))
 | .lss => some (.bool (Op.bytesLess a.toList b.toList))
 | .leq => some (.bool (Op.bytesLess a.toList b.toList || (a.toList == b.toList)))
 | .gtr => some (.bool !(Op.bytesLess a.toList b.toList || (a.toList == b.toList)))
 | .geq => some (.bool !(Op.bytesLess a.toList b.toList))
 | _ => none
def fYb (op : BinOp) (x y : LV) : Option LV :=
 match x, y with
 | .sc (.int k a), .sc (.int k' b) => if k = k' then bTb op k a b else none
 | .sc (.string a), .sc (.string b) => bUb op a b
 | _, _ => none
def mIb (P : Program) (op : BinOp) (t : TypeId) (b : Bool) : Option LV :=
 match P.underlying t, op with
 | some (.slice _), .eql => some (.bool b)
 | some (.slice _), .neq => some (.bool !b)
 | _, _ => none
def zPa (P : Program) (op : BinOp) (t : TypeId) (x y : LV) : Option LV :=
 match x, y with
 | .sc (.bool a), .sc (.bool b) => match P.underlying t, op with
  | some .bool, .eql => some (.bool (a == b))
  | some .bool, .neq => some (.bool !(a == b))
  | _, _ => none
 | .nils, .nils => mIb P op t true
 | .nslice _, .nils => mIb P op t false
 | .slice (_ :: _), .nils => mIb P op t false
 | x, y => fYb op x y
def lCb (P : Program) (eq : TypeId → LV → LV → Option Bool) (xs ys : List LV) : List Field → Option Bool
 | [] => some true
 | f :: fs => if f.name = "_" then none else (bDa P f.type (xs.drop f.offset)).bind fun x => (bDa P f.type (ys.drop f.offset)).bind fun y => (eq f.type x y).bind fun r => (lCb P eq xs ys fs).map fun r' => r && r'
def eqV (P : Program) : Nat → TypeId → LV → LV → Option Bool
 | 0, _, _, _ => none
 | d + 1, t, x, y => match P.underlying t, x, y with
  | some (.int _), .sc (.int k a), .sc (.int k' b) => if k = k' then some (a == b) else none
  | some .string, .sc (.string a), .sc (.string b) => some (a.toList == b.toList)
  | some .bool, .sc (.bool a), .sc (.bool b) => some (a == b)
  | some (.struct fs), .agg xs, .agg ys => if P.stoodInHeld t = true then none else lCb P (eqV P d) xs ys fs.toList
  | _, _, _ => none
def nUb (P : Program) (op : BinOp) (t : TypeId) (x y : LV) : Option LV :=
 if P.eqGuardType P.depth t = true then none else match op with
 | .eql => (eqV P 8 t x y).map fun b => .bool b
 | .neq => (eqV P 8 t x y).map fun b => .bool !b
 | _ => none
def lPb (P : Program) (op : BinOp) (t : TypeId) (x y : LV) : Option LV :=
 match x, y with
 | .agg xs, .agg ys => nUb P op t (.agg xs) (.agg ys)
 | x, y => zPa P op t x y
def pLb (op : UnOp) (x : LV) : Option LV :=
 match op, x with
 | .not, .sc (.bool b) => some (.bool !b)
 | .neg, .sc (.int k n) => some (.sc (.int k (k.wrap (0 - n))))
 | _, _ => none
def cJa : LV → Option Int
 | .sc (.int _ n) => some n
 | _ => none
def fNa (σ : St) : LV → Option (List LV)
 | .nils => some []
 | .slice es => some es
 | .nslice es => some es
 | .mref r n => match σ.rows[r]? with
  | some row => if row.xs.length = n then some row.xs else none
  | none => none
 | .mview r n lo hi sz => match σ.rows[r]? with
  | some row => if row.xs.length = n ∧ row.sz = sz ∧ lo ≤ hi ∧ hi ≤ n then some ((row.xs.drop lo).take (hi - lo)) else none
  | none => none
 | _ => none
def bWb : LV → Option UInt8
 | .sc (.int .u8 n) => some (UInt8.ofNat n.toNat)
 | _ => none
def gQa (s : ByteArray) : List LV := s.data.toList.map fun b => LV.byte b.toNat
def eVa : List LV → Option (List UInt8)
 | [] => some []
 | v :: vs => match bWb v, eVa vs with
  | some b, some bs => some (b :: bs)
  | _, _ => none
def qWa (P : Program) (s : TypeId) (f : Nat) : Option (Nat × TypeId) :=
 match P.underlying s with
 | some (.struct fs) => fs[f]?.map fun x => (x.offset, x.type)
 | _ => none
def fMa (P : Program) (t : TypeId) : Option TypeId :=
 match P.underlying t with
 | some (.slice e) => some e
 | _ => none
def storable : LV → Bool
 | .undef => false
 | .tuple _ => false
 | _ => true
def bGa (sz : Nat) (es : List LV) : Bool := es.all fun y => y.cells.length == sz && storable y
def dNa (σ : St) (xs : List LV) (e : TypeId) (sz : Nat) : LV × St :=
 (.mref σ.rows.length xs.length, { σ with rows := σ.rows ++ [{ xs, e, sz, wr := true }] })
def aGb (σ : St) (xs : List LV) : List LV × St := (bIa.frzL σ xs, gVa σ (aQa.rowsInL xs))
def sWa (place : Nat → Option (Nat × Nat)) (cells : List LV) : List (Nat × LV) → Option (List LV)
 | [] => some cells
 | (i, v) :: rest => match place i with
  | none => none
  | some (off, n) => if v.cells.length = n ∧ storable v ∧ off + n ≤ cells.length then sWa place (dIa cells off v.cells) rest else none
def wBa (P : Program) (t : TypeId) : Option (List (Nat × Nat)) :=
 match P.underlying t with
 | some (.struct fields) => fields.toList.mapM (fun f => (P.info? f.type).map fun i => (f.offset, i.size))
 | some (.array n e) => if n ≤ 64 then (P.info? e).map fun i => (List.range n).map fun k => (k * i.size, i.size) else none
 | _ => none
def xIa (P : Program) (t : TypeId) (parts : List (Nat × LV)) : Option (List LV) :=
 (iVa P t).bind fun zs => (wBa P t).bind fun pl => sWa (fun i => pl[i]?) zs parts
def xHa (v : Option LV) (dflt n : Nat) : Option Nat :=
 match v with
 | none => some dflt
 | some v => match cJa v with
  | some x => if 0 ≤ x ∧ x ≤ n then some x.toNat else none
  | none => none
def dHa (lo hi : Option LV) (n m : Nat) : Option (Nat × Nat) := (xHa hi n m).bind fun h => (xHa lo 0 h).bind fun l => some (l, h)
def kBa (P : Program) (t : TypeId) : Option LV := (P.info? t).bind fun i => i.zero.bind fun z =>
 if z.cells.size = i.size ∧ (z.cells.toList.all fun u => u.oneCell') = true then some (bIa {} (match z with | .agg cs => .agg (cs.toList.map bQa) | z => bQa z)) else none
def rQa (xs : List LV) (lo : Nat) (ys : List LV) : List LV := xs.take lo ++ ys ++ xs.drop (lo + ys.length)
def eOa (P : Program) : Nat → TypeId → List (Option (TypeId × Nat))
 | 0, _ => []
 | d + 1, t => match P.underlying t with
  | some (.struct fs) => fs.toList.flatMap fun f => eOa P d f.type
  | some (.array n e) => (List.replicate (min n 64) (eOa P d e)).flatten
  | some (.slice e) => [(bKa P e).map fun n => (e, n)]
  | _ => [none]
def aSa (σ : St) : List (Option (TypeId × Nat)) → List LV → List LV × St
 | some (e, sz) :: ls, .nils :: cs => if 0 < sz then
   (.mref σ.rows.length 0 :: (aSa { σ with rows := σ.rows ++ [{ xs := [], e, sz, wr := true }] } ls cs).1, (aSa { σ with rows := σ.rows ++ [{ xs := [], e, sz, wr := true }] } ls cs).2)
  else (.nils :: (aSa σ ls cs).1, (aSa σ ls cs).2)
 | _ :: ls, c :: cs => (c :: (aSa σ ls cs).1, (aSa σ ls cs).2)
 | [], cs => (cs, σ)
 | _, [] => ([], σ)
def fUa (σ : St) : LV → Option (Nat × Row × Nat × Nat)
 | .mref r n => match σ.rows[r]? with
  | some row => if row.xs.length = n then some (r, row, 0, n) else none
  | none => none
 | .mview r n lo hi sz => match σ.rows[r]? with
  | some row => if row.xs.length = n ∧ row.sz = sz ∧ lo ≤ hi ∧ hi ≤ n then some (r, row, lo, hi) else none
  | none => none
 | _ => none
def eCb : Bool → LV → LV → Option Bool
 | false, .sc (.int k a), .sc (.int k' b) => if k = k' then some (a == b) else none
 | true, .sc (.string a), .sc (.string b) => some (a.toList == b.toList)
 | _, _, _ => none
def mOa (str : Bool) (k : LV) : List LV → Option (Option Nat)
 | [] => some none
 | x :: xs => match eCb str k x with
  | some true => some (some 0)
  | some false => (mOa str k xs).map fun o => o.map (· + 1)
  | none => none
def hQb (P : Program) (t : TypeId) : Option (TypeId × Bool) :=
 match P.underlying t with
 | some (.map k e) => match P.underlying k with
  | some (.int _) => some (e, false)
  | some .string => some (e, true)
  | _ => none
 | _ => none
def eWa (d : LV) (ys : List LV) (e : TypeId) (sz : Nat) (σ : St) : Option (LV × St) :=
 match d with
 | .nils => if ys.length ≤ bBa then some (dNa σ ys e sz) else none
 | .mref r n => match σ.rows[r]? with
  | some row => if row.xs.length = n ∧ row.e = e ∧ row.sz = sz ∧ n + ys.length ≤ bBa then
    some (.mref r (n + ys.length), { σ with rows := σ.rows.set r { row with xs := row.xs ++ ys } })
   else none
  | none => none
 | .mview r n lo hi sz' => match σ.rows[r]? with
  | some row => if row.xs.length = n ∧ row.e = e ∧ row.sz = sz ∧ sz' = sz ∧ row.wr = true ∧ lo ≤ hi ∧ hi + ys.length ≤ n then
    some (.mview r n lo (hi + ys.length) sz, { σ with rows := σ.rows.set r { row with xs := rQa row.xs hi ys } })
   else none
  | none => none
 | _ => none
def bZa (P : Program) (tx : TypeId) (sz : Nat) (σ : St) (x : LV) : Option (List LV) :=
 match P.underlying tx, x with
 | some .string, .sc (.string s) => if sz = 1 then some (gQa s) else none
 | some (.slice _), x => fNa σ x
 | _, _ => none
def vBa (P : Program) (d x : LV) (e : TypeId) (sz bs : Nat) (σ : St) : Option (LV × St) :=
 match d, x with
 | .nils, .sc (.int _ n) => (kBa P e).bind fun z => if 0 < n ∧ n ≤ bBa ∧ bs ≤ 128 ∧ 0 < sz ∧ z.cells.length = sz ∧ storable z = true then some (dNa σ (List.replicate n.toNat z) e sz) else none
 | _, _ => none
def uCa (P : Program) (t : TypeId) : Bool :=
 match P.underlying t with
 | some (.int _) => true
 | _ => false
def aTa (P : Program) (b : Builtin) (ats : List TypeId) (args : List LV) (σ : St) : Option (LV × St) :=
 match b, ats, args with
 | .len, [t], [x] => match P.underlying t, x with
  | some .string, .sc (.string s) => some (.int s.size, σ)
  | some (.slice _), x => (fNa σ x).map fun es => (.int es.length, σ)
  | some (.map _ _), .mapr m => (σ.maps[m]?).map fun q => (.int q.ks.length, σ)
  | _, _ => none
 | .cap, [t], [.nils] => (fMa P t).map fun _ => (.int 0, σ)
 | .append, [t, tx], [d, x] =>
  (fMa P t).bind fun e => (bKa P e).bind fun sz => (iVa P e).bind fun _ => (iXa P e).bind fun bs => if uCa P tx then vBa P d x e sz bs σ else (bZa P tx sz σ x).bind fun ys =>
   if bs ≤ 128 ∧ 0 < sz ∧ bGa sz ys then eWa d ys e sz σ else none
 | .copy, [t, tx], [d, x] =>
  (fMa P t).bind fun e => (bKa P e).bind fun sz => (bZa P tx sz σ x).bind fun ys => (fUa σ d).bind fun p =>
   if p.2.1.wr = true ∧ p.2.1.sz = sz ∧ 0 < sz ∧ bGa sz ys then
    some (.int ((min ys.length (p.2.2.2 - p.2.2.1) : Nat) : Int), { σ with rows := σ.rows.set p.1 { p.2.1 with xs := rQa p.2.1.xs p.2.2.1 (ys.take (p.2.2.2 - p.2.2.1)) } })
   else none
 | .clear, [t], [d] =>
  (fMa P t).bind fun e => (bKa P e).bind fun sz => (kBa P e).bind fun z => (fUa σ d).bind fun p =>
   if p.2.1.wr = true ∧ p.2.1.sz = sz ∧ 0 < sz ∧ z.cells.length = sz ∧ storable z = true then
    some (.tuple [], { σ with rows := σ.rows.set p.1 { p.2.1 with xs := rQa p.2.1.xs p.2.2.1 (List.replicate (p.2.2.2 - p.2.2.1) z) } })
   else none
 | .delete, [t, _], [.mapr m, k] => (hQb P t).bind fun ke => (σ.maps[m]?).bind fun q => (mOa ke.2 k q.ks).map fun o => match o with
  | some i => (.tuple [], { σ with maps := σ.maps.set m { ks := q.ks.eraseIdx i, vs := q.vs.eraseIdx i } })
  | none => (.tuple [], σ)
 | .min, _, [.sc (.int k a), .sc (.int k' b)] => if k = k' then some (.sc (.int k (if b < a then b else a)), σ) else none
 | .max, _, [.sc (.int k a), .sc (.int k' b)] => if k = k' then some (.sc (.int k (if a < b then b else a)), σ) else none
 | _, _, _ => none
def cZa (P : Program) (ats : List TypeId) (args : List LV) (σ : St) : Option (LV × St) :=
 match ats, args with
 | [t, tx], [.nils, x] =>
  (fMa P t).bind fun e => (bKa P e).bind fun sz => (iVa P e).bind fun _ => (iXa P e).bind fun bs => (bZa P tx sz σ x).bind fun ys =>
   if bs ≤ 128 ∧ 0 < sz ∧ bGa sz ys = true ∧ ys.length ≤ bBa ∧ uCa P tx = false then some (.slice ys, σ) else none
 | _, _ => none
def rEa : Builtin → Bool
 | .append => true
 | _ => false
def cNb : LV → LV → LV → Option LV
 | .sc (.bool true), x, _ => some x
 | .sc (.bool false), _, y => some y
 | _, _, _ => none
def lAa (P : Program) (own : Bool) (t : TypeId) (v : LV) (σ : St) : LV × St :=
 match own, v, fMa P t with
 | true, .nils, some e => match bKa P e with
  | some sz => if 0 < sz then dNa σ [] e sz else (v, σ)
  | none => (v, σ)
 | _, _, _ => (v, σ)
def fRa (P : Program) (own : Bool) (t : TypeId) (cs : List LV) (σ : St) : LV × St :=
 if own then (.bptr σ.boxes.length 0, { (aSa σ (eOa P 8 t) cs).2 with boxes := (aSa σ (eOa P 8 t) cs).2.boxes ++ [(aSa σ (eOa P 8 t) cs).1] })
 else (.bptr σ.boxes.length 0, { σ with boxes := σ.boxes ++ [cs] })
def aDa (P : Program) (own : Bool) (o : Oper) (ρ : Operand → LV) (σ : St) : Option (LV × St) :=
 match o.op with
 | .move x | .assign x => some (lAa P own o.type (ρ x) σ)
 | .pick c a b => (cNb (ρ c) (ρ a) (ρ b)).map fun v => (v, σ)
 | .alloc t => (iVa P t).map fun cs => fRa P own t cs σ
 | .box t x => do
  let n ← bKa P t
  if (ρ x).cells.length = n ∧ storable (ρ x) then some (fRa P own t (ρ x).cells σ) else none
 | .build t parts => (xIa P t (parts.toList.map fun p => (p.1, ρ p.2))).map fun cs => (.agg cs, σ)
 | .buildSlice t len parts => bif own && (Nat.beq len 0 && parts.toList.isEmpty) then (fMa P t).bind fun e => (bKa P e).bind fun sz => (iVa P e).bind fun _ => if 0 < sz then some (dNa σ [] e sz) else none else (fMa P t).bind fun e => (bKa P e).bind fun sz => (iVa P e).bind fun _ =>
  if len = 0 ∧ parts.toList.length = 0 then some (.slice [], σ) else if parts.toList.map (·.1) = List.range len ∧ bGa sz (aGb σ (parts.toList.map fun p => ρ p.2)).1 ∧ len * sz ≤ 4096 ∧ 0 < sz ∧ 0 < len then
   some (.slice (aGb σ (parts.toList.map fun p => ρ p.2)).1, (aGb σ (parts.toList.map fun p => ρ p.2)).2)
  else none
 | .load t a => match ρ a with
  | .bptr b off => do
   let cs ← σ.boxes[b]?
   let v ← bDa P t (cs.drop off)
   some (v, σ)
  | .pptr cs => (bDa P t cs).map fun v => (v, σ)
  | .rptr r n i sz off => do
   let row ← σ.rows[r]?
   let x ← row.xs[i]?
   if row.xs.length = n ∧ row.sz = sz ∧ storable x then (bDa P t (x.cells.drop off)).map fun v => (v, σ) else none
  | _ => none
 | .store t a x => match ρ a with
  | .bptr b off => do
   let cs ← σ.boxes[b]?
   let n ← bKa P t
   if (ρ x).cells.length = n ∧ storable (ρ x) ∧ off + n ≤ cs.length then
    some (.tuple [], { σ with boxes := σ.boxes.set b (dIa cs off (ρ x).cells) })
   else none
  | .rptr r n i sz off => do
   let k ← bKa P t
   let row ← σ.rows[r]?
   if row.xs.length = n ∧ row.wr = true ∧ off = 0 ∧ k = sz ∧ row.sz = sz ∧ i < n ∧ (bIa σ (ρ x)).cells.length = sz ∧ storable (bIa σ (ρ x)) ∧ r ∉ aQa (ρ x) then
    some (.tuple [], { gVa σ (aQa (ρ x)) with rows := (gVa σ (aQa (ρ x))).rows.set r { row with xs := row.xs.set i (bIa σ (ρ x)) } })
   else none
  | _ => none
 | .binOp op t x y _ => (lPb P op t (ρ x) (ρ y)).map fun v => (v, σ)
 | .unOp op _ x => (pLb op (ρ x)).map fun v => (v, σ)
 | .convert src dst x => match P.underlying src, P.underlying dst, ρ x with
  | some (.int _), some (.int k), .sc (.int _ n) => some (.sc (.int k (k.wrap n)), σ)
  | some .string, some .string, .sc (.string s) => some (.str s, σ)
  | some (.slice e), some .string, x => match P.underlying e with
   | some (.int .u8) => do
    let es ← fNa σ x
    let bs ← eVa es
    some (.str ⟨bs.toArray⟩, σ)
   | _ => none
  | some .string, some (.slice e), .sc (.string s) => match P.underlying e with
   | some (.int .u8) => if s.size ≤ bBa then some (.slice (gQa s), σ) else none
   | _ => none
  | _, _, _ => none
 | .nilCheck x => match ρ x with
  | .bptr b off => some (.bptr b off, σ)
  | .pptr cs => some (.pptr cs, σ)
  | .rptr r n i sz off => some (.rptr r n i sz off, σ)
  | _ => none
 | .makeFunc fn fst caps => match fn with
  | .yield _ => none
  | fn => some (.func fn (fst.toList.map ρ) (caps.toList.map ρ), σ)
 | .slice t x lo hi mx => match P.underlying t, ρ x with
  | some .string, .sc (.string s) => if mx.isSome then none else (dHa (lo.map ρ) (hi.map ρ) s.size s.size).map fun (l, h) => (.str (s.extract l h), σ)
  | some (.slice e), .nils => if mx.isSome then none else (bKa P e).bind fun _ => (dHa (lo.map ρ) (hi.map ρ) 0 0).map fun _ => (.nils, σ)
  | some (.slice e), x => (bKa P e).bind fun sz =>
   if own then (fUa σ x).bind fun p => match mx with
    | some m => (xHa (some (ρ m)) 0 (p.2.2.2 - p.2.2.1)).bind fun q => (hi.bind fun h => xHa (some (ρ h)) 0 q).bind fun h => (xHa (lo.map ρ) 0 h).bind fun _ => some (.undef, σ)
    | none => match x with
     | .mref r n | .mview r n _ _ _ => if mx.isSome = false ∧ p.2.1.sz = sz then
       (dHa (lo.map ρ) (hi.map ρ) (p.2.2.2 - p.2.2.1) (n - p.2.2.1)).map fun b => (.mview r n (p.2.2.1 + b.1) (p.2.2.1 + b.2) sz, σ) else none
     | _ => none
   else (fNa σ x).bind fun es =>
    match mx with
    | none => (dHa (lo.map ρ) (hi.map ρ) es.length es.length).bind fun b =>
     if bGa sz es then some (.slice ((es.drop b.1).take (b.2 - b.1)), gVa σ (aQa x)) else none
    | some m => (xHa (some (ρ m)) 0 es.length).bind fun q => (hi.bind fun h => xHa (some (ρ h)) 0 q).bind fun h => (xHa (lo.map ρ) 0 h).bind fun l =>
     if bGa sz es then some (.slice ((es.drop l).take (h - l)), gVa σ (aQa x)) else none
  | _, _ => none
 | .fieldAddr s x f => do
  let (off, t) ← qWa P s f
  let n ← bKa P t
  if n = 0 then none else match ρ x with
  | .bptr b o => some (.bptr b (o + off), σ)
  | .pptr cs => if off < cs.length then some (.pptr (cs.drop off), σ) else none
  | .rptr r n i sz o => some (.rptr r n i sz (o + off), σ)
  | _ => none
 | .field s x f => do
  let (off, t) ← qWa P s f
  match ρ x with
  | .agg cs => (bDa P t (cs.drop off)).map fun v => (v, σ)
  | _ => none
 | .indexAddr t x i => match P.underlying t with
  | some (.array m e) => (bKa P e).bind fun sz => (cJa (ρ i)).bind fun k =>
   if 0 ≤ k ∧ k < m ∧ 1 < m ∧ 0 < sz then match ρ x with
    | .bptr b o => some (.bptr b (o + k.toNat * sz), σ)
    | .pptr cs => if k.toNat * sz < cs.length then some (.pptr (cs.drop (k.toNat * sz)), σ) else none
    | .rptr r n j z o => some (.rptr r n j z (o + k.toNat * sz), σ)
    | _ => none
   else none
  | _ => do
  let e ← fMa P t
  let sz ← bKa P e
  let k ← cJa (ρ i)
  if 0 ≤ k then match ρ x with
   | .slice es => do
    let y ← es[k.toNat]?
    if y.cells.length = sz ∧ storable y ∧ 0 < sz then some (.pptr y.cells, σ) else none
   | .mref r n => do
    let row ← σ.rows[r]?
    if row.xs.length = n ∧ row.sz = sz ∧ k < n then some (.rptr r n k.toNat sz 0, σ) else none
   | .mview r n lo hi sz' => do
    let row ← σ.rows[r]?
    if row.xs.length = n ∧ row.sz = sz ∧ sz' = sz ∧ lo ≤ hi ∧ hi ≤ n ∧ k < (hi - lo : Nat) then some (.rptr r n (lo + k.toNat) sz 0, σ) else none
   | _ => none
  else none
 | .index t x i => do
  let k ← cJa (ρ i)
  match P.underlying t, ρ x with
  | some .string, .sc (.string s) => if 0 ≤ k then (s[k.toNat]?).map fun b => (LV.byte b.toNat, σ) else none
  | some (.array m e), .agg cs => if 0 ≤ k ∧ k < m then (bKa P e).bind fun sz => (bDa P e (cs.drop (k.toNat * sz))).map fun v => (v, σ) else none
  | _, _ => none
 | .makeMap t none => (hQb P t).map fun _ => (.mapr σ.maps.length, { σ with maps := σ.maps ++ [{ ks := [], vs := [] }] })
 | .mapUpdate t m k v => match ρ m with
  | .mapr m => (hQb P t).bind fun ke => (σ.maps[m]?).bind fun q => (mOa ke.2 (ρ k) q.ks).bind fun o =>
   if storable (bIa σ (ρ v)) = true ∧ q.ks.length < bBa then match o with
    | some i => some (.tuple [], { gVa σ (aQa (ρ v)) with maps := σ.maps.set m { ks := q.ks.set i (ρ k), vs := q.vs.set i (bIa σ (ρ v)) } })
    | none => match ρ k with
     | .sc _ => some (.tuple [], { gVa σ (aQa (ρ v)) with maps := σ.maps.set m { ks := q.ks ++ [ρ k], vs := q.vs ++ [bIa σ (ρ v)] } })
     | _ => none
   else none
  | _ => none
 | .lookup t m k ok => match ρ m with
  | .mapr m => (hQb P t).bind fun ke => (σ.maps[m]?).bind fun q => (mOa ke.2 (ρ k) q.ks).bind fun o => (kBa P ke.1).bind fun z => match o with
   | some i => (q.vs[i]?).map fun v => (bif ok then .tuple [v, .bool true] else v, σ)
   | none => some (bif ok then .tuple [z, .bool false] else z, σ)
  | _ => none
 | .makeSlice t l c => (fMa P t).bind fun e => (bKa P e).bind fun sz => (kBa P e).bind fun z => (iXa P e).bind fun bs => (cJa (ρ l)).bind fun n => (cJa (ρ c)).bind fun m =>
  if n = m ∧ 0 ≤ n ∧ n ≤ bBa ∧ bs ≤ 128 ∧ 0 < sz ∧ z.cells.length = sz ∧ storable z = true then some (dNa σ (List.replicate n.toNat z) e sz) else none
 | .extract t i => match ρ t with
  | .tuple vs => (vs[i]?).map fun v => (v, σ)
  | _ => none
 | .call { callee := .builtin b, args, argTypes } => bif own && rEa b then cZa P argTypes.toList (args.toList.map ρ) σ else aTa P b argTypes.toList (args.toList.map ρ) σ
 | _ => none
def Env.ev (e : Env) : Operand → LV
 | .tmp t => e.t.getD t .undef
 | .const v => nZa v
 | .global _ => .undef
 | .func f => .func (.func f) [] []
def Env.put (e : Env) (dst : Option Tmp) (v : LV) : Env :=
 match dst with
 | some d => { e with t := e.t.set d v }
 | none => e
def fKa (P : Program) : List Oper → Bool
 | o1 :: o2 :: _ => match o1.op, o2.op, o1.guard, o2.guard, o1.dst with
  | .buildSlice t _ _, .convert s d (.tmp x), none, none, some d1 => decide (s = t ∧ d = t ∧ x = d1) && (match fMa P t with | some el => (match P.underlying el with | some (.int .u8) => true | _ => false) | none => false)
  | _, _, _, _, _ => false
 | _ => false
inductive Ex where
 | normal
 | exit (id : Nat)
 | goto (l : Nat)
 | ret
 deriving DecidableEq, Inhabited
structure Res where
 ex : Ex := .normal
 v : LV := .undef
 env : Env := default
 σ : St := {}
 deriving Inhabited
inductive iBa where
 | call (f : FuncId) (args : List LV)
 | callS (f : FuncId) (args : List LV) (σ : St)
 | apply (own : Bool) (f : LV) (args : List LV) (σ : St)
 | code (c : Code) (e : Env) (σ : St)
def cDa (all : List Oper) (o : Oper) (e : Env) : Option Bool :=
 match o.guard with
 | none => some true
 | some (j, want) => match (all[j]?).bind (·.dst) with
  | none => none
  | some d => match e.t.getD d .undef with
   | .sc (.bool b) => some (b == want)
   | .tuple [] => some false
   | _ => none
def hEb (Θ : Th) : Operand → Bool
 | .func f => Θ.grow f
 | .const (.func (.func f) _ _) => Θ.grow f
 | _ => false
def bUa (Θ : Th) (fn : FuncId) (o : Oper) : Nat :=
 match o.op with
 | .move _ | .assign _ => if Θ.owns fn o.dst then 3 else 0
 | .pick .. | .binOp .. | .unOp .. | .fieldAddr .. | .field .. | .index .. | .extract .. | .makeFunc .. | .nilCheck _ => 0
 | .load .. | .indexAddr .. | .slice .. | .convert .. | .build .. | .lookup .. => 1
 | .buildSlice .. => if Θ.owns fn o.dst then 2 else 1
 | .call { callee := .builtin .len, .. } => 1
 | .call { callee := .builtin .append, .. } => if Θ.owns fn o.dst then 1 else 3
 | .call { callee := .value f, .. } => if Θ.owns fn o.dst then 3 else if hEb Θ f then 3 else 1
 | .alloc _ => if Θ.owns fn o.dst then 3 else 0
 | .box .. => if Θ.owns fn o.dst then 3 else 2
 | _ => 3
def aRa (Θ : Th) (fn : FuncId) (o : Oper) : Nat := bif Θ.frzs fn o.dst then 3 else bUa Θ fn o
def eGa (o : Oper) : Option (Operand × Array Operand) :=
 match o.op with
 | .call { callee := .value f, args, .. } => some (f, args)
 | _ => none
def qZa (own b : Bool) (r : LV × St) : LV × St := bif b then (bif own then (r.1, gVa r.2 (aQa r.1)) else (bIa r.2 r.1, gVa r.2 (aQa r.1))) else r
def eQa (P : Program) (Θ : Th) (rec : iBa → Option Res) (o : Oper) (e : Env) (σ : St) : Option (LV × St) :=
 match eGa o with
 | some (f, args) => (rec (.apply (Θ.owns e.fn o.dst) (e.ev f) (args.toList.map e.ev) σ)).map fun r => (r.v, r.σ)
 | none => aDa P (Θ.owns e.fn o.dst) o e.ev σ
def bCa (P : Program) (Θ : Th) (rec : iBa → Option Res) (o : Oper) (e : Env) (σ : St) : Option (LV × St) := (eQa P Θ rec o e σ).map (qZa (Θ.owns e.fn o.dst) (Θ.frzs e.fn o.dst))
def kYb : LV → Option (Nat × Nat)
 | .bptr b off => some (b, off)
 | _ => none
structure Dr where
 n : Nat
 bx : Tmp → Option (Nat × Nat)
def Env.bx (e : Env) : Tmp → Option (Nat × Nat) := fun t => kYb (e.t.getD t .undef)
inductive fFb where
 | rbox (b lo hi : Nat)
 | wbox (b lo hi : Nat)
 | rows
 | keeps
 | free
 | any
 deriving DecidableEq
def wRa (P : Program) (dr : Dr) (all : List Oper) : Nat → Operand → Option (Nat × Nat)
 | k + 1, .tmp t => match all.find? fun o => o.dst == some t with
  | none => dr.bx t
  | some o => match o.op with
   | .move x | .assign x | .nilCheck x => wRa P dr all k x
   | .fieldAddr s x f => match qWa P s f, wRa P dr all k x with
    | some q, some r => some (r.1, r.2 + q.1)
    | _, _ => none
   | _ => none
 | _, _ => none
def mPb (n : Nat) : Option (Nat × Nat) → Option Nat → fFb
 | some r, some k => bif Nat.blt r.1 n then .rbox r.1 r.2 (r.2 + max k 1) else .any
 | _, _ => .any
def nGb : Option (Nat × Nat) → Option Nat → fFb
 | some r, some k => .wbox r.1 r.2 (r.2 + k)
 | _, _ => .any
def eBa (P : Program) (Θ : Th) (fn : FuncId) (dr : Dr) (all : List Oper) (o : Oper) : fFb :=
 if Θ.frzs fn o.dst = true then .any else match o.op with
 | .load t a => mPb dr.n (wRa P dr all 8 a) (bKa P t)
 | .store t a _ => nGb (wRa P dr all 8 a) (bKa P t)
 | .call { callee := .builtin .append, .. } => .rows
 | .call { callee := .value f, .. } => if hEb Θ f = true then .keeps else .any
 | .buildSlice .. => if Θ.owns fn o.dst = true then .any else .free
 | _ => .any
def LV.isAt (b lo : Nat) : LV → Bool
 | .bptr b' lo' => Nat.beq b b' && Nat.beq lo lo'
 | _ => false
def cYa : fFb → Oper → Env → Bool
 | .rbox b lo _, o, e => match o.op with
  | .load _ a => (e.ev a).isAt b lo
  | _ => false
 | .wbox b lo _, o, e => match o.op with
  | .store _ a _ => (e.ev a).isAt b lo
  | _ => false
 | .free, o, e => match o.op with
  | .buildSlice _ _ parts => aAa.refFreeL (parts.toList.map fun p => e.ev p.2)
  | _ => false
 | _, _, _ => true
def fFb.apart : fFb → fFb → Bool
 | .rbox a l h, .wbox b l' h' => !Nat.beq a b || (Nat.ble h l' || Nat.ble h' l)
 | .wbox a l h, .rbox b l' h' => !Nat.beq a b || (Nat.ble h l' || Nat.ble h' l)
 | .wbox a l h, .wbox b l' h' => !Nat.beq a b || (Nat.ble h l' || Nat.ble h' l)
 | .rbox .., .rows => true
 | .rows, .rbox .. => true
 | .wbox .., .rows => true
 | .rows, .wbox .. => true
 | .rbox .., .keeps => true
 | .keeps, .rbox .. => true
 | .free, .any => true
 | .any, .free => true
 | .free, _ => true
 | _, .free => true
 | _, _ => false
def cBa (Θ : Th) (fn : FuncId) (o : Oper) : Bool := match o.op with
 | .alloc _ => !(Θ.owns fn o.dst || Θ.frzs fn o.dst)
 | _ => false
def fHb (P : Program) (Θ : Th) (fn : FuncId) : List Oper → Option (List (List LV))
 | [] => some []
 | o :: os => bif cBa Θ fn o then (match o.op with
   | .alloc t => (iVa P t).bind fun cs => (fHb P Θ fn os).map fun B => cs :: B
   | _ => none) else fHb P Θ fn os
def lOa (Θ : Th) (fn : FuncId) (o : Oper) : List Oper → Nat
 | [] => 0
 | x :: xs => bif cBa Θ fn x then (bif x.dst == o.dst then 0 else lOa Θ fn o xs + 1) else lOa Θ fn o xs
def iMa (Θ : Th) (fn : FuncId) : List Oper → Bool
 | [] => true
 | o :: os => (!cBa Θ fn o || os.all fun x => !cBa Θ fn x || x.dst != o.dst) && iMa Θ fn os
def St.addB (σ : St) (B : List (List LV)) : St := { σ with boxes := σ.boxes ++ B }
def yHa (P : Program) (Θ : Th) (rec : iBa → Option Res) (s : Option Dr) (all : List Oper) (o : Oper) (e : Env) (σ : St) : Option (LV × St) :=
 match s with
 | some dr => bif cBa Θ e.fn o then some (.bptr (dr.n + lOa Θ e.fn o all) 0, σ) else bif cYa (eBa P Θ e.fn dr all o) o e then bCa P Θ rec o e σ else none
 | none => bCa P Θ rec o e σ
def iJa (Θ : Th) (o : Oper) : Bool := match o.op with
 | .call { callee := .value f, .. } => hEb Θ f
 | _ => false
def pUa (P : Program) (Θ : Th) (fn : FuncId) (dr : Dr) (all : List Oper) (o : Oper) (σ σ' : St) : Prop := (aRa Θ fn o ≤ 1 → σ' = σ) ∧ (eBa P Θ fn dr all o = .keeps → σ'.boxes.take dr.n = σ.boxes.take dr.n)
open Classical in
noncomputable def bHa (P : Program) (Θ : Th) (rec : iBa → Option Res) (strict : Option Dr) (all : List Oper) : List Oper → Env → St → Option (Env × St)
 | [], e, σ => some (e, σ)
 | o :: os, e, σ => (cDa all o e).bind fun b =>
  bif b then
   (yHa P Θ rec strict all o e σ).bind fun r =>
    if ∀ dr, strict = some dr → pUa P Θ e.fn dr all o σ r.2 then bHa P Θ rec strict all os (e.put o.dst r.1) r.2 else none
  else bHa P Θ rec strict all os (e.put o.dst (.tuple [])) σ
def yEa (Θ : Th) (o : Oper) : Bool := match o.op with
 | .load .. | .indexAddr .. | .slice .. | .convert .. | .build .. | .lookup .. | .buildSlice .. => true
 | .call { callee := .builtin .len, .. } => true
 | .call { callee := .builtin .append, .. } => true
 | .call { callee := .value (.func f), .. } => Θ.ent f && Θ.pureF f
 | _ => false
def cGb (o : Oper) : Bool := match o.op with
 | .box .. => true
 | _ => false
def fVb (Θ : Th) (o : Oper) : Bool := match o.op with
 | .call { callee := .value (.func f), .. } => Θ.ent f && Θ.pureF f
 | .build .. => true
 | _ => false
def nVa (P : Program) (Θ : Th) (fn : FuncId) (dr : Dr) (ops : Array Oper) (a b : Oper) : Bool :=
 aRa Θ fn a == 0 || aRa Θ fn b == 0 || (aRa Θ fn a == 1 && aRa Θ fn b == 1) || (aRa Θ fn a == 1 && aRa Θ fn b == 2 && yEa Θ a && cGb b) || (aRa Θ fn a == 2 && aRa Θ fn b == 1 && cGb a && fVb Θ b) || (eBa P Θ fn dr ops.toList a).apart (eBa P Θ fn dr ops.toList b)
def iCa (acc : List (List Nat)) (o : Oper) : List (List Nat) :=
 acc ++ [o.after.toList.flatMap fun e => if Region.binds .any e then e.on :: acc.getD e.on [] else []]
def zJa (ops : List Oper) : List (List Nat) := ops.foldl iCa []
def fTb (acc : List Nat) (m : Nat) (e : Edge) : Nat := bif Region.binds .any e then Nat.lor (Nat.lor m (acc.getD e.on 0)) (Nat.shiftLeft 1 e.on) else m
def pJa (acc : List Nat) (o : Oper) : List Nat := acc ++ [o.after.toList.foldl (fTb acc) 0]
def qPb (ops : List Oper) : List Nat := ops.foldl pJa []
def gFb (P : Program) (Θ : Th) (fn : FuncId) (dr : Dr) (ops : Array Oper) (M : List Nat) (i : Nat) : Bool :=
 match ops[i]? with
 | some b => b.after.toList.all (fun e => !Region.binds .any e || decide (e.on < i)) &&
  (List.range i).all fun j => (M.getD i 0).testBit j ||
   (match ops[j]? with | some a => nVa P Θ fn dr ops a b && a.apart ops b && b.apart ops a | none => false)
 | none => false
def kZa (P : Program) (Θ : Th) (fn : FuncId) (dr : Dr) (ops : Array Oper) : Bool := iMa Θ fn ops.toList && (List.range ops.size).all (gFb P Θ fn dr ops (qPb ops.toList))
structure Sz where
 nb : Nat
 nr : Nat
 nl : Nat
 nm : Nat
def below (n : Sz) : LV → Bool
 | .undef => true
 | .sc _ => true
 | .nils => true
 | .slice es => belowL n es
 | .nslice es => belowL n es
 | .mref r _ => decide (r < n.nr)
 | .mview r _ _ _ _ => decide (r < n.nr)
 | .mapr m => decide (m < n.nm)
 | .agg cs => belowL n cs
 | .tuple vs => belowL n vs
 | .bptr b _ => decide (b < n.nb)
 | .pptr cs => belowL n cs
 | .rptr r _ _ _ _ => decide (r < n.nr)
 | .func fn fst caps => (match fn with | .yield l => decide (l < n.nl) | _ => true) && belowL n fst && belowL n caps
where
 belowL (n : Sz) : List LV → Bool
 | [] => true
 | v :: vs => below n v && belowL n vs
def St.sz (σ : St) : Sz := ⟨σ.boxes.length, σ.rows.length, σ.loops.length, σ.maps.length⟩
def sMa (n : Sz) (vs : List LV) (σ : St) : Bool :=
 below.belowL n vs && (σ.boxes.take n.nb).all (below.belowL n) && (σ.rows.take n.nr).all (fun r => below.belowL n r.xs) && (σ.loops.take n.nl).all (fun l => below.belowL n l.env.t) && (σ.maps.take n.nm).all (fun q => below.belowL n q.ks && below.belowL n q.vs)
def trim (n : Sz) (vs : List LV) (σ : St) : St :=
 if σ.boxes.length = n.nb ∧ σ.rows.length = n.nr ∧ σ.loops.length = n.nl ∧ σ.maps.length = n.nm then σ
 else if sMa n vs σ then { boxes := σ.boxes.take n.nb, rows := σ.rows.take n.nr, loops := σ.loops.take n.nl, maps := σ.maps.take n.nm } else σ
def eIa : List Bool → List LV → List LV
 | true :: m, v :: t => v :: eIa m t
 | false :: m, _ :: t => .undef :: eIa m t
 | [], _ :: t => .undef :: eIa [] t
 | _, [] => []
def aCa : Code → Option Nat
 | .region id _ _ => some id
 | .seq a b => match aCa a with
  | some n => some n
  | none => aCa b
 | .cond _ a b => match aCa a with
  | some n => some n
  | none => aCa b
 | .block _ a => aCa a
 | .loop a => aCa a
 | _ => none
def iZa (Θ : Th) (k : Option Nat) (e : Env) : Env := { e with t := eIa (Θ.keep e.fn k) e.t }
def iYa (P : Program) (e : Env) (σ : St) : ResultVar → Option LV
 | .tmp t => some (e.t.getD t .undef)
 | .cell a t => match e.t.getD a .undef with
  | .bptr b 0 => (σ.boxes[b]?).bind fun cs => bDa P t cs
  | _ => none
def jSa (P : Program) (fn : Func) (e : Env) (σ : St) : Option LV :=
 match fn.results.toList with
 | [] => some (.tuple [])
 | [r] => iYa P e σ r
 | rs => (rs.mapM (iYa P e σ)).map .tuple
def Ex.code : Ex → Option Code
 | .normal => none
 | .ret => some .ret
 | .exit id => some (.exit id)
 | .goto t => some (.goto t)
def eXa (σ : St) (l : Nat) (f : cOa → cOa) : St := { σ with loops := match σ.loops[l]? with | some r => σ.loops.set l (f r) | none => σ.loops }
def LV.isFn (Θ : Th) : LV → Bool
 | .func (.func f) _ _ => Θ.ent f
 | _ => false
def pZb (Θ : Th) (f : FuncId) (args : List LV) (σ : St) : Option Res :=
 match Θ.ext f with
 | some p => (p (bIa.frzL σ args)).bind fun v => if aAa v then some { v, σ := gVa σ (aQa.rowsInL args) } else none
 | none => none
def rFa (σ : St) (l : Nat) : Bool := match σ.loops[l]? with | some r => decide (r.state = .ready) | none => false
def gRb (σ : St) (e : Env) (τ : St) : St := trim σ.sz e.t (eXa τ σ.loops.length fun q => { q with state := .exhausted })
def eDa (σ : St) : List (Option (TypeId × Nat)) → List LV → List Nat → List Row → Option (List LV × List Row)
 | some (e, sz) :: ks, v :: vs, used, acc => match v with
  | .nils => if 0 < sz then (eDa σ ks vs used (acc ++ [{ xs := [], e, sz, wr := true }])).map fun q => (.mref acc.length 0 :: q.1, q.2) else none
  | .mref r n => match σ.rows[r]? with
   | some row => if row.xs.length = n ∧ row.e = e ∧ row.sz = sz ∧ row.wr = true ∧ r ∉ used ∧ aAa.refFreeL row.xs = true then
     (eDa σ ks vs (r :: used) (acc ++ [row])).map fun q => (.mref acc.length n :: q.1, q.2) else none
   | none => none
  | .mview r n 0 hi z => match σ.rows[r]? with
   | some row => if row.xs.length = n ∧ row.e = e ∧ row.sz = sz ∧ z = sz ∧ row.wr = true ∧ r ∉ used ∧ hi ≤ n ∧ 0 < n ∧ aAa.refFreeL row.xs = true then
     (eDa σ ks vs (r :: used) (acc ++ [{ row with xs := row.xs.take hi }])).map fun q => (.mref acc.length hi :: q.1, q.2) else none
   | none => none
  | _ => none
 | _ :: ks, v :: vs, used, acc => if aAa (bIa σ v) then (eDa σ ks vs used acc).map fun q => (bIa σ v :: q.1, q.2) else none
 | [], vs, _, acc => if aAa.refFreeL (bIa.frzL σ vs) then some (bIa.frzL σ vs, acc) else none
 | _, [], _, acc => some ([], acc)
def fQa : List (Option (TypeId × Nat)) → List LV → List Nat
 | some _ :: ks, _ :: vs => fQa ks vs
 | none :: ks, v :: vs => aQa v ++ fQa ks vs
 | [], vs => aQa.rowsInL vs
 | _, [] => []
def nCb (σ : St) (ks : List (Option (TypeId × Nat))) (v : LV) : Option (LV × List Row) :=
 match v with
 | .tuple vs => (eDa (gVa σ (fQa ks vs)) ks vs [] []).map fun q => (.tuple q.1, q.2)
 | v => (eDa (gVa σ (fQa ks [v])) ks [v] [] []).bind fun q => (q.1.head?).map fun x => (x, q.2)
def oPa : LV → Bool
 | .mref _ _ => true
 | _ => false
def kWa (v : LV) (rows : List Row) : Bool :=
 (match v with
 | .mref _ _ => true
 | .tuple vs => vs.all fun v => oPa v || aAa v
 | v => aAa v) && rows.all fun r => aAa.refFreeL r.xs
def hKa (q : LV × List Row) : Option Res := if kWa q.1 q.2 = true then some { v := q.1, σ := { rows := q.2 } } else none
def sCa (d : Nat) : LV → LV
 | .mref r n => .mref (r + d) n
 | v => v
def cYb (d : Nat) : LV → LV
 | .tuple vs => .tuple (vs.map (sCa d))
 | v => sCa d v
def gBa (own : Bool) (v : LV) (rows : List Row) (σ : St) : LV × St :=
 if own then (cYb σ.rows.length v, { σ with rows := σ.rows ++ rows }) else (bIa { rows } v, σ)
def cNa : LV → Bool
 | .sc _ => true
 | .tuple vs => noMemL vs
 | .agg cs => noMemL cs
 | _ => false
where
 noMemL : List LV → Bool
 | [] => true
 | v :: vs => cNa v && noMemL vs
def eUa (own : Bool) (v : LV) (rows : List Row) (σ : St) (rs : List Nat) : LV × St := if cNa v then (v, σ) else gBa own v rows (gVa σ rs)
def lBa : LV → List Nat
 | .mref r _ => [r]
 | .mview r _ _ _ _ => [r]
 | .rptr r _ _ _ _ => [r]
 | .agg cs => refsInL cs
 | .tuple vs => refsInL vs
 | .func _ fst caps => refsInL fst ++ refsInL caps
 | _ => []
where
 refsInL : List LV → List Nat
 | [] => []
 | v :: vs => lBa v ++ refsInL vs
def pEa (r : Nat) : List Nat → Nat → Option Nat
 | [], _ => none
 | x :: xs, i => bif Nat.beq x r then some i else pEa r xs (i + 1)
def iRa (K : List Nat) : LV → Option LV
 | .mref r n => (pEa r K 0).map fun q => .mref q n
 | .mview r n lo hi sz => (pEa r K 0).map fun q => .mview q n lo hi sz
 | .rptr r n i sz off => (pEa r K 0).map fun q => .rptr q n i sz off
 | .agg cs => (renL K cs).map .agg
 | .tuple vs => (renL K vs).map .tuple
 | .func fn fst caps => (renL K fst).bind fun a => (renL K caps).map fun b => .func fn a b
 | .slice es => if aAa.refFreeL es = true then some (.slice es) else none
 | .nslice es => if aAa.refFreeL es = true then some (.nslice es) else none
 | .pptr es => if aAa.refFreeL es = true then some (.pptr es) else none
 | v => some v
where
 renL (K : List Nat) : List LV → Option (List LV)
 | [] => some []
 | v :: vs => (iRa K v).bind fun a => (renL K vs).map fun b => a :: b
def lHb (K : List Nat) : List (List LV) → Option (List (List LV))
 | [] => some []
 | v :: vs => (iRa.renL K v).bind fun a => (lHb K vs).map fun b => a :: b
def aFb (t : List LV) (σ : St) : List Nat := (List.range σ.rows.length).filter fun r => (lBa.refsInL t ++ σ.boxes.flatMap lBa.refsInL).contains r
def gcS (e : Env) (σ : St) : Env × St :=
 bif (σ.loops.isEmpty && σ.maps.isEmpty) && σ.rows.all (fun r => aAa.refFreeL r.xs) then
  match iRa.renL (aFb e.t σ) e.t, lHb (aFb e.t σ) σ.boxes with
  | some t, some B => ({ e with t := t }, { σ with rows := (aFb e.t σ).filterMap (fun r => σ.rows[r]?), boxes := B })
  | _, _ => (e, σ)
 else (e, σ)
def kVa (Θ : Th) (fn : FuncId) (id : Nat) (r : Res) : Res :=
 match Θ.gcF fn, Θ.gc fn id with
 | true, some k => { r with env := (gcS (iZa Θ (some k) r.env) r.σ).1, σ := (gcS (iZa Θ (some k) r.env) r.σ).2 }
 | _, _ => r
def St.isEmpty (σ : St) : Bool := (σ.boxes.isEmpty && σ.rows.isEmpty) && (σ.loops.isEmpty && σ.maps.isEmpty)
noncomputable def iPa (P : Program) (Θ : Th) (rec : iBa → Option Res) (ops : Array Oper) (draw : Bool) (e : Env) (σ : St) : Option Res :=
 if draw then
  if kZa P Θ e.fn ⟨σ.boxes.length, e.bx⟩ ops then (fHb P Θ e.fn ops.toList).bind fun B => (bHa P Θ rec (some ⟨σ.boxes.length, e.bx⟩) ops.toList ops.toList e (σ.addB B)).map fun r => { env := r.1, σ := r.2 } else none
 else bif fKa P ops.toList then
  match ops.toList with
  | o1 :: o2 :: os => (o1.dst.bind fun d => e.t[d]?).bind fun _ => (aDa P false o1 e.ev σ).bind fun r => (bHa P Θ rec none ops.toList os ((e.put o1.dst r.1).put o2.dst r.1) r.2).map fun r => { env := r.1, σ := r.2 }
  | _ => none
 else (bHa P Θ rec none ops.toList ops.toList e σ).map fun r => { env := r.1, σ := r.2 }
noncomputable def bEa (P : Program) (Θ : Th) (rec : iBa → Option Res) : iBa → Option Res
 | .call f args => match Θ.prim f with
  | some p => if aAa.refFreeL args then (p args).bind hKa else none
  | none => if aAa.refFreeL args then (rec (.callS f args {})).bind fun r => (nCb r.σ (Θ.fresh f) r.v).bind hKa
   else none
 | .callS f args σ => if (Θ.gcF f && !σ.isEmpty) = true then none else (P.funcs[f]?).bind fun fn => fn.body.bind fun c =>
   (rec (.code c { fn := f, t := args ++ List.replicate (fn.ntmps - args.length) .undef } σ)).bind fun r =>
    match r.ex with
    | .normal | .ret => (jSa P fn r.env r.σ).map fun v => { v, σ := trim σ.sz [v] r.σ }
    | _ => none
 | .apply own f args σ => match f with
  | .func (.func f) fst caps =>
   if Θ.ent f then
    if Θ.pureF f then (rec (.call f (bIa.frzL σ (fst ++ args ++ caps)))).map fun r =>
     { v := (eUa own r.v r.σ.rows σ (aQa.rowsInL (fst ++ args ++ caps))).1, σ := (eUa own r.v r.σ.rows σ (aQa.rowsInL (fst ++ args ++ caps))).2 }
    else match Θ.extS f with
     | some p => (p (fst ++ args ++ caps) σ).map fun q => { v := q.1, σ := q.2 }
     | none => rec (.callS f (fst ++ args ++ caps) σ)
   else pZb Θ f (fst ++ args ++ caps) σ
  | .func (.yield l) [] [] => (σ.loops[l]?).bind fun lr =>
   if lr.state = .ready ∧ args.length = lr.params.length ∧ Θ.gcF lr.env.fn = false then
    (rec (.code lr.assign { lr.env with t := (lr.params.zip args).foldl (fun t (p : Nat × LV) => t.set p.1 p.2) lr.env.t } σ)).bind fun r1 =>
     if r1.ex = .normal ∧ rFa r1.σ l = true then
      (rec (.code lr.body r1.env (eXa r1.σ l fun q => { q with state := .busy }))).map fun r2 =>
       { v := .bool (r2.ex.code).isNone, σ := trim σ.sz [] (eXa r2.σ l fun q => { q with state := if (r2.ex.code).isNone then .ready else .done, pending := r2.ex.code }) }
     else none
   else none
  | _ => none
 | .code c e σ => match c with
  | .skip | .label _ => some { env := e, σ }
  | .region id ops draw => (iPa P Θ rec ops draw e σ).map (kVa Θ e.fn id)
  | .seq a b => (rec (.code a e σ)).bind fun r =>
   match r.ex with
   | .normal => rec (.code b r.env r.σ)
   | _ => some r
  | .cond c a b => match e.ev c with
   | .sc (.bool true) => rec (.code a e σ)
   | .sc (.bool false) => rec (.code b e σ)
   | _ => none
  | .block id a => (rec (.code a e σ)).bind fun r =>
   match r.ex with
   | .exit i => if i = id then some { r with ex := .normal } else some r
   | _ => some r
  | .loop a => (rec (.code a (iZa Θ (aCa a) e) σ)).bind fun r =>
   match r.ex with
   | .normal => rec (.code (.loop a) (iZa Θ (aCa a) r.env) (trim σ.sz (iZa Θ (aCa a) r.env).t r.σ))
   | _ => some { r with env := iZa Θ (aCa a) r.env }
  | .rangeFunc f ps assign body =>
   if ((e.ev f).isFn Θ && !Θ.gcF e.fn) = false then none else
   (rec (.apply false (e.ev f) [.func (.yield σ.loops.length) [] []] { σ with loops := σ.loops ++ [{ env := iZa Θ (aCa assign) e, params := ps.toList, assign, body, pending := none, state := .ready }] })).bind fun r =>
    (r.σ.loops[σ.loops.length]?).bind fun lr =>
     if lr.state = .busy then none else
     match lr.pending with
     | none => some { env := e, σ := gRb σ e r.σ }
     | some .ret => some { ex := .ret, env := e, σ := gRb σ e r.σ }
     | some (.exit id) => some { ex := .exit id, env := e, σ := gRb σ e r.σ }
     | some (.goto t) => some { ex := .goto t, env := e, σ := gRb σ e r.σ }
     | some _ => none
  | .exit id => some { ex := .exit id, env := e, σ }
  | .goto t => some { ex := .goto t, env := e, σ }
  | .ret => some { ex := .ret, env := e, σ }
  | .scope a => (rec (.code a e σ)).bind fun r =>
   match r.ex with
   | .goto _ => none
   | _ => some r
  | .refuse _ => none
noncomputable def eRa (P : Program) (Θ : Th) : Nat → iBa → Option Res
 | 0, _ => none
 | k + 1, t => bEa P Θ (eRa P Θ k) t
end Go.Proofs.YtpeaaophmddhnaaGreat.LI
namespace Go.Proofs.YtpeaaophmddhnaaGreat.LI
open Go Go.RowKit
variable {P : Program} {Θ : Th}
def bMa {α : Type} (e : (iBa → Option Res) → Option α) : Prop :=
 ∀ g r, e g = some r → ∃ L : List (iBa × Res), (∀ p ∈ L, g p.1 = some p.2) ∧ ∀ g', (∀ p ∈ L, g' p.1 = some p.2) → e g' = some r
theorem bMa.const {α : Type} (x : Option α) : bMa (fun _ => x) := fun _ _ h => ⟨[], by simp, fun _ _ => h⟩
theorem bMa.app (t : iBa) : bMa (fun g => g t) := fun g r h => ⟨[(t, r)], by simpa using h, fun g' h' => h' (t, r) (by simp)⟩
theorem bMa.bind {α β : Type} {e : (iBa → Option Res) → Option α} {f : α → (iBa → Option Res) → Option β} (he : bMa e) (hf : ∀ a, bMa (f a)) :
  bMa (fun g => (e g).bind fun a => f a g) := by
 intro g r h
 obtain ⟨a, h1, h2⟩ := Option.bind_eq_some_iff.1 h
 obtain ⟨L1, a1, b1⟩ := he g a h1
 obtain ⟨L2, a2, b2⟩ := hf a g r h2
 refine ⟨L1 ++ L2, ?_, ?_⟩
 ·intro p hp
  rcases List.mem_append.1 hp with hp | hp
  ·exact a1 p hp
  ·exact a2 p hp
 ·intro g' hg
  show (e g').bind _ = _
  rw [b1 g' (fun p hp => hg p (List.mem_append_left _ hp))]
  exact b2 g' (fun p hp => hg p (List.mem_append_right _ hp))
theorem bMa.map {α β : Type} {e : (iBa → Option Res) → Option α} (f : α → β) (he : bMa e) : bMa (fun g => (e g).map f) := by
 intro g r h
 obtain ⟨a, h1, h2⟩ := Option.map_eq_some_iff.1 h
 obtain ⟨L1, a1, b1⟩ := he g a h1
 exact ⟨L1, a1, fun g' hg => by show (e g').map f = _; rw [b1 g' hg, ← h2]; rfl⟩
theorem bMa.ite {α : Type} {c : Prop} [Decidable c] {e f : (iBa → Option Res) → Option α} (he : bMa e) (hf : bMa f) : bMa (fun g => if c then e g else f g) := by
 by_cases h : c
 ·simpa [h] using he
 ·simpa [h] using hf
open Classical in
theorem gTa (strict : Option Dr) (all : List Oper) : ∀ (os : List Oper) (e : Env) (σ : St), bMa (fun g => bHa P Θ g strict all os e σ)
 | [], e, σ => bMa.const _
 | o :: os, e, σ => by
  simp only [bHa]
  refine bMa.bind (bMa.const _) fun b => ?_
  cases b with
  | false => exact gTa strict all os _ _
  | true =>
   simp only [cond_true]
   refine bMa.bind ?_ fun r => ?_
   ·have ev : bMa (fun g => bCa P Θ g o e σ) := by
     unfold bCa
     refine bMa.map _ ?_
     unfold eQa
     split
     ·exact bMa.map _ (bMa.app _)
     ·exact bMa.const _
    cases strict with
    | none => exact ev
    | some n =>
     simp only [yHa]
     cases cBa Θ e.fn o with
     | true => exact bMa.const _
     | false => cases cYa (eBa P Θ e.fn n all o) o e with
      | true => exact ev
      | false => exact bMa.const _
   ·exact bMa.ite (gTa strict all os _ _) (bMa.const _)
theorem aOb (ops : Array Oper) (draw : Bool) (e : Env) (σ : St) : bMa (fun g => iPa P Θ g ops draw e σ) := by
 unfold iPa
 refine bMa.ite (bMa.ite (bMa.bind (bMa.const _) fun B => bMa.map _ (gTa _ _ _ _ _)) (bMa.const _)) ?_
 cases fKa P ops.toList with
 | false => exact bMa.map _ (gTa _ _ _ _ _)
 | true =>
  simp only [cond_true]
  split
  ·exact bMa.bind (bMa.const _) fun _ => bMa.bind (bMa.const _) fun r => bMa.map _ (gTa _ _ _ _ _)
  ·exact bMa.const _
theorem nIa (t : iBa) : bMa (fun g => bEa P Θ g t) := by
 cases t with
 | call f args =>
  simp only [bEa]
  cases Θ.prim f with
  | some p => exact bMa.const _
  | none => exact bMa.ite (bMa.bind (bMa.app _) fun r => bMa.const _) (bMa.const _)
 | callS f args σ =>
  simp only [bEa]
  exact bMa.ite (bMa.const _) (bMa.bind (bMa.const _) fun fn => bMa.bind (bMa.const _) fun c => bMa.bind (bMa.app _) fun r => bMa.const _)
 | apply own f args σ =>
  cases f with
  | func fn fst caps =>
   cases fn with
   | func f =>
    simp only [bEa]
    refine bMa.ite (bMa.ite (bMa.map _ (bMa.app _)) ?_) (bMa.const _)
    cases Θ.extS f with
    | some p => exact bMa.const _
    | none => exact bMa.app _
   | yield l =>
    cases fst with
    | cons x xs => exact bMa.const _
    | nil =>
    cases caps with
    | cons x xs => exact bMa.const _
    | nil =>
    simp only [bEa]
    refine bMa.bind (bMa.const _) fun lr => bMa.ite ?_ (bMa.const _)
    refine bMa.bind (bMa.app _) fun r1 => bMa.ite ?_ (bMa.const _)
    exact bMa.map _ (bMa.app _)
   | _ => exact bMa.const _
  | _ => exact bMa.const _
 | code c e σ =>
  cases c with
  | region id ops draw =>
   simp only [bEa]
   exact bMa.map _ (aOb _ _ _ _)
  | seq a b =>
   simp only [bEa]
   refine bMa.bind (bMa.app _) fun r => ?_
   cases r.ex with
   | normal => exact bMa.app _
   | _ => exact bMa.const _
  | cond c a b =>
   simp only [bEa]
   generalize e.ev c = v
   cases v with
   | sc v =>
    cases v with
    | bool b => cases b <;> exact bMa.app _
    | _ => exact bMa.const _
   | _ => exact bMa.const _
  | block id a =>
   simp only [bEa]
   exact bMa.bind (bMa.app _) fun r => bMa.const _
  | loop a =>
   simp only [bEa]
   refine bMa.bind (bMa.app _) fun r => ?_
   cases r.ex with
   | normal => exact bMa.app _
   | _ => exact bMa.const _
  | rangeFunc f ps assign body =>
   simp only [bEa]
   exact bMa.ite (bMa.const _) (bMa.bind (bMa.app _) fun r => bMa.const _)
  | scope a =>
   simp only [bEa]
   exact bMa.bind (bMa.app _) fun r => bMa.const _
  | _ => exact bMa.const _
theorem iEb {k : Nat} {t : iBa} {r : Res} (h : eRa P Θ k t = some r) : eRa P Θ (k + 1) t = some r := by
 induction k generalizing t r with
 | zero => simp [eRa] at h
 | succ k ih =>
  obtain ⟨L, a, b⟩ := nIa t _ r h
  exact b _ (fun p hp => ih (a p hp))
theorem rWa {k k' : Nat} (hk : k ≤ k') {t : iBa} {r : Res} (h : eRa P Θ k t = some r) : eRa P Θ k' t = some r := by
 induction hk with
 | refl => exact h
 | step _ ih => exact iEb ih
open Classical in
noncomputable def run (P : Program) (Θ : Th) (t : iBa) : Option Res := if h : ∃ k r, eRa P Θ k t = some r then some h.choose_spec.choose else none
theorem rYa {t : iBa} {r : Res} : run P Θ t = some r ↔ ∃ k, eRa P Θ k t = some r := by
 unfold run
 constructor
 ·intro h
  split at h
  ·rename_i hx
   injection h with h
   exact ⟨hx.choose, h ▸ hx.choose_spec.choose_spec⟩
  ·cases h
 ·rintro ⟨k, hk⟩
  have hx : ∃ k r, eRa P Θ k t = some r := ⟨k, r, hk⟩
  rw [dif_pos hx]
  have h1 := hx.choose_spec.choose_spec
  have h2 := rWa (Nat.le_max_left k hx.choose) hk
  have h3 := rWa (Nat.le_max_right k hx.choose) h1
  rw [h2] at h3
  exact h3.symm ▸ rfl
theorem aUa (t : iBa) : run P Θ t = bEa P Θ (run P Θ) t := by
 apply Option.ext
 intro r
 constructor
 ·intro h
  obtain ⟨k, hk⟩ := rYa.1 h
  cases k with
  | zero => simp [eRa] at hk
  | succ k =>
   obtain ⟨L, a, b⟩ := nIa t _ r hk
   exact b _ (fun p hp => rYa.2 ⟨k, a p hp⟩)
 ·intro h
  obtain ⟨L, a, b⟩ := nIa t _ r h
  have : ∃ K, ∀ p ∈ L, eRa P Θ K p.1 = some p.2 := by
   clear b h
   induction L with
   | nil => exact ⟨0, by simp⟩
   | cons p L ih =>
    obtain ⟨K, hK⟩ := ih (fun q hq => a q (List.mem_cons_of_mem _ hq))
    obtain ⟨k, hk⟩ := rYa.1 (a p List.mem_cons_self)
    refine ⟨max K k, fun q hq => ?_⟩
    rcases List.mem_cons.1 hq with rfl | hq
    ·exact rWa (Nat.le_max_right _ _) hk
    ·exact rWa (Nat.le_max_left _ _) (hK q hq)
  obtain ⟨K, hK⟩ := this
  exact rYa.2 ⟨K + 1, b _ hK⟩
end Go.Proofs.YtpeaaophmddhnaaGreat.LI
namespace Go.Proofs.YtpeaaophmddhnaaGreat.LI
open Go Go.RowKit
variable {P : Program} {Θ : Th}
noncomputable def Res.again (P : Program) (Θ : Th) (a : Code) (n : Sz) (r : Res) : Option Res :=
 match r.ex with
 | .normal => run P Θ (.code (.loop a) (iZa Θ (aCa a) r.env) (trim n (iZa Θ (aCa a) r.env).t r.σ))
 | _ => some { r with env := iZa Θ (aCa a) r.env }
theorem pPa (a : Code) (e : Env) (σ : St) : run P Θ (.code (.loop a) e σ) = (run P Θ (.code a (iZa Θ (aCa a) e) σ)).bind (Res.again P Θ a σ.sz) := by
 rw [aUa]; rfl
theorem kIa : ∀ (m : List Bool) (t : List LV), eIa m (eIa m t) = eIa m t
 | true :: m, v :: t => by simp [eIa, kIa m t]
 | false :: m, v :: t => by simp [eIa, kIa m t]
 | [], v :: t => by simp [eIa, kIa [] t]
 | [], [] => rfl
 | _ :: _, [] => by simp [eIa]
theorem nFa (a : Code) (e : Env) (σ : St) : run P Θ (.code (.loop a) e σ) = run P Θ (.code (.loop a) (iZa Θ (aCa a) e) σ) := by
 rw [pPa, pPa]
 simp only [iZa, kIa]
theorem qVb {x : Int} (h0 : -9223372036854775808 ≤ x) (h1 : x < 9223372036854775808) : IntKind.i64.wrap x = x := by
 have e1 : IntKind.i64.wrap x = (if 9223372036854775808 ≤ x % 18446744073709551616 then x % 18446744073709551616 - 18446744073709551616 else x % 18446744073709551616) := by
  simp [IntKind.wrap, IntKind.signed, IntKind.bits]
 rw [e1]; split <;> omega
theorem rKb {a b : Int} (h : a < b) : decide (a < b) = true := decide_eq_true h
theorem rJb {a b : Int} (h : b ≤ a) : decide (a < b) = false := decide_eq_false (by omega)
theorem rIb {a b : Int} (h : a ≤ b) : decide (a ≤ b) = true := decide_eq_true h
theorem rHb {a b : Int} (h : b < a) : decide (a ≤ b) = false := decide_eq_false (by omega)
theorem rGb {a b : Int} (h : b < a) : decide (a > b) = true := decide_eq_true h
theorem rFb {a b : Int} (h : a ≤ b) : decide (a > b) = false := decide_eq_false (by omega)
theorem rEb {a b : Int} (h : b ≤ a) : decide (a ≥ b) = true := decide_eq_true h
theorem rDb {a b : Int} (h : a < b) : decide (a ≥ b) = false := decide_eq_false (by omega)
noncomputable def exec (P : Program) (Θ : Th) := bHa P Θ (run P Θ)
end Go.Proofs.YtpeaaophmddhnaaGreat.LI
namespace Go.Proofs.YtpeaaophmddhnaaGreat.LI
open Go Go.RowKit
structure G where
 fz : Nat → List Value
 box : List (Nat ⊕ List LV)
 phys : Nat → Nat → Option Value
 loop : List Nat
 map : List Nat
def gYb (g : G) (fn fn' : Fn) : Prop :=
 match fn with
 | .yield l => ∃ b, g.loop[l]? = some b ∧ fn' = .yield b
 | fn => fn' = fn
mutual
def aEa (g : G) : LV → Value → Prop
 | .undef, _ => True
 | .sc u, v => v = u ∧ jRa u = true
 | .nils, v => v = .slice none 0 0
 | .slice es, v => ∃ a cap, v = .slice a es.length cap ∧ es.length ≤ cap ∧
   (es = [] ∨ ∃ b off sz, 0 < sz ∧ a = some ⟨b, off, none⟩ ∧ aJa g es sz ((g.fz b).drop off))
 | .nslice es, v => ∃ a cap, v = .slice (some a) es.length cap ∧ es.length ≤ cap ∧
   (es = [] ∨ ∃ b off sz, 0 < sz ∧ some a = some ⟨b, off, none⟩ ∧ aJa g es sz ((g.fz b).drop off))
 | .mref r n, v => g.phys r n = some v ∧ ∃ a cap, v = .slice a n cap
 | .mview r n lo hi sz, v => ∃ a cap a', g.phys r n = some (.slice a n cap) ∧ v = .slice a' (hi - lo) (cap - lo) ∧ lo ≤ hi ∧ hi ≤ n ∧ (lo < cap → a' = a.map (·.add (lo * sz)))
 | .mapr m, v => ∃ k, g.map[m]? = some k ∧ v = .map (some k)
 | .agg cs, v => ∃ arr, v = .agg arr ∧ aBa g cs arr.toList ∧ ∀ u ∈ arr.toList, u.oneCell' = true
 | .tuple vs, v => ∃ arr, v = .tuple arr ∧ aBa g vs arr.toList
 | .bptr b off, v => ∃ k, g.box[b]? = some (.inl k) ∧ v = .pointer (some ⟨k, off, none⟩)
 | .pptr cs, v => ∃ b off us rest, v = .pointer (some ⟨b, off, none⟩) ∧ cs ≠ [] ∧ (g.fz b).drop off = us ++ rest ∧ aBa g cs us ∧ ∀ u ∈ us, u.oneCell' = true
 | .rptr r n i sz off, v => ∃ k cap, g.phys r n = some (.slice (some ⟨k, 0, none⟩) n cap) ∧ v = .pointer (some ⟨k, i * sz + off, none⟩)
 | .func fn fst caps, v => ∃ fn' f' c', v = .func fn' f' c' ∧ gYb g fn fn' ∧ aBa g fst f'.toList ∧ aBa g caps c'.toList
def aBa (g : G) : List LV → List Value → Prop
 | [], vs => vs = []
 | x :: xs, vs => ∃ v vs', vs = v :: vs' ∧ aEa g x v ∧ aBa g xs vs'
def aJa (g : G) : List LV → Nat → List Value → Prop
 | [], _, _ => True
 | e :: es, sz, vs => (∃ u, aEa g e u ∧ u.cells.toList = vs.take sz ∧ u.cells.size = sz ∧ ∀ c ∈ u.cells.toList, c.oneCell' = true) ∧ aJa g es sz (vs.drop sz)
end
structure G.le (g g' : G) : Prop where
 fz : ∀ b, g.fz b <+: g'.fz b
 box : g.box <+: g'.box
 phys : ∀ r n v, g.phys r n = some v → g'.phys r n = some v
 loop : g.loop <+: g'.loop
 map : g.map <+: g'.map
theorem G.le.refl (g : G) : g.le g := ⟨fun _ => List.prefix_refl _, List.prefix_refl _, fun _ _ _ h => h, List.prefix_refl _, List.prefix_refl _⟩
theorem G.le.trans {a b c : G} (h : a.le b) (k : b.le c) : a.le c :=
 ⟨fun x => (h.fz x).trans (k.fz x), h.box.trans k.box, fun _ _ _ e => k.phys _ _ _ (h.phys _ _ _ e), h.loop.trans k.loop, h.map.trans k.map⟩
theorem gYa {α : Type} {l l' : List α} (h : l <+: l') {i : Nat} {x : α} (hx : l[i]? = some x) : l'[i]? = some x := by
 obtain ⟨t, rfl⟩ := h
 rw [List.getElem?_append_left (List.getElem?_eq_some_iff.1 hx).1]
 exact hx
theorem hGa {α : Type} {l l' : List α} (h : l <+: l') (n : Nat) : l.drop n <+: l'.drop n := by
 obtain ⟨t, rfl⟩ := h
 rw [List.drop_append]
 exact List.prefix_append _ _
theorem nSa {g g' : G} (h : g.loop <+: g'.loop) {fn fn' : Fn} (hr : gYb g fn fn') : gYb g' fn fn' := by
 cases fn with
 | yield l => obtain ⟨b, h1, h2⟩ := hr; exact ⟨b, gYa h h1, h2⟩
 | _ => exact hr
structure G.sub (g g' : G) : Prop where
 fz : ∀ b, g.fz b <+: g'.fz b
 box : ∀ (i k : Nat), g.box[i]? = some (.inl k) → g'.box[i]? = some (.inl k)
 phys : ∀ r n v, g.phys r n = some v → g'.phys r n = some v
 loop : g.loop <+: g'.loop
 map : g.map <+: g'.map
theorem G.le.sub {g g' : G} (h : g.le g') : g.sub g' := ⟨h.fz, fun _ _ e => gYa h.box e, h.phys, h.loop, h.map⟩
mutual
theorem pIa {g g' : G} (h : g.sub g') : ∀ (x : LV) (v : Value), aEa g x v → aEa g' x v
 | .undef, _, _ => by simp [aEa]
 | .sc u, v, hr => by simpa [aEa] using hr
 | .nils, v, hr => by simpa [aEa] using hr
 | .slice es, v, hr => by
  simp only [aEa] at hr ⊢
  obtain ⟨a, cap, rfl, hl, he⟩ := hr
  refine ⟨a, cap, rfl, hl, ?_⟩
  rcases he with he | ⟨b, off, sz, h0, h1, h2⟩
  ·exact .inl he
  ·exact .inr ⟨b, off, sz, h0, h1, jAa h es sz _ _ (hGa (h.fz b) off) h2⟩
 | .nslice es, v, hr => by
  simp only [aEa] at hr ⊢
  obtain ⟨a, cap, rfl, hl, he⟩ := hr
  refine ⟨a, cap, rfl, hl, ?_⟩
  rcases he with he | ⟨b, off, sz, h0, h1, h2⟩
  ·exact .inl he
  ·exact .inr ⟨b, off, sz, h0, h1, jAa h es sz _ _ (hGa (h.fz b) off) h2⟩
 | .mref r n, v, hr => by
  simp only [aEa] at hr ⊢
  exact ⟨h.phys _ _ _ hr.1, hr.2⟩
 | .mview r n lo hi sz, v, hr => by
  simp only [aEa] at hr ⊢
  obtain ⟨a, cap, a', h1, h2⟩ := hr
  exact ⟨a, cap, a', h.phys _ _ _ h1, h2⟩
 | .mapr m, v, hr => by
  simp only [aEa] at hr ⊢
  obtain ⟨k, h1, h2⟩ := hr
  exact ⟨k, gYa h.map h1, h2⟩
 | .agg cs, v, hr => by
  simp only [aEa] at hr ⊢
  obtain ⟨arr, h1, h2, h3⟩ := hr
  exact ⟨arr, h1, dKa h cs _ h2, h3⟩
 | .tuple vs, v, hr => by
  simp only [aEa] at hr ⊢
  obtain ⟨arr, h1, h2⟩ := hr
  exact ⟨arr, h1, dKa h vs _ h2⟩
 | .bptr b off, v, hr => by
  simp only [aEa] at hr ⊢
  obtain ⟨k, h1, h2⟩ := hr
  exact ⟨k, h.box _ _ h1, h2⟩
 | .pptr cs, v, hr => by
  simp only [aEa] at hr ⊢
  obtain ⟨b, off, us, rest, h1, h2, h3, h4⟩ := hr
  obtain ⟨t, ht⟩ := hGa (h.fz b) off
  exact ⟨b, off, us, rest ++ t, h1, h2, by rw [← ht, h3, List.append_assoc], dKa h cs _ h4.1, h4.2⟩
 | .rptr r n i sz off, v, hr => by
  simp only [aEa] at hr ⊢
  obtain ⟨k, cap, h1, h2⟩ := hr
  exact ⟨k, cap, h.phys _ _ _ h1, h2⟩
 | .func fn fst caps, v, hr => by
  simp only [aEa] at hr ⊢
  obtain ⟨fn', f', c', h1, h2, h3, h4⟩ := hr
  exact ⟨fn', f', c', h1, nSa h.loop h2, dKa h fst _ h3, dKa h caps _ h4⟩
theorem dKa {g g' : G} (h : g.sub g') : ∀ (xs : List LV) (vs : List Value), aBa g xs vs → aBa g' xs vs
 | [], vs, hr => by simpa [aBa] using hr
 | x :: xs, vs, hr => by
  simp only [aBa] at hr ⊢
  obtain ⟨v, vs', h1, h2, h3⟩ := hr
  exact ⟨v, vs', h1, pIa h x _ h2, dKa h xs _ h3⟩
theorem jAa {g g' : G} (h : g.sub g') : ∀ (es : List LV) (sz : Nat) (vs vs' : List Value), vs <+: vs' → aJa g es sz vs → aJa g' es sz vs'
 | [], sz, vs, vs', hp, hr => by simp [aJa]
 | e :: es, sz, vs, vs', hp, hr => by
  simp only [aJa] at hr ⊢
  obtain ⟨⟨u, h1, h2, h3⟩, h4⟩ := hr
  refine ⟨⟨u, pIa h e _ h1, ?_, h3⟩, jAa h es sz _ _ (hGa hp sz) h4⟩
  have hlen : (vs.take sz).length = sz := by rw [← h2, Array.length_toList, h3.1]
  obtain ⟨t, rfl⟩ := hp
  rw [h2, List.take_append_of_le_length]
  rw [List.length_take] at hlen
  omega
end
theorem cFa {g g' : G} (h : g.le g') (x : LV) (v : Value) (hr : aEa g x v) : aEa g' x v := pIa h.sub x v hr
theorem aIa {g g' : G} (h : g.le g') (xs : List LV) (vs : List Value) (hr : aBa g xs vs) : aBa g' xs vs := dKa h.sub xs vs hr
theorem aVa {g g' : G} (h : g.le g') (es : List LV) (sz : Nat) (vs vs' : List Value) (hp : vs <+: vs') (hr : aJa g es sz vs) : aJa g' es sz vs' := jAa h.sub es sz vs vs' hp hr
mutual
theorem dZa {g g' : G} (h : ∀ b, g.fz b <+: g'.fz b) : ∀ (x : LV) (v : Value), aAa x = true → aEa g x v → aEa g' x v
 | .undef, _, _, _ => by simp [aEa]
 | .sc u, v, _, hr => by simpa [aEa] using hr
 | .nils, v, _, hr => by simpa [aEa] using hr
 | .slice es, v, hf, hr => by
  simp only [aEa] at hr ⊢
  simp only [aAa] at hf
  obtain ⟨a, cap, rfl, hl, he⟩ := hr
  refine ⟨a, cap, rfl, hl, ?_⟩
  rcases he with he | ⟨b, off, sz, h0, h1, h2⟩
  ·exact .inl he
  ·exact .inr ⟨b, off, sz, h0, h1, gEa h es sz _ _ hf (hGa (h b) off) h2⟩
 | .nslice es, v, hf, hr => by
  simp only [aEa] at hr ⊢
  simp only [aAa] at hf
  obtain ⟨a, cap, rfl, hl, he⟩ := hr
  refine ⟨a, cap, rfl, hl, ?_⟩
  rcases he with he | ⟨b, off, sz, h0, h1, h2⟩
  ·exact .inl he
  ·exact .inr ⟨b, off, sz, h0, h1, gEa h es sz _ _ hf (hGa (h b) off) h2⟩
 | .mref r n, v, hf, hr => by simp [aAa] at hf
 | .mview r n lo hi sz, v, hf, hr => by simp [aAa] at hf
 | .mapr m, v, hf, hr => by simp [aAa] at hf
 | .agg cs, v, hf, hr => by
  simp only [aEa] at hr ⊢
  simp only [aAa] at hf
  obtain ⟨arr, h1, h2, h3⟩ := hr
  exact ⟨arr, h1, eMa h cs _ hf h2, h3⟩
 | .tuple vs, v, hf, hr => by
  simp only [aEa] at hr ⊢
  simp only [aAa] at hf
  obtain ⟨arr, h1, h2⟩ := hr
  exact ⟨arr, h1, eMa h vs _ hf h2⟩
 | .bptr b off, v, hf, hr => by simp [aAa] at hf
 | .pptr cs, v, hf, hr => by
  simp only [aEa] at hr ⊢
  simp only [aAa] at hf
  obtain ⟨b, off, us, rest, h1, h2, h3, h4⟩ := hr
  obtain ⟨t, ht⟩ := hGa (h b) off
  exact ⟨b, off, us, rest ++ t, h1, h2, by rw [← ht, h3, List.append_assoc], eMa h cs _ hf h4.1, h4.2⟩
 | .rptr r n i sz off, v, hf, hr => by simp [aAa] at hf
 | .func fn fst caps, v, hf, hr => by
  simp only [aEa] at hr ⊢
  simp only [aAa, Bool.and_eq_true] at hf
  obtain ⟨fn', f', c', h1, h2, h3, h4⟩ := hr
  refine ⟨fn', f', c', h1, ?_, eMa h fst _ hf.1.2 h3, eMa h caps _ hf.2 h4⟩
  cases fn with
  | yield l => simp at hf
  | _ => exact h2
theorem eMa {g g' : G} (h : ∀ b, g.fz b <+: g'.fz b) : ∀ (xs : List LV) (vs : List Value), aAa.refFreeL xs = true → aBa g xs vs → aBa g' xs vs
 | [], vs, _, hr => by simpa [aBa] using hr
 | x :: xs, vs, hf, hr => by
  simp only [aBa] at hr ⊢
  simp only [aAa.refFreeL, Bool.and_eq_true] at hf
  obtain ⟨v, vs', h1, h2, h3⟩ := hr
  exact ⟨v, vs', h1, dZa h x _ hf.1 h2, eMa h xs _ hf.2 h3⟩
theorem gEa {g g' : G} (h : ∀ b, g.fz b <+: g'.fz b) : ∀ (es : List LV) (sz : Nat) (vs vs' : List Value), aAa.refFreeL es = true → vs <+: vs' → aJa g es sz vs → aJa g' es sz vs'
 | [], sz, vs, vs', _, hp, hr => by simp [aJa]
 | e :: es, sz, vs, vs', hf, hp, hr => by
  simp only [aJa] at hr ⊢
  simp only [aAa.refFreeL, Bool.and_eq_true] at hf
  obtain ⟨⟨u, h1, h2, h3⟩, h4⟩ := hr
  refine ⟨⟨u, dZa h e _ hf.1 h1, ?_, h3⟩, gEa h es sz _ _ hf.2 (hGa hp sz) h4⟩
  have hlen : (vs.take sz).length = sz := by rw [← h2, Array.length_toList, h3.1]
  obtain ⟨t, rfl⟩ := hp
  rw [h2, List.take_append_of_le_length]
  rw [List.length_take] at hlen
  omega
end
def G.cut (g : G) (n : Sz) : G := { fz := g.fz, box := g.box.take n.nb, phys := fun r k => if r < n.nr then g.phys r k else none, loop := g.loop.take n.nl, map := g.map.take n.nm }
theorem nKa {α : Type} {l : List α} {n i : Nat} {x : α} (h : l[i]? = some x) (hi : i < n) : (l.take n)[i]? = some x := by
 rw [List.getElem?_take]; simp [hi, h]
mutual
theorem lXa {g : G} (n : Sz) : ∀ (x : LV) (v : Value), below n x = true → aEa g x v → aEa (g.cut n) x v
 | .undef, _, _, _ => by simp [aEa]
 | .sc u, v, _, hr => by simpa [aEa] using hr
 | .nils, v, _, hr => by simpa [aEa] using hr
 | .slice es, v, hf, hr => by
  simp only [aEa] at hr ⊢
  simp only [below] at hf
  obtain ⟨a, cap, rfl, hl, he⟩ := hr
  refine ⟨a, cap, rfl, hl, ?_⟩
  rcases he with he | ⟨b, off, sz, h0, h1, h2⟩
  ·exact .inl he
  ·exact .inr ⟨b, off, sz, h0, h1, lWa n es sz _ hf h2⟩
 | .nslice es, v, hf, hr => by
  simp only [aEa] at hr ⊢
  simp only [below] at hf
  obtain ⟨a, cap, rfl, hl, he⟩ := hr
  refine ⟨a, cap, rfl, hl, ?_⟩
  rcases he with he | ⟨b, off, sz, h0, h1, h2⟩
  ·exact .inl he
  ·exact .inr ⟨b, off, sz, h0, h1, lWa n es sz _ hf h2⟩
 | .mref r k, v, hf, hr => by
  simp only [aEa] at hr ⊢
  simp only [below, decide_eq_true_eq] at hf
  exact ⟨by simp [G.cut, hf, hr.1], hr.2⟩
 | .mview r k lo hi sz, v, hf, hr => by
  simp only [aEa] at hr ⊢
  simp only [below, decide_eq_true_eq] at hf
  obtain ⟨a, cap, a', h1, h2⟩ := hr
  exact ⟨a, cap, a', by simp [G.cut, hf, h1], h2⟩
 | .mapr m, v, hf, hr => by
  simp only [aEa] at hr ⊢
  simp only [below, decide_eq_true_eq] at hf
  obtain ⟨q, h1, h2⟩ := hr
  exact ⟨q, nKa h1 hf, h2⟩
 | .agg cs, v, hf, hr => by
  simp only [aEa] at hr ⊢
  simp only [below] at hf
  obtain ⟨arr, h1, h2, h3⟩ := hr
  exact ⟨arr, h1, eSa n cs _ hf h2, h3⟩
 | .tuple vs, v, hf, hr => by
  simp only [aEa] at hr ⊢
  simp only [below] at hf
  obtain ⟨arr, h1, h2⟩ := hr
  exact ⟨arr, h1, eSa n vs _ hf h2⟩
 | .bptr b off, v, hf, hr => by
  simp only [aEa] at hr ⊢
  simp only [below, decide_eq_true_eq] at hf
  obtain ⟨k, h1, h2⟩ := hr
  exact ⟨k, nKa h1 hf, h2⟩
 | .pptr cs, v, hf, hr => by
  simp only [aEa] at hr ⊢
  simp only [below] at hf
  obtain ⟨b, off, us, rest, h1, h2, h3, h4⟩ := hr
  exact ⟨b, off, us, rest, h1, h2, h3, eSa n cs _ hf h4.1, h4.2⟩
 | .rptr r k i sz off, v, hf, hr => by
  simp only [aEa] at hr ⊢
  simp only [below, decide_eq_true_eq] at hf
  obtain ⟨q, cap, h1, h2⟩ := hr
  exact ⟨q, cap, by simp [G.cut, hf, h1], h2⟩
 | .func fn fst caps, v, hf, hr => by
  simp only [aEa] at hr ⊢
  simp only [below, Bool.and_eq_true] at hf
  obtain ⟨fn', f', c', h1, h2, h3, h4⟩ := hr
  refine ⟨fn', f', c', h1, ?_, eSa n fst _ hf.1.2 h3, eSa n caps _ hf.2 h4⟩
  cases fn with
  | yield l =>
   obtain ⟨b, hb, hv⟩ := h2
   simp only [decide_eq_true_eq] at hf
   exact ⟨b, nKa hb hf.1.1, hv⟩
  | _ => exact h2
theorem eSa {g : G} (n : Sz) : ∀ (xs : List LV) (vs : List Value), below.belowL n xs = true → aBa g xs vs → aBa (g.cut n) xs vs
 | [], vs, _, hr => by simpa [aBa] using hr
 | x :: xs, vs, hf, hr => by
  simp only [aBa] at hr ⊢
  simp only [below.belowL, Bool.and_eq_true] at hf
  obtain ⟨v, vs', h1, h2, h3⟩ := hr
  exact ⟨v, vs', h1, lXa n x _ hf.1 h2, eSa n xs _ hf.2 h3⟩
theorem lWa {g : G} (n : Sz) : ∀ (es : List LV) (sz : Nat) (vs : List Value), below.belowL n es = true → aJa g es sz vs → aJa (g.cut n) es sz vs
 | [], sz, vs, _, hr => by simp [aJa]
 | e :: es, sz, vs, hf, hr => by
  simp only [aJa] at hr ⊢
  simp only [below.belowL, Bool.and_eq_true] at hf
  obtain ⟨⟨u, h1, h2, h3⟩, h4⟩ := hr
  exact ⟨⟨u, lXa n e _ hf.1 h1, h2, h3⟩, lWa n es sz _ hf.2 h4⟩
end
theorem aPa {g : G} : ∀ {xs : List LV} {vs : List Value}, aBa g xs vs → vs.length = xs.length
 | [], vs, h => by simp only [aBa] at h; simp [h]
 | x :: xs, vs, h => by
  simp only [aBa] at h
  obtain ⟨v, vs', rfl, _, h3⟩ := h
  simp [aPa h3]
theorem lYa {g : G} : ∀ {xs : List LV} {vs : List Value}, aBa g xs vs → ∀ {i : Nat} {x : LV}, xs[i]? = some x → ∃ v, vs[i]? = some v ∧ aEa g x v
 | [], vs, h, i, x, hx => by simp at hx
 | y :: xs, vs, h, i, x, hx => by
  simp only [aBa] at h
  obtain ⟨v, vs', rfl, h2, h3⟩ := h
  cases i with
  | zero => simp at hx; subst hx; exact ⟨v, rfl, h2⟩
  | succ i => simpa using lYa h3 (i := i) (by simpa using hx)
theorem cQa {g : G} : ∀ {xs ys : List LV} {vs ws : List Value}, aBa g xs vs → aBa g ys ws → aBa g (xs ++ ys) (vs ++ ws)
 | [], ys, vs, ws, h, k => by simp only [aBa] at h; subst h; exact k
 | x :: xs, ys, vs, ws, h, k => by
  simp only [aBa] at h
  obtain ⟨v, vs', rfl, h2, h3⟩ := h
  simp only [List.cons_append, aBa]
  exact ⟨v, vs' ++ ws, rfl, h2, cQa h3 k⟩
theorem kDa {g : G} : ∀ {xs : List LV} {vs : List Value} (n : Nat), aBa g xs vs → aBa g (xs.take n) (vs.take n)
 | xs, vs, 0, _ => by simp [aBa]
 | [], vs, n + 1, h => by simp only [aBa] at h; simp [aBa, h]
 | x :: xs, vs, n + 1, h => by
  simp only [aBa] at h
  obtain ⟨v, vs', rfl, h2, h3⟩ := h
  simp only [List.take_succ_cons, aBa]
  exact ⟨v, vs'.take n, rfl, h2, kDa n h3⟩
theorem eLa {g : G} : ∀ {xs : List LV} {vs : List Value} (n : Nat), aBa g xs vs → aBa g (xs.drop n) (vs.drop n)
 | xs, vs, 0, h => by simpa using h
 | [], vs, n + 1, h => by simp only [aBa] at h; simp [aBa, h]
 | x :: xs, vs, n + 1, h => by
  simp only [aBa] at h
  obtain ⟨v, vs', rfl, h2, h3⟩ := h
  simpa using eLa n h3
theorem eTa {α : Type} {g : G} (f : α → LV) (f' : α → Value) : ∀ (l : List α), (∀ x ∈ l, aEa g (f x) (f' x)) → aBa g (l.map f) (l.map f')
 | [], _ => by simp [aBa]
 | x :: l, h => by
  simp only [List.map_cons, aBa]
  exact ⟨_, _, rfl, h x List.mem_cons_self, eTa f f' l (fun y hy => h y (List.mem_cons_of_mem _ hy))⟩
theorem bFa {g : G} {x : LV} {v : Value} (h : aEa g x v) : aBa g [x] [v] := by
 simp only [aBa]; exact ⟨v, [], rfl, h, rfl⟩
theorem zFa {g : G} : ∀ {xs ys : List LV} {vs : List Value}, aBa g (xs ++ ys) vs → ∃ a b, vs = a ++ b ∧ aBa g xs a ∧ aBa g ys b
 | [], ys, vs, h => ⟨[], vs, rfl, by simp [aBa], h⟩
 | x :: xs, ys, vs, h => by
  simp only [List.cons_append, aBa] at h
  obtain ⟨v, vs', rfl, h2, h3⟩ := h
  obtain ⟨a, b, rfl, h4, h5⟩ := zFa h3
  exact ⟨v :: a, b, rfl, by simp only [aBa]; exact ⟨v, a, rfl, h2, h4⟩, h5⟩
theorem eAa {g : G} {x : LV} {v : Value} (h : aEa g x v) (hs : storable x = true) : aBa g x.cells v.cells.toList ∧ ∀ u ∈ v.cells.toList, u.oneCell' = true := by
 cases x with
 | undef => simp [storable] at hs
 | tuple vs => simp [storable] at hs
 | agg cs =>
  simp only [aEa] at h
  obtain ⟨arr, rfl, h2, h3⟩ := h
  exact ⟨h2, h3⟩
 | sc u =>
  have h' := h
  simp only [aEa] at h'
  obtain ⟨rfl, hp⟩ := h'
  cases v with
  | pointer a => cases a <;> simp [jRa] at hp; exact ⟨bFa h, by simp [Value.cells, Value.oneCell']⟩
  | map r => cases r <;> simp [jRa] at hp; exact ⟨bFa h, by simp [Value.cells, Value.oneCell']⟩
  | _ => first | (simp [jRa] at hp; done) | exact ⟨bFa h, by simp [Value.cells, Value.oneCell']⟩
 | nils => have h' := h; simp only [aEa] at h'; subst h'; exact ⟨bFa h, by simp [Value.cells, Value.oneCell']⟩
 | slice es => have h' := h; simp only [aEa] at h'; obtain ⟨a, cap, rfl, _⟩ := h'; exact ⟨bFa h, by simp [Value.cells, Value.oneCell']⟩
 | nslice es => have h' := h; simp only [aEa] at h'; obtain ⟨a, cap, rfl, _⟩ := h'; exact ⟨bFa h, by simp [Value.cells, Value.oneCell']⟩
 | mview r n lo hi sz => have h' := h; simp only [aEa] at h'; obtain ⟨a, cap, a', _, rfl, _⟩ := h'; exact ⟨bFa h, by simp [Value.cells, Value.oneCell']⟩
 | mapr m => have h' := h; simp only [aEa] at h'; obtain ⟨k, _, rfl⟩ := h'; exact ⟨bFa h, by simp [Value.cells, Value.oneCell']⟩
 | mref r n => have h' := h; simp only [aEa] at h'; obtain ⟨_, a, cap, rfl⟩ := h'; exact ⟨bFa h, by simp [Value.cells, Value.oneCell']⟩
 | bptr b off => have h' := h; simp only [aEa] at h'; obtain ⟨a, _, rfl⟩ := h'; exact ⟨bFa h, by simp [Value.cells, Value.oneCell']⟩
 | pptr cs => have h' := h; simp only [aEa] at h'; obtain ⟨a, b, c, d, rfl, _⟩ := h'; exact ⟨bFa h, by simp [Value.cells, Value.oneCell']⟩
 | rptr r n i sz off => have h' := h; simp only [aEa] at h'; obtain ⟨a, b, _, rfl⟩ := h'; exact ⟨bFa h, by simp [Value.cells, Value.oneCell']⟩
 | func fn fst caps => have h' := h; simp only [aEa] at h'; obtain ⟨a, b, c, rfl, _⟩ := h'; exact ⟨bFa h, by simp [Value.cells, Value.oneCell']⟩
theorem gMa {g : G} : ∀ {xs : List LV} {sz : Nat} {vs : List Value}, aJa g xs sz vs → vs.length = xs.length * sz → ∀ c ∈ vs, c.oneCell' = true
 | [], sz, vs, h, hl, c, hc => by
  have : vs = [] := List.eq_nil_of_length_eq_zero (by simpa using hl)
  subst this; simp at hc
 | x :: xs, sz, vs, h, hl, c, hc => by
  simp only [aJa] at h
  obtain ⟨⟨u, h1, h2, h3, h5⟩, h4⟩ := h
  rw [← List.take_append_drop sz vs] at hc
  rcases List.mem_append.1 hc with hc | hc
  ·exact h5 c (by rw [h2]; exact hc)
  ·exact gMa h4 (by rw [List.length_drop, hl, List.length_cons, Nat.add_mul]; omega) c hc
end Go.Proofs.YtpeaaophmddhnaaGreat.LI
namespace Go.Proofs.YtpeaaophmddhnaaGreat.LI
open Go Go.RowKit
def rLa (r : Nat) : Deferred := { target := .collected r, args := #[] }
def sPa (g : G) (w : World) : Prop := ∀ b, g.fz b ≠ [] → ∃ cs T fr, w.heap[b]? = some (.cells cs T fr) ∧ g.fz b <+: cs.toList
def dYa (g : G) (t : List LV) (a : Array Value) : Prop := a.size = t.length ∧ ∀ i, aEa g (t.getD i .undef) (a.getD i Go.undef)
structure gOa (g : G) (lr : cOa) (rec : Loop) : Prop where
 tmps : dYa g lr.env.t rec.tmps
 params : rec.params.toList = lr.params
 assign : rec.assign = lr.assign
 body : rec.body = lr.body
 pending : rec.pending = lr.pending
 state : rec.state = lr.state
structure aMa (w0 : World) (f0 : Nat → List Value) (ms : List Nat) (σ : St) (g : G) (w : World) : Prop where
 below : Below w0.heap.size w0 w
 f0 : ∀ b, b < w0.heap.size → g.fz b = f0 b
 fz : sPa g w
 boxl : g.box.length = σ.boxes.length
 box : ∀ (i : Nat) (cells : List LV) (k : Nat), σ.boxes[i]? = some cells → g.box[i]? = some (.inl k) → w0.heap.size ≤ k ∧ g.fz k = [] ∧
  ∃ (cs : Array Value) (T : TypeId), w.heap[k]? = some (.cells cs T (0, 0)) ∧ aBa g cells cs.toList ∧ ∀ u ∈ cs.toList, u.oneCell' = true
 pend : ∀ (i : Nat) (cells : List LV), g.box[i]? = some (.inr cells) → σ.boxes[i]? = some cells
 nodup : ∀ (i j k : Nat), g.box[i]? = some (.inl k) → g.box[j]? = some (.inl k) → i = j
 row : ∀ (r : Nat) (row : Row), σ.rows[r]? = some row → ∃ v vs, g.phys r row.xs.length = some v ∧ w.ownsRow w0.heap.size row.e row.sz v row.xs.length vs ∧ aJa g row.xs row.sz vs ∧ 0 < row.sz ∧
  ∀ k, v.ownBlock = some k → Sum.inl k ∉ g.box ∧ g.fz k <+: vs ∧ (row.wr = true → g.fz k = [])
 apart : ∀ (r r' : Nat) (row row' : Row) (v v' : Value), r ≠ r' → σ.rows[r]? = some row → σ.rows[r']? = some row' → g.phys r row.xs.length = some v → g.phys r' row'.xs.length = some v' →
  v.ownBlock = none ∨ v.ownBlock ≠ v'.ownBlock
 phys : ∀ (r n : Nat) (v : Value), g.phys r n = some v → ∃ row, σ.rows[r]? = some row ∧ n ≤ row.xs.length
 loopl : g.loop.length = σ.loops.length
 loop : ∀ (l : Nat) (lr : cOa) (k : Nat), σ.loops[l]? = some lr → g.loop[l]? = some k → w0.heap.size ≤ k ∧ ∃ rec, w.heap[k]? = some (.loop rec) ∧ gOa g lr rec
 lnodup : g.loop.Nodup
 mapl : g.map.length = σ.maps.length
 map : ∀ (m : Nat) (q : jGb) (k : Nat), σ.maps[m]? = some q → g.map[m]? = some k → w0.heap.size ≤ k ∧ ∃ es clock, w.heap[k]? = some (.map es clock) ∧ aBa g q.ks (es.toList.map (·.key)) ∧ aBa g q.vs (es.toList.map (·.val))
 qnodup : g.map.Nodup
 marks : ∀ k ∈ ms, w0.heap.size ≤ k ∧ w.heap[k]? = some (.deferred (some []))
 mnodup : ms.Nodup
theorem jCa {g g' : G} (h : g.le g') {t : List LV} {a : Array Value} (hr : dYa g t a) : dYa g' t a := ⟨hr.1, fun i => cFa h _ _ (hr.2 i)⟩
theorem bVa {g g' : G} (h : g.le g') {lr : cOa} {rec : Loop} (hr : gOa g lr rec) : gOa g' lr rec :=
 ⟨jCa h hr.tmps, hr.params, hr.assign, hr.body, hr.pending, hr.state⟩
theorem jOa {α : Type} (l : List α) (i j : Nat) (x d : α) (h : i ≠ j) : (l.set i x).getD j d = l.getD j d := by
 simp [List.getD_eq_getElem?_getD, h]
theorem bQb {g : G} {t : List LV} {a : Array Value} (h : dYa g t a) (d : Nat) {x : LV} {v : Value} (hx : aEa g x v) : dYa g (t.set d x) (a.setIfInBounds d v) := by
 refine ⟨by simp [h.1], fun i => ?_⟩
 by_cases hd : d = i
 ·subst hd
  by_cases hlt : d < t.length
  ·have h1 : (t.set d x).getD d .undef = x := by simp [List.getD_eq_getElem?_getD, hlt]
   have h2 : (a.setIfInBounds d v).getD d Go.undef = v := by
    have : d < a.size := by rw [h.1]; exact hlt
    simp [Array.getD_eq_getD_getElem?, this]
   rw [h1, h2]; exact hx
  ·have h1 : (t.set d x).getD d .undef = .undef := by
    rw [List.getD_eq_getElem?_getD, List.getElem?_eq_none (by simpa using hlt)]; rfl
   rw [h1]; simp [aEa]
 ·rw [jOa _ _ _ _ _ hd]
  have h2 : (a.setIfInBounds d v).getD i Go.undef = a.getD i Go.undef := by
   simp [Array.getD_eq_getD_getElem?, hd]
  rw [h2]; exact h.2 i
theorem dOa (g : G) (v : Value) : aEa g (bQa v) v := by
 unfold bQa
 split
 ·simp [aEa]
 ·split
  ·rename_i h; simp [aEa, h]
  ·simp [aEa]
theorem rAa {w w1 : World} (h : Below w.heap.size w w1) (row : Option Nat) : w.grownBy w1 row := ⟨h.os, h.tape, h.output, h.size, fun i hi _ => h.block i hi⟩
theorem dMa {w : World} {k : Nat} {o : Obj} (h : w.heap[k]? = some o) : k < w.heap.size := (Array.getElem?_eq_some_iff.1 h).1
theorem sPa.kept {g : G} {w w' : World} (h : sPa g w) (hb : Below w.heap.size w w') : sPa g w' := by
 intro b hn
 obtain ⟨cs, T, fr, h1, h2⟩ := h b hn
 exact ⟨cs, T, fr, (hb.block b (dMa h1)).trans h1, h2⟩
theorem aMa.kept {w0 : World} {f0 : Nat → List Value} {ms : List Nat} {σ : St} {g : G} {w w' : World} (h : aMa w0 f0 ms σ g w) (hb : Below w.heap.size w w') : aMa w0 f0 ms σ g w' where
 below := h.below.trans (hb.mono h.below.size)
 f0 := h.f0
 fz := h.fz.kept hb
 boxl := h.boxl
 box := fun i cells k h1 h2 => by
  obtain ⟨h3, h4, cs, T, h5, h6⟩ := h.box i cells k h1 h2
  exact ⟨h3, h4, cs, T, (hb.block k (dMa h5)).trans h5, h6⟩
 pend := h.pend
 nodup := h.nodup
 row := fun r row hr => by
  obtain ⟨v, vs, h1, h2, h3, h4, h5⟩ := h.row r row hr
  exact ⟨v, vs, h1, h2.kept (rAa hb none) (by cases v.ownBlock <;> simp), h3, h4, h5⟩
 apart := h.apart
 phys := h.phys
 loopl := h.loopl
 loop := fun l lr k h1 h2 => by
  obtain ⟨h3, rec, h4, h5⟩ := h.loop l lr k h1 h2
  exact ⟨h3, rec, (hb.block k (dMa h4)).trans h4, h5⟩
 lnodup := h.lnodup
 mapl := h.mapl
 map := fun m q k h1 h2 => by
  obtain ⟨h3, es, c, h4, h5⟩ := h.map m q k h1 h2
  exact ⟨h3, es, c, (hb.block k (dMa h4)).trans h4, h5⟩
 qnodup := h.qnodup
 marks := fun k hk => ⟨(h.marks k hk).1, (hb.block k (dMa (h.marks k hk).2)).trans (h.marks k hk).2⟩
 mnodup := h.mnodup
theorem aMa.fzmore {w0 : World} {f0 : Nat → List Value} {ms : List Nat} {σ : St} {g g' : G} {w : World} (h : aMa w0 f0 ms σ g w) (hle : ∀ b, g.fz b <+: g'.fz b) (hsame : ∀ b, b < w.heap.size → g'.fz b = g.fz b) (hx : g'.box = g.box ∧ g'.phys = g.phys ∧ g'.loop = g.loop ∧ g'.map = g.map)
  {w' : World} (hb : Below w.heap.size w w') (hfz : sPa g' w') : aMa w0 f0 ms σ g' w' := by
 have hg : g.le g' := ⟨hle, by rw [hx.1]; exact List.prefix_refl _, fun r n v e => by rw [hx.2.1]; exact e, by rw [hx.2.2.1]; exact List.prefix_refl _, by rw [hx.2.2.2]; exact List.prefix_refl _⟩
 have k := h.kept hb
 exact {
  below := k.below
  f0 := fun b hb' => (hsame b (Nat.lt_of_lt_of_le hb' h.below.size)).trans (h.f0 b hb')
  fz := hfz
  boxl := by rw [hx.1]; exact h.boxl
  box := fun i cells q h1 h2 => by
   rw [hx.1] at h2
   obtain ⟨h3, h4, cs, T, h5, h6, h7⟩ := k.box i cells q h1 h2
   obtain ⟨_, _, _, _, h9, _⟩ := h.box i cells q h1 h2
   exact ⟨h3, (hsame q (dMa h9)).trans h4, cs, T, h5, aIa hg _ _ h6, h7⟩
  pend := fun i cells h1 => h.pend i cells (by rw [← hx.1]; exact h1)
  nodup := by rw [hx.1]; exact h.nodup
  row := fun r row hr => by
   obtain ⟨v, vs, h1, h2, h3, h4, h5⟩ := h.row r row hr
   obtain ⟨v', vs', h1', h2', h3', h4', h5'⟩ := k.row r row hr
   have e1 : v' = v := by rw [h1] at h1'; exact (Option.some.inj h1').symm
   subst e1
   refine ⟨v', vs', by rw [hx.2.1]; exact h1', h2', aVa hg _ _ _ _ (List.prefix_refl _) h3', h4', fun q hq => ?_⟩
   rw [hx.1, hsame q (h2.lt q hq).2]
   exact h5' q hq
  apart := fun r r' row row' v v' => by rw [hx.2.1]; exact h.apart r r' row row' v v'
  phys := fun r n v => by rw [hx.2.1]; exact h.phys r n v
  loopl := by rw [hx.2.2.1]; exact h.loopl
  loop := fun l lr q h1 h2 => by
   rw [hx.2.2.1] at h2
   obtain ⟨h3, rec, h4, h5⟩ := k.loop l lr q h1 h2
   exact ⟨h3, rec, h4, bVa hg h5⟩
  lnodup := by rw [hx.2.2.1]; exact h.lnodup
  mapl := by rw [hx.2.2.2]; exact h.mapl
  map := fun m q p h1 h2 => by
   rw [hx.2.2.2] at h2
   obtain ⟨h3, es, c, h4, h5, h6⟩ := k.map m q p h1 h2
   exact ⟨h3, es, c, h4, aIa hg _ _ h5, aIa hg _ _ h6⟩
  qnodup := by rw [hx.2.2.2]; exact h.qnodup
  marks := k.marks
  mnodup := k.mnodup }
theorem rNa {α : Type} {l : List α} (h : l.Nodup) {i j : Nat} {x : α} (hi : l[i]? = some x) (hj : l[j]? = some x) : i = j := by
 rw [List.Nodup, List.pairwise_iff_getElem] at h
 obtain ⟨a, ha⟩ := List.getElem?_eq_some_iff.1 hi
 obtain ⟨b, hb⟩ := List.getElem?_eq_some_iff.1 hj
 rcases Nat.lt_trichotomy i j with hlt | heq | hgt
 ·exact absurd (ha.trans hb.symm) (h i j a b hlt)
 ·exact heq
 ·exact absurd (hb.trans ha.symm) (h j i b a hgt)
def G.addBox (g : G) (k : Nat) : G := { g with box := g.box ++ [.inl k] }
theorem G.le_addBox (g : G) (k : Nat) : g.le (g.addBox k) := ⟨fun _ => List.prefix_refl _, List.prefix_append _ _, fun _ _ _ h => h, List.prefix_refl _, List.prefix_refl _⟩
theorem jPa {α : Type} {l : List α} {x : α} (h : x ∈ l) : ∃ i : Nat, l[i]? = some x := List.mem_iff_getElem?.1 h
theorem aMa.box_lt {w0 : World} {f0 : Nat → List Value} {ms : List Nat} {σ : St} {g : G} {w : World} (h : aMa w0 f0 ms σ g w) {k : Nat} (hk : Sum.inl k ∈ g.box) : k < w.heap.size := by
 obtain ⟨i, hi⟩ := jPa hk
 have hl : i < σ.boxes.length := by rw [← h.boxl]; exact (List.getElem?_eq_some_iff.1 hi).1
 obtain ⟨_, _, cs, T, h5, _⟩ := h.box i σ.boxes[i] k (List.getElem?_eq_getElem hl) hi
 exact dMa h5
theorem aMa.fz_new {w0 : World} {f0 : Nat → List Value} {ms : List Nat} {σ : St} {g : G} {w : World} (h : aMa w0 f0 ms σ g w) {k : Nat} (hk : w.heap.size ≤ k) : g.fz k = [] := by
 by_cases hn : g.fz k = []
 ·exact hn
 ·obtain ⟨cs, T, fr, h1, _⟩ := h.fz k hn
  have := dMa h1
  omega
theorem aMa.newBox {w0 : World} {f0 : Nat → List Value} {ms : List Nat} {σ : St} {g : G} {w : World} (h : aMa w0 f0 ms σ g w) {cells : List LV} {cs : Array Value} (T : TypeId)
  (hc : aBa g cells cs.toList) (h1 : ∀ u ∈ cs.toList, u.oneCell' = true) :
  aMa w0 f0 ms { σ with boxes := σ.boxes ++ [cells] } (g.addBox w.heap.size) (w.alloc (.cells cs T)) := by
 have hb : Below w.heap.size w (w.alloc (.cells cs T)) := (Below.refl _ _).alloc (Nat.le_refl _) _
 have k := h.kept hb
 have hg := g.le_addBox w.heap.size
 exact {
  below := k.below
  f0 := k.f0
  fz := k.fz
  boxl := by simp [G.addBox, h.boxl]
  box := fun i cells' q e1 e2 => by
   simp only [G.addBox] at e2
   by_cases hi : i < σ.boxes.length
   ·rw [List.getElem?_append_left hi] at e1
    rw [List.getElem?_append_left (by rw [h.boxl]; exact hi)] at e2
    obtain ⟨h3, h4, cs', T', h5, h6, h7⟩ := k.box i cells' q e1 e2
    exact ⟨h3, h4, cs', T', h5, aIa hg _ _ h6, h7⟩
   ·rw [List.getElem?_append_right (by omega)] at e1
    rw [List.getElem?_append_right (by rw [h.boxl]; omega)] at e2
    rw [h.boxl] at e2
    have hz : i - σ.boxes.length = 0 := by
     have := (List.getElem?_eq_some_iff.1 e1).1
     simp at this; omega
    rw [hz] at e1 e2
    simp at e1 e2
    subst e1 e2
    exact ⟨h.below.size, h.fz_new (Nat.le_refl _), cs, T, heap_alloc_new w _, aIa hg _ _ hc, h1⟩
  pend := fun i cells' e1 => by
   simp only [G.addBox] at e1
   by_cases hi : i < g.box.length
   ·rw [List.getElem?_append_left hi] at e1
    have := h.pend i cells' e1
    rw [List.getElem?_append_left (List.getElem?_eq_some_iff.1 this).1]; exact this
   ·rw [List.getElem?_append_right (by omega)] at e1
    have := List.mem_of_getElem? e1
    simp at this
  nodup := by
   have inv : ∀ (i q : Nat), (g.addBox w.heap.size).box[i]? = some (.inl q) → (g.box[i]? = some (.inl q) ∧ q < w.heap.size) ∨ (i = g.box.length ∧ q = w.heap.size) := fun i q e => by
    simp only [G.addBox] at e
    by_cases hi : i < g.box.length
    ·rw [List.getElem?_append_left hi] at e
     exact .inl ⟨e, h.box_lt (List.mem_of_getElem? e)⟩
    ·rw [List.getElem?_append_right (by omega)] at e
     have hz : i - g.box.length = 0 := by
      have := (List.getElem?_eq_some_iff.1 e).1
      simp at this; omega
     rw [hz] at e
     simp at e
     exact .inr ⟨by omega, e.symm⟩
   intro i j q e1 e2
   rcases inv i q e1 with ⟨a1, a2⟩ | ⟨a1, a2⟩ <;> rcases inv j q e2 with ⟨b1, b2⟩ | ⟨b1, b2⟩
   ·exact h.nodup i j q a1 b1
   ·omega
   ·omega
   ·omega
  row := fun r row hr => by
   obtain ⟨v, vs, h1', h2, h3, h4, h5⟩ := h.row r row hr
   obtain ⟨v', vs', e1, e2, e3, e4, e5⟩ := k.row r row hr
   have : v' = v := by rw [h1'] at e1; exact (Option.some.inj e1).symm
   subst this
   refine ⟨v', vs', e1, e2, aVa hg _ _ _ _ (List.prefix_refl _) e3, e4, fun q hq => ⟨?_, (e5 q hq).2⟩⟩
   simp only [G.addBox, List.mem_append, List.mem_singleton, Sum.inl.injEq]
   rintro (hm | hm)
   ·exact (e5 q hq).1 hm
   ·have := (h2.lt q hq).2; omega
  apart := k.apart
  phys := k.phys
  loopl := k.loopl
  loop := fun l lr q e1 e2 => by
   obtain ⟨h3, rec, h4, h5⟩ := k.loop l lr q e1 e2
   exact ⟨h3, rec, h4, bVa hg h5⟩
  lnodup := k.lnodup
  mapl := k.mapl
  map := fun m q p e1 e2 => by
   obtain ⟨h3, es, c, h4, h5, h6⟩ := k.map m q p e1 e2
   exact ⟨h3, es, c, h4, aIa hg _ _ h5, aIa hg _ _ h6⟩
  qnodup := k.qnodup
  marks := k.marks
  mnodup := k.mnodup }
def G.ahead (g : G) (B : List (List LV)) : G := { g with box := g.box ++ B.map .inr }
theorem G.le_ahead (g : G) (B : List (List LV)) : g.le (g.ahead B) := ⟨fun _ => List.prefix_refl _, List.prefix_append _ _, fun _ _ _ h => h, List.prefix_refl _, List.prefix_refl _⟩
theorem aMa.ahead {w0 : World} {f0 : Nat → List Value} {ms : List Nat} {σ : St} {g : G} {w : World} (k : aMa w0 f0 ms σ g w) (B : List (List LV)) : aMa w0 f0 ms (σ.addB B) (g.ahead B) w := by
 have hg := g.le_ahead B
 have inv : ∀ (i q : Nat), (g.ahead B).box[i]? = some (.inl q) → g.box[i]? = some (.inl q) := fun i q e => by
  simp only [G.ahead] at e
  by_cases hi : i < g.box.length
  ·rw [List.getElem?_append_left hi] at e; exact e
  ·rw [List.getElem?_append_right (by omega)] at e
   have := List.mem_of_getElem? e
   simp at this
 exact {
  below := k.below
  f0 := k.f0
  fz := k.fz
  boxl := by simp [G.ahead, St.addB, k.boxl]
  box := fun i cells q e1 e2 => by
   have e2 := inv i q e2
   have hi : i < σ.boxes.length := by rw [← k.boxl]; exact (List.getElem?_eq_some_iff.1 e2).1
   simp only [St.addB] at e1
   rw [List.getElem?_append_left hi] at e1
   obtain ⟨h3, h4, cs', T', h5, h6, h7⟩ := k.box i cells q e1 e2
   exact ⟨h3, h4, cs', T', h5, aIa hg _ _ h6, h7⟩
  pend := fun i cells e1 => by
   simp only [G.ahead] at e1
   simp only [St.addB]
   by_cases hi : i < g.box.length
   ·rw [List.getElem?_append_left hi] at e1
    rw [List.getElem?_append_left (by rw [← k.boxl]; exact hi)]
    exact k.pend i cells e1
   ·rw [List.getElem?_append_right (by omega), List.getElem?_map] at e1
    rw [List.getElem?_append_right (by rw [← k.boxl]; omega), ← k.boxl]
    obtain ⟨c, h1, h2⟩ := Option.map_eq_some_iff.1 e1
    cases h2
    exact h1
  nodup := fun i j q e1 e2 => k.nodup i j q (inv i q e1) (inv j q e2)
  row := fun r row hr => by
   obtain ⟨v, vs, e1, e2, e3, e4, e5⟩ := k.row r row hr
   refine ⟨v, vs, e1, e2, aVa hg _ _ _ _ (List.prefix_refl _) e3, e4, fun q hq => ⟨?_, (e5 q hq).2⟩⟩
   simp only [G.ahead, List.mem_append, List.mem_map]
   rintro (hm | ⟨_, _, hm⟩)
   ·exact (e5 q hq).1 hm
   ·cases hm
  apart := k.apart
  phys := k.phys
  loopl := k.loopl
  loop := fun l lr q e1 e2 => by
   obtain ⟨h3, rec, h4, h5⟩ := k.loop l lr q e1 e2
   exact ⟨h3, rec, h4, bVa hg h5⟩
  lnodup := k.lnodup
  mapl := k.mapl
  map := fun m q p e1 e2 => by
   obtain ⟨h3, es, c, h4, h5, h6⟩ := k.map m q p e1 e2
   exact ⟨h3, es, c, h4, aIa hg _ _ h5, aIa hg _ _ h6⟩
  qnodup := k.qnodup
  marks := k.marks
  mnodup := k.mnodup }
def G.fill (g : G) (b k : Nat) : G := { g with box := g.box.set b (.inl k) }
theorem G.fill_get {g : G} {b k : Nat} {cells : List LV} (hb : g.box[b]? = some (.inr cells)) {i q : Nat} (h : g.box[i]? = some (.inl q)) : (g.fill b k).box[i]? = some (.inl q) := by
 have hne : b ≠ i := by rintro rfl; rw [hb] at h; cases h
 simp only [G.fill]
 rw [List.getElem?_set_ne hne]; exact h
theorem G.sub_fill {g : G} {b k : Nat} {cells : List LV} (hb : g.box[b]? = some (.inr cells)) : g.sub (g.fill b k) := ⟨fun _ => List.prefix_refl _, fun _ _ h => G.fill_get hb h, fun _ _ _ h => h, List.prefix_refl _, List.prefix_refl _⟩
theorem bRb {g g' : G} (h : g.sub g') {t : List LV} {a : Array Value} (hr : dYa g t a) : dYa g' t a := ⟨hr.1, fun i => pIa h _ _ (hr.2 i)⟩
theorem aMa.fill {w0 : World} {f0 : Nat → List Value} {ms : List Nat} {σ : St} {g : G} {w : World} (h : aMa w0 f0 ms σ g w) {b : Nat} {cells : List LV} (hb : g.box[b]? = some (.inr cells)) {cs : Array Value} (T : TypeId)
  (hc : aBa g cells cs.toList) (h1 : ∀ u ∈ cs.toList, u.oneCell' = true) :
  aMa w0 f0 ms σ (g.fill b w.heap.size) (w.alloc (.cells cs T)) := by
 have hbl : Below w.heap.size w (w.alloc (.cells cs T)) := (Below.refl _ _).alloc (Nat.le_refl _) _
 have k := h.kept hbl
 have hg : g.sub (g.fill b w.heap.size) := G.sub_fill hb
 have hlt : b < g.box.length := (List.getElem?_eq_some_iff.1 hb).1
 have inv : ∀ (i q : Nat), (g.fill b w.heap.size).box[i]? = some (.inl q) → (b ≠ i ∧ g.box[i]? = some (.inl q)) ∨ (b = i ∧ q = w.heap.size) := fun i q e => by
  simp only [G.fill] at e
  by_cases hi : b = i
  ·subst hi
   rw [List.getElem?_set_self hlt] at e
   cases e
   exact .inr ⟨rfl, rfl⟩
  ·rw [List.getElem?_set_ne hi] at e
   exact .inl ⟨hi, e⟩
 exact {
  below := k.below
  f0 := k.f0
  fz := k.fz
  boxl := by simp [G.fill, h.boxl]
  box := fun i cells' q e1 e2 => by
   rcases inv i q e2 with ⟨hi, e2⟩ | ⟨rfl, rfl⟩
   ·obtain ⟨h3, h4, cs', T', h5, h6, h7⟩ := k.box i cells' q e1 e2
    exact ⟨h3, h4, cs', T', h5, dKa hg _ _ h6, h7⟩
   ·have := h.pend b cells hb
    rw [this] at e1
    cases e1
    exact ⟨h.below.size, h.fz_new (Nat.le_refl _), cs, T, heap_alloc_new w _, dKa hg _ _ hc, h1⟩
  pend := fun i cells' e1 => by
   simp only [G.fill] at e1
   by_cases hi : b = i
   ·subst hi
    rw [List.getElem?_set_self hlt] at e1
    cases e1
   ·rw [List.getElem?_set_ne hi] at e1
    exact h.pend i cells' e1
  nodup := fun i j q e1 e2 => by
   rcases inv i q e1 with ⟨_, a⟩ | ⟨a1, a2⟩ <;> rcases inv j q e2 with ⟨_, c⟩ | ⟨c1, c2⟩
   ·exact h.nodup i j q a c
   ·have := h.box_lt (List.mem_of_getElem? a); omega
   ·have := h.box_lt (List.mem_of_getElem? c); omega
   ·omega
  row := fun r row hr => by
   obtain ⟨v, vs, h1', h2, h3, h4, h5⟩ := h.row r row hr
   obtain ⟨v', vs', e1, e2, e3, e4, e5⟩ := k.row r row hr
   have : v' = v := by rw [h1'] at e1; exact (Option.some.inj e1).symm
   subst this
   refine ⟨v', vs', e1, e2, jAa hg _ _ _ _ (List.prefix_refl _) e3, e4, fun q hq => ⟨fun hm => ?_, (e5 q hq).2⟩⟩
   obtain ⟨i, hi⟩ := jPa hm
   rcases inv i q hi with ⟨_, a⟩ | ⟨_, a⟩
   ·exact (e5 q hq).1 (List.mem_of_getElem? a)
   ·have := (h2.lt q hq).2; omega
  apart := k.apart
  phys := k.phys
  loopl := k.loopl
  loop := fun l lr q e1 e2 => by
   obtain ⟨h3, rec, h4, h5⟩ := k.loop l lr q e1 e2
   exact ⟨h3, rec, h4, ⟨bRb hg h5.tmps, h5.params, h5.assign, h5.body, h5.pending, h5.state⟩⟩
  lnodup := k.lnodup
  mapl := k.mapl
  map := fun m q p e1 e2 => by
   obtain ⟨h3, es, c, h4, h5, h6⟩ := k.map m q p e1 e2
   exact ⟨h3, es, c, h4, dKa hg _ _ h5, dKa hg _ _ h6⟩
  qnodup := k.qnodup
  marks := k.marks
  mnodup := k.mnodup }
theorem rBa (w : World) (g k : Nat) (cs : Array Value) (h : k ≠ g) : (w.setRow g cs).heap[k]? = w.heap[k]? := by
 simp only [World.setRow, Array.getElem?_modify]
 rw [if_neg (by omega)]
theorem dAa (w : World) (k : Nat) (cs cs' : Array Value) (T : TypeId) (fr : Nat × Nat) (h : w.heap[k]? = some (.cells cs T fr)) : (w.setRow k cs').heap[k]? = some (.cells cs' T fr) := by
 simp only [World.setRow, Array.getElem?_modify, if_true, h]; rfl
structure pXa (w w' : World) (k : Nat) : Prop where
 os : w'.os = w.os
 tape : w'.tape = w.tape
 output : w'.output = w.output
 size : w'.heap.size = w.heap.size
 block : ∀ q, q ≠ k → w'.heap[q]? = w.heap[q]?
theorem pXa.setRow (w : World) (k : Nat) (cs : Array Value) : pXa w (w.setRow k cs) k := ⟨rfl, rfl, rfl, by simp, fun q hq => rBa w k q cs hq⟩
theorem pXa.below {w w' : World} {k B : Nat} (h : pXa w w' k) (hk : B ≤ k) : Below B w w' := ⟨h.os, h.tape, h.output, by rw [h.size]; exact Nat.le_refl _, fun q hq => h.block q (by omega)⟩
theorem sPa.touch {g : G} {w w' : World} {k : Nat} (h : sPa g w) (ht : pXa w w' k) (hk : g.fz k ≠ [] → ∃ cs T fr, w'.heap[k]? = some (.cells cs T fr) ∧ g.fz k <+: cs.toList) : sPa g w' := by
 intro b hn
 by_cases hb : b = k
 ·subst hb; exact hk hn
 ·obtain ⟨cs, T, fr, h1, h2⟩ := h b hn
  exact ⟨cs, T, fr, (ht.block b hb).trans h1, h2⟩
theorem iKa {w w' : World} {k base : Nat} {e : TypeId} {size n : Nat} {v : Value} {xs : List Value} (h : w.ownsRow base e size v n xs) (ht : pXa w w' k) (hk : v.ownBlock ≠ some k) : w'.ownsRow base e size v n xs :=
 h.kept (row := some k) ⟨ht.os, ht.tape, ht.output, by rw [ht.size]; exact Nat.le_refl _, fun q _ hq => ht.block q (fun e => hq (by rw [e]))⟩ (.inr hk)
theorem aMa.setBox {w0 : World} {f0 : Nat → List Value} {ms : List Nat} {σ : St} {g : G} {w : World} (h : aMa w0 f0 ms σ g w) {b k : Nat} {cs : Array Value} {T : TypeId}
  (hk : g.box[b]? = some (.inl k)) (hw : w.heap[k]? = some (.cells cs T (0, 0))) {cells' : List LV} {cs' : Array Value} (hc : aBa g cells' cs'.toList) (h1 : ∀ u ∈ cs'.toList, u.oneCell' = true) (hbl : b < σ.boxes.length) :
  aMa w0 f0 ms { σ with boxes := σ.boxes.set b cells' } g (w.setRow k cs') := by
 have ht := pXa.setRow w k cs'
 obtain ⟨hk0, hkf, _⟩ := h.box b σ.boxes[b] k (List.getElem?_eq_getElem hbl) hk
 have hmem : Sum.inl k ∈ g.box := List.mem_iff_getElem?.2 ⟨b, hk⟩
 exact {
  below := h.below.trans (ht.below hk0)
  f0 := h.f0
  fz := h.fz.touch ht (fun hn => absurd hkf hn)
  boxl := by simpa using h.boxl
  box := fun i cells q e1 e2 => by
   by_cases hi : b = i
   ·subst hi
    rw [List.getElem?_set_self hbl] at e1
    cases e1
    rw [hk] at e2
    cases e2
    exact ⟨hk0, hkf, cs', T, dAa w k cs cs' T _ hw, hc, h1⟩
   ·rw [List.getElem?_set_ne hi] at e1
    obtain ⟨h3, h4, cs2, T2, h5, h6, h7⟩ := h.box i cells q e1 e2
    have hne : q ≠ k := by
     rintro rfl
     exact hi (h.nodup _ _ _ hk e2)
    exact ⟨h3, h4, cs2, T2, (ht.block q hne).trans h5, h6, h7⟩
  pend := fun i cells e1 => by
   have hne : b ≠ i := by rintro rfl; rw [hk] at e1; cases e1
   show (σ.boxes.set b cells')[i]? = _
   rw [List.getElem?_set_ne hne]; exact h.pend i cells e1
  nodup := h.nodup
  row := fun r row hr => by
   obtain ⟨v, vs, e1, e2, e3, e4, e5⟩ := h.row r row hr
   exact ⟨v, vs, e1, iKa e2 ht (fun hx => (e5 k hx).1 hmem), e3, e4, e5⟩
  apart := h.apart
  phys := h.phys
  loopl := h.loopl
  loop := fun l lr q e1 e2 => by
   obtain ⟨h3, rec, h4, h5⟩ := h.loop l lr q e1 e2
   refine ⟨h3, rec, ?_, h5⟩
   rw [ht.block q (by rintro rfl; rw [hw] at h4; cases h4)]
   exact h4
  lnodup := h.lnodup
  mapl := h.mapl
  map := fun m q p e1 e2 => by
   obtain ⟨h3, es, c, h4, h5⟩ := h.map m q p e1 e2
   refine ⟨h3, es, c, ?_, h5⟩
   rw [ht.block p (by rintro rfl; rw [hw] at h4; cases h4)]
   exact h4
  qnodup := h.qnodup
  marks := fun q hq => by
   obtain ⟨m1, m2⟩ := h.marks q hq
   refine ⟨m1, ?_⟩
   rw [ht.block q (by rintro rfl; rw [hw] at m2; cases m2)]
   exact m2
  mnodup := h.mnodup }
def G.addPhys (g : G) (r n : Nat) (v : Value) : G := { g with phys := fun r' n' => if r' = r ∧ n' = n then some v else g.phys r' n' }
theorem G.le_addPhys (g : G) (r n : Nat) (v : Value) (h : g.phys r n = none ∨ g.phys r n = some v) : g.le (g.addPhys r n v) :=
 ⟨fun _ => List.prefix_refl _, List.prefix_refl _, fun r' n' u hu => by
  simp only [G.addPhys]
  by_cases hc : r' = r ∧ n' = n
  ·obtain ⟨rfl, rfl⟩ := hc
   rcases h with h | h
   ·rw [h] at hu; cases hu
   ·rw [h] at hu; simp [hu]
  ·rw [if_neg hc]; exact hu, List.prefix_refl _, List.prefix_refl _⟩
theorem jDa {g : G} {r n : Nat} {v : Value} (h : g.phys r n = some v) (hv : ∃ a cap, v = .slice a n cap) : aEa g (.mref r n) v := by simp only [aEa]; exact ⟨h, hv⟩
theorem aMa.newRow {w0 : World} {f0 : Nat → List Value} {ms : List Nat} {σ : St} {g : G} {w w' : World} (h : aMa w0 f0 ms σ g w) (hb : Below w.heap.size w w') {xs : List LV} {e : TypeId} {sz : Nat} {v : Value} {vs : List Value}
  (ho : w'.ownsRow w0.heap.size e sz v xs.length vs) (hnew : ∀ k, v.ownBlock = some k → w.heap.size ≤ k) (hx : aJa g xs sz vs) (hsz : 0 < sz) :
  aMa w0 f0 ms { σ with rows := σ.rows ++ [{ xs, e, sz, wr := true }] } (g.addPhys σ.rows.length xs.length v) w' := by
 have k := h.kept hb
 have hnone : ∀ n, g.phys σ.rows.length n = none := fun n => by
  cases hp : g.phys σ.rows.length n with
  | none => rfl
  | some u =>
   obtain ⟨row, hr, _⟩ := h.phys _ _ _ hp
   simp at hr
 have hg := g.le_addPhys σ.rows.length xs.length v (.inl (hnone _))
 have hrows : ∀ (r : Nat) (row : Row), (σ.rows ++ [{ xs, e, sz, wr := true }])[r]? = some row → (r < σ.rows.length ∧ σ.rows[r]? = some row) ∨ (r = σ.rows.length ∧ row = { xs, e, sz, wr := true }) := fun r row hr => by
  by_cases hl : r < σ.rows.length
  ·rw [List.getElem?_append_left hl] at hr; exact .inl ⟨hl, hr⟩
  ·rw [List.getElem?_append_right (by omega)] at hr
   have hz : r - σ.rows.length = 0 := by
    have := (List.getElem?_eq_some_iff.1 hr).1
    simp at this; omega
   rw [hz] at hr
   simp at hr
   exact .inr ⟨by omega, hr.symm⟩
 have hphys : ∀ r n, r < σ.rows.length → (g.addPhys σ.rows.length xs.length v).phys r n = g.phys r n := fun r n hr => by
  simp only [G.addPhys]; rw [if_neg (by omega)]
 exact {
  below := k.below
  f0 := k.f0
  fz := k.fz
  boxl := k.boxl
  box := fun i cells q e1 e2 => by
   obtain ⟨h3, h4, cs2, T2, h5, h6, h7⟩ := k.box i cells q e1 e2
   exact ⟨h3, h4, cs2, T2, h5, aIa hg _ _ h6, h7⟩
  pend := k.pend
  nodup := k.nodup
  row := fun r row hr => by
   rcases hrows r row hr with ⟨hl, hr'⟩ | ⟨rfl, rfl⟩
   ·obtain ⟨v2, vs2, e1, e2, e3, e4, e5⟩ := k.row r row hr'
    exact ⟨v2, vs2, by rw [hphys r _ hl]; exact e1, e2, aVa hg _ _ _ _ (List.prefix_refl _) e3, e4, e5⟩
   ·refine ⟨v, vs, by simp [G.addPhys], ho, aVa hg _ _ _ _ (List.prefix_refl _) hx, hsz, fun q hq => ?_⟩
    have hge := hnew q hq
    have hf : g.fz q = [] := h.fz_new hge
    refine ⟨fun hm => ?_, by show g.fz q <+: vs; rw [hf]; exact List.nil_prefix, fun _ => hf⟩
    have := h.box_lt hm
    omega
  apart := fun r r' row row' v1 v2 hne hr hr' p1 p2 => by
   rcases hrows r row hr with ⟨hl, hr1⟩ | ⟨rfl, rfl⟩
   ·rcases hrows r' row' hr' with ⟨hl', hr1'⟩ | ⟨rfl, rfl⟩
    ·rw [hphys r _ hl] at p1
     rw [hphys r' _ hl'] at p2
     exact h.apart r r' row row' v1 v2 hne hr1 hr1' p1 p2
    ·rw [hphys r _ hl] at p1
     simp [G.addPhys] at p2
     subst p2
     obtain ⟨v3, vs3, e1, e2, _⟩ := h.row r row hr1
     rw [p1] at e1; cases e1
     cases hv : v1.ownBlock with
     | none => exact .inl rfl
     | some q =>
      refine .inr fun he => ?_
      have := (e2.lt q hv).2
      have := hnew q (he ▸ rfl)
      omega
   ·rcases hrows r' row' hr' with ⟨hl', hr1'⟩ | ⟨rfl, rfl⟩
    ·rw [hphys r' _ hl'] at p2
     simp [G.addPhys] at p1
     subst p1
     obtain ⟨v3, vs3, e1, e2, _⟩ := h.row r' row' hr1'
     rw [p2] at e1; cases e1
     cases hv : v.ownBlock with
     | none => exact .inl rfl
     | some q =>
      refine .inr fun he => ?_
      have := (e2.lt q he.symm).2
      have := hnew q hv
      omega
    ·exact absurd rfl hne
  phys := fun r n u hu => by
   by_cases hc : r = σ.rows.length ∧ n = xs.length
   ·obtain ⟨rfl, rfl⟩ := hc
    exact ⟨{ xs, e, sz, wr := true }, by simp, Nat.le_refl _⟩
   ·simp only [G.addPhys] at hu
    rw [if_neg hc] at hu
    obtain ⟨row, hr, hn⟩ := h.phys r n u hu
    exact ⟨row, by rw [List.getElem?_append_left (List.getElem?_eq_some_iff.1 hr).1]; exact hr, hn⟩
  loopl := k.loopl
  loop := fun l lr q e1 e2 => by
   obtain ⟨h3, rec, h4, h5⟩ := k.loop l lr q e1 e2
   exact ⟨h3, rec, h4, bVa hg h5⟩
  lnodup := k.lnodup
  mapl := k.mapl
  map := fun m q p e1 e2 => by
   obtain ⟨h3, es, c, h4, h5, h6⟩ := k.map m q p e1 e2
   exact ⟨h3, es, c, h4, aIa hg _ _ h5, aIa hg _ _ h6⟩
  qnodup := k.qnodup
  marks := k.marks
  mnodup := k.mnodup }
end Go.Proofs.YtpeaaophmddhnaaGreat.LI
namespace Go.Proofs.YtpeaaophmddhnaaGreat.LI
open Go Go.RowKit
theorem eJa {g : G} : ∀ {xs ys : List LV} {sz : Nat} {vs ws : List Value}, aJa g xs sz vs → vs.length = xs.length * sz → aJa g ys sz ws → aJa g (xs ++ ys) sz (vs ++ ws)
 | [], ys, sz, vs, ws, h, hl, k => by
  have : vs = [] := List.eq_nil_of_length_eq_zero (by simpa using hl)
  subst this; exact k
 | x :: xs, ys, sz, vs, ws, h, hl, k => by
  simp only [aJa, List.cons_append] at h ⊢
  obtain ⟨⟨u, h1, h2, h3⟩, h4⟩ := h
  have hge : sz ≤ vs.length := by rw [hl, List.length_cons, Nat.add_mul]; omega
  refine ⟨⟨u, h1, by rw [List.take_append_of_le_length hge]; exact h2, h3⟩, ?_⟩
  rw [List.drop_append_of_le_length hge]
  exact eJa h4 (by rw [List.length_drop, hl, List.length_cons, Nat.add_mul]; omega) k
theorem pRa {g : G} : ∀ {xs : List LV} {sz : Nat} {vs : List Value}, aJa g xs sz vs → ∀ {i : Nat} {x : LV}, xs[i]? = some x → ∃ u, aEa g x u ∧ u.cells.toList = (vs.drop (i * sz)).take sz ∧ u.cells.size = sz ∧ ∀ c ∈ u.cells.toList, c.oneCell' = true
 | [], sz, vs, h, i, x, hx => by simp at hx
 | y :: xs, sz, vs, h, i, x, hx => by
  simp only [aJa] at h
  obtain ⟨⟨u, h1, h2, h3⟩, h4⟩ := h
  cases i with
  | zero => simp at hx; subst hx; exact ⟨u, h1, by simpa using h2, h3⟩
  | succ i =>
   obtain ⟨u', k1, k2, k3⟩ := pRa h4 (i := i) (by simpa using hx)
   refine ⟨u', k1, ?_, k3⟩
   rw [k2, List.drop_drop, Nat.add_mul]
   congr 2
   omega
theorem fLa {P : Program} (w : World) (base : Nat) (t tx ty e : TypeId) (i : TypeInfo) (z : Value) (ht : P.underlying t = some (.slice e)) (hi : P.info? e = some i) (hz : i.zero = some z)
  (hzs : z.cells.size = i.size) (v : Value) (n : Nat) (xs : List Value) (hown : w.ownsRow base e i.size v n xs) (x : Value) (m : Nat) (news : List Value) (hs : Src P i.size tx x m news w)
  (h63 : n + m ≤ maxLen) (hbytes : (n + m) * i.bytes ≤ 140737488355328) (hbase : base ≤ w.heap.size) :
  ∃ v' w', (Builtin.append_ #[t, tx] ty #[v, x]).run P w = .ok v' w' ∧ w'.ownsRow base e i.size v' (n + m) (xs ++ news) ∧
   ((v'.ownBlock = v.ownBlock ∧ w.grownBy w' v.ownBlock) ∨ (v'.ownBlock = some w.heap.size ∧ w.grownBy w' none)) ∧ (m = 0 → v' = v ∧ w' = w) := by
 have hsmall : n + m ≤ 9223372036854775807 := by simp only [maxLen] at h63; omega
 have hlen : (xs ++ news).length = (n + m) * i.size := by rw [List.length_append, hown.1, hs.newsLen, Nat.add_mul]
 have grown : ∀ (old : Nat), old < n + m →
   (w.drew.alloc (.cells ((xs ++ news).toArray ++ Builtin.zeroCells z.cells (grownCap w (n + m) old e - (n + m))) e)).ownsRow base e i.size
    (.slice (some ⟨w.heap.size, 0, none⟩) (n + m) (grownCap w (n + m) old e)) (n + m) (xs ++ news) := by
  intro old ho
  have hge := grownCap_ge w (n + m) old e
  have hcm : grownCap w (n + m) old e ≤ maxLen := grownCap_le_maxLen w (n + m) old e h63
  refine ⟨hlen, .inr ⟨w.heap.size, _, _, rfl, hbase, heap_alloc_new w.drew _, hge, hcm, ?_, ?_⟩⟩
  ·rw [Array.size_append, size_zeroCells, hzs, List.size_toArray, hlen, ← Nat.add_mul]
   congr 1
   omega
  ·rw [Array.toList_append, List.toList_toArray, ← hlen]
   exact List.take_left
 have gnone : ∀ o, w.grownBy (w.drew.alloc o) none := fun o => ⟨rfl, rfl, rfl, by simp, fun k hk _ => heap_alloc_old w.drew o k hk⟩
 by_cases hm : m = 0
 ·subst hm
  have hn0 : news = [] := List.eq_nil_of_length_eq_zero (by rw [hs.newsLen]; simp)
  subst hn0
  refine ⟨v, w, ?_, by simpa using hown, .inl ⟨rfl, ⟨rfl, rfl, rfl, Nat.le_refl _, fun _ _ _ => rfl⟩⟩, fun _ => ⟨rfl, rfl⟩⟩
  rcases hown.2 with ⟨rfl, rfl⟩ | ⟨g, cap, cur, rfl, _, _, hnc, _⟩
  ·rcases hs.kind with ⟨e', hk⟩ | hk <;> simp [Builtin.append_, run_underlying ht, run_underlying hk, sizeOf, typeInfo, hi, hs.len, hs.cells]
  ·rcases hs.kind with ⟨e', hk⟩ | hk <;> simp [Builtin.append_, run_underlying ht, run_underlying hk, sizeOf, typeInfo, hi, hs.len, hnc, hs.cells, storeCells]
 ·rcases hown.2 with ⟨rfl, rfl⟩ | ⟨g, cap, cur, rfl, hbg, hg, hnc, hcm, hcs, htake⟩
  ·have hx : xs = [] := List.eq_nil_of_length_eq_zero (by simpa using hown.1)
   subst hx
   have hold : (Builtin.firstCells i.size 0 (.slice none 0 0)).run P w.drew = .ok ([] : List Value).toArray w.drew := by simp [Builtin.firstCells]
   have hr := run_append_grow_src (P := P) w t tx ty e i z ht hi hz none 0 0 [] hold x m news hs (by omega) (by omega) (growslice_fits (by omega) hbytes)
   exact ⟨_, _, hr, grown 0 (by omega), .inr ⟨rfl, gnone _⟩, fun h => absurd h hm⟩
  ·by_cases hroom : n + m ≤ cap
   ·have hfit : n * i.size + news.length ≤ cur.size := by rw [hs.newsLen, hcs, ← Nat.add_mul]; exact Nat.mul_le_mul_right _ hroom
    have hst := run_storeCells_at P g (n * i.size) e news 0 cur w hg (by simpa using hfit) hs.one
    simp only [Nat.add_zero] at hst
    have hr : (Builtin.append_ #[t, tx] ty #[.slice (some ⟨g, 0, none⟩) n cap, x]).run P w =
      .ok (.slice (some ⟨g, 0, none⟩) (n + m) cap) (w.setRow g (cur.toList.take (n * i.size) ++ news ++ cur.toList.drop (n * i.size + news.length)).toArray) := by
     rcases hs.kind with ⟨e', hk⟩ | hk <;> simp [Builtin.append_, run_underlying ht, run_underlying hk, sizeOf, typeInfo, hi, hs.len, hroom, hs.cells, Addr.add_lit, hst]
    refine ⟨_, _, hr, ⟨hlen, .inr ⟨g, cap, _, rfl, hbg, setRow_heap w g cur _ e _ hg, hroom, hcm, ?_, ?_⟩⟩, .inl ⟨rfl, ⟨rfl, rfl, rfl, by simp, fun k _ hk => setRow_other w g k _ (fun e => hk (by simp [Value.ownBlock, e]))⟩⟩, fun h => absurd h hm⟩
    ·simp only [List.size_toArray, List.length_append, List.length_take, List.length_drop, Array.length_toList]
     omega
    ·rw [htake, ← hlen]
     exact List.take_left
   ·have holds : ∀ j u, xs[j]? = some u → w.cell? ((⟨g, 0, none⟩ : Addr).add j) = some u := hown.cells (g := g) rfl
    have hold : (Builtin.firstCells i.size n (.slice (some ⟨g, 0, none⟩) n cap)).run P w.drew = .ok xs.toArray w.drew := run_firstCells_some (P := P) w.drew i.size n ⟨g, 0, none⟩ n cap xs hown.1 (by simpa using holds)
    have hr := run_append_grow_src (P := P) w t tx ty e i z ht hi hz (some ⟨g, 0, none⟩) n cap xs hold x m news hs (by omega) (by omega) (growslice_fits (by omega) hbytes)
    exact ⟨_, _, hr, grown cap (by omega), .inr ⟨rfl, gnone _⟩, fun h => absurd h hm⟩
theorem aMa.growRow {w0 : World} {f0 : Nat → List Value} {ms : List Nat} {σ : St} {g : G} {w w' : World} (h : aMa w0 f0 ms σ g w) {r : Nat} {row : Row} {v v' : Value} {ys : List LV} {news : List Value}
  (hr : σ.rows[r]? = some row) (hp : g.phys r row.xs.length = some v) (hy : ys ≠ [])
  (hown : ∀ vs, w.ownsRow w0.heap.size row.e row.sz v row.xs.length vs → w'.ownsRow w0.heap.size row.e row.sz v' (row.xs.length + ys.length) (vs ++ news))
  (hgat : (v'.ownBlock = v.ownBlock ∧ w.grownBy w' v.ownBlock) ∨ (v'.ownBlock = some w.heap.size ∧ w.grownBy w' none)) (hn : aJa g ys row.sz news) :
  aMa w0 f0 ms { σ with rows := σ.rows.set r { row with xs := row.xs ++ ys } } (g.addPhys r (row.xs.length + ys.length) v') w' := by
 have hat : v'.ownBlock = v.ownBlock ∨ v'.ownBlock = some w.heap.size := hgat.imp (·.1) (·.1)
 have hg : w.grownBy w' v.ownBlock := by
  rcases hgat with ⟨_, hg⟩ | ⟨_, hg⟩
  ·exact hg
  ·exact ⟨hg.os, hg.tape, hg.output, hg.size, fun q hq _ => hg.block q hq (by simp)⟩
 have hrl : r < σ.rows.length := (List.getElem?_eq_some_iff.1 hr).1
 have hyl : 0 < ys.length := List.length_pos_iff.2 hy
 have hnone : g.phys r (row.xs.length + ys.length) = none := by
  cases hq : g.phys r (row.xs.length + ys.length) with
  | none => rfl
  | some u =>
   obtain ⟨row', hr', hle⟩ := h.phys _ _ _ hq
   rw [hr] at hr'; cases hr'; omega
 have hgl := g.le_addPhys r (row.xs.length + ys.length) v' (.inl hnone)
 obtain ⟨v0, vs, e1, e2, e3, e4, e5⟩ := h.row r row hr
 rw [hp] at e1; cases e1
 have hown' := hown vs e2
 have keep : ∀ q o, w.heap[q]? = some o → v.ownBlock ≠ some q → w'.heap[q]? = some o := fun q o ho hne => (hg.block q (dMa ho) (fun e => hne e.symm)).trans ho
 have hbel : Below w0.heap.size w w' := by
  refine ⟨hg.os, hg.tape, hg.output, hg.size, fun q hq => ?_⟩
  by_cases hlt : q < w.heap.size
  ·refine hg.block q hlt (fun e => ?_)
   have := (e2.lt q e.symm).1; omega
  ·have := h.below.size; omega
 have hrows : ∀ (r' : Nat) (row' : Row), (σ.rows.set r { row with xs := row.xs ++ ys })[r']? = some row' → (r' = r ∧ row' = { row with xs := row.xs ++ ys }) ∨ (r' ≠ r ∧ σ.rows[r']? = some row') := fun r' row' hr' => by
  by_cases he : r = r'
  ·subst he
   rw [List.getElem?_set_self hrl] at hr'
   exact .inl ⟨rfl, (Option.some.inj hr').symm⟩
  ·rw [List.getElem?_set_ne he] at hr'
   exact .inr ⟨fun x => he x.symm, hr'⟩
 have hphys : ∀ r' n, r' ≠ r → (g.addPhys r (row.xs.length + ys.length) v').phys r' n = g.phys r' n := fun r' n hne => by
  simp only [G.addPhys]; rw [if_neg (fun x => hne x.1)]
 have hlen : vs.length = row.xs.length * row.sz := e2.1
 exact {
  below := h.below.trans hbel
  f0 := h.f0
  fz := fun b hb => by
   obtain ⟨cs, T, fr, h1, h2⟩ := h.fz b hb
   by_cases hvb : v.ownBlock = some b
   ·have hpre : g.fz b <+: vs := (e5 b hvb).2.1
    rcases hgat with ⟨hat, _⟩ | ⟨hat, hgn⟩
    ·obtain ⟨g', cap, cur, rfl, _, k3, _, _, _, k7⟩ : ∃ g' cap cur, v' = .slice (some ⟨g', 0, none⟩) (row.xs.length + ys.length) cap ∧ w0.heap.size ≤ g' ∧ w'.heap[g']? = some (.cells cur row.e (0, 0)) ∧ row.xs.length + ys.length ≤ cap ∧ cap ≤ maxLen ∧ cur.size = cap * row.sz ∧ cur.toList.take ((row.xs.length + ys.length) * row.sz) = vs ++ news := by
      rcases hown'.2 with ⟨_, hz⟩ | hx
      ·omega
      ·exact hx
     have : g' = b := by rw [hvb] at hat; simpa [Value.ownBlock] using hat
     subst this
     refine ⟨cur, row.e, (0, 0), k3, hpre.trans ?_⟩
     refine (List.prefix_append vs news).trans ?_
     rw [← k7]; exact List.take_prefix _ _
    ·exact ⟨cs, T, fr, (hgn.block b (dMa h1) (by simp)).trans h1, h2⟩
   ·exact ⟨cs, T, fr, keep b _ h1 hvb, h2⟩
  boxl := h.boxl
  box := fun i cells q c1 c2 => by
   obtain ⟨h3, h4, cs2, T2, h5, h6, h7⟩ := h.box i cells q c1 c2
   exact ⟨h3, h4, cs2, T2, keep q _ h5 (fun hx => (e5 q hx).1 (List.mem_iff_getElem?.2 ⟨i, c2⟩)), aIa hgl _ _ h6, h7⟩
  pend := h.pend
  nodup := h.nodup
  row := fun r' row' hr' => by
   rcases hrows r' row' hr' with ⟨rfl, rfl⟩ | ⟨hne, hr''⟩
   ·refine ⟨v', vs ++ news, by simp [G.addPhys], by simpa using hown', aVa hgl _ _ _ _ (List.prefix_refl _) (eJa e3 hlen hn), e4, fun q hq => ?_⟩
    rcases hat with hat | hat
    ·obtain ⟨f1, f2, f3⟩ := e5 q (hat ▸ hq)
     exact ⟨f1, f2.trans (List.prefix_append _ _), f3⟩
    ·rw [hat] at hq
     have hq' : q = w.heap.size := (Option.some.inj hq).symm
     subst hq'
     have hf : g.fz w.heap.size = [] := h.fz_new (Nat.le_refl _)
     refine ⟨fun hm => ?_, by show g.fz w.heap.size <+: _; rw [hf]; exact List.nil_prefix, fun _ => hf⟩
     have := h.box_lt hm; omega
   ·obtain ⟨v2, vs2, c1, c2, c3, c4, c5⟩ := h.row r' row' hr''
    refine ⟨v2, vs2, by rw [hphys r' _ hne]; exact c1, c2.kept hg ?_, aVa hgl _ _ _ _ (List.prefix_refl _) c3, c4, c5⟩
    rcases h.apart r' r row' row v2 v hne hr'' hr c1 hp with hx | hx
    ·exact .inl hx
    ·exact .inr hx
  apart := fun r1 r2 row1 row2 u1 u2 hne h1 h2 p1 p2 => by
   rcases hrows r1 row1 h1 with ⟨rfl, rfl⟩ | ⟨hn1, h1'⟩
   ·rcases hrows r2 row2 h2 with ⟨rfl, rfl⟩ | ⟨hn2, h2'⟩
    ·exact absurd rfl hne
    ·rw [hphys r2 _ hn2] at p2
     simp [G.addPhys] at p1
     subst p1
     obtain ⟨v3, vs3, c1, c2, _⟩ := h.row r2 row2 h2'
     rw [p2] at c1; cases c1
     rcases hat with hat | hat
     ·rw [hat]; exact h.apart r1 r2 row row2 v u2 hne hr h2' hp p2
     ·rw [hat]
      refine .inr fun he => ?_
      have := (c2.lt _ he.symm).2; omega
   ·rw [hphys r1 _ hn1] at p1
    rcases hrows r2 row2 h2 with ⟨rfl, rfl⟩ | ⟨hn2, h2'⟩
    ·simp [G.addPhys] at p2
     subst p2
     obtain ⟨v3, vs3, c1, c2, _⟩ := h.row r1 row1 h1'
     rw [p1] at c1; cases c1
     rcases hat with hat | hat
     ·rw [hat]; exact h.apart r1 r2 row1 row u1 v hne h1' hr p1 hp
     ·rw [hat]
      cases hu : u1.ownBlock with
      | none => exact .inl rfl
      | some q =>
       refine .inr fun he => ?_
       have := (c2.lt q hu).2
       have : q = w.heap.size := Option.some.inj he
       omega
    ·rw [hphys r2 _ hn2] at p2
     exact h.apart r1 r2 row1 row2 u1 u2 hne h1' h2' p1 p2
  phys := fun r' n u hu => by
   by_cases hc : r' = r ∧ n = row.xs.length + ys.length
   ·obtain ⟨rfl, rfl⟩ := hc
    exact ⟨_, List.getElem?_set_self hrl, by simp⟩
   ·simp only [G.addPhys] at hu
    rw [if_neg hc] at hu
    obtain ⟨row', hr', hle⟩ := h.phys r' n u hu
    by_cases he : r = r'
    ·subst he
     rw [hr] at hr'; cases hr'
     exact ⟨_, List.getElem?_set_self hrl, by simp; omega⟩
    ·exact ⟨row', by rw [List.getElem?_set_ne he]; exact hr', hle⟩
  loopl := h.loopl
  loop := fun l lr q c1 c2 => by
   obtain ⟨h3, rec, h4, h5⟩ := h.loop l lr q c1 c2
   refine ⟨h3, rec, keep q _ h4 (fun hx => ?_), bVa hgl h5⟩
   rcases e2.2 with ⟨rfl, _⟩ | ⟨g', cap, cur, rfl, _, k3, _⟩
   ·simp [Value.ownBlock] at hx
   ·simp [Value.ownBlock] at hx; subst hx; rw [k3] at h4; cases h4
  lnodup := h.lnodup
  mapl := h.mapl
  map := fun m q p c1 c2 => by
   obtain ⟨h3, es, c, h4, h5, h6⟩ := h.map m q p c1 c2
   refine ⟨h3, es, c, keep p _ h4 (fun hx => ?_), aIa hgl _ _ h5, aIa hgl _ _ h6⟩
   rcases e2.2 with ⟨rfl, _⟩ | ⟨g', cap, cur, rfl, _, k3, _⟩
   ·simp [Value.ownBlock] at hx
   ·simp [Value.ownBlock] at hx; subst hx; rw [k3] at h4; cases h4
  qnodup := h.qnodup
  marks := fun q hq => by
   obtain ⟨m1, m2⟩ := h.marks q hq
   refine ⟨m1, keep q _ m2 (fun hx => ?_)⟩
   rcases e2.2 with ⟨rfl, _⟩ | ⟨g', cap, cur, rfl, _, k3, _⟩
   ·simp [Value.ownBlock] at hx
   ·simp [Value.ownBlock] at hx; subst hx; rw [k3] at m2; cases m2
  mnodup := h.mnodup }
def G.addFz (g : G) (k : Nat) (vs : List Value) : G := { g with fz := fun b => if b = k then vs else g.fz b }
structure G.only (w0 : World) (g g' : G) : Prop where
 fz : ∀ b, g.fz b <+: g'.fz b
 low : ∀ b, b < w0.heap.size → g'.fz b = g.fz b
 box : g'.box = g.box
 phys : g'.phys = g.phys
 loop : g'.loop = g.loop
 map : g'.map = g.map
theorem G.only.le {w0 : World} {g g' : G} (h : g.only w0 g') : g.le g' :=
 ⟨h.fz, by rw [h.box]; exact List.prefix_refl _, fun r n v e => by rw [h.phys]; exact e, by rw [h.loop]; exact List.prefix_refl _, by rw [h.map]; exact List.prefix_refl _⟩
theorem G.only.refl (w0 : World) (g : G) : g.only w0 g := ⟨fun _ => List.prefix_refl _, fun _ _ => rfl, rfl, rfl, rfl, rfl⟩
theorem G.only.trans {w0 : World} {a b c : G} (h : a.only w0 b) (k : b.only w0 c) : a.only w0 c :=
 ⟨fun x => (h.fz x).trans (k.fz x), fun x hx => (k.low x hx).trans (h.low x hx), k.box.trans h.box, k.phys.trans h.phys, k.loop.trans h.loop, k.map.trans h.map⟩
theorem mBb (σ : St) (rs : List Nat) : ∀ (r : Nat) (row : Row), (gVa σ rs).rows[r]? = some row → ∃ row0, σ.rows[r]? = some row0 ∧ row0.xs = row.xs ∧ row0.e = row.e ∧ row0.sz = row.sz ∧ (row.wr = true → row0.wr = true ∧ row = row0) := by
 induction rs generalizing σ with
 | nil => intro r row h; exact ⟨row, h, rfl, rfl, rfl, fun h => ⟨h, rfl⟩⟩
 | cons q rs ih =>
  intro r row h
  simp only [gVa] at h
  obtain ⟨row1, h1, h2, h3, h4, h5⟩ := ih _ r row h
  cases hq : σ.rows[q]? with
  | none => simp only [hq] at h1; exact ⟨row1, h1, h2, h3, h4, h5⟩
  | some row2 =>
   simp only [hq] at h1
   by_cases he : q = r
   ·subst he
    rw [List.getElem?_set_self (List.getElem?_eq_some_iff.1 hq).1] at h1
    cases h1
    exact ⟨row2, hq, h2, h3, h4, fun hw => by have := h5 hw; simp at this⟩
   ·rw [List.getElem?_set_ne he] at h1
    exact ⟨row1, h1, h2, h3, h4, h5⟩
theorem jWb (σ : St) (rs : List Nat) : ∀ (r : Nat) (row0 : Row), σ.rows[r]? = some row0 → ∃ row, (gVa σ rs).rows[r]? = some row ∧ row.xs = row0.xs ∧ row.e = row0.e ∧ row.sz = row0.sz ∧ (r ∉ rs → row = row0) := by
 induction rs generalizing σ with
 | nil => intro r row h; exact ⟨row, h, rfl, rfl, rfl, fun _ => rfl⟩
 | cons q rs ih =>
  intro r row0 h
  simp only [gVa]
  cases hq : σ.rows[q]? with
  | none =>
   obtain ⟨row, k1, k2, k3, k4, k5⟩ := ih { σ with rows := σ.rows } r row0 h
   exact ⟨row, k1, k2, k3, k4, fun hr => k5 (fun x => hr (List.mem_cons_of_mem _ x))⟩
  | some row2 =>
   by_cases he : q = r
   ·subst he
    rw [h] at hq; cases hq
    obtain ⟨row, k1, k2, k3, k4, k5⟩ := ih { σ with rows := σ.rows.set q { row0 with wr := false } } q { row0 with wr := false } (List.getElem?_set_self (List.getElem?_eq_some_iff.1 h).1)
    exact ⟨row, k1, k2, k3, k4, fun hr => absurd List.mem_cons_self hr⟩
   ·obtain ⟨row, k1, k2, k3, k4, k5⟩ := ih { σ with rows := σ.rows.set q { row2 with wr := false } } r row0 (by rw [List.getElem?_set_ne he]; exact h)
    exact ⟨row, k1, k2, k3, k4, fun hr => k5 (fun x => hr (List.mem_cons_of_mem _ x))⟩
theorem oKb (σ : St) (rs : List Nat) : (gVa σ rs).boxes = σ.boxes := by
 induction rs generalizing σ with
 | nil => rfl
 | cons q rs ih => simp only [gVa]; rw [ih]
theorem oLb (σ : St) (rs : List Nat) : (gVa σ rs).loops = σ.loops := by
 induction rs generalizing σ with
 | nil => rfl
 | cons q rs ih => simp only [gVa]; rw [ih]
theorem vUa (σ : St) (rs : List Nat) : (gVa σ rs).maps = σ.maps := by
 induction rs generalizing σ with
 | nil => rfl
 | cons q rs ih => simp only [gVa]; rw [ih]
theorem qAb (σ : St) (rs : List Nat) : (gVa σ rs).rows.length = σ.rows.length := by
 induction rs generalizing σ with
 | nil => rfl
 | cons q rs ih => simp only [gVa]; rw [ih]; split <;> simp
theorem cSa (b o n : Nat) : (⟨b, o, none⟩ : Addr).add n = ⟨b, o + n, none⟩ := by
 unfold Addr.add; split
 ·rename_i h; subst h; rfl
 ·rfl
theorem gDa {g : G} : ∀ {xs : List LV} {sz : Nat} {vs : List Value} (n : Nat), aJa g xs sz vs → aJa g (xs.drop n) sz (vs.drop (n * sz))
 | xs, sz, vs, 0, h => by simpa using h
 | [], sz, vs, n + 1, h => by simp [aJa]
 | x :: xs, sz, vs, n + 1, h => by
  simp only [aJa] at h
  have := gDa n h.2
  rw [List.drop_drop] at this
  have e1 : (n + 1) * sz = sz + n * sz := by rw [Nat.add_mul]; omega
  rw [e1]; simpa using this
theorem kCa {g : G} : ∀ {xs : List LV} {sz : Nat} {vs : List Value} (n : Nat), aJa g xs sz vs → aJa g (xs.take n) sz vs
 | xs, sz, vs, 0, h => by simp [aJa]
 | [], sz, vs, n + 1, h => by simp [aJa]
 | x :: xs, sz, vs, n + 1, h => by
  simp only [aJa] at h
  simp only [List.take_succ_cons, aJa]
  exact ⟨h.1, kCa n h.2⟩
def jBa (g g' : G) (σ : St) (r : Nat) : Prop := ∀ (row : Row) (v : Value), σ.rows[r]? = some row → g.phys r row.xs.length = some v →
 ∃ a cap, v = .slice a row.xs.length cap ∧ row.xs.length ≤ cap ∧ (row.xs = [] ∨ ∃ b, 0 < row.sz ∧ a = some ⟨b, 0, none⟩ ∧ aJa g' row.xs row.sz (g'.fz b))
theorem jBa.slice {g g' : G} {σ : St} {r : Nat} (h : jBa g g' σ r) {row : Row} {v : Value} (hr : σ.rows[r]? = some row) (hp : g.phys r row.xs.length = some v) : aEa g' (.slice row.xs) v := by
 obtain ⟨a, cap, h1, h2, h3⟩ := h row v hr hp
 simp only [aEa]
 refine ⟨a, cap, h1, h2, ?_⟩
 rcases h3 with h3 | ⟨b, k1, k2, k3⟩
 ·exact .inl h3
 ·exact .inr ⟨b, 0, row.sz, k1, k2, by simpa using k3⟩
theorem jBa.part {g g' : G} {σ : St} {r : Nat} (h : jBa g g' σ r) {row : Row} {lo hi : Nat} {v : Value} (hr : σ.rows[r]? = some row) (hv : aEa g (.mview r row.xs.length lo hi row.sz) v) : aEa g' (.slice ((row.xs.drop lo).take (hi - lo))) v := by
 simp only [aEa] at hv
 obtain ⟨a, cap, a', h1, rfl, h3, h4, h5⟩ := hv
 obtain ⟨a2, cap2, e1, e2, e3⟩ := h row _ hr h1
 cases e1
 have hlen : ((row.xs.drop lo).take (hi - lo)).length = hi - lo := by rw [List.length_take, List.length_drop]; omega
 simp only [aEa]
 refine ⟨a', cap - lo, by rw [hlen], by omega, ?_⟩
 by_cases hz : hi - lo = 0
 ·exact .inl (List.eq_nil_of_length_eq_zero (by rw [hlen]; exact hz))
 ·rcases e3 with e3 | ⟨b, k1, rfl, k3⟩
  ·rw [e3] at h4; simp at h4; omega
  ·refine .inr ⟨b, lo * row.sz, row.sz, k1, ?_, kCa _ (gDa _ k3)⟩
   rw [h5 (by omega)]
   simp [cSa]
theorem aMa.freeze1 {w0 : World} {f0 : Nat → List Value} {ms : List Nat} {σ : St} {g : G} {w : World} (h : aMa w0 f0 ms σ g w) {r : Nat} {row : Row} (hr : σ.rows[r]? = some row) :
  ∃ g', g.only w0 g' ∧ aMa w0 f0 ms { σ with rows := σ.rows.set r { row with wr := false } } g' w ∧ ∀ v, g.phys r row.xs.length = some v → ∃ a cap, v = .slice a row.xs.length cap ∧ row.xs.length ≤ cap ∧ (row.xs = [] ∨ ∃ b, 0 < row.sz ∧ a = some ⟨b, 0, none⟩ ∧ aJa g' row.xs row.sz (g'.fz b)) := by
 obtain ⟨v, vs, e1, e2, e3, e4, e5⟩ := h.row r row hr
 have hrl : r < σ.rows.length := (List.getElem?_eq_some_iff.1 hr).1
 have hrows : ∀ (r' : Nat) (row' : Row), (σ.rows.set r { row with wr := false })[r']? = some row' → ∃ row0, σ.rows[r']? = some row0 ∧ row0.xs = row'.xs ∧ row0.e = row'.e ∧ row0.sz = row'.sz ∧ (row'.wr = true → row0.wr = true ∧ r' ≠ r) := fun r' row' hr' => by
  by_cases he : r = r'
  ·subst he
   rw [List.getElem?_set_self hrl] at hr'
   cases hr'
   exact ⟨row, hr, rfl, rfl, rfl, fun h => by simp at h⟩
  ·rw [List.getElem?_set_ne he] at hr'
   exact ⟨row', hr', rfl, rfl, rfl, fun h => ⟨h, fun x => he x.symm⟩⟩
 have main : ∀ g' : G, g.only w0 g' → (∀ b, g'.fz b = g.fz b ∨ (v.ownBlock = some b ∧ g'.fz b = vs)) → sPa g' w →
   aMa w0 f0 ms { σ with rows := σ.rows.set r { row with wr := false } } g' w := fun g' hg hb hfz => {
  below := h.below
  f0 := fun b hb' => (hg.low b hb').trans (h.f0 b hb')
  fz := hfz
  boxl := by rw [hg.box]; exact h.boxl
  box := fun i cells q c1 c2 => by
   rw [hg.box] at c2
   obtain ⟨h3, h4, cs2, T2, h5, h6, h7⟩ := h.box i cells q c1 c2
   refine ⟨h3, ?_, cs2, T2, h5, aIa hg.le _ _ h6, h7⟩
   rcases hb q with hb | ⟨hb, _⟩
   ·rw [hb]; exact h4
   ·exact absurd (List.mem_iff_getElem?.2 ⟨i, c2⟩) (e5 q hb).1
  pend := fun i cells c1 => h.pend i cells (by rw [← hg.box]; exact c1)
  nodup := by rw [hg.box]; exact h.nodup
  row := fun r' row' hr' => by
   obtain ⟨row0, k1, k2, k3, k4, k5⟩ := hrows r' row' hr'
   obtain ⟨v2, vs2, c1, c2, c3, c4, c5⟩ := h.row r' row0 k1
   refine ⟨v2, vs2, by rw [hg.phys, ← k2]; exact c1, by rw [← k2, ← k3, ← k4]; exact c2, by rw [← k2, ← k4]; exact aVa hg.le _ _ _ _ (List.prefix_refl _) c3, by rw [← k4]; exact c4, fun q hq => ?_⟩
   obtain ⟨f1, f2, f3⟩ := c5 q hq
   rcases hb q with hb | ⟨hb, hb2⟩
   ·exact ⟨by rw [hg.box]; exact f1, by rw [hb]; exact f2, fun hw => by rw [hb]; exact f3 (k5 hw).1⟩
   ·by_cases hrr : r' = r
    ·subst hrr
     rw [hr] at k1; cases k1
     rw [e1] at c1; cases c1
     have hvs : vs2 = vs := by
      rcases c2.2 with ⟨rfl, _⟩ | ⟨g1, cap1, cur1, rfl, _, d1, _, _, _, d2⟩
      ·simp [Value.ownBlock] at hq
      ·rcases e2.2 with ⟨hc, _⟩ | ⟨g2, cap2, cur2, hv, _, d3, _, _, _, d4⟩
       ·cases hc
       ·injection hv with hv1 hv2 hv3
        have : g1 = g2 := by injection hv1 with hv1; injection hv1
        subst this
        rw [d1] at d3; cases d3
        rw [← d2, ← d4]
     subst hvs
     exact ⟨by rw [hg.box]; exact f1, by rw [hb2]; exact List.prefix_refl _, fun hw => absurd rfl (k5 hw).2⟩
    ·rcases h.apart r' r row0 row v2 v hrr k1 hr c1 e1 with hx | hx
     ·rw [hx] at hq; cases hq
     ·exact absurd (hq.trans hb.symm) hx
  apart := fun r1 r2 row1 row2 u1 u2 hne h1 h2 p1 p2 => by
   obtain ⟨row01, k1, k2, _⟩ := hrows r1 row1 h1
   obtain ⟨row02, m1, m2, _⟩ := hrows r2 row2 h2
   rw [hg.phys, ← k2] at p1
   rw [hg.phys, ← m2] at p2
   exact h.apart r1 r2 row01 row02 u1 u2 hne k1 m1 p1 p2
  phys := fun r' n u hu => by
   rw [hg.phys] at hu
   obtain ⟨row', hr', hle⟩ := h.phys r' n u hu
   by_cases he : r = r'
   ·subst he
    rw [hr] at hr'; cases hr'
    exact ⟨_, List.getElem?_set_self hrl, hle⟩
   ·exact ⟨row', by rw [List.getElem?_set_ne he]; exact hr', hle⟩
  loopl := by rw [hg.loop]; exact h.loopl
  loop := fun l lr q c1 c2 => by
   rw [hg.loop] at c2
   obtain ⟨h3, rec, h4, h5⟩ := h.loop l lr q c1 c2
   exact ⟨h3, rec, h4, bVa hg.le h5⟩
  lnodup := by rw [hg.loop]; exact h.lnodup
  mapl := by rw [hg.map]; exact h.mapl
  map := fun m q p c1 c2 => by
   rw [hg.map] at c2
   obtain ⟨h3, es, c, h4, h5, h6⟩ := h.map m q p c1 c2
   exact ⟨h3, es, c, h4, aIa hg.le _ _ h5, aIa hg.le _ _ h6⟩
  qnodup := by rw [hg.map]; exact h.qnodup
  marks := h.marks
  mnodup := h.mnodup }
 rcases e2.2 with ⟨rfl, hz⟩ | ⟨k, cap, cur, rfl, hk0, hk, hnc, hcm, hcs, htake⟩
 ·refine ⟨g, G.only.refl w0 g, main g (G.only.refl w0 g) (fun _ => .inl rfl) h.fz, fun u hu => ?_⟩
  rw [e1] at hu; cases hu
  exact ⟨none, 0, by rw [hz], by omega, .inl (List.eq_nil_of_length_eq_zero hz)⟩
 ·have hpre : g.fz k <+: vs := (e5 k rfl).2.1
  have ho : g.only w0 (g.addFz k vs) := by
   refine ⟨fun b => ?_, fun b hb => ?_, rfl, rfl, rfl, rfl⟩
   ·simp only [G.addFz]; split
    ·rename_i hb; subst hb; exact hpre
    ·exact List.prefix_refl _
   ·simp only [G.addFz]; rw [if_neg (by omega)]
  refine ⟨g.addFz k vs, ho, main _ ho (fun b => ?_) (fun b hb => ?_), fun u hu => ?_⟩
  ·by_cases hbk : b = k
   ·subst hbk; exact .inr ⟨rfl, by simp [G.addFz]⟩
   ·exact .inl (by simp [G.addFz, hbk])
  ·by_cases hbk : b = k
   ·subst hbk
    refine ⟨cur, row.e, (0, 0), hk, ?_⟩
    simp only [G.addFz, if_true]
    rw [← htake]; exact List.take_prefix _ _
   ·simp only [G.addFz, if_neg hbk] at hb ⊢
    exact h.fz b hb
  ·rw [e1] at hu; cases hu
   refine ⟨_, cap, rfl, hnc, ?_⟩
   refine .inr ⟨k, e4, rfl, ?_⟩
   simp only [G.addFz, if_true]
   exact aVa ho.le _ _ _ _ (List.prefix_refl _) e3
theorem aMa.freeze {w0 : World} {f0 : Nat → List Value} {ms : List Nat} {w : World} : ∀ (rs : List Nat) {σ : St} {g : G}, aMa w0 f0 ms σ g w →
  ∃ g', g.only w0 g' ∧ aMa w0 f0 ms (gVa σ rs) g' w ∧ ∀ r ∈ rs, jBa g g' σ r
 | [], σ, g, h => ⟨g, G.only.refl w0 g, h, by simp⟩
 | r :: rs, σ, g, h => by
  cases hr : σ.rows[r]? with
  | none =>
   obtain ⟨g', h1, h2, h3⟩ := aMa.freeze rs h
   refine ⟨g', h1, by simp only [gVa, hr]; exact h2, fun q hq => ?_⟩
   rcases List.mem_cons.1 hq with rfl | hq
   ·intro row v hrow; rw [hr] at hrow; cases hrow
   ·exact h3 q hq
  | some row =>
   obtain ⟨g1, h1, h2, h3⟩ := h.freeze1 hr
   obtain ⟨g', k1, k2, k3⟩ := aMa.freeze rs h2
   refine ⟨g', h1.trans k1, by simp only [gVa, hr]; exact k2, fun q hq => ?_⟩
   by_cases he : q = r
   ·subst he
    intro row' v hrow hp
    rw [hr] at hrow; cases hrow
    obtain ⟨a, cap, c1, c2, c3⟩ := h3 v hp
    exact ⟨a, cap, c1, c2, c3.imp id fun ⟨b, d1, d2, d3⟩ => ⟨b, d1, d2, aVa k1.le _ _ _ _ (k1.fz b) d3⟩⟩
   ·rcases List.mem_cons.1 hq with rfl | hq
    ·exact absurd rfl he
    ·intro row' v hrow hp
     exact k3 q hq row' v (by rw [List.getElem?_set_ne (fun x => he x.symm)]; exact hrow) (by rw [h1.phys]; exact hp)
mutual
theorem hFa {g g' : G} {σ : St} (hg : g.le g') : ∀ (x : LV) (v : Value), (∀ r ∈ aQa x, jBa g g' σ r) → aEa g x v → aEa g' (bIa σ x) v
 | .mref r n, v, hf, hr => by
  simp only [bIa]
  cases hrow : σ.rows[r]? with
  | none => simp [aEa]
  | some row =>
   simp only
   split
   ·rename_i hn
    simp only [aEa] at hr
    exact (hf r (by simp [aQa])).slice hrow (by rw [hn]; exact hr.1)
   ·simp [aEa]
 | .mview r n lo hi sz, v, hf, hr => by
  simp only [bIa]
  cases hrow : σ.rows[r]? with
  | none => simp [aEa]
  | some row =>
   simp only
   split
   ·rename_i hn
    obtain ⟨rfl, rfl, h1, h2⟩ := hn
    exact (hf r (by simp [aQa])).part hrow hr
   ·simp [aEa]
 | .mapr m, v, _, hr => cFa hg _ _ hr
 | .nils, v, _, hr => by
  simp only [aEa] at hr
  subst hr
  simp only [bIa, aEa]
  exact ⟨none, 0, rfl, Nat.le_refl _, .inl trivial⟩
 | .agg cs, v, hf, hr => by
  simp only [aEa] at hr
  simp only [bIa, aEa]
  obtain ⟨arr, h1, h2, h3⟩ := hr
  exact ⟨arr, h1, fWa hg cs _ (fun r hr => hf r (by simpa [aQa] using hr)) h2, h3⟩
 | .tuple vs, v, hf, hr => by
  simp only [aEa] at hr
  simp only [bIa, aEa]
  obtain ⟨arr, h1, h2⟩ := hr
  exact ⟨arr, h1, fWa hg vs _ (fun r hr => hf r (by simpa [aQa] using hr)) h2⟩
 | .func fn fst caps, v, hf, hr => by
  simp only [aEa] at hr
  simp only [bIa, aEa]
  obtain ⟨fn', f', c', h1, h2, h3, h4⟩ := hr
  exact ⟨fn', f', c', h1, nSa hg.loop h2, fWa hg fst _ (fun r hr => hf r (by simp [aQa, hr])) h3, fWa hg caps _ (fun r hr => hf r (by simp [aQa, hr])) h4⟩
 | .undef, v, _, hr => cFa hg _ _ hr
 | .sc u, v, _, hr => cFa hg _ _ hr
 | .slice es, v, _, hr => cFa hg _ _ hr
 | .nslice es, v, _, hr => by
  have := cFa hg _ _ hr
  simp only [aEa] at this
  obtain ⟨a, cap, h1, h2, h3⟩ := this
  simp only [bIa, aEa]
  exact ⟨some a, cap, h1, h2, h3⟩
 | .bptr b off, v, _, hr => cFa hg _ _ hr
 | .pptr cs, v, _, hr => cFa hg _ _ hr
 | .rptr r n i sz off, v, _, hr => cFa hg _ _ hr
theorem fWa {g g' : G} {σ : St} (hg : g.le g') : ∀ (xs : List LV) (vs : List Value), (∀ r ∈ aQa.rowsInL xs, jBa g g' σ r) → aBa g xs vs → aBa g' (bIa.frzL σ xs) vs
 | [], vs, _, hr => by simpa [bIa.frzL, aBa] using hr
 | x :: xs, vs, hf, hr => by
  simp only [aBa] at hr
  simp only [bIa.frzL, aBa]
  obtain ⟨v, vs', h1, h2, h3⟩ := hr
  exact ⟨v, vs', h1, hFa hg x _ (fun r hr => hf r (by simp [aQa.rowsInL, hr])) h2, fWa hg xs _ (fun r hr => hf r (by simp [aQa.rowsInL, hr])) h3⟩
end
end Go.Proofs.YtpeaaophmddhnaaGreat.LI
namespace Go.Proofs.YtpeaaophmddhnaaGreat.LI
open Go Go.RowKit
set_option linter.unusedSimpArgs false
set_option linter.unusedVariables false
theorem wVa {g : G} : ∀ {xs : List LV} {sz : Nat} {vs : List Value}, aJa g xs sz vs → vs.length = xs.length * sz → ∀ {i : Nat} {x : LV} {u : Value}, i < xs.length → aEa g x u → (u.cells.size = sz ∧ ∀ c ∈ u.cells.toList, c.oneCell' = true) →
  aJa g (xs.set i x) sz (vs.take (i * sz) ++ u.cells.toList ++ vs.drop (i * sz + sz))
 | [], sz, vs, h, hl, i, x, u, hi, hx, hu => by simp at hi
 | y :: xs, sz, vs, h, hl, i, x, u, hi, hx, hu => by
  simp only [aJa] at h
  obtain ⟨⟨u0, h1, h2, h3⟩, h4⟩ := h
  have hge : sz ≤ vs.length := by rw [hl, List.length_cons, Nat.add_mul]; omega
  have hlen : u.cells.toList.length = sz := by rw [Array.length_toList, hu.1]
  cases i with
  | zero =>
   simp only [List.set_cons_zero, aJa, Nat.zero_mul, List.take_zero, List.nil_append, Nat.zero_add]
   refine ⟨⟨u, hx, by rw [List.take_append_of_le_length (by omega), List.take_of_length_le (by omega)], hu⟩, ?_⟩
   rw [List.drop_append_of_le_length (by omega), List.drop_of_length_le (by omega), List.nil_append]
   exact h4
  | succ i =>
   simp only [List.set_cons_succ, aJa]
   have hi' : i < xs.length := by simpa using hi
   have hd : (vs.drop sz).length = xs.length * sz := by rw [List.length_drop, hl, List.length_cons, Nat.add_mul]; omega
   have key := wVa h4 hd (i := i) (x := x) (u := u) hi' hx hu
   have e1 : (i + 1) * sz = sz + i * sz := by rw [Nat.add_mul]; omega
   refine ⟨⟨u0, h1, ?_, h3⟩, ?_⟩
   ·rw [List.append_assoc, List.take_append_of_le_length (by rw [List.length_take, e1]; omega), List.take_take, h2, e1]
    congr 1; omega
   ·rw [List.append_assoc, List.drop_append_of_le_length (by rw [List.length_take, e1]; omega)]
    have a1 : (vs.take ((i + 1) * sz)).drop sz = (vs.drop sz).take (i * sz) := by
     rw [List.drop_take, e1]; congr 1; omega
    have a2 : vs.drop ((i + 1) * sz + sz) = (vs.drop sz).drop (i * sz + sz) := by
     rw [List.drop_drop, e1]; congr 1; omega
    rw [a1, a2, ← List.append_assoc]
    exact key
theorem fBa {g : G} : ∀ {xs : List LV} {sz : Nat} {vs : List Value} {lo : Nat}, aJa g xs sz vs → vs.length = xs.length * sz → lo ≤ xs.length → aJa g (xs.take lo) sz (vs.take (lo * sz))
 | xs, sz, vs, 0, _, _, _ => by simp [aJa]
 | [], sz, vs, n + 1, _, _, h => by simp at h
 | x :: xs, sz, vs, n + 1, h, hl, hle => by
  simp only [aJa] at h
  obtain ⟨⟨u, h1, h2, h3⟩, h4⟩ := h
  have hge : sz ≤ vs.length := by rw [hl, List.length_cons, Nat.add_mul]; omega
  have e1 : (n + 1) * sz = sz + n * sz := by rw [Nat.add_mul]; omega
  simp only [List.take_succ_cons, aJa]
  refine ⟨⟨u, h1, ?_, h3⟩, ?_⟩
  ·rw [e1, List.take_take, Nat.min_eq_left (by omega)]; exact h2
  ·rw [e1, List.drop_take, show sz + n * sz - sz = n * sz from by omega]
   exact fBa h4 (by rw [List.length_drop, hl, List.length_cons, Nat.add_mul]; omega) (by simpa using hle)
theorem aMa.setXs {w0 : World} {f0 : Nat → List Value} {ms : List Nat} {σ : St} {g : G} {w : World} (h : aMa w0 f0 ms σ g w) {r k cap : Nat} {row : Row} {xs' : List LV} {cur cur' : Array Value}
  (hr : σ.rows[r]? = some row) (hw : row.wr = true) (hp : g.phys r row.xs.length = some (.slice (some ⟨k, 0, none⟩) row.xs.length cap)) (hl : xs'.length = row.xs.length)
  (hk : w.heap[k]? = some (.cells cur row.e (0, 0))) (hsz : cur'.size = cur.size) (hx : aJa g xs' row.sz (cur'.toList.take (row.xs.length * row.sz))) :
  aMa w0 f0 ms { σ with rows := σ.rows.set r { row with xs := xs' } } g (w.setRow k cur') := by
 obtain ⟨v, vs, e1, e2, e3, e4, e5⟩ := h.row r row hr
 rw [hp] at e1; cases e1
 have hrl : r < σ.rows.length := (List.getElem?_eq_some_iff.1 hr).1
 obtain ⟨f1, f2, f3⟩ := e5 k rfl
 have hfk := f3 hw
 have ht := pXa.setRow w k cur'
 have hk0 : w0.heap.size ≤ k := (e2.lt k rfl).1
 obtain ⟨hnc, hcm, hcs⟩ : row.xs.length ≤ cap ∧ cap ≤ maxLen ∧ cur.size = cap * row.sz := by
  rcases e2.2 with ⟨hc, _⟩ | ⟨g1, cap1, cur1, hv, _, d1, d2, d3, d4, d5⟩
  ·cases hc
  ·injection hv with hv1 hv2 hv3
   subst hv3
   have : k = g1 := by injection hv1 with hv1; injection hv1
   subst this
   rw [hk] at d1; cases d1
   exact ⟨d2, d3, d4⟩
 have hcl : row.xs.length * row.sz ≤ cur'.toList.length := by rw [Array.length_toList, hsz, hcs]; exact Nat.mul_le_mul_right _ hnc
 have hrows : ∀ (r' : Nat) (row' : Row), (σ.rows.set r { row with xs := xs' })[r']? = some row' → (r' = r ∧ row' = { row with xs := xs' }) ∨ (r' ≠ r ∧ σ.rows[r']? = some row') := fun r' row' hr' => by
  by_cases he : r = r'
  ·subst he
   rw [List.getElem?_set_self hrl] at hr'
   exact .inl ⟨rfl, (Option.some.inj hr').symm⟩
  ·rw [List.getElem?_set_ne he] at hr'
   exact .inr ⟨fun x => he x.symm, hr'⟩
 exact {
  below := h.below.trans (ht.below hk0)
  f0 := h.f0
  fz := h.fz.touch ht (fun hn => absurd hfk hn)
  boxl := h.boxl
  box := fun j cells q c1 c2 => by
   obtain ⟨h3, h4, cs2, T2, h5, h6, h7⟩ := h.box j cells q c1 c2
   have hne : q ≠ k := by rintro rfl; exact f1 (List.mem_iff_getElem?.2 ⟨j, c2⟩)
   exact ⟨h3, h4, cs2, T2, (ht.block q hne).trans h5, h6, h7⟩
  pend := h.pend
  nodup := h.nodup
  row := fun r' row' hr' => by
   rcases hrows r' row' hr' with ⟨rfl, rfl⟩ | ⟨hne, hr''⟩
   ·refine ⟨_, cur'.toList.take (row.xs.length * row.sz), by simpa [hl] using hp, ?_, hx, e4, fun q hq => ?_⟩
    ·refine ⟨by simp only [List.length_take, hl]; omega, .inr ⟨k, cap, _, by simp [hl], hk0, dAa w k cur _ row.e _ hk, by simpa [hl] using hnc, hcm, ?_, ?_⟩⟩
     ·rw [hsz, hcs]
     ·simp only [hl]
    ·cases hq
     exact ⟨f1, by rw [hfk]; exact List.nil_prefix, fun _ => hfk⟩
   ·obtain ⟨v2, vs2, c1, c2, c3, c4, c5⟩ := h.row r' row' hr''
    refine ⟨v2, vs2, c1, iKa c2 ht (fun hx => ?_), c3, c4, c5⟩
    rcases h.apart r' r row' row v2 _ hne hr'' hr c1 hp with hy | hy
    ·rw [hy] at hx; cases hx
    ·exact hy hx
  apart := fun r1 r2 row1 row2 u1 u2 hne h1 h2 p1 p2 => by
   have n1 : ∃ row0, σ.rows[r1]? = some row0 ∧ row0.xs.length = row1.xs.length := by
    rcases hrows r1 row1 h1 with ⟨rfl, rfl⟩ | ⟨_, h1'⟩
    ·exact ⟨row, hr, hl.symm⟩
    ·exact ⟨row1, h1', rfl⟩
   have n2 : ∃ row0, σ.rows[r2]? = some row0 ∧ row0.xs.length = row2.xs.length := by
    rcases hrows r2 row2 h2 with ⟨rfl, rfl⟩ | ⟨_, h2'⟩
    ·exact ⟨row, hr, hl.symm⟩
    ·exact ⟨row2, h2', rfl⟩
   obtain ⟨a, a1, a2⟩ := n1
   obtain ⟨b, b1, b2⟩ := n2
   exact h.apart r1 r2 a b u1 u2 hne a1 b1 (by rw [a2]; exact p1) (by rw [b2]; exact p2)
  phys := fun r' n u' hu' => by
   obtain ⟨row', hr', hle'⟩ := h.phys r' n u' hu'
   by_cases he : r = r'
   ·subst he
    rw [hr] at hr'; cases hr'
    exact ⟨_, List.getElem?_set_self hrl, by simpa [hl] using hle'⟩
   ·exact ⟨row', by rw [List.getElem?_set_ne he]; exact hr', hle'⟩
  loopl := h.loopl
  loop := fun l lr q c1 c2 => by
   obtain ⟨h3, rec, h4, h5⟩ := h.loop l lr q c1 c2
   refine ⟨h3, rec, ?_, h5⟩
   rw [ht.block q (by rintro rfl; rw [hk] at h4; cases h4)]
   exact h4
  lnodup := h.lnodup
  mapl := h.mapl
  map := fun m q p c1 c2 => by
   obtain ⟨h3, es, c, h4, h5⟩ := h.map m q p c1 c2
   refine ⟨h3, es, c, ?_, h5⟩
   rw [ht.block p (by rintro rfl; rw [hk] at h4; cases h4)]
   exact h4
  qnodup := h.qnodup
  marks := fun q hq => by
   obtain ⟨m1, m2⟩ := h.marks q hq
   refine ⟨m1, ?_⟩
   rw [ht.block q (by rintro rfl; rw [hk] at m2; cases m2)]
   exact m2
  mnodup := h.mnodup }
theorem dDb {g : G} {xs ys : List LV} {sz lo : Nat} {vs news : List Value} (h : aJa g xs sz vs) (hl : vs.length = xs.length * sz) (hy : aJa g ys sz news) (hn : news.length = ys.length * sz) (hfit : lo + ys.length ≤ xs.length) :
  aJa g (rQa xs lo ys) sz (vs.take (lo * sz) ++ news ++ vs.drop (lo * sz + news.length)) := by
 have e0 : lo * sz + ys.length * sz ≤ xs.length * sz := by rw [← Nat.add_mul]; exact Nat.mul_le_mul_right _ hfit
 have a1 : aJa g (xs.take lo) sz (vs.take (lo * sz)) := fBa h hl (by omega)
 have t1 : (xs.take lo).length = lo := by rw [List.length_take]; omega
 have t2 : (vs.take (lo * sz)).length = lo * sz := by rw [List.length_take]; omega
 refine eJa (eJa a1 (by rw [t1, t2]) hy) (by rw [List.length_append, List.length_append, t1, t2, hn, Nat.add_mul]) ?_
 have := gDa (lo + ys.length) h
 rwa [Nat.add_mul, ← hn] at this
theorem aMa.setElem {w0 : World} {f0 : Nat → List Value} {ms : List Nat} {σ : St} {g : G} {w : World} (h : aMa w0 f0 ms σ g w) {r i k cap : Nat} {row : Row} {x : LV} {u : Value} {cur : Array Value}
  (hr : σ.rows[r]? = some row) (hw : row.wr = true) (hp : g.phys r row.xs.length = some (.slice (some ⟨k, 0, none⟩) row.xs.length cap)) (hi : i < row.xs.length) (hx : aEa g x u) (hu : u.cells.size = row.sz ∧ ∀ c ∈ u.cells.toList, c.oneCell' = true)
  (hk : w.heap[k]? = some (.cells cur row.e (0, 0))) :
  aMa w0 f0 ms { σ with rows := σ.rows.set r { row with xs := row.xs.set i x } } g
   (w.setRow k (cur.toList.take (i * row.sz) ++ u.cells.toList ++ cur.toList.drop (i * row.sz + row.sz)).toArray) := by
 obtain ⟨v, vs, e1, e2, e3, e4, e5⟩ := h.row r row hr
 rw [hp] at e1; cases e1
 obtain ⟨hnc, hcs, htake⟩ : row.xs.length ≤ cap ∧ cur.size = cap * row.sz ∧ cur.toList.take (row.xs.length * row.sz) = vs := by
  rcases e2.2 with ⟨hc, _⟩ | ⟨g1, cap1, cur1, hv, _, d1, d2, d3, d4, d5⟩
  ·cases hc
  ·injection hv with hv1 hv2 hv3
   subst hv3
   have : k = g1 := by injection hv1 with hv1; injection hv1
   subst this
   rw [hk] at d1; cases d1
   exact ⟨d2, d4, d5⟩
 have hlen : vs.length = row.xs.length * row.sz := e2.1
 have hle : i * row.sz + row.sz ≤ row.xs.length * row.sz := by
  have : (i + 1) * row.sz ≤ row.xs.length * row.sz := Nat.mul_le_mul_right _ hi
  rw [Nat.add_mul] at this; omega
 have hcl : row.xs.length * row.sz ≤ cur.toList.length := by rw [Array.length_toList, hcs]; exact Nat.mul_le_mul_right _ hnc
 have hul : u.cells.toList.length = row.sz := by rw [Array.length_toList, hu.1]
 refine h.setXs hr hw hp (by simp) hk ?_ ?_
 ·simp only [List.size_toArray, List.length_append, List.length_take, List.length_drop, hul]
  rw [← Array.length_toList]; omega
 ·have key := wVa e3 hlen hi hx hu
  have e : (cur.toList.take (i * row.sz) ++ u.cells.toList ++ cur.toList.drop (i * row.sz + row.sz)).take (row.xs.length * row.sz) = vs.take (i * row.sz) ++ u.cells.toList ++ vs.drop (i * row.sz + row.sz) := by
   rw [List.append_assoc, List.append_assoc, List.take_append, List.take_append]
   have b1 : (cur.toList.take (i * row.sz)).length = i * row.sz := by rw [List.length_take]; omega
   rw [b1, hul, List.take_take, List.take_of_length_le (l := u.cells.toList) (by omega)]
   rw [← htake, List.take_take]
   rw [List.drop_take, Nat.min_comm]
   congr 3
   omega
  simp only [List.toList_toArray]
  rw [e]; exact key
theorem aMa.setOver {w0 : World} {f0 : Nat → List Value} {ms : List Nat} {σ : St} {g : G} {w : World} (h : aMa w0 f0 ms σ g w) {r lo k cap : Nat} {row : Row} {ys : List LV} {news : List Value} {cur : Array Value}
  (hr : σ.rows[r]? = some row) (hw : row.wr = true) (hp : g.phys r row.xs.length = some (.slice (some ⟨k, 0, none⟩) row.xs.length cap)) (hfit : lo + ys.length ≤ row.xs.length) (hy : aJa g ys row.sz news) (hn : news.length = ys.length * row.sz)
  (hk : w.heap[k]? = some (.cells cur row.e (0, 0))) :
  lo * row.sz + news.length ≤ cur.size ∧ aMa w0 f0 ms { σ with rows := σ.rows.set r { row with xs := rQa row.xs lo ys } } g
   (w.setRow k (cur.toList.take (lo * row.sz) ++ news ++ cur.toList.drop (lo * row.sz + news.length)).toArray) := by
 obtain ⟨v, vs, e1, e2, e3, e4, e5⟩ := h.row r row hr
 rw [hp] at e1; cases e1
 obtain ⟨hnc, hcs, htake⟩ : row.xs.length ≤ cap ∧ cur.size = cap * row.sz ∧ cur.toList.take (row.xs.length * row.sz) = vs := by
  rcases e2.2 with ⟨hc, _⟩ | ⟨g1, cap1, cur1, hv, _, d1, d2, d3, d4, d5⟩
  ·cases hc
  ·injection hv with hv1 hv2 hv3
   subst hv3
   have : k = g1 := by injection hv1 with hv1; injection hv1
   subst this
   rw [hk] at d1; cases d1
   exact ⟨d2, d4, d5⟩
 have hlen : vs.length = row.xs.length * row.sz := e2.1
 have e0 : lo * row.sz + ys.length * row.sz ≤ row.xs.length * row.sz := by rw [← Nat.add_mul]; exact Nat.mul_le_mul_right _ hfit
 have hcl : row.xs.length * row.sz ≤ cur.toList.length := by rw [Array.length_toList, hcs]; exact Nat.mul_le_mul_right _ hnc
 refine ⟨by rw [hn, ← Array.length_toList]; omega, h.setXs hr hw hp (by simp only [rQa, List.length_append, List.length_take, List.length_drop]; omega) hk ?_ ?_⟩
 ·simp only [List.size_toArray, List.length_append, List.length_take, List.length_drop]
  rw [← Array.length_toList]; omega
 ·have key := dDb (lo := lo) e3 hlen hy hn hfit
  have e : (cur.toList.take (lo * row.sz) ++ news ++ cur.toList.drop (lo * row.sz + news.length)).take (row.xs.length * row.sz) = vs.take (lo * row.sz) ++ news ++ vs.drop (lo * row.sz + news.length) := by
   rw [List.append_assoc, List.append_assoc, List.take_append, List.take_append]
   have b1 : (cur.toList.take (lo * row.sz)).length = lo * row.sz := by rw [List.length_take]; omega
   rw [b1, List.take_take, List.take_of_length_le (l := news) (by omega)]
   rw [← htake, List.take_take]
   rw [List.drop_take, Nat.min_comm]
   congr 3
   omega
  simp only [List.toList_toArray]
  rw [e]; exact key
theorem bLa {α : Type} {l : List α} {n i : Nat} {x : α} (h : (l.take n)[i]? = some x) : l[i]? = some x ∧ i < n := by
 rw [List.getElem?_take] at h
 split at h
 ·exact ⟨h, by assumption⟩
 ·cases h
theorem vDa {α : Type} {l : List α} {p : α → Bool} (h : l.all p = true) {i : Nat} {x : α} (hx : l[i]? = some x) : p x = true :=
 List.all_eq_true.1 h x (List.mem_iff_getElem?.2 ⟨i, hx⟩)
theorem jIb {g : G} (n : Sz) {t : List LV} {a : Array Value} (hb : below.belowL n t = true) (h : dYa g t a) : dYa (g.cut n) t a := by
 refine ⟨h.1, fun i => lXa n _ _ ?_ (h.2 i)⟩
 have gen : ∀ (t : List LV), below.belowL n t = true → ∀ i : Nat, below n (t.getD i .undef) = true := by
  intro t
  induction t with
  | nil => intro _ i; simp [below]
  | cons x t ih =>
   intro hb i
   simp only [below.belowL, Bool.and_eq_true] at hb
   cases i with
   | zero => simpa using hb.1
   | succ i => simpa using ih hb.2 i
 exact gen t hb i
theorem aMa.cut {w0 : World} {f0 : Nat → List Value} {ms : List Nat} {σ : St} {g : G} {w : World} (h : aMa w0 f0 ms σ g w) (n : Sz) (vs : List LV) (hn : sMa n vs σ = true) :
  aMa w0 f0 ms { boxes := σ.boxes.take n.nb, rows := σ.rows.take n.nr, loops := σ.loops.take n.nl, maps := σ.maps.take n.nm } (g.cut n) w := by
 simp only [sMa, Bool.and_eq_true] at hn
 obtain ⟨⟨⟨⟨_, t2⟩, t3⟩, t4⟩, t5⟩ := hn
 exact {
  below := h.below
  f0 := h.f0
  fz := h.fz
  boxl := by simp [G.cut, h.boxl]
  box := fun i cells k c1 c2 => by
   obtain ⟨c1', _⟩ := bLa c1
   obtain ⟨c2', _⟩ := bLa c2
   obtain ⟨h3, h4, cs, T, h5, h6, h7⟩ := h.box i cells k c1' c2'
   exact ⟨h3, h4, cs, T, h5, eSa n _ _ (vDa t2 c1) h6, h7⟩
  pend := fun i cells c1 => by
   obtain ⟨c1', hlt⟩ := bLa c1
   exact nKa (h.pend i cells c1') hlt
  nodup := fun i j k c1 c2 => h.nodup i j k (bLa c1).1 (bLa c2).1
  row := fun r row hr => by
   obtain ⟨hr', hlt⟩ := bLa hr
   obtain ⟨v, us, e1, e2, e3, e4, e5⟩ := h.row r row hr'
   refine ⟨v, us, by simp [G.cut, hlt, e1], e2, lWa n _ _ _ (vDa t3 hr) e3, e4, fun k hk => ?_⟩
   obtain ⟨f1, f2, f3⟩ := e5 k hk
   exact ⟨fun hm => f1 (List.mem_of_mem_take hm), f2, f3⟩
  apart := fun r r' row row' v v' hne h1 h2 p1 p2 => by
   obtain ⟨h1', l1⟩ := bLa h1
   obtain ⟨h2', l2⟩ := bLa h2
   simp only [G.cut, l1, l2, if_true] at p1 p2
   exact h.apart r r' row row' v v' hne h1' h2' p1 p2
  phys := fun r k v hv => by
   simp only [G.cut] at hv
   split at hv
   ·rename_i hlt
    obtain ⟨row, hr, hle⟩ := h.phys r k v hv
    exact ⟨row, nKa hr hlt, hle⟩
   ·cases hv
  loopl := by simp [G.cut, h.loopl]
  loop := fun l lr k c1 c2 => by
   obtain ⟨c1', _⟩ := bLa c1
   obtain ⟨c2', _⟩ := bLa c2
   obtain ⟨h3, rec, h4, h5⟩ := h.loop l lr k c1' c2'
   exact ⟨h3, rec, h4, jIb n (vDa t4 c1) h5.tmps, h5.params, h5.assign, h5.body, h5.pending, h5.state⟩
  lnodup := h.lnodup.sublist (List.take_sublist _ _)
  mapl := by simp [G.cut, h.mapl]
  map := fun m q k c1 c2 => by
   obtain ⟨c1', _⟩ := bLa c1
   obtain ⟨c2', _⟩ := bLa c2
   obtain ⟨h3, es, c, h4, h5, h6⟩ := h.map m q k c1' c2'
   have hb := vDa t5 c1
   simp only [Bool.and_eq_true] at hb
   exact ⟨h3, es, c, h4, eSa n _ _ hb.1 h5, eSa n _ _ hb.2 h6⟩
  qnodup := h.qnodup.sublist (List.take_sublist _ _)
  marks := h.marks
  mnodup := h.mnodup }
theorem aMa.trimmed {w0 : World} {f0 : Nat → List Value} {ms : List Nat} {σ : St} {g g0 : G} {w : World} (h : aMa w0 f0 ms σ g w) (n : Sz) (vs : List LV) (hg : g0.le g)
  (hb : g0.box.length = n.nb) (hl : g0.loop.length = n.nl) (hm : g0.map.length = n.nm) (hp : ∀ r k v, g0.phys r k = some v → r < n.nr) :
  ∃ g', g0.le g' ∧ aMa w0 f0 ms (trim n vs σ) g' w ∧ (∀ x ∈ vs, ∀ v, aEa g x v → aEa g' x v) := by
 unfold trim
 split
 ·exact ⟨g, hg, h, fun _ _ _ hr => hr⟩
 ·split
  ·rename_i ht
   refine ⟨g.cut n, ⟨hg.fz, ?_, fun r k v hv => ?_, ?_, ?_⟩, h.cut n vs ht, fun x hx v hr => lXa n x v ?_ hr⟩
   ·obtain ⟨t, ht⟩ := hg.box
    simp only [G.cut, ← ht, ← hb, List.take_left]; exact List.prefix_refl _
   ·simp only [G.cut, hp r k v hv, if_true]
    exact hg.phys r k v hv
   ·obtain ⟨t, ht⟩ := hg.loop
    simp only [G.cut, ← ht, ← hl, List.take_left]; exact List.prefix_refl _
   ·obtain ⟨t, ht⟩ := hg.map
    simp only [G.cut, ← ht, ← hm, List.take_left]; exact List.prefix_refl _
   ·simp only [sMa, Bool.and_eq_true] at ht
    have gen : ∀ (vs : List LV), below.belowL n vs = true → ∀ x ∈ vs, LI.below n x = true := by
     intro vs
     induction vs with
     | nil => simp
     | cons y vs ih =>
      intro hb x hx
      simp only [below.belowL, Bool.and_eq_true] at hb
      rcases List.mem_cons.1 hx with rfl | hx
      ·exact hb.1
      ·exact ih hb.2 x hx
    exact gen vs ht.1.1.1.1 x hx
  ·exact ⟨g, hg, h, fun _ _ _ hr => hr⟩
theorem kLa {r : Nat} : ∀ {K : List Nat} {i q : Nat}, pEa r K i = some q → ∃ j, q = i + j ∧ K[j]? = some r
 | [], _, _, h => by cases h
 | x :: xs, i, q, h => by
  simp only [pEa] at h
  cases hb : Nat.beq x r with
  | true =>
   rw [hb, cond_true] at h; cases h
   exact ⟨0, rfl, by rw [Nat.eq_of_beq_eq_true hb]; rfl⟩
  | false =>
   rw [hb, cond_false] at h
   obtain ⟨j, h1, h2⟩ := kLa h
   exact ⟨j + 1, by omega, by simpa using h2⟩
structure lMb (K : List Nat) (g g' : G) : Prop where
 fz : ∀ b, g.fz b <+: g'.fz b
 box : ∀ (i k : Nat), g.box[i]? = some (.inl k) → g'.box[i]? = some (.inl k)
 phys : ∀ (q r n : Nat) (v : Value), K[q]? = some r → g.phys r n = some v → g'.phys q n = some v
 loop : g.loop <+: g'.loop
 map : g.map <+: g'.map
mutual
theorem cUb {K : List Nat} {g g' : G} (h : lMb K g g') : ∀ (x y : LV) (v : Value), iRa K x = some y → aEa g x v → aEa g' y v
 | .undef, y, _, hy, _ => by simp only [iRa, Option.some.injEq] at hy; subst hy; simp [aEa]
 | .sc u, y, v, hy, hr => by simp only [iRa, Option.some.injEq] at hy; subst hy; simpa [aEa] using hr
 | .nils, y, v, hy, hr => by simp only [iRa, Option.some.injEq] at hy; subst hy; simpa [aEa] using hr
 | .slice es, y, v, hy, hr => by
  simp only [iRa] at hy
  split at hy
  ·rename_i hf; cases hy; exact dZa h.fz _ _ (by simpa [aAa] using hf) hr
  ·cases hy
 | .nslice es, y, v, hy, hr => by
  simp only [iRa] at hy
  split at hy
  ·rename_i hf; cases hy; exact dZa h.fz _ _ (by simpa [aAa] using hf) hr
  ·cases hy
 | .pptr es, y, v, hy, hr => by
  simp only [iRa] at hy
  split at hy
  ·rename_i hf; cases hy; exact dZa h.fz _ _ (by simpa [aAa] using hf) hr
  ·cases hy
 | .mref r n, y, v, hy, hr => by
  simp only [iRa] at hy
  obtain ⟨q, hq, rfl⟩ := Option.map_eq_some_iff.1 hy
  obtain ⟨j, rfl, hj⟩ := kLa hq
  rw [Nat.zero_add]
  simp only [aEa] at hr ⊢
  exact ⟨h.phys _ _ _ _ hj hr.1, hr.2⟩
 | .mview r n lo hi sz, y, v, hy, hr => by
  simp only [iRa] at hy
  obtain ⟨q, hq, rfl⟩ := Option.map_eq_some_iff.1 hy
  obtain ⟨j, rfl, hj⟩ := kLa hq
  rw [Nat.zero_add]
  simp only [aEa] at hr ⊢
  obtain ⟨a, cap, a', h1, h2⟩ := hr
  exact ⟨a, cap, a', h.phys _ _ _ _ hj h1, h2⟩
 | .rptr r n i sz off, y, v, hy, hr => by
  simp only [iRa] at hy
  obtain ⟨q, hq, rfl⟩ := Option.map_eq_some_iff.1 hy
  obtain ⟨j, rfl, hj⟩ := kLa hq
  rw [Nat.zero_add]
  simp only [aEa] at hr ⊢
  obtain ⟨k, cap, h1, h2⟩ := hr
  exact ⟨k, cap, h.phys _ _ _ _ hj h1, h2⟩
 | .mapr m, y, v, hy, hr => by
  simp only [iRa, Option.some.injEq] at hy
  subst hy
  simp only [aEa] at hr ⊢
  obtain ⟨k, h1, h2⟩ := hr
  exact ⟨k, gYa h.map h1, h2⟩
 | .bptr b off, y, v, hy, hr => by
  simp only [iRa, Option.some.injEq] at hy
  subst hy
  simp only [aEa] at hr ⊢
  obtain ⟨k, h1, h2⟩ := hr
  exact ⟨k, h.box _ _ h1, h2⟩
 | .agg cs, y, v, hy, hr => by
  simp only [iRa] at hy
  obtain ⟨ds, hd, rfl⟩ := Option.map_eq_some_iff.1 hy
  simp only [aEa] at hr ⊢
  obtain ⟨arr, h1, h2, h3⟩ := hr
  exact ⟨arr, h1, kNa h cs ds _ hd h2, h3⟩
 | .tuple vs, y, v, hy, hr => by
  simp only [iRa] at hy
  obtain ⟨ds, hd, rfl⟩ := Option.map_eq_some_iff.1 hy
  simp only [aEa] at hr ⊢
  obtain ⟨arr, h1, h2⟩ := hr
  exact ⟨arr, h1, kNa h vs ds _ hd h2⟩
 | .func fn fst caps, y, v, hy, hr => by
  simp only [iRa, Option.bind_eq_some_iff] at hy
  obtain ⟨a, ha, hy⟩ := hy
  obtain ⟨b, hb, rfl⟩ := Option.map_eq_some_iff.1 hy
  simp only [aEa] at hr ⊢
  obtain ⟨fn', f', c', h1, h2, h3, h4⟩ := hr
  exact ⟨fn', f', c', h1, nSa h.loop h2, kNa h fst a _ ha h3, kNa h caps b _ hb h4⟩
theorem kNa {K : List Nat} {g g' : G} (h : lMb K g g') : ∀ (xs ys : List LV) (vs : List Value), iRa.renL K xs = some ys → aBa g xs vs → aBa g' ys vs
 | [], ys, vs, hy, hr => by
  simp only [iRa.renL, Option.some.injEq] at hy
  subst hy
  simpa [aBa] using hr
 | x :: xs, ys, vs, hy, hr => by
  simp only [iRa.renL, Option.bind_eq_some_iff] at hy
  obtain ⟨a, ha, hy⟩ := hy
  obtain ⟨b, hb, rfl⟩ := Option.map_eq_some_iff.1 hy
  simp only [aBa] at hr ⊢
  obtain ⟨v, vs', h1, h2, h3⟩ := hr
  exact ⟨v, vs', h1, cUb h x a _ ha h2, kNa h xs b _ hb h3⟩
end
theorem cTb {K : List Nat} : ∀ {xs ys : List LV}, iRa.renL K xs = some ys → ys.length = xs.length ∧ ∀ (i : Nat) (x : LV), xs[i]? = some x → ∃ y, ys[i]? = some y ∧ iRa K x = some y
 | [], ys, h => by
  simp only [iRa.renL, Option.some.injEq] at h
  subst h
  exact ⟨rfl, fun i x hx => by simp at hx⟩
 | x :: xs, ys, h => by
  simp only [iRa.renL, Option.bind_eq_some_iff] at h
  obtain ⟨a, ha, h⟩ := h
  obtain ⟨b, hb, rfl⟩ := Option.map_eq_some_iff.1 h
  obtain ⟨h1, h2⟩ := cTb hb
  refine ⟨by simp [h1], fun i y hy => ?_⟩
  cases i with
  | zero => simp at hy; subst hy; exact ⟨a, rfl, ha⟩
  | succ i => simpa using h2 i y (by simpa using hy)
theorem cSb {K : List Nat} : ∀ {xs ys : List (List LV)}, lHb K xs = some ys → ys.length = xs.length ∧ ∀ (i : Nat) (x : List LV), xs[i]? = some x → ∃ y, ys[i]? = some y ∧ iRa.renL K x = some y
 | [], ys, h => by
  simp only [lHb, Option.some.injEq] at h
  subst h
  exact ⟨rfl, fun i x hx => by simp at hx⟩
 | x :: xs, ys, h => by
  simp only [lHb, Option.bind_eq_some_iff] at h
  obtain ⟨a, ha, h⟩ := h
  obtain ⟨b, hb, rfl⟩ := Option.map_eq_some_iff.1 h
  obtain ⟨h1, h2⟩ := cSb hb
  refine ⟨by simp [h1], fun i y hy => ?_⟩
  cases i with
  | zero => simp at hy; subst hy; exact ⟨a, rfl, ha⟩
  | succ i => simpa using h2 i y (by simpa using hy)
theorem mNa {α β : Type} {f : α → Option β} : ∀ {l : List α}, (∀ x ∈ l, (f x).isSome = true) → ∀ i : Nat, (l.filterMap f)[i]? = (l[i]?).bind f
 | [], _, i => by simp
 | x :: l, h, i => by
  have hx := h x List.mem_cons_self
  obtain ⟨y, hy⟩ := Option.isSome_iff_exists.1 hx
  rw [List.filterMap_cons_some hy]
  cases i with
  | zero => simp [hy]
  | succ i => simpa using mNa (fun z hz => h z (List.mem_cons_of_mem _ hz)) i
def lRb : Nat ⊕ List LV → List LV → Nat ⊕ List LV
 | .inl k, _ => .inl k
 | .inr _, c => .inr c
def G.ren (g : G) (K : List Nat) (B : List (List LV)) : G := { fz := g.fz, box := List.zipWith lRb g.box B, phys := fun q n => (K[q]?).bind fun r => g.phys r n, loop := g.loop, map := g.map }
theorem aMa.gc {w0 : World} {f0 : Nat → List Value} {ms : List Nat} {σ : St} {g : G} {w : World} (h : aMa w0 f0 ms σ g w) {e : Env} {a : Array Value} (hT : dYa g e.t a) :
  ∃ g', (∀ b, g'.fz b = g.fz b) ∧ g'.loop = g.loop ∧ dYa g' (gcS e σ).1.t a ∧ aMa w0 f0 ms (gcS e σ).2 g' w := by
 unfold gcS
 cases hc : ((σ.loops.isEmpty && σ.maps.isEmpty) && σ.rows.all (fun r => aAa.refFreeL r.xs)) with
 | false => exact ⟨g, fun _ => rfl, rfl, hT, h⟩
 | true =>
  rw [cond_true]
  simp only [Bool.and_eq_true, List.isEmpty_iff] at hc
  obtain ⟨⟨hl, hm⟩, hrf⟩ := hc
  split
  case h_2 => exact ⟨g, fun _ => rfl, rfl, hT, h⟩
  rename_i t B ht hB
  generalize hK : aFb e.t σ = K at ht hB ⊢
  have hKlt : ∀ r ∈ K, r < σ.rows.length := fun r hr => by
   rw [← hK] at hr
   exact List.mem_range.1 (List.mem_filter.1 hr).1
  have hKnd : K.Nodup := by
   rw [← hK]
   exact List.Nodup.sublist List.filter_sublist List.nodup_range
  have hrows : ∀ q, (K.filterMap (fun r => σ.rows[r]?))[q]? = (K[q]?).bind fun r => σ.rows[r]? := mNa (fun r hr => by simp [hKlt r hr])
  obtain ⟨hBl, hBg⟩ := cSb hB
  obtain ⟨htl, htg⟩ := cTb ht
  have hbl : g.box.length = B.length := by rw [hBl, h.boxl]
  have inv : ∀ (i : Nat) (x : Nat ⊕ List LV), (g.ren K B).box[i]? = some x → ∃ y c, g.box[i]? = some y ∧ B[i]? = some c ∧ x = lRb y c := fun i x hx => by
   simp only [G.ren, List.getElem?_zipWith] at hx
   split at hx
   ·rename_i y c h1 h2; cases hx; exact ⟨y, c, h1, h2, rfl⟩
   ·cases hx
  have invl : ∀ (i k : Nat), (g.ren K B).box[i]? = some (.inl k) → g.box[i]? = some (.inl k) := fun i k hx => by
   obtain ⟨y, c, h1, _, h3⟩ := inv i _ hx
   cases y with
   | inl k' => cases h3; exact h1
   | inr c' => cases h3
  have ok : lMb K g (g.ren K B) := ⟨fun _ => List.prefix_refl _, fun i k hk => by
   have hi := (List.getElem?_eq_some_iff.1 hk).1
   have hB2 : B[i]? = some B[i] := List.getElem?_eq_getElem (by omega)
   simp only [G.ren, List.getElem?_zipWith, hk, hB2]
   rfl, fun q r n v h1 h2 => by simp only [G.ren, h1, Option.bind_some]; exact h2, List.prefix_refl _, List.prefix_refl _⟩
  refine ⟨g.ren K B, fun _ => rfl, rfl, ⟨by rw [hT.1]; exact htl.symm, fun i => ?_⟩, ?_⟩
  ·by_cases hi : i < e.t.length
   ·obtain ⟨y, h1, h2⟩ := htg i _ (List.getElem?_eq_getElem hi)
    have e1 : t.getD i .undef = y := by rw [List.getD_eq_getElem?_getD, h1]; rfl
    have e2 := hT.2 i
    have e3 : e.t.getD i .undef = e.t[i] := by simp [List.getD_eq_getElem?_getD, hi]
    rw [e3] at e2
    show aEa _ (t.getD i .undef) _
    rw [e1]
    exact cUb ok _ _ _ h2 e2
   ·have e1 : t.getD i .undef = .undef := by
     rw [List.getD_eq_getElem?_getD, List.getElem?_eq_none (by omega)]; rfl
    show aEa _ (t.getD i .undef) _
    rw [e1]; simp [aEa]
  ·exact {
    below := h.below
    f0 := h.f0
    fz := h.fz
    boxl := by
     show (List.zipWith lRb g.box B).length = B.length
     rw [List.length_zipWith]; omega
    box := fun i cells k c1 c2 => by
     have c2 := invl i k c2
     have hi : i < σ.boxes.length := by rw [← h.boxl]; exact (List.getElem?_eq_some_iff.1 c2).1
     obtain ⟨y, h1, h2⟩ := hBg i _ (List.getElem?_eq_getElem hi)
     have c1 : B[i]? = some cells := c1
     rw [h1] at c1; cases c1
     obtain ⟨h3, h4, cs, T, h5, h6, h7⟩ := h.box i _ k (List.getElem?_eq_getElem hi) c2
     exact ⟨h3, h4, cs, T, h5, kNa ok _ _ _ h2 h6, h7⟩
    pend := fun i cells c1 => by
     obtain ⟨y, c, h1, h2, h3⟩ := inv i _ c1
     cases y with
     | inl k' => cases h3
     | inr c' => cases h3; exact h2
    nodup := fun i j k c1 c2 => h.nodup i j k (invl i k c1) (invl j k c2)
    row := fun q row hq => by
     have hq : (K.filterMap (fun r => σ.rows[r]?))[q]? = some row := hq
     rw [hrows q] at hq
     obtain ⟨r, hr, hrow⟩ := Option.bind_eq_some_iff.1 hq
     obtain ⟨v, us, e1, e2, e3, e4, e5⟩ := h.row r row hrow
     refine ⟨v, us, by simp only [G.ren, hr, Option.bind_some]; exact e1, e2, gEa (g := g) (g' := g.ren K B) (fun b => List.prefix_refl _) _ _ _ _ (List.all_eq_true.1 hrf row (List.mem_of_getElem? hrow)) (List.prefix_refl _) e3, e4, fun k hk => ?_⟩
     obtain ⟨f1, f2, f3⟩ := e5 k hk
     refine ⟨fun hmem => ?_, f2, f3⟩
     obtain ⟨i, hi⟩ := jPa hmem
     exact f1 (List.mem_of_getElem? (invl i k hi))
    apart := fun q q' row row' v v' hne h1 h2 p1 p2 => by
     have h1 : (K.filterMap (fun r => σ.rows[r]?))[q]? = some row := h1
     have h2 : (K.filterMap (fun r => σ.rows[r]?))[q']? = some row' := h2
     rw [hrows] at h1 h2
     obtain ⟨r, hr, hrow⟩ := Option.bind_eq_some_iff.1 h1
     obtain ⟨r', hr', hrow'⟩ := Option.bind_eq_some_iff.1 h2
     simp only [G.ren, hr, hr', Option.bind_some] at p1 p2
     exact h.apart r r' row row' v v' (fun he => hne (rNa hKnd hr (he ▸ hr'))) hrow hrow' p1 p2
    phys := fun q n v hv => by
     simp only [G.ren] at hv
     obtain ⟨r, hr, hv⟩ := Option.bind_eq_some_iff.1 hv
     obtain ⟨row, h1, h2⟩ := h.phys r n v hv
     exact ⟨row, by show (K.filterMap (fun r => σ.rows[r]?))[q]? = _; rw [hrows, hr, Option.bind_some, h1], h2⟩
    loopl := h.loopl
    loop := fun l lr k c1 _ => by
     have c1 : σ.loops[l]? = some lr := c1
     rw [hl] at c1; simp at c1
    lnodup := h.lnodup
    mapl := h.mapl
    map := fun m q k c1 _ => by
     have c1 : σ.maps[m]? = some q := c1
     rw [hm] at c1; simp at c1
    qnodup := h.qnodup
    marks := h.marks
    mnodup := h.mnodup }
structure G.leK (wk : Bool) (g g' : G) : Prop where
 loop : g.loop <+: g'.loop
 fz : ∀ b, g.fz b <+: g'.fz b
 le : wk = false → g.le g'
theorem G.le.toK {g g' : G} (h : g.le g') (wk : Bool) : g.leK wk g' := ⟨h.loop, h.fz, fun _ => h⟩
theorem G.leK.trans {wk : Bool} {a b c : G} (h : a.leK wk b) (k : b.leK wk c) : a.leK wk c := ⟨h.loop.trans k.loop, fun x => (h.fz x).trans (k.fz x), fun hw => (h.le hw).trans (k.le hw)⟩
theorem aMa.trimmedK {w0 : World} {f0 : Nat → List Value} {ms : List Nat} {σ : St} {g g0 : G} {w : World} {wk : Bool} (h : aMa w0 f0 ms σ g w) (n : Sz) (vs : List LV) (hg : g0.leK wk g)
  (hb : g0.box.length = n.nb) (hl : g0.loop.length = n.nl) (hm : g0.map.length = n.nm) (hp : ∀ r k v, g0.phys r k = some v → r < n.nr) :
  ∃ g', g0.leK wk g' ∧ aMa w0 f0 ms (trim n vs σ) g' w ∧ (∀ x ∈ vs, ∀ v, aEa g x v → aEa g' x v) := by
 cases wk with
 | false =>
  obtain ⟨g', k1, k2, k3⟩ := h.trimmed n vs (hg.le rfl) hb hl hm hp
  exact ⟨g', k1.toK false, k2, k3⟩
 | true =>
  have hk : ∀ g', (∀ b, g.fz b <+: g'.fz b) → g0.loop <+: g'.loop → g0.leK true g' := fun g' h1 h2 => ⟨h2, fun b => (hg.fz b).trans (h1 b), fun hw => by cases hw⟩
  unfold trim
  split
  ·exact ⟨g, hg, h, fun _ _ _ hr => hr⟩
  ·split
   ·rename_i ht
    refine ⟨g.cut n, hk _ (fun _ => List.prefix_refl _) ?_, h.cut n vs ht, fun x hx v hr => lXa n x v ?_ hr⟩
    ·obtain ⟨t, ht⟩ := hg.loop
     simp only [G.cut, ← ht, ← hl, List.take_left]; exact List.prefix_refl _
    ·simp only [sMa, Bool.and_eq_true] at ht
     have gen : ∀ (vs : List LV), below.belowL n vs = true → ∀ x ∈ vs, LI.below n x = true := by
      intro vs
      induction vs with
      | nil => simp
      | cons y vs ih =>
       intro hb x hx
       simp only [below.belowL, Bool.and_eq_true] at hb
       rcases List.mem_cons.1 hx with rfl | hx
       ·exact hb.1
       ·exact ih hb.2 x hx
     exact gen vs ht.1.1.1.1 x hx
   ·exact ⟨g, hg, h, fun _ _ _ hr => hr⟩
def G.bare (g : G) : G := { fz := g.fz, box := [], phys := fun _ _ => none, loop := [], map := [] }
theorem aMa.empty {g : G} {w : World} (h : sPa g w) : aMa w g.fz [] {} g.bare w where
 below := Below.refl _ _
 f0 := fun _ _ => rfl
 fz := h
 boxl := rfl
 box := fun i cells k c1 _ => by simp at c1
 pend := fun i cells c1 => by simp [G.bare] at c1
 nodup := fun i j k c1 _ => by simp [G.bare] at c1
 row := fun r row hr => by simp at hr
 apart := fun r r' row row' v v' _ h1 => by simp at h1
 phys := fun r n v hv => by simp [G.bare] at hv
 loopl := rfl
 loop := fun l lr k c1 _ => by simp at c1
 lnodup := by simp [G.bare]
 mapl := rfl
 map := fun m q k c1 _ => by simp at c1
 qnodup := by simp [G.bare]
 marks := fun k hk => by simp at hk
 mnodup := by simp
end Go.Proofs.YtpeaaophmddhnaaGreat.LI
namespace Go.Proofs.YtpeaaophmddhnaaGreat.LI
open Go Go.RowKit
structure lNb (_P : Program) : Prop where
 fine : True
theorem iAa {P : Program} {t : TypeId} {zs : List LV} (h : iVa P t = some zs) : ∃ i z, P.info? t = some i ∧ i.zero = some z ∧ z.cells.size = i.size ∧ (∀ u ∈ z.cells.toList, u.oneCell' = true) ∧ zs = z.cells.toList.map bQa := by
 unfold iVa at h
 simp only [Option.bind_eq_some_iff] at h
 obtain ⟨i, hi, z, hz, h⟩ := h
 split at h
 ·rename_i hc
  cases h
  exact ⟨i, z, hi, hz, hc.1, fun u hu => List.all_eq_true.1 hc.2 u hu, rfl⟩
 ·cases h
theorem kSa {P : Program} {t : TypeId} {x : LV} (h : kBa P t = some x) : ∃ i z, P.info? t = some i ∧ i.zero = some z ∧ z.cells.size = i.size ∧ (∀ u ∈ z.cells.toList, u.oneCell' = true) ∧ ∀ g, aEa g x z := by
 unfold kBa at h
 simp only [Option.bind_eq_some_iff] at h
 obtain ⟨i, hi, z, hz, h⟩ := h
 split at h
 ·rename_i hc
  refine ⟨i, z, hi, hz, hc.1, fun u hu => List.all_eq_true.1 hc.2 u hu, fun g => ?_⟩
  cases h
  have hno : ∀ u : Value, aQa (bQa u) = [] := fun u => by
   unfold bQa
   split
   ·rfl
   ·split <;> rfl
  have hnos : ∀ us : List Value, aQa.rowsInL (us.map bQa) = [] := fun us => by
   induction us with
   | nil => rfl
   | cons u us ih => simp only [List.map_cons, aQa.rowsInL, hno, ih, List.append_nil]
  refine hFa (G.le.refl g) _ _ ?_ ?_
  ·intro r hr
   split at hr
   ·simp only [aQa, hnos, List.not_mem_nil] at hr
   ·rw [hno] at hr; cases hr
  split
  ·rename_i cs
   simp only [aEa]
   exact ⟨cs, rfl, by simpa using eTa bQa id cs.toList (fun x _ => dOa g x), fun u hu => List.all_eq_true.1 hc.2 u (by simpa [Value.cells] using hu)⟩
  ·exact dOa g _
 ·cases h
def bWa (w0 : World) (f0 : Nat → List Value) (ms : List Nat) (g : G) (lv : LV) (σ' : St) (r : Result Next) : Prop :=
 ∃ v w' g', (r = .ok (.value v) w' ∨ (r = .ok .skip w' ∧ v = Go.undef)) ∧ aEa g' lv v ∧ g.le g' ∧ aMa w0 f0 ms σ' g' w'
section
variable {P : Program} {w0 w : World} {f0 : Nat → List Value} {ms : List Nat} {σ : St} {g : G}
theorem aLa (h : aMa w0 f0 ms σ g w) {lv : LV} {v : Value} (hv : aEa g lv v) {r : Result Next} (hr : r = .ok (.value v) w) : bWa w0 f0 ms g lv σ r :=
 ⟨v, w, g, .inl hr, hv, G.le.refl g, h⟩
theorem aZa {e : Env} {a : Act} (hT : dYa g e.t a.tmps) (x : Operand) : aEa g (e.ev x) (a.eval x) := by
 cases x with
 | tmp t => exact hT.2 t
 | const v =>
  simp only [Env.ev, Act.eval]
  unfold nZa
  split
  ·rename_i cs
   split
   ·rename_i h
    simp only [aEa]
    exact ⟨cs, rfl, by simpa using eTa bQa id cs.toList (fun x _ => dOa g x), List.all_eq_true.1 h⟩
   ·simp [aEa]
  ·split
   ·rename_i vs h
    simp only [aEa]
    exact ⟨vs, rfl, by have : vs = #[] := Array.eq_empty_of_size_eq_zero h; subst this; simp [aBa]⟩
   ·simp [aEa]
  ·exact dOa g _
 | global k => simp [Env.ev, aEa]
 | func f => simp only [Env.ev, Act.eval, aEa]; exact ⟨.func f, #[], #[], rfl, rfl, by simp [aBa], by simp [aBa]⟩
theorem xOa {e : Env} {a : Act} (hT : dYa g e.t a.tmps) (xs : List Operand) : aBa g (xs.map e.ev) (xs.map a.eval) := eTa _ _ xs (fun x _ => aZa hT x)
theorem bOa {k : IntKind} {n : Int} {v : Value} (h : aEa g (.sc (.int k n)) v) : v = .int k n := by simp only [aEa] at h; exact h.1
theorem dJa {b : Bool} {v : Value} (h : aEa g (.sc (.bool b)) v) : v = .bool b := by simp only [aEa] at h; exact h.1
theorem dGa {s : ByteArray} {v : Value} (h : aEa g (.sc (.string s)) v) : v = .string s := by simp only [aEa] at h; exact h.1
theorem bPa (k : IntKind) (n : Int) : aEa g (.sc (.int k n)) (.int k n) := by simp [aEa, jRa]
theorem bRa (b : Bool) : aEa g (.sc (.bool b)) (.bool b) := by simp [aEa, jRa]
theorem gFa (s : ByteArray) : aEa g (.sc (.string s)) (.string s) := by simp [aEa, jRa]
theorem zNa {op : BinOp} {t : TypeId} {x y lv : LV} {xo yo : Operand} {u v : Value} (hx : aEa g x u) (hy : aEa g y v) (hb : fYb op x y = some lv) :
  ∃ z, (do eqGuard op t xo yo u v; binOp op t u v : Sem Value).run P w = .ok z w ∧ aEa g lv z := by
 unfold fYb at hb
 split at hb
 ·rename_i k a k' b
  rw [bOa hx, bOa hy]
  split at hb
  ·rename_i hk
   subst hk
   unfold bTb at hb
   cases op <;> simp only [Option.some.injEq, reduceCtorEq] at hb
   all_goals (try (split at hb <;> simp only [Option.some.injEq, reduceCtorEq] at hb))
   all_goals (first | (subst hb; refine ⟨_, ?_, bPa _ _⟩; simp [eqGuard, binOp, Op.intArith, Op.intDiv, *]; done) | (subst hb; refine ⟨_, ?_, bRa _⟩; simp [eqGuard, binOp, Op.intCmp]; done))
  ·cases hb
 ·rename_i a b
  rw [dGa hx, dGa hy]
  unfold bUb at hb
  cases op <;> simp only [Option.some.injEq, reduceCtorEq] at hb
  all_goals (try (split at hb <;> simp only [Option.some.injEq, reduceCtorEq] at hb))
  all_goals (first | (subst hb; refine ⟨_, ?_, bRa _⟩; simp [eqGuard, binOp, Op.stringOp]; done) | skip)
  rename_i hlt
  subst hb
  refine ⟨_, ?_, gFa _⟩
  have hn : ¬ (((a.size + b.size : Nat) : Int) > IntKind.i64.max) := by
   have : IntKind.i64.max = 9223372036854775807 := by decide
   rw [this]; omega
  simp only [eqGuard, binOp, Op.stringOp]
  rw [Sem.run_bind]
  simp only [if_neg hn]
  rfl
 ·cases hb
theorem nWa {op : BinOp} {t : TypeId} {xo yo : Operand} {b : Bool} {lv : LV} {a : Option Addr} {n c : Nat} (hb : mIb P op t b = some lv) (ha : a.isNone = b) :
  ∃ z, (do eqGuard op t xo yo (.slice a n c) (.slice none 0 0); binOp op t (.slice a n c) (.slice none 0 0) : Sem Value).run P w = .ok z w ∧ aEa g lv z := by
 subst ha
 unfold mIb at hb
 split at hb
 ·rename_i e hu
  cases hb
  refine ⟨_, ?_, bRa _⟩
  simp only [eqGuard, binOp]
  simp [Op.equal, Op.maxDepth, Lib.run_equalIn_slice_nil w 9999 t e a n c 0 0 hu]
 ·rename_i e hu
  cases hb
  refine ⟨_, ?_, bRa _⟩
  simp only [eqGuard, binOp]
  simp [Op.equal, Op.maxDepth, Lib.run_equalIn_slice_nil w 9999 t e a n c 0 0 hu]
 ·cases hb
theorem zQa {op : BinOp} {t : TypeId} {x y lv : LV} {xo yo : Operand} {u v : Value} (hx : aEa g x u) (hy : aEa g y v) (hb : zPa P op t x y = some lv) :
  ∃ z, (do eqGuard op t xo yo u v; binOp op t u v : Sem Value).run P w = .ok z w ∧ aEa g lv z := by
 unfold zPa at hb
 split at hb
 ·rename_i a b
  rw [dJa hx, dJa hy]
  split at hb
  ·rename_i ht
   cases hb
   exact ⟨_, by simp [eqGuard, binOp, run_equal_bool w t a b ht], bRa _⟩
  ·rename_i ht
   cases hb
   exact ⟨_, by simp [eqGuard, binOp, run_equal_bool w t a b ht], bRa _⟩
  ·cases hb
 ·simp only [aEa] at hx hy
  subst hx hy
  exact nWa hb rfl
 ·simp only [aEa] at hx hy
  obtain ⟨a, cap, rfl, _⟩ := hx
  subst hy
  exact nWa hb rfl
 ·simp only [aEa] at hx hy
  obtain ⟨a, cap, rfl, _, he⟩ := hx
  subst hy
  refine nWa hb ?_
  rcases he with he | ⟨k, off, sz, _, rfl, _⟩
  ·cases he
  ·rfl
 ·exact zNa hx hy hb
theorem fCb {op : UnOp} {x lv : LV} {u : Value} (hx : aEa g x u) (hb : pLb op x = some lv) : ∃ z, (Op.unary op u).run P w = .ok z w ∧ aEa g lv z := by
 unfold pLb at hb
 split at hb
 ·rename_i b
  cases hb
  rw [dJa hx]
  exact ⟨_, by simp [Op.unary], bRa _⟩
 ·rename_i k n
  cases hb
  rw [bOa hx]
  exact ⟨_, by simp [Op.unary, Op.intArith], bPa _ _⟩
 ·cases hb
end
end Go.Proofs.YtpeaaophmddhnaaGreat.LI
namespace Go.Proofs.YtpeaaophmddhnaaGreat.LI
open Go Go.RowKit
section
variable {P : Program} {w0 w : World} {f0 : Nat → List Value} {ms : List Nat} {σ : St} {g : G}
theorem nCa {σ : St} {l : TypeId × Nat} {ls : List (Option (TypeId × Nat))} {c : LV} {cs : List LV} (hc : c ≠ .nils) : aSa σ (some l :: ls) (c :: cs) = (c :: (aSa σ ls cs).1, (aSa σ ls cs).2) := by
 cases c <;> first | rfl | exact absurd rfl hc
theorem sYa (ls : List (Option (TypeId × Nat))) : ∀ (cs : List LV) (σ : St), (aSa σ ls cs).2.boxes = σ.boxes := by
 induction ls with
 | nil => intro cs σ; simp only [aSa]
 | cons l ls ih =>
  intro cs σ
  cases cs with
  | nil => cases l <;> rfl
  | cons c cs =>
   cases l with
   | none => simp only [aSa, ih]
   | some l =>
    by_cases hc : c = .nils
    ·subst hc
     obtain ⟨e, sz⟩ := l
     simp only [aSa]
     split <;> simp only [ih]
    ·rw [nCa hc]; exact ih cs σ
def jFb (w : World) (k off : Nat) (us : List Value) : Prop := ∀ (j : Nat) (u : Value), us[j]? = some u → w.cell? ⟨k, off + j, none⟩ = some u
theorem kFa {w : World} {k j : Nat} {cs : Array Value} {T : TypeId} {fr : Nat × Nat} (h : w.heap[k]? = some (.cells cs T fr)) : w.cell? ⟨k, j, none⟩ = cs[j]? := cell_of_row w k j cs T fr h
theorem lNa (h : sPa g w) {k off : Nat} {us rest : List Value} (he : (g.fz k).drop off = us ++ rest) : jFb w k off us := by
 intro j u hj
 have hu : (g.fz k)[off + j]? = some u := by
  rw [← List.getElem?_drop, he, List.getElem?_append_left (List.getElem?_eq_some_iff.1 hj).1]; exact hj
 have hn : g.fz k ≠ [] := by intro h0; rw [h0] at hu; simp at hu
 obtain ⟨cs, T, fr, h1, h2⟩ := h k hn
 rw [kFa h1]
 have := gYa h2 hu
 simpa using this
theorem jFb.take {k off : Nat} {us : List Value} (h : jFb w k off us) (n : Nat) : jFb w k off (us.take n) := fun j u hj => h j u (bLa hj).1
theorem jFb.drop {k off : Nat} {us : List Value} (h : jFb w k off us) (n : Nat) : jFb w k (off + n) (us.drop n) := fun j u hj => by
 rw [List.getElem?_drop] at hj
 have := h _ _ hj
 rw [← Nat.add_assoc] at this; exact this
theorem nEa {t : TypeId} {b : Bool} (h : xVa P t = some b) (w : World) : (isAgg t).run P w = .ok b w := by
 unfold xVa at h
 unfold isAgg
 split at h
 ·rename_i fs hu; cases h; simp [run_underlying hu]
 ·rename_i n e hu; cases h; simp [run_underlying hu]
 ·rename_i d h1 h2 hu
  cases h
  cases d <;> simp_all [run_underlying hu]
 ·cases h
theorem uFa {t : TypeId} {cs : List LV} {lv : LV} {k off : Nat} {us : List Value} (hr : bDa P t cs = some lv) (hl : jFb w k off us) (h1 : ∀ u ∈ us, u.oneCell' = true) (hc : aBa g cs us) :
  ∃ v, (Instr.loadAt t (.pointer (some ⟨k, off, none⟩))).run P w = .ok v w ∧ aEa g lv v := by
 unfold bDa at hr
 simp only [Option.bind_eq_bind, Option.bind_eq_some_iff] at hr
 obtain ⟨n, hn, b, hb, hr⟩ := hr
 have hi : ∃ i, P.info? t = some i ∧ i.size = n := by
  unfold bKa at hn
  simpa [Option.map_eq_some_iff] using hn
 obtain ⟨i, hi, hin⟩ := hi
 have hlen := aPa hc
 cases b with
 | true =>
  simp only [if_true] at hr
  split at hr
  ·rename_i hle
   cases hr
   have hcells := run_loadCells_list (P := P) (w := w) ⟨k, off, none⟩ (us.take n) (fun j u hj => by rw [cSa]; exact hl.take n j u hj)
   have hlen2 : (us.take n).length = n := by rw [List.length_take, hlen]; omega
   rw [hlen2] at hcells
   refine ⟨.agg (us.take n).toArray, ?_, ?_⟩
   ·simp [Instr.loadAt, Instr.sureAddr, loadVar, nEa hb, sizeOf, typeInfo, hi, hin, hcells]
   ·simp only [aEa]
    exact ⟨_, rfl, by simpa using kDa n hc, fun u hu => h1 u (List.mem_of_mem_take (by simpa using hu))⟩
  ·cases hr
 | false =>
  cases cs with
  | nil => simp at hr
  | cons c cs =>
   simp only [List.head?_cons] at hr
   have hr' : c = lv := by simpa using hr
   subst hr'
   simp only [aBa] at hc
   obtain ⟨v, vs', rfl, h2, h3⟩ := hc
   refine ⟨v, ?_, h2⟩
   have := hl 0 v rfl
   simp only [Nat.add_zero] at this
   simp [Instr.loadAt, Instr.sureAddr, loadVar, nEa hb, this]
theorem hHa {t : TypeId} {k off : Nat} {cur : Array Value} {T : TypeId} {v : Value} {w : World} (hk : w.heap[k]? = some (.cells cur T (0, 0))) (hn : bKa P t = some v.cells.size) (h1 : ∀ u ∈ v.cells.toList, u.oneCell' = true)
  (hfit : off + v.cells.size ≤ cur.size) :
  (Instr.storeAt t (.pointer (some ⟨k, off, none⟩)) v).run P w = .ok () (w.setRow k (cur.toList.take off ++ v.cells.toList ++ cur.toList.drop (off + v.cells.size)).toArray) := by
 have hi : ∃ i, P.info? t = some i ∧ i.size = v.cells.size := by
  unfold bKa at hn
  simpa [Option.map_eq_some_iff] using hn
 obtain ⟨i, hi, hin⟩ := hi
 have hst := run_storeCells_at P k off T v.cells.toList 0 cur w hk (by simpa using hfit) h1
 simp only [Nat.add_zero, Array.length_toList] at hst
 have hadd : ∀ (vs : List Value) (i : Nat) (w : World), (storeCells ⟨k, off, none⟩ vs i).run P w = (storeCells ⟨k, off, none⟩ vs i).run P w := fun _ _ _ => rfl
 simp [Instr.storeAt, Instr.sureAddr, storeVar, sizeOf, typeInfo, hi, hin, hst]
theorem aMa.nilRow (h : aMa w0 f0 ms σ g w) (e : TypeId) {sz : Nat} (h0 : 0 < sz) :
  ∃ g', g.le g' ∧ aEa g' (.mref σ.rows.length 0) (.slice none 0 0) ∧ aMa w0 f0 ms { σ with rows := σ.rows ++ [{ xs := [], e, sz, wr := true }] } g' w := by
 have hnone : g.phys σ.rows.length 0 = none := by
  cases hp : g.phys σ.rows.length 0 with
  | none => rfl
  | some u =>
   obtain ⟨row, hr, _⟩ := h.phys _ _ _ hp
   simp at hr
 refine ⟨_, g.le_addPhys σ.rows.length 0 (.slice none 0 0) (.inl hnone), ?_, h.newRow (xs := []) (e := e) (sz := sz) (v := .slice none 0 0) (vs := []) (Below.refl _ _) (World.ownsRow_nil _ _ _ _) (fun k hk => by simp [Value.ownBlock] at hk) (by simp [aJa]) h0⟩
 exact jDa (by simp [G.addPhys]) ⟨none, 0, rfl⟩
theorem yMa (h : aMa w0 f0 ms σ g w) (own : Bool) (t : TypeId) {x : LV} {v : Value} (hv : aEa g x v) :
  ∃ g', g.le g' ∧ aEa g' (lAa P own t x σ).1 v ∧ aMa w0 f0 ms (lAa P own t x σ).2 g' w := by
 unfold lAa
 split
 ·split
  ·split
   ·rename_i h0
    simp only [aEa] at hv
    subst hv
    exact h.nilRow _ h0
   ·exact ⟨g, G.le.refl g, hv, h⟩
  ·exact ⟨g, G.le.refl g, hv, h⟩
 ·exact ⟨g, G.le.refl g, hv, h⟩
theorem sZa (ls : List (Option (TypeId × Nat))) : ∀ (cs : List LV) {σ : St} {g : G}, aMa w0 f0 ms σ g w →
  ∃ g', g.le g' ∧ aMa w0 f0 ms (aSa σ ls cs).2 g' w ∧ ∀ us, aBa g cs us → aBa g' (aSa σ ls cs).1 us := by
 induction ls with
 | nil => intro cs σ g h; simp only [aSa]; exact ⟨g, G.le.refl g, h, fun us hu => hu⟩
 | cons l ls ih =>
  intro cs σ g h
  cases cs with
  | nil =>
   have e1 : aSa σ (l :: ls) [] = ([], σ) := by cases l <;> rfl
   rw [e1]
   exact ⟨g, G.le.refl g, h, fun us hu => hu⟩
  | cons c cs =>
   have skip : ∃ g', g.le g' ∧ aMa w0 f0 ms (aSa σ ls cs).2 g' w ∧ ∀ us, aBa g (c :: cs) us → aBa g' (c :: (aSa σ ls cs).1) us := by
    obtain ⟨g2, m1, m2, m3⟩ := ih cs h
    refine ⟨g2, m1, m2, fun us hu => ?_⟩
    simp only [aBa] at hu ⊢
    obtain ⟨v, vs', rfl, q1, q2⟩ := hu
    exact ⟨v, vs', rfl, cFa m1 _ _ q1, m3 _ q2⟩
   cases l with
   | none => simpa only [aSa] using skip
   | some l =>
    by_cases hc : c = .nils
    ·subst hc
     obtain ⟨e, sz⟩ := l
     simp only [aSa]
     split
     ·rename_i h0
      obtain ⟨g1, k1, k2, k3⟩ := h.nilRow e h0
      obtain ⟨g2, m1, m2, m3⟩ := ih cs k3
      refine ⟨g2, k1.trans m1, m2, fun us hu => ?_⟩
      simp only [aBa] at hu ⊢
      obtain ⟨v, vs', rfl, q1, q2⟩ := hu
      simp only [aEa] at q1
      subst q1
      exact ⟨_, vs', rfl, cFa m1 _ _ k2, m3 _ (aIa k1 _ _ q2)⟩
     ·exact skip
    ·rw [nCa hc]; exact skip
theorem aMa.boxed (h : aMa w0 f0 ms σ g w) (own : Bool) (t T : TypeId) {cells : List LV} {cs : Array Value} (hc : aBa g cells cs.toList) (h1 : ∀ u ∈ cs.toList, u.oneCell' = true) :
  ∃ g', g.le g' ∧ aEa g' (fRa P own t cells σ).1 (.pointer (some ⟨w.heap.size, 0, none⟩)) ∧ aMa w0 f0 ms (fRa P own t cells σ).2 g' (w.alloc (.cells cs T)) := by
 unfold fRa
 split
 ·obtain ⟨g1, k1, k2, k3⟩ := sZa (eOa P 8 t) cells h
  have hb := k2.newBox T (k3 _ hc) h1
  have hbl : (aSa σ (eOa P 8 t) cells).2.boxes.length = σ.boxes.length := by rw [sYa]
  refine ⟨g1.addBox w.heap.size, k1.trans (g1.le_addBox _), ?_, hb⟩
  simp only [aEa]
  exact ⟨w.heap.size, by simp [G.addBox, ← hbl, ← k2.boxl], rfl⟩
 ·refine ⟨g.addBox w.heap.size, g.le_addBox _, ?_, h.newBox T hc h1⟩
  simp only [aEa]
  exact ⟨w.heap.size, by simp [G.addBox, ← h.boxl], rfl⟩
theorem uUa {own : Bool} {x : Operand} {e : Env} {a : Act} (hT : dYa g e.t a.tmps) (h : aMa w0 f0 ms σ g w) {o : Oper} (ho : o.op = .move x ∨ o.op = .assign x) :
  bWa w0 f0 ms g (lAa P own o.type (e.ev x) σ).1 (lAa P own o.type (e.ev x) σ).2 ((execOp a.eval o).run P w) := by
 obtain ⟨g', k1, k2, k3⟩ := yMa (P := P) h own o.type (aZa hT x)
 refine ⟨_, w, g', .inl ?_, k2, k1, k3⟩
 rcases ho with ho | ho <;> simp [execOp, ho]
theorem eSb {c x y : Operand} {e : Env} {a : Act} (hT : dYa g e.t a.tmps) (h : aMa w0 f0 ms σ g w) {o : Oper} (ho : o.op = .pick c x y) {lv : LV} (hp : cNb (e.ev c) (e.ev x) (e.ev y) = some lv) :
  bWa w0 f0 ms g lv σ ((execOp a.eval o).run P w) := by
 have hc := aZa hT c
 unfold cNb at hp
 split at hp
 ·rename_i h1; cases hp
  rw [h1] at hc
  refine aLa h (aZa hT x) ?_
  simp [execOp, ho, dJa hc, asBool]
 ·rename_i h1; cases hp
  rw [h1] at hc
  refine aLa h (aZa hT y) ?_
  simp [execOp, ho, dJa hc, asBool]
 ·cases hp
theorem aVb (_hTy : lNb P) {own : Bool} {t : TypeId} {a : Act} (h : aMa w0 f0 ms σ g w) {o : Oper} (ho : o.op = .alloc t) {cs : List LV} (hz : iVa P t = some cs) :
  bWa w0 f0 ms g (fRa P own t cs σ).1 (fRa P own t cs σ).2 ((execOp a.eval o).run P w) := by
 obtain ⟨i, z, hi, hz0, _, h1, rfl⟩ := iAa hz
 obtain ⟨g', k1, k2, k3⟩ := h.boxed (P := P) own t t (cells := z.cells.toList.map bQa) (cs := z.cells) (by simpa using eTa bQa id z.cells.toList (fun x _ => dOa g x)) h1
 refine ⟨.pointer (some ⟨w.heap.size, 0, none⟩), w.alloc (.cells z.cells t), g', .inl ?_, k2, k1, k3⟩
 simp [execOp, ho, Instr.alloc, zeroValue, typeInfo, hi, hz0, newVar, newRow]
theorem iQb {own : Bool} {t : TypeId} {x : Operand} {e : Env} {a : Act} (hT : dYa g e.t a.tmps) (h : aMa w0 f0 ms σ g w) {o : Oper} (ho : o.op = .box t x) (hs : storable (e.ev x) = true) :
  bWa w0 f0 ms g (fRa P own t (e.ev x).cells σ).1 (fRa P own t (e.ev x).cells σ).2 ((execOp a.eval o).run P w) := by
 obtain ⟨hc, h1⟩ := eAa (aZa hT x) hs
 obtain ⟨g', k1, k2, k3⟩ := h.boxed (P := P) own t t hc h1
 refine ⟨.pointer (some ⟨w.heap.size, 0, none⟩), w.alloc (.cells (a.eval x).cells t), g', .inl ?_, k2, k1, k3⟩
 simp [execOp, ho, Instr.box, newVar, newRow]
theorem aMa.row_at (h : aMa w0 f0 ms σ g w) {r n k cap : Nat} {row : Row} (hr : σ.rows[r]? = some row) (hn : row.xs.length = n) (hp : g.phys r n = some (.slice (some ⟨k, 0, none⟩) n cap)) :
  ∃ cur, w.heap[k]? = some (.cells cur row.e (0, 0)) ∧ n ≤ cap ∧ cur.size = cap * row.sz ∧ aJa g row.xs row.sz (cur.toList.take (n * row.sz)) ∧ 0 < row.sz := by
 obtain ⟨v, vs, e1, e2, e3, e4, _⟩ := h.row r row hr
 rw [hn, hp] at e1; cases e1
 rcases e2.2 with ⟨hc, _⟩ | ⟨g1, cap1, cur1, hv, _, d1, d2, d3, d4, d5⟩
 ·cases hc
 ·injection hv with hv1 hv2 hv3
  subst hv3
  have : k = g1 := by injection hv1 with hv1; injection hv1
  subst this
  rw [hn] at d2 d5
  exact ⟨cur1, d1, d2, d4, by rw [d5]; exact e3, e4⟩
theorem eRb {t : TypeId} {x : Operand} {e : Env} {a : Act} (hT : dYa g e.t a.tmps) (h : aMa w0 f0 ms σ g w) {o : Oper} (ho : o.op = .load t x) {own : Bool} {r : LV × St} (hop : aDa P own o e.ev σ = some r) :
  bWa w0 f0 ms g r.1 r.2 ((execOp a.eval o).run P w) := by
 have hx := aZa hT x
 simp only [aDa, ho] at hop
 have fin : ∀ {cs : List LV} {lv : LV} {k off : Nat} {us : List Value}, bDa P t cs = some lv → jFb w k off us → (∀ u ∈ us, u.oneCell' = true) → aBa g cs us → a.eval x = .pointer (some ⟨k, off, none⟩) →
   bWa w0 f0 ms g lv σ ((execOp a.eval o).run P w) := fun h1 h2 h3 h4 h5 => by
  obtain ⟨v, hv, hr⟩ := uFa h1 h2 h3 h4
  refine aLa h hr ?_
  simp only [execOp, ho, h5, Sem.run_bind, hv, Result.andThen_ok, Sem.run_pure]
 split at hop
 ·rename_i b off hb
  rw [hb] at hx
  simp only [aEa] at hx
  obtain ⟨k, hk, hxv⟩ := hx
  simp only [Option.bind_eq_bind, Option.bind_eq_some_iff] at hop
  obtain ⟨cs, hcs, v, hv, hr⟩ := hop
  cases hr
  obtain ⟨_, _, cur, T, c1, c2, c3⟩ := h.box b cs k hcs hk
  refine fin hv (us := cur.toList.drop off) (fun j u hj => ?_) (fun u hu => c3 u (List.mem_of_mem_drop hu)) (eLa off c2) hxv
  rw [kFa c1]
  rw [List.getElem?_drop] at hj
  simpa using hj
 ·rename_i cs hb
  rw [hb] at hx
  simp only [aEa] at hx
  obtain ⟨k, off, us, rest, hxv, _, hd, hc, hone⟩ := hx
  simp only [Option.map_eq_some_iff] at hop
  obtain ⟨v, hv, hr⟩ := hop
  cases hr
  exact fin hv (lNa h.fz hd) hone hc hxv
 ·rename_i q n i sz off hb
  rw [hb] at hx
  simp only [aEa] at hx
  obtain ⟨k, cap, hp, hxv⟩ := hx
  simp only [Option.bind_eq_bind, Option.bind_eq_some_iff] at hop
  obtain ⟨row, hrow, y, hy, hop⟩ := hop
  split at hop
  ·rename_i hc
   obtain ⟨hn, hsz, hst⟩ := hc
   simp only [Option.map_eq_some_iff] at hop
   obtain ⟨v, hv, hr⟩ := hop
   cases hr
   obtain ⟨cur, c1, c2, c3, c4, c5⟩ := h.row_at hrow hn hp
   obtain ⟨u, u1, u2, u3, u4⟩ := pRa c4 hy
   obtain ⟨d1, d2⟩ := eAa u1 hst
   refine fin hv (us := u.cells.toList.drop off) (fun j u' hj => ?_) (fun u' hu' => d2 u' (List.mem_of_mem_drop hu')) (eLa off d1) hxv
   rw [kFa c1]
   rw [u2, List.getElem?_drop] at hj
   have h9 := (bLa hj)
   rw [List.getElem?_drop] at h9
   have h10 := bLa h9.1
   rw [← hsz]
   rw [← Nat.add_assoc] at h10
   simpa using h10.1
  ·cases hop
 ·cases hop
theorem uXa {cs new : List LV} {us : List Value} {v : Value} {off : Nat} (hc : aBa g cs us) (hn : aBa g new v.cells.toList) : aBa g (dIa cs off new) (us.take off ++ v.cells.toList ++ us.drop (off + v.cells.size)) := by
 unfold dIa
 have hl := aPa hn
 rw [Array.length_toList] at hl
 rw [hl]
 exact cQa (cQa (kDa off hc) hn) (eLa _ hc)
theorem bAb {t : TypeId} {x y : Operand} {e : Env} {a : Act} (hT : dYa g e.t a.tmps) (h : aMa w0 f0 ms σ g w) {o : Oper} (ho : o.op = .store t x y) {own : Bool} {r : LV × St} (hop : aDa P own o e.ev σ = some r) :
  bWa w0 f0 ms g r.1 r.2 ((execOp a.eval o).run P w) := by
 have hx := aZa hT x
 have hy := aZa hT y
 simp only [aDa, ho] at hop
 have hund : aEa g (.tuple []) Go.undef := by simp only [aEa]; exact ⟨#[], rfl, by simp [aBa]⟩
 split at hop
 ·rename_i b off hb
  rw [hb] at hx
  simp only [aEa] at hx
  obtain ⟨k, hk, hxv⟩ := hx
  simp only [Option.bind_eq_bind, Option.bind_eq_some_iff] at hop
  obtain ⟨cs, hcs, n, hn, hop⟩ := hop
  split at hop
  ·rename_i hc
   obtain ⟨hl, hst, hfit⟩ := hc
   cases hop
   obtain ⟨_, _, cur, T, c1, c2, c3⟩ := h.box b cs k hcs hk
   obtain ⟨d1, d2⟩ := eAa hy hst
   have hvl : (a.eval y).cells.size = n := by have := aPa d1; rw [Array.length_toList] at this; omega
   have hcur : cur.size = cs.length := by have := aPa c2; rw [Array.length_toList] at this; exact this
   have hrun := hHa (P := P) (t := t) (off := off) (v := a.eval y) c1 (by rw [hvl]; exact hn) d2 (by omega)
   have hbl : b < σ.boxes.length := (List.getElem?_eq_some_iff.1 hcs).1
   refine ⟨Go.undef, _, g, .inr ⟨?_, rfl⟩, hund, G.le.refl g, h.setBox hk c1 (cells' := dIa cs off (e.ev y).cells) (cs' := (cur.toList.take off ++ (a.eval y).cells.toList ++ cur.toList.drop (off + (a.eval y).cells.size)).toArray) ?_ ?_ hbl⟩
   ·simp only [execOp, ho, hxv, Sem.run_bind, hrun, Result.andThen_ok, Sem.run_pure]
   ·simpa using uXa (off := off) c2 d1
   ·intro u hu
    simp only [List.mem_append] at hu
    rcases hu with (hu | hu) | hu
    ·exact c3 u (List.mem_of_mem_take hu)
    ·exact d2 u hu
    ·exact c3 u (List.mem_of_mem_drop hu)
  ·cases hop
 ·rename_i q n i sz off hb
  rw [hb] at hx
  simp only [aEa] at hx
  obtain ⟨k, cap, hp, hxv⟩ := hx
  simp only [Option.bind_eq_bind, Option.bind_eq_some_iff] at hop
  obtain ⟨m, hm, row, hrow, hop⟩ := hop
  split at hop
  ·rename_i hc
   obtain ⟨hn, hwr, hoff, hmz, hsz, hi, hcl, hst, hnot⟩ := hc
   cases hop
   obtain ⟨g', k1, k2, k3⟩ := h.freeze (aQa (e.ev y))
   have hy' := hFa k1.le _ _ k3 hy
   obtain ⟨d1, d2⟩ := eAa hy' hst
   obtain ⟨row', r1, r2, r3, r4, r5⟩ := jWb σ (aQa (e.ev y)) q row hrow
   have hrr : row' = row := r5 hnot
   subst hrr
   subst hsz
   have hvl : (a.eval y).cells.size = row'.sz := by have := aPa d1; rw [Array.length_toList] at this; omega
   have hp' : g'.phys q row'.xs.length = some (.slice (some ⟨k, 0, none⟩) row'.xs.length cap) := by rw [k1.phys, hn]; exact hp
   obtain ⟨cur, c1, c2, c3, c4, c5⟩ := k2.row_at r1 rfl hp'
   have hile : i * row'.sz + row'.sz ≤ cur.size := by
    rw [c3]
    have hic : i + 1 ≤ cap := by omega
    have : (i + 1) * row'.sz ≤ cap * row'.sz := Nat.mul_le_mul_right row'.sz hic
    rw [Nat.add_mul] at this; omega
   have hrun := hHa (P := P) (t := t) (off := i * row'.sz) (v := a.eval y) c1 (by rw [hvl, ← hmz]; exact hm) d2 (by rw [hvl]; exact hile)
   have hset := k2.setElem (i := i) r1 hwr hp' (by omega) hy' (by rw [hvl]; exact ⟨rfl, d2⟩) c1
   rw [hvl] at hrun
   refine ⟨Go.undef, _, g', .inr ⟨?_, rfl⟩, cFa k1.le _ _ hund, k1.le, hset⟩
   subst hoff
   simp only [Nat.add_zero] at hxv
   simp only [execOp, ho, hxv, Sem.run_bind, hrun, Result.andThen_ok, Sem.run_pure]
  ·cases hop
 ·cases hop
end
end Go.Proofs.YtpeaaophmddhnaaGreat.LI
namespace Go.Proofs.YtpeaaophmddhnaaGreat.LI
open Go Go.RowKit
section
variable {P : Program} {w0 w : World} {f0 : Nat → List Value} {ms : List Nat} {σ : St} {g : G}
theorem bAa {t : TypeId} {n : Nat} (h : bKa P t = some n) : ∃ i, P.info? t = some i ∧ i.size = n := by
 unfold bKa at h
 simpa [Option.map_eq_some_iff] using h
theorem tUa {s : TypeId} {f off : Nat} {t : TypeId} (h : qWa P s f = some (off, t)) : ∃ fs x, P.underlying s = some (.struct fs) ∧ fs[f]? = some x ∧ x.offset = off ∧ x.type = t := by
 unfold qWa at h
 split at h
 ·rename_i fs hu
  simp only [Option.map_eq_some_iff, Prod.mk.injEq] at h
  obtain ⟨x, h1, h2, h3⟩ := h
  exact ⟨fs, x, hu, h1, h2, h3⟩
 ·cases h
theorem sFa {s : TypeId} {x : Operand} {f : Nat} {e : Env} {a : Act} (hT : dYa g e.t a.tmps) (h : aMa w0 f0 ms σ g w) {o : Oper} (ho : o.op = .fieldAddr s x f) {own : Bool} {r : LV × St} (hop : aDa P own o e.ev σ = some r) :
  bWa w0 f0 ms g r.1 r.2 ((execOp a.eval o).run P w) := by
 have hx := aZa hT x
 simp only [aDa, ho, Option.bind_eq_bind, Option.bind_eq_some_iff] at hop
 obtain ⟨⟨off, t⟩, hf, n, hn, hop⟩ := hop
 obtain ⟨fs, fd, hu, hfd, rfl, rfl⟩ := tUa hf
 obtain ⟨i, hi, hin⟩ := bAa hn
 split at hop
 ·cases hop
 ·rename_i hn0
  have run : ∀ {k q : Nat}, a.eval x = .pointer (some ⟨k, q, none⟩) → (execOp a.eval o).run P w = .ok (.value (.pointer (some ⟨k, q + fd.offset, none⟩))) w := fun {k q} hv => by
   have hsz : ¬ (i.size = 0) := by omega
   simp [execOp, ho, hv, Instr.fieldAt, run_underlying hu, hfd, Instr.sureAddr, fieldPlace, sizeOf, typeInfo, hi, hsz, cSa]
  split at hop
  ·rename_i b q hb
   cases hop
   rw [hb] at hx
   simp only [aEa] at hx
   obtain ⟨k, hk, hxv⟩ := hx
   exact aLa h (by simp only [aEa]; exact ⟨k, hk, rfl⟩) (run hxv)
  ·rename_i cs hb
   rw [hb] at hx
   simp only [aEa] at hx
   obtain ⟨k, q, us, rest, hxv, _, hd, hc, hone⟩ := hx
   split at hop
   ·rename_i hlt
    cases hop
    refine aLa h ?_ (run hxv)
    simp only [aEa]
    refine ⟨k, _, us.drop fd.offset, rest, rfl, fun h0 => ?_, ?_, eLa _ hc, fun u hu => hone u (List.mem_of_mem_drop hu)⟩
    ·have := congrArg List.length h0
     simp at this; omega
    ·rw [← List.drop_drop, hd, List.drop_append_of_le_length (by rw [aPa hc]; omega)]
   ·cases hop
  ·rename_i q n i' sz off' hb
   cases hop
   rw [hb] at hx
   simp only [aEa] at hx
   obtain ⟨k, cap, hp, hxv⟩ := hx
   refine aLa h ?_ (run hxv)
   simp only [aEa]
   exact ⟨k, cap, hp, by rw [Nat.add_assoc]⟩
  ·cases hop
theorem kKa {t : TypeId} {cs : List LV} {lv : LV} {arr : Array Value} {off : Nat} (hr : bDa P t (cs.drop off) = some lv) (hc : aBa g cs arr.toList) (h1 : ∀ u ∈ arr.toList, u.oneCell' = true) :
  ∃ v, (part t arr off).run P w = .ok v w ∧ aEa g lv v := by
 unfold bDa at hr
 simp only [Option.bind_eq_bind, Option.bind_eq_some_iff] at hr
 obtain ⟨n, hn, b, hb, hr⟩ := hr
 obtain ⟨i, hi, hin⟩ := bAa hn
 have hlen := aPa hc
 cases b with
 | true =>
  simp only [if_true] at hr
  split at hr
  ·rename_i hle
   cases hr
   refine ⟨.agg (arr.extract off (off + n)), ?_, ?_⟩
   ·simp [part, nEa hb, sizeOf, typeInfo, hi, hin]
   ·simp only [aEa]
    have he : (arr.extract off (off + n)).toList = (arr.toList.drop off).take n := by
     rw [Array.toList_extract]; simp [List.extract]
    refine ⟨_, rfl, by rw [he]; exact kDa n (eLa off hc), fun u hu => ?_⟩
    rw [he] at hu
    exact h1 u (List.mem_of_mem_drop (List.mem_of_mem_take hu))
  ·cases hr
 | false =>
  have hd := eLa off hc
  cases hcs : cs.drop off with
  | nil => rw [hcs] at hr; simp at hr
  | cons c cs' =>
   rw [hcs] at hr hd
   have hr' : c = lv := by simpa using hr
   subst hr'
   simp only [aBa] at hd
   obtain ⟨v, vs', hv, h2, _⟩ := hd
   refine ⟨v, ?_, h2⟩
   have : arr[off]? = some v := by
    have := congrArg (fun l : List Value => l[0]?) hv
    simpa using this
   simp [part, nEa hb, this]
theorem aXb {s : TypeId} {x : Operand} {f : Nat} {e : Env} {a : Act} (hT : dYa g e.t a.tmps) (h : aMa w0 f0 ms σ g w) {o : Oper} (ho : o.op = .field s x f) {own : Bool} {r : LV × St} (hop : aDa P own o e.ev σ = some r) :
  bWa w0 f0 ms g r.1 r.2 ((execOp a.eval o).run P w) := by
 have hx := aZa hT x
 simp only [aDa, ho, Option.bind_eq_bind, Option.bind_eq_some_iff] at hop
 obtain ⟨⟨off, t⟩, hf, hop⟩ := hop
 obtain ⟨fs, fd, hu, hfd, rfl, rfl⟩ := tUa hf
 split at hop
 ·rename_i cs hb
  rw [hb] at hx
  simp only [aEa] at hx
  obtain ⟨arr, hxv, h2, h3⟩ := hx
  simp only [Option.map_eq_some_iff] at hop
  obtain ⟨v, hv, hr⟩ := hop
  cases hr
  obtain ⟨u, hu1, hu2⟩ := kKa (w := w) hv h2 h3
  refine aLa h hu2 ?_
  simp [execOp, ho, hxv, Instr.field, run_underlying hu, hfd, asAgg, hu1]
 ·cases hop
theorem dLa {t e : TypeId} (h : fMa P t = some e) : P.underlying t = some (.slice e) := by
 unfold fMa at h
 split at h
 ·rename_i x hu; cases h; exact hu
 ·cases h
theorem eFa {x : LV} {n : Int} {v : Value} (hx : aEa g x v) (h : cJa x = some n) : ∃ k, v = .int k n := by
 unfold cJa at h
 split at h
 ·rename_i k m; cases h; exact ⟨k, bOa hx⟩
 ·cases h
theorem zZa {t : TypeId} {x ix : Operand} {e : Env} {a : Act} (hT : dYa g e.t a.tmps) (h : aMa w0 f0 ms σ g w) {o : Oper} (ho : o.op = .indexAddr t x ix) {m : Nat} {el : TypeId} {r : LV × St}
  (hop : ((bKa P el).bind fun sz => (cJa (e.ev ix)).bind fun k =>
   if 0 ≤ k ∧ k < m ∧ 1 < m ∧ 0 < sz then match e.ev x with
    | .bptr b o => some (.bptr b (o + k.toNat * sz), σ)
    | .pptr cs => if k.toNat * sz < cs.length then some (.pptr (cs.drop (k.toNat * sz)), σ) else none
    | .rptr r n j z o => some (.rptr r n j z (o + k.toNat * sz), σ)
    | _ => none
   else none) = some r) (hu : P.underlying t = some (.array m el)) : bWa w0 f0 ms g r.1 r.2 ((execOp a.eval o).run P w) := by
 have hx := aZa hT x
 have hi := aZa hT ix
 simp only [Option.bind_eq_some_iff] at hop
 obtain ⟨sz, hsz, k, hk, hop⟩ := hop
 obtain ⟨inf, hinf, hins⟩ := bAa hsz
 obtain ⟨kd, hiv⟩ := eFa hi hk
 split at hop
 ·rename_i hc
  obtain ⟨hk0, hkm, hm1, hsz0⟩ := hc
  have run : ∀ {b off : Nat}, a.eval x = .pointer (some ⟨b, off, none⟩) → (execOp a.eval o).run P w = .ok (.value (.pointer (some ⟨b, off + k.toNat * sz, none⟩))) w := fun {b off} hv => by
   have hb : 0 ≤ k ∧ k < (m : Int) := ⟨hk0, hkm⟩
   simp [execOp, ho, hv, hiv, Instr.indexAt, Instr.sureAddr, asIntOf, run_underlying hu, hb, sizeOf, typeInfo, hinf, hins, cSa]
  split at hop
  ·rename_i b q hb
   cases hop
   rw [hb] at hx
   simp only [aEa] at hx
   obtain ⟨k', hk', hxv⟩ := hx
   exact aLa h (by simp only [aEa]; exact ⟨k', hk', rfl⟩) (run hxv)
  ·rename_i cs hb
   rw [hb] at hx
   simp only [aEa] at hx
   obtain ⟨k', q, us, rest, hxv, _, hd, hc, hone⟩ := hx
   split at hop
   ·rename_i hlt
    cases hop
    refine aLa h ?_ (run hxv)
    simp only [aEa]
    refine ⟨k', _, us.drop (k.toNat * sz), rest, rfl, fun h0 => ?_, ?_, eLa _ hc, fun u hu => hone u (List.mem_of_mem_drop hu)⟩
    ·have := congrArg List.length h0
     simp at this; omega
    ·rw [← List.drop_drop, hd, List.drop_append_of_le_length (by rw [aPa hc]; omega)]
   ·cases hop
  ·rename_i q n i' sz' off' hb
   cases hop
   rw [hb] at hx
   simp only [aEa] at hx
   obtain ⟨k', cap, hp, hxv⟩ := hx
   refine aLa h ?_ (run hxv)
   simp only [aEa]
   exact ⟨k', cap, hp, by rw [Nat.add_assoc]⟩
  ·cases hop
 ·cases hop
theorem sGa {t : TypeId} {x ix : Operand} {e : Env} {a : Act} (hT : dYa g e.t a.tmps) (h : aMa w0 f0 ms σ g w) {o : Oper} (ho : o.op = .indexAddr t x ix) {own : Bool} {r : LV × St} (hop : aDa P own o e.ev σ = some r) :
  bWa w0 f0 ms g r.1 r.2 ((execOp a.eval o).run P w) := by
 have hx := aZa hT x
 have hi := aZa hT ix
 simp only [aDa, ho] at hop
 split at hop
 ·exact zZa hT h ho hop ‹_›
 simp only [Option.bind_eq_bind, Option.bind_eq_some_iff] at hop
 obtain ⟨el, hel, sz, hsz, k, hk, hop⟩ := hop
 have hu := dLa hel
 obtain ⟨inf, hinf, hins⟩ := bAa hsz
 obtain ⟨kd, hiv⟩ := eFa hi hk
 split at hop
 ·rename_i hk0
  have run : ∀ {b off n cap : Nat}, a.eval x = .slice (some ⟨b, off, none⟩) n cap → k < n → (execOp a.eval o).run P w = .ok (.value (.pointer (some ⟨b, off + k.toNat * sz, none⟩))) w := fun {b off n cap} hv hlt => by
   have hb : 0 ≤ k ∧ k < (n : Int) := ⟨hk0, hlt⟩
   simp [execOp, ho, hv, hiv, Instr.indexAt, asIntOf, run_underlying hu, hb, sizeOf, typeInfo, hinf, hins, cSa]
  split at hop
  ·rename_i es hb
   rw [hb] at hx
   simp only [aEa] at hx
   simp only [Option.bind_eq_some_iff] at hop
   obtain ⟨y, hy, hop⟩ := hop
   split at hop
   ·rename_i hc
    obtain ⟨hl, hst, hpos⟩ := hc
    cases hop
    obtain ⟨ao, cap, hv, hle, he⟩ := hx
    have hlt : k.toNat < es.length := (List.getElem?_eq_some_iff.1 hy).1
    rcases he with he | ⟨b, off, sz', hs0, hao, hes⟩
    ·subst he; simp at hlt
    ·subst hao
     obtain ⟨u, u1, u2, u3, u4⟩ := pRa hes hy
     obtain ⟨d1, d2⟩ := eAa u1 hst
     have hss : sz' = sz := by have := aPa d1; rw [Array.length_toList, u3] at this; omega
     subst hss
     refine aLa h ?_ (run hv (by omega))
     simp only [aEa]
     refine ⟨b, _, u.cells.toList, ((g.fz b).drop (off + k.toNat * sz')).drop sz', rfl, fun h0 => ?_, ?_, d1, d2⟩
     ·rw [h0] at hl; simp at hl; omega
     ·rw [u2, List.drop_drop, List.take_append_drop]
   ·cases hop
  ·rename_i q n hb
   rw [hb] at hx
   simp only [aEa] at hx
   obtain ⟨hp, ao, cap, hv⟩ := hx
   simp only [Option.bind_eq_some_iff] at hop
   obtain ⟨row, hrow, hop⟩ := hop
   split at hop
   ·rename_i hc
    obtain ⟨hn, hs, hkn⟩ := hc
    cases hop
    rw [hv] at hp
    obtain ⟨v, vs, e1, e2, _⟩ := h.row q row hrow
    rw [hn, hp] at e1; cases e1
    rcases e2.2 with ⟨hc, hz⟩ | ⟨g1, cap1, cur1, hv', _⟩
    ·omega
    ·cases hv'
     refine aLa h ?_ (run hv hkn)
     simp only [aEa]
     exact ⟨g1, cap, by rw [← hn] at hp ⊢; exact hp, by simp⟩
   ·cases hop
  ·rename_i q n lo hi' sz' hb
   rw [hb] at hx
   simp only [aEa] at hx
   obtain ⟨ao, cap, a', hp, hv, hlo, hhi, hadr⟩ := hx
   simp only [Option.bind_eq_some_iff] at hop
   obtain ⟨row, hrow, hop⟩ := hop
   split at hop
   ·rename_i hc
    obtain ⟨hn, hs, hs', hlh, hhn, hkn⟩ := hc
    cases hop
    subst hs'
    obtain ⟨v, vs, e1, e2, _⟩ := h.row q row hrow
    rw [hn, hp] at e1; cases e1
    rcases e2.2 with ⟨hc, hz⟩ | ⟨g1, cap1, cur1, hv', _, _, hnc, _⟩
    ·omega
    ·cases hv'
     rw [hadr (by omega)] at hv
     simp only [Option.map_some, cSa, Nat.zero_add] at hv
     refine aLa h ?_ (run hv hkn)
     simp only [aEa]
     refine ⟨g1, cap, by rw [← hn] at hp ⊢; exact hp, ?_⟩
     rw [Nat.add_zero, Nat.add_mul]
   ·cases hop
  ·cases hop
 ·cases hop
theorem aYb {t : TypeId} {x ix : Operand} {e : Env} {a : Act} (hT : dYa g e.t a.tmps) (h : aMa w0 f0 ms σ g w) {o : Oper} (ho : o.op = .index t x ix) {own : Bool} {r : LV × St} (hop : aDa P own o e.ev σ = some r) :
  bWa w0 f0 ms g r.1 r.2 ((execOp a.eval o).run P w) := by
 have hx := aZa hT x
 have hi := aZa hT ix
 simp only [aDa, ho, Option.bind_eq_bind, Option.bind_eq_some_iff] at hop
 obtain ⟨k, hk, hop⟩ := hop
 obtain ⟨kd, hiv⟩ := eFa hi hk
 split at hop
 ·rename_i s hu hb
  rw [hb] at hx
  split at hop
  ·rename_i hk0
   simp only [Option.map_eq_some_iff] at hop
   obtain ⟨c, hc, hr⟩ := hop
   cases hr
   refine aLa h (bPa _ _) ?_
   simp [execOp, ho, dGa hx, hiv, Instr.index, asIntOf, run_underlying hu, hk0, hc]
  ·cases hop
 ·rename_i m el cs hu hb
  rw [hb] at hx
  split at hop
  ·rename_i hkm
   simp only [Option.bind_eq_some_iff, Option.map_eq_some_iff] at hop
   obtain ⟨sz, hsz, v, hv, rfl⟩ := hop
   obtain ⟨inf, hinf, hins⟩ := bAa hsz
   simp only [aEa] at hx
   obtain ⟨arr, hxv, h2, h3⟩ := hx
   obtain ⟨u, hu1, hu2⟩ := kKa (w := w) hv h2 h3
   refine aLa h hu2 ?_
   simp [execOp, ho, hxv, hiv, Instr.index, asIntOf, run_underlying hu, hkm, sizeOf, typeInfo, hinf, hins, hu1]
  ·cases hop
 ·cases hop
theorem wMa {x : Operand} {i : Nat} {e : Env} {a : Act} (hT : dYa g e.t a.tmps) (h : aMa w0 f0 ms σ g w) {o : Oper} (ho : o.op = .extract x i) {own : Bool} {r : LV × St} (hop : aDa P own o e.ev σ = some r) :
  bWa w0 f0 ms g r.1 r.2 ((execOp a.eval o).run P w) := by
 have hx := aZa hT x
 simp only [aDa, ho] at hop
 split at hop
 ·rename_i vs hb
  rw [hb] at hx
  simp only [aEa] at hx
  obtain ⟨arr, hv, hc⟩ := hx
  simp only [Option.map_eq_some_iff] at hop
  obtain ⟨lv, hlv, hr⟩ := hop
  cases hr
  obtain ⟨u, hu, hur⟩ := lYa hc hlv
  refine aLa h hur ?_
  have : arr[i]? = some u := by simpa using hu
  simp [execOp, ho, hv, Instr.extract, this]
 ·cases hop
theorem tGa {x : Operand} {e : Env} {a : Act} (hT : dYa g e.t a.tmps) (h : aMa w0 f0 ms σ g w) {o : Oper} (ho : o.op = .nilCheck x) {own : Bool} {r : LV × St} (hop : aDa P own o e.ev σ = some r) :
  bWa w0 f0 ms g r.1 r.2 ((execOp a.eval o).run P w) := by
 have hx := aZa hT x
 simp only [aDa, ho] at hop
 have fin : ∀ {ad : Addr}, a.eval x = .pointer (some ad) → r = (e.ev x, σ) → bWa w0 f0 ms g r.1 r.2 ((execOp a.eval o).run P w) := fun hv hr => by
  subst hr
  refine aLa h hx ?_
  simp [execOp, ho, hv]
 split at hop
 ·rename_i b off hb
  have hx' := hx
  rw [hb] at hx'
  simp only [aEa] at hx'
  obtain ⟨k, _, hv⟩ := hx'
  cases hop
  exact fin hv (by rw [hb])
 ·rename_i cs hb
  have hx' := hx
  rw [hb] at hx'
  simp only [aEa] at hx'
  obtain ⟨k, q, us, rest, hv, _⟩ := hx'
  cases hop
  exact fin hv (by rw [hb])
 ·rename_i q n i sz off hb
  have hx' := hx
  rw [hb] at hx'
  simp only [aEa] at hx'
  obtain ⟨k, cap, _, hv⟩ := hx'
  cases hop
  exact fin hv (by rw [hb])
 ·cases hop
theorem tFa {fn : Fn} {fst caps : Array Operand} {e : Env} {a : Act} (hT : dYa g e.t a.tmps) (h : aMa w0 f0 ms σ g w) {o : Oper} (ho : o.op = .makeFunc fn fst caps) (hfn : ∀ l, fn ≠ .yield l) :
  bWa w0 f0 ms g (.func fn (fst.toList.map e.ev) (caps.toList.map e.ev)) σ ((execOp a.eval o).run P w) := by
 refine aLa (v := .func fn (fst.map a.eval) (caps.map a.eval)) h ?_ (by simp [execOp, ho, Instr.makeFunc])
 simp only [aEa]
 refine ⟨fn, _, _, rfl, ?_, by simpa using xOa hT fst.toList, by simpa using xOa hT caps.toList⟩
 cases fn with
 | yield l => exact absurd rfl (hfn l)
 | _ => rfl
end
end Go.Proofs.YtpeaaophmddhnaaGreat.LI
namespace Go.Proofs.YtpeaaophmddhnaaGreat.LI
open Go Go.RowKit
set_option linter.unusedSimpArgs false
set_option linter.unusedVariables false
section
variable {P : Program} {w0 w : World} {f0 : Nat → List Value} {ms : List Nat} {σ : St} {g : G}
theorem mIa (h : aMa w0 f0 ms σ g w) {x : LV} {es : List LV} {v : Value} (hx : aEa g x v) (he : fNa σ x = some es) :
  ∃ g', g.only w0 g' ∧ aMa w0 f0 ms (gVa σ (aQa x)) g' w ∧ aEa g' (.slice es) v := by
 obtain ⟨g', k1, k2, k3⟩ := h.freeze (aQa x)
 refine ⟨g', k1, k2, ?_⟩
 have hf := hFa k1.le x v k3 hx
 unfold fNa at he
 split at he
 ·cases he
  simpa only [bIa] using hf
 ·cases he
  simpa [bIa] using hf
 ·cases he
  simpa [bIa] using hf
 ·rename_i r n
  split at he
  ·rename_i row hrow
   split at he
   ·rename_i hn
    cases he
    simpa [bIa, hrow, hn] using hf
   ·cases he
  ·cases he
 ·rename_i r n lo hi sz
  split at he
  ·rename_i row hrow
   split at he
   ·rename_i hn
    cases he
    simpa only [bIa, hrow, if_pos hn] using hf
   ·cases he
  ·cases he
 ·cases he
def wTa (v : Option LV) (d m q : Nat) : Prop :=
 match v with
 | none => q = d
 | some v => ∃ x, cJa v = some x ∧ 0 ≤ x ∧ x ≤ m ∧ q = x.toNat
theorem mAa {v : Option LV} {d m q : Nat} (hq : xHa v d m = some q) : wTa v d m q := by
 unfold xHa at hq
 unfold wTa
 cases v with
 | none => simpa using hq.symm
 | some v =>
  simp only at hq ⊢
  cases hv : cJa v with
  | none => rw [hv] at hq; cases hq
  | some x =>
   rw [hv] at hq
   simp only at hq
   split at hq
   ·rename_i hb; cases hq; exact ⟨x, rfl, hb.1, hb.2, rfl⟩
   ·cases hq
theorem oWa {lo hi : Option LV} {n q l k : Nat} (h : dHa lo hi n q = some (l, k)) : wTa hi n q k ∧ wTa lo 0 k l := by
 unfold dHa at h
 simp only [Option.bind_eq_some_iff] at h
 obtain ⟨k', hk, l', hl, he⟩ := h
 cases he
 exact ⟨mAa hk, mAa hl⟩
theorem lRa {lo hi : Option LV} {n q l k : Nat} (h : dHa lo hi n q = some (l, k)) (hq : n ≤ q) : l ≤ k ∧ k ≤ q := by
 obtain ⟨h1, h2⟩ := oWa h
 unfold wTa at h1 h2
 cases hi with
 | none =>
  cases lo with
  | none => simp only at h1 h2; omega
  | some v => simp only at h1 h2; obtain ⟨x, _, a, b, c⟩ := h2; omega
 | some u =>
  simp only at h1
  obtain ⟨y, _, a1, b1, c1⟩ := h1
  cases lo with
  | none => simp only at h2; omega
  | some v => simp only at h2; obtain ⟨x, _, a, b, c⟩ := h2; omega
theorem kOa {e : Env} {a : Act} (hT : dYa g e.t a.tmps) {lo hi : Option Operand} {isS : Bool} {n q len cap l k : Nat} (h : dHa (lo.map e.ev) (hi.map e.ev) n q = some (l, k)) (hn : len = n) (hc : q ≤ cap) (w : World) :
  (Instr.sliceBounds isS len cap (lo.map a.eval) (hi.map a.eval) none).run P w = .ok (l, k, cap) w := by
 subst hn
 obtain ⟨h1, h2⟩ := oWa h
 unfold wTa at h1 h2
 have bnd : ∀ {x : Operand} {m : Int} {y : Nat} (c : BoundsCode), cJa (e.ev x) = some m → 0 ≤ m → m ≤ y → (Instr.sliceBound (a.eval x) y c).run P w = .ok m.toNat w := fun {x m y} c hm h0 hy => by
  obtain ⟨kd, hv⟩ := eFa (aZa hT x) hm
  simp [Instr.sliceBound, hv, asIntOf, h0, hy]
 cases hi with
 | none =>
  simp only [Option.map_none] at h1 h2 ⊢
  subst h1
  cases lo with
  | none =>
   simp only [Option.map_none] at h2 ⊢
   subst h2
   simp [Instr.sliceBounds]
  | some u =>
   simp only [Option.map_some] at h2 ⊢
   obtain ⟨x, hx, a1, a2, rfl⟩ := h2
   simp [Instr.sliceBounds, bnd _ hx a1 a2]
 | some v =>
  simp only [Option.map_some] at h1 h2 ⊢
  obtain ⟨y, hy, b1, b2, rfl⟩ := h1
  have hyc : y ≤ (cap : Int) := by omega
  cases lo with
  | none =>
   simp only [Option.map_none] at h2 ⊢
   subst h2
   cases isS <;> simp [Instr.sliceBounds, bnd _ hy b1 hyc]
  | some u =>
   simp only [Option.map_some] at h2 ⊢
   obtain ⟨x, hx, a1, a2, rfl⟩ := h2
   cases isS <;> simp [Instr.sliceBounds, bnd _ hy b1 hyc, bnd _ hx a1 a2]
theorem gLa {es : List LV} {sz sz' : Nat} {vs : List Value} (hok : bGa sz es = true) (hne : es ≠ []) (he : aJa g es sz' vs) : sz' = sz := by
 cases es with
 | nil => exact absurd rfl hne
 | cons y es =>
  simp only [bGa, List.all_cons, Bool.and_eq_true, beq_iff_eq] at hok
  simp only [aJa] at he
  obtain ⟨⟨u, h1, h2, h3, _⟩, _⟩ := he
  obtain ⟨d1, _⟩ := eAa h1 hok.1.2
  have := aPa d1
  rw [Array.length_toList, h3] at this
  omega
theorem yUa {es : List LV} {v : Value} {l k sz : Nat} (hok : bGa sz es = true) (hv : aEa g (.slice es) v) (hl : l ≤ k) (hk : k ≤ es.length) :
  ∃ ao cap, v = .slice ao es.length cap ∧ es.length ≤ cap ∧ aEa g (.slice ((es.drop l).take (k - l))) (.slice (if cap = l then ao else ao.map (·.add (l * sz))) (k - l) (cap - l)) := by
 simp only [aEa] at hv
 obtain ⟨ao, cap, rfl, hle, he⟩ := hv
 refine ⟨ao, cap, rfl, hle, ?_⟩
 have hlen : ((es.drop l).take (k - l)).length = k - l := by rw [List.length_take, List.length_drop]; omega
 simp only [aEa]
 refine ⟨_, cap - l, by rw [hlen], by omega, ?_⟩
 by_cases hz : k - l = 0
 ·exact .inl (List.eq_nil_of_length_eq_zero (by rw [hlen]; exact hz))
 ·rcases he with he | ⟨b, off, sz', hs0, hao, hes⟩
  ·subst he; simp at hk; omega
  ·subst hao
   have hne : es ≠ [] := by intro h0; subst h0; simp at hk; omega
   have hss := gLa hok hne hes
   subst hss
   refine .inr ⟨b, off + l * sz', sz', hs0, ?_, ?_⟩
   ·rw [if_neg (by omega)]
    simp [cSa]
   ·rw [← List.drop_drop]
    exact kCa _ (gDa _ hes)
theorem lPa {e : Env} {a : Act} (hT : dYa g e.t a.tmps) {lo hi : Option Operand} {mx : Operand} {n len cap l k q : Nat} (h1 : xHa (some (e.ev mx)) 0 n = some q) (h2 : (hi.bind fun h => xHa (some (e.ev h)) 0 q) = some k) (h3 : xHa (lo.map e.ev) 0 k = some l) (hc : n ≤ cap) (w : World) :
  (Instr.sliceBounds true len cap (lo.map a.eval) (hi.map a.eval) (some (a.eval mx))).run P w = .ok (l, k, q) w ∧ l ≤ k ∧ k ≤ q ∧ q ≤ n := by
 have bnd : ∀ {x : Operand} {m : Int} {y : Nat} (c : BoundsCode), cJa (e.ev x) = some m → 0 ≤ m → m ≤ y → (Instr.sliceBound (a.eval x) y c).run P w = .ok m.toNat w := fun {x m y} c hm h0 hy => by
  obtain ⟨kd, hv⟩ := eFa (aZa hT x) hm
  simp [Instr.sliceBound, hv, asIntOf, h0, hy]
 have b1 := mAa h1
 obtain ⟨x1, e1, p1, q1, rfl⟩ := b1
 obtain ⟨hh, rfl, h2'⟩ := Option.bind_eq_some_iff.1 h2
 obtain ⟨x2, e2, p2, q2, rfl⟩ := mAa h2'
 have b3 := mAa h3
 have hcap : x1 ≤ (cap : Int) := by omega
 cases lo with
 | none =>
  simp only [wTa, Option.map_none] at b3
  subst b3
  refine ⟨?_, by omega, by omega, by omega⟩
  simp [Instr.sliceBounds, bnd _ e1 p1 hcap, bnd _ e2 p2 q2]
 | some u =>
  simp only [wTa, Option.map_some] at b3
  obtain ⟨x3, e3, p3, q3, rfl⟩ := b3
  refine ⟨?_, by omega, by omega, by omega⟩
  simp [Instr.sliceBounds, bnd _ e1 p1 hcap, bnd _ e2 p2 q2, bnd _ e3 p3 q3]
theorem rRa {σ : St} {r n : Nat} {p : Nat × Row × Nat × Nat} (h : fUa σ (.mref r n) = some p) : ∃ row, σ.rows[r]? = some row ∧ row.xs.length = n ∧ p = (r, row, 0, n) := by
 simp only [fUa] at h
 split at h
 ·rename_i row hrow
  split at h
  ·rename_i hn; cases h; exact ⟨row, hrow, hn, rfl⟩
  ·cases h
 ·cases h
theorem oTa {σ : St} {r n lo hi sz : Nat} {p : Nat × Row × Nat × Nat} (h : fUa σ (.mview r n lo hi sz) = some p) : ∃ row, σ.rows[r]? = some row ∧ row.xs.length = n ∧ row.sz = sz ∧ lo ≤ hi ∧ hi ≤ n ∧ p = (r, row, lo, hi) := by
 simp only [fUa] at h
 split at h
 ·rename_i row hrow
  split at h
  ·rename_i hn; cases h; exact ⟨row, hrow, hn.1, hn.2.1, hn.2.2.1, hn.2.2.2, rfl⟩
  ·cases h
 ·cases h
theorem eGb {σ : St} {x : LV} {p : Nat × Row × Nat × Nat} (h : fUa σ x = some p) : (∃ r n, x = .mref r n) ∨ ∃ r n lo hi sz, x = .mview r n lo hi sz := by
 unfold fUa at h
 split at h
 ·exact .inl ⟨_, _, rfl⟩
 ·exact .inr ⟨_, _, _, _, _, rfl⟩
 ·cases h
theorem uKa (h : aMa w0 f0 ms σ g w) {x : LV} {p : Nat × Row × Nat × Nat} {v : Value} (hp : fUa σ x = some p) (hx : aEa g x v) :
  ∃ r row lo hi a cap a', p = (r, row, lo, hi) ∧ σ.rows[r]? = some row ∧ lo ≤ hi ∧ hi ≤ row.xs.length ∧ g.phys r row.xs.length = some (.slice a row.xs.length cap) ∧ v = .slice a' (hi - lo) (cap - lo) ∧ (lo < cap → a' = a.map (·.add (lo * row.sz))) ∧ row.xs.length ≤ cap := by
 have hcap : ∀ {r : Nat} {row : Row} {a : Option Addr} {cap : Nat}, σ.rows[r]? = some row → g.phys r row.xs.length = some (.slice a row.xs.length cap) → row.xs.length ≤ cap := fun {r row a cap} hr hq => by
  obtain ⟨v, vs, e1, e2, _⟩ := h.row r row hr
  rw [hq] at e1; cases e1
  rcases e2.2 with ⟨hc, h0⟩ | ⟨g1, cap1, cur1, hv', _, _, hnc, _⟩
  ·omega
  ·cases hv'; exact hnc
 rcases eGb hp with ⟨r, n, rfl⟩ | ⟨r, n, lo, hi, sz, rfl⟩
 ·obtain ⟨row, hr, rfl, rfl⟩ := rRa hp
  simp only [aEa] at hx
  obtain ⟨hq, a, cap, rfl⟩ := hx
  refine ⟨r, row, 0, _, a, cap, a, rfl, hr, Nat.zero_le _, Nat.le_refl _, hq, rfl, fun _ => ?_, hcap hr hq⟩
  cases a with
  | none => rfl
  | some a => simp [Addr.add]
 ·obtain ⟨row, hr, rfl, rfl, h1, h2, rfl⟩ := oTa hp
  simp only [aEa] at hx
  obtain ⟨a, cap, a', hq, rfl, _, _, ha⟩ := hx
  exact ⟨r, row, lo, hi, a, cap, a', rfl, hr, h1, h2, hq, rfl, ha, hcap hr hq⟩
theorem xAa (a : Option Addr) (i j : Nat) (h : ∀ b, a = some b → b.spot = none) : (a.map (·.add i)).map (·.add j) = a.map (·.add (i + j)) := by
 cases a with
 | none => rfl
 | some b =>
  obtain ⟨k, o, sp⟩ := b
  have := h _ rfl
  simp only at this
  subst this
  simp only [Option.map_some, cSa, Nat.add_assoc]
theorem iAb (h : aMa w0 f0 ms σ g w) {r n cap : Nat} {row : Row} {a : Option Addr} (hr : σ.rows[r]? = some row) (hn : row.xs.length = n) (hp : g.phys r n = some (.slice a n cap)) : ∀ b, a = some b → b.spot = none := by
 intro b hb
 subst hb
 obtain ⟨v, vs, e1, e2, _⟩ := h.row r row hr
 rw [hn, hp] at e1; cases e1
 rcases e2.2 with ⟨hc, h0⟩ | ⟨g1, cap1, cur1, hv', _⟩
 ·cases hc
 ·cases hv'; rfl
theorem aZb {t : TypeId} {x : Operand} {lo hi mx : Option Operand} {e : Env} {a : Act} (hT : dYa g e.t a.tmps) (h : aMa w0 f0 ms σ g w) {o : Oper} (ho : o.op = .slice t x lo hi mx) {own : Bool} {r : LV × St} (hop : aDa P own o e.ev σ = some r) :
  bWa w0 f0 ms g r.1 r.2 ((execOp a.eval o).run P w) := by
 have hx := aZa hT x
 simp only [aDa, ho] at hop
 have nomax : ∀ {β : Type} {u : Option β} {y : β}, (if mx.isSome = true then none else u) = some y → mx = none ∧ u = some y := fun {β u y} hh => by
  cases mx with
  | none => exact ⟨rfl, by simpa using hh⟩
  | some m => simp at hh
 split at hop
 ·rename_i s hu hb
  rw [hb] at hx
  obtain ⟨rfl, hop'⟩ := nomax hop
  simp only [Option.map_eq_some_iff] at hop'
  obtain ⟨⟨l, k⟩, hbd, hr⟩ := hop'
  cases hr
  have hb2 := kOa (P := P) hT (isS := false) (len := s.size) (cap := s.size) hbd rfl (Nat.le_refl _) w
  refine aLa h (gFa _) ?_
  simp [execOp, ho, Instr.sliceAt, Instr.slice, run_underlying hu, dGa hx, hb2]
 ·rename_i el hu hb
  rw [hb] at hx
  obtain ⟨rfl, hop'⟩ := nomax hop
  simp only [Option.bind_eq_some_iff, Option.map_eq_some_iff] at hop'
  obtain ⟨sz, hsz, ⟨l, k⟩, hbd, hr⟩ := hop'
  cases hr
  obtain ⟨hl1, hl2⟩ := lRa hbd (Nat.le_refl _)
  have hl0 : l = 0 := by omega
  have hk0 : k = 0 := by omega
  subst hl0 hk0
  simp only [aEa] at hx
  have hb2 := kOa (P := P) hT (isS := true) (len := 0) (cap := 0) hbd rfl (Nat.le_refl _) w
  obtain ⟨inf, hinf, hins⟩ := bAa hsz
  refine aLa h (v := .slice none 0 0) (by simp only [aEa]) ?_
  simp [execOp, ho, Instr.sliceAt, Instr.slice, run_underlying hu, hx, hb2, sizeOf, typeInfo, hinf, hins]
 ·rename_i _ _ el hu hnn
  simp only [Option.bind_eq_some_iff] at hop
  obtain ⟨sz, hsz, hop⟩ := hop
  obtain ⟨inf, hinf, hins⟩ := bAa hsz
  cases own with
  | true =>
   simp only [if_true, Option.bind_eq_some_iff] at hop
   obtain ⟨p, hp, hop⟩ := hop
   obtain ⟨q, row, lo', hi', ao, cap, a', rfl, hrow, h1, h2, h3, hv, ha, hcap⟩ := uKa h hp hx
   cases mx with
   | some m =>
    simp only [Option.bind_eq_some_iff] at hop
    obtain ⟨q2, hq, k, hk, l, hl, hop⟩ := hop
    cases hop
    obtain ⟨hb2, b1, b2, b3⟩ := lPa (P := P) hT (len := hi' - lo') (cap := cap - lo') hq (Option.bind_eq_some_iff.2 hk) hl (by omega) w
    refine aLa h (v := .slice (if q2 = l then a' else a'.map (·.add (l * sz))) (k - l) (q2 - l)) (by simp only [aEa]) ?_
    simp [execOp, ho, Instr.sliceAt, Instr.slice, run_underlying hu, hv, hb2, sizeOf, typeInfo, hinf, hins]
   | none =>
   simp only at hop
   have fin : ∀ {n : Nat}, (if (none : Option Operand).isSome = false ∧ row.sz = sz then (dHa (lo.map e.ev) (hi.map e.ev) (hi' - lo') (n - lo')).map fun b => ((.mview q n (lo' + b.1) (lo' + b.2) sz, σ) : LV × St) else none) = some r → row.xs.length = n → bWa w0 f0 ms g r.1 r.2 ((execOp a.eval o).run P w) := fun {n} hh hn => by
    subst hn
    split at hh
    ·rename_i hc
     obtain ⟨hm, rfl⟩ := hc
     obtain ⟨⟨l, k⟩, hbd, rfl⟩ := Option.map_eq_some_iff.1 hh
     obtain ⟨hl1, hl2⟩ := lRa hbd (by omega)
     have hb2 := kOa (P := P) hT (isS := true) (len := hi' - lo') (cap := cap - lo') hbd rfl (by omega) w
     refine aLa h (v := .slice (if cap - lo' = l then a' else a'.map (·.add (l * row.sz))) (k - l) (cap - lo' - l)) ?_ ?_
     ·simp only [aEa]
      refine ⟨ao, cap, _, h3, by congr 1 <;> omega, by omega, by omega, fun hlt => ?_⟩
      rw [if_neg (by omega), ha (by omega), xAa _ _ _ (iAb h hrow rfl h3), Nat.add_mul]
     ·simp [execOp, ho, Instr.sliceAt, Instr.slice, run_underlying hu, hv, hb2, sizeOf, typeInfo, hinf, hins]
    ·cases hh
   split at hop
   ·rename_i q' n' hb
    rw [hb] at hp
    obtain ⟨row', hr', hn', he⟩ := rRa hp
    cases he
    exact fin hop hn'
   ·rename_i q' n' l' k' z' hb
    rw [hb] at hp
    obtain ⟨row', hr', hn', _, _, _, he⟩ := oTa hp
    cases he
    exact fin hop hn'
   ·cases hop
  | false =>
   simp only [Bool.false_eq_true, if_false, Option.bind_eq_some_iff] at hop
   obtain ⟨es, hes, hop⟩ := hop
   split at hop
   ·simp only [Option.bind_eq_some_iff] at hop
    obtain ⟨⟨l, k⟩, hbd, hop⟩ := hop
    split at hop
    ·rename_i hok
     cases hop
     obtain ⟨g', k1, k2, k3⟩ := mIa h hx hes
     obtain ⟨hl1, hl2⟩ := lRa hbd (Nat.le_refl _)
     obtain ⟨ao, cap, hv, hcap, hrel⟩ := yUa hok k3 hl1 hl2
     have hb2 := kOa (P := P) hT (isS := true) (len := es.length) (cap := cap) hbd rfl hcap w
     refine ⟨_, w, g', .inl ?_, hrel, k1.le, k2⟩
     simp [execOp, ho, Instr.sliceAt, Instr.slice, run_underlying hu, hv, hb2, sizeOf, typeInfo, hinf, hins]
    ·cases hop
   ·rename_i m
    simp only [Option.bind_eq_some_iff] at hop
    obtain ⟨q, hq, k, hk, l, hl, hop⟩ := hop
    split at hop
    ·rename_i hok
     cases hop
     obtain ⟨g', k1, k2, k3⟩ := mIa h hx hes
     have k4 := k3
     simp only [aEa] at k4
     obtain ⟨_, cap0, _, hcap0, _⟩ := k4
     obtain ⟨hb2, b1, b2, b3⟩ := lPa (P := P) hT (len := es.length) (cap := cap0) hq (Option.bind_eq_some_iff.2 hk) hl hcap0 w
     obtain ⟨ao, cap, hv, hcap, hrel⟩ := yUa hok k3 b1 (Nat.le_trans b2 b3)
     obtain ⟨hb2, b1, b2, b3⟩ := lPa (P := P) hT (len := es.length) (cap := cap) hq (Option.bind_eq_some_iff.2 hk) hl hcap w
     refine ⟨.slice (if q = l then ao else ao.map (·.add (l * sz))) (k - l) (q - l), w, g', .inl ?_, ?_, k1.le, k2⟩
     ·simp [execOp, ho, Instr.sliceAt, Instr.slice, run_underlying hu, hv, hb2, sizeOf, typeInfo, hinf, hins]
     ·simp only [aEa] at hrel ⊢
      have hlk : ((es.drop l).take (k - l)).length = k - l := by rw [List.length_take, List.length_drop]; omega
      rw [hlk] at hrel ⊢
      obtain ⟨a2, c2, he, hle, hes'⟩ := hrel
      cases he
      refine ⟨_, q - l, rfl, by omega, ?_⟩
      by_cases hql : q = l
      ·refine .inl ?_
       apply List.eq_nil_of_length_eq_zero
       rw [List.length_take]; omega
      ·rw [if_neg hql]
       rw [if_neg (by omega)] at hes'
       exact hes'
    ·cases hop
 ·cases hop
end
end Go.Proofs.YtpeaaophmddhnaaGreat.LI
namespace Go.Proofs.YtpeaaophmddhnaaGreat.LI
open Go Go.RowKit
section
variable {P : Program} {w0 w : World} {f0 : Nat → List Value} {ms : List Nat} {σ : St} {g : G}
theorem cCb (off : Nat) : ∀ (l : List Value) (k : Nat) (arr : Array Value), off + k + l.length ≤ arr.size →
  ((l.zipIdx k).foldl (fun (cs : Array Value) (p : Value × Nat) => cs.setIfInBounds (off + p.2) p.1) arr).toList = arr.toList.take (off + k) ++ l ++ arr.toList.drop (off + k + l.length)
 | [], k, arr, _ => by simp
 | x :: l, k, arr, h => by
  simp only [List.zipIdx_cons, List.foldl_cons]
  have hlen : (x :: l).length = l.length + 1 := rfl
  rw [hlen] at h ⊢
  rw [cCb off l (k + 1) (arr.setIfInBounds (off + k) x) (by simp; omega)]
  have hs : off + k < arr.toList.length := by rw [Array.length_toList]; omega
  rw [Array.toList_setIfInBounds]
  have e1 : (arr.toList.set (off + k) x).take (off + (k + 1)) = arr.toList.take (off + k) ++ [x] := by
   rw [show off + (k + 1) = (off + k) + 1 from by omega, List.take_succ_eq_append_getElem (by simpa using hs), List.take_set_of_le (Nat.le_refl _)]
   simp
  have e2 : (arr.toList.set (off + k) x).drop (off + (k + 1) + l.length) = arr.toList.drop (off + k + (l.length + 1)) := by
   rw [List.drop_set_of_lt (by omega)]
   congr 1; omega
  rw [e1, e2]
  simp
theorem xPa {place : Nat → Option (Nat × Nat)} {cells : Array Value} {i off n : Nat} {v : Value} {rest : List (Nat × Value)} (hp : place i = some (off, n)) (hv : v.cells.size = n) (hf : off + n ≤ cells.size) :
  ∃ cells', cells'.toList = cells.toList.take off ++ v.cells.toList ++ cells.toList.drop (off + n) ∧ Instr.fill place cells ((i, v) :: rest) = Instr.fill place cells' rest := by
 refine ⟨v.cells.zipIdx.foldl (fun cs (c, j) => cs.setIfInBounds (off + j) c) cells, ?_, ?_⟩
 ·rw [← Array.foldl_toList, Array.toList_zipIdx]
  have := cCb off v.cells.toList 0 cells (by rw [Array.length_toList]; omega)
  rw [Nat.add_zero, Array.length_toList, hv] at this
  exact this
 ·rw [Instr.fill, hp]
  have h1 : ¬ (v.cells.size ≠ n) := by simp [hv]
  have h2 : ¬ (off + v.cells.size > cells.size) := by omega
  simp [h1, h2]
theorem vOa {place : Nat → Option (Nat × Nat)} : ∀ (parts : List (Nat × LV)) (vparts : List (Nat × Value)) (cs cs' : List LV) (cells : Array Value),
  sWa place cs parts = some cs' → vparts.map (·.1) = parts.map (·.1) → aBa g (parts.map (·.2)) (vparts.map (·.2)) → aBa g cs cells.toList → (∀ u ∈ cells.toList, u.oneCell' = true) →
  ∃ cells', Instr.fill place cells vparts = some cells' ∧ aBa g cs' cells'.toList ∧ ∀ u ∈ cells'.toList, u.oneCell' = true
 | [], vparts, cs, cs', cells, h, hi, hr, hc, h1 => by
  have : vparts = [] := by simpa using hi
  subst this
  simp only [sWa] at h
  cases h
  exact ⟨cells, rfl, hc, h1⟩
 | (i, x) :: parts, vparts, cs, cs', cells, h, hi, hr, hc, h1 => by
  cases vparts with
  | nil => simp at hi
  | cons q vparts =>
   obtain ⟨i', v⟩ := q
   simp only [List.map_cons, List.cons.injEq] at hi
   obtain ⟨rfl, hi⟩ := hi
   simp only [List.map_cons, aBa] at hr
   obtain ⟨v', vs', he, hx, hr⟩ := hr
   simp only [List.cons.injEq] at he
   obtain ⟨rfl, rfl⟩ := he
   simp only [sWa] at h
   cases hp : place i' with
   | none => rw [hp] at h; cases h
   | some on =>
    obtain ⟨off, n⟩ := on
    rw [hp] at h
    simp only at h
    split at h
    ·rename_i hcnd
     obtain ⟨hl, hst, hf⟩ := hcnd
     obtain ⟨d1, d2⟩ := eAa hx hst
     have hvn : v.cells.size = n := by have := aPa d1; rw [Array.length_toList] at this; omega
     have hcl : cells.size = cs.length := by have := aPa hc; rw [Array.length_toList] at this; exact this
     obtain ⟨cells', e1, e2⟩ := xPa (cells := cells) (rest := vparts) hp hvn (by omega)
     rw [e2]
     refine vOa parts vparts _ cs' cells' h hi hr ?_ ?_
     ·rw [e1]
      have := uXa (off := off) hc d1
      rw [hvn] at this
      exact this
     ·intro u hu
      rw [e1] at hu
      simp only [List.mem_append] at hu
      rcases hu with (hu | hu) | hu
      ·exact h1 u (List.mem_of_mem_take hu)
      ·exact d2 u hu
      ·exact h1 u (List.mem_of_mem_drop hu)
    ·cases h
theorem tVa {place place' : Nat → Option (Nat × Nat)} (hp : ∀ i q, place i = some q → place' i = some q) : ∀ (parts : List (Nat × LV)) (cs cs' : List LV), sWa place cs parts = some cs' → sWa place' cs parts = some cs'
 | [], cs, cs', h => h
 | (i, v) :: parts, cs, cs', h => by
  simp only [sWa] at h ⊢
  cases hq : place i with
  | none => rw [hq] at h; cases h
  | some q =>
   rw [hq] at h
   rw [hp i q hq]
   simp only at h ⊢
   split at h
   ·rename_i hc
    rw [if_pos hc]
    exact tVa hp parts _ _ h
   ·cases h
theorem aWb (_hTy : lNb P) {t : TypeId} {parts : Array (Nat × Operand)} {e : Env} {a : Act} (hT : dYa g e.t a.tmps) (h : aMa w0 f0 ms σ g w) {o : Oper} (ho : o.op = .build t parts) {own : Bool} {r : LV × St} (hop : aDa P own o e.ev σ = some r) :
  bWa w0 f0 ms g r.1 r.2 ((execOp a.eval o).run P w) := by
 simp only [aDa, ho, Option.map_eq_some_iff] at hop
 obtain ⟨cs, hcs, hr⟩ := hop
 subst hr
 have hparts : aBa g ((parts.toList.map fun p => (p.1, e.ev p.2)).map (·.2)) ((parts.toList.map fun p => (p.1, a.eval p.2)).map (·.2)) := by
  rw [List.map_map, List.map_map]
  exact eTa _ _ _ (fun x _ => aZa hT x.2)
 have hidx : (parts.toList.map fun p => (p.1, a.eval p.2)).map (·.1) = (parts.toList.map fun p => (p.1, e.ev p.2)).map (·.1) := by
  rw [List.map_map, List.map_map]; rfl
 have fin : ∀ {cells : Array Value}, P.built t (parts.toList.map fun p => (p.1, a.eval p.2)) = some cells → aBa g cs cells.toList → (∀ u ∈ cells.toList, u.oneCell' = true) → bWa w0 f0 ms g (.agg cs) σ ((execOp a.eval o).run P w) := fun {cells} hb hv h1 => by
  refine aLa (v := .agg cells) h (by simp only [aEa]; exact ⟨cells, rfl, hv, h1⟩) ?_
  have := run_build (P := P) w t (parts.map fun (i, x) => (i, a.eval x)) cells (by simpa using hb)
  simp only [execOp, ho, Sem.run_bind, this, Result.andThen_ok, Sem.run_pure]
 unfold xIa at hcs
 simp only [Option.bind_eq_some_iff] at hcs
 obtain ⟨zs, hzs, pl, hpl, hcs⟩ := hcs
 obtain ⟨i, z, hi, hz, _, h1, rfl⟩ := iAa hzs
 have z1 : aBa g (z.cells.toList.map bQa) z.cells.toList := by simpa using eTa bQa id z.cells.toList (fun x _ => dOa g x)
 unfold wBa at hpl
 split at hpl
 ·rename_i fs hu
  obtain ⟨cells, c1, c2, c3⟩ := vOa _ _ _ _ _ hcs hidx hparts z1 h1
  refine fin (cells := cells) ?_ c2 c3
  have : (fun i : Nat => pl.toArray[i]?) = fun i : Nat => pl[i]? := by funext i; simp
  simp only [Program.built, hi, hu, hz, hpl, this]
  exact c1
 ·rename_i m el hu
  split at hpl
  ·obtain ⟨ie, hie, hpe⟩ := Option.map_eq_some_iff.1 hpl
   have hcs' := tVa (place' := fun i => some (i * ie.size, ie.size)) (fun j q hj => by
    rw [← hpe, List.getElem?_map] at hj
    obtain ⟨y, hy, hq⟩ := Option.map_eq_some_iff.1 hj
    have := List.getElem?_range (List.getElem?_eq_some_iff.1 hy).1
    rw [List.getElem?_eq_some_iff] at hy
    obtain ⟨hlt, hy⟩ := hy
    rw [List.getElem_range] at hy
    rw [← hq, ← hy]) _ _ _ hcs
   obtain ⟨cells, c1, c2, c3⟩ := vOa _ _ _ _ _ hcs' hidx hparts z1 h1
   refine fin (cells := cells) ?_ c2 c3
   simp only [Program.built, hi, hu, hz, hie]
   exact c1
  ·cases hpl
 ·cases hpl
theorem aMa.newFz (h : aMa w0 f0 ms σ g w) {w' : World} {cs : List Value} {cur : Array Value} {T : TypeId} {fr : Nat × Nat} (hb : Below w.heap.size w w') (hk : w'.heap[w.heap.size]? = some (.cells cur T fr)) (hp : cs <+: cur.toList) :
  ∃ g', g.le g' ∧ aMa w0 f0 ms σ g' w' ∧ g'.fz w.heap.size = cs ∧ g'.phys = g.phys := by
 have hnil : g.fz w.heap.size = [] := h.fz_new (Nat.le_refl _)
 have hle : ∀ b, g.fz b <+: (g.addFz w.heap.size cs).fz b := fun b => by
  simp only [G.addFz]; split
  ·rename_i hb'; subst hb'; rw [hnil]; exact List.nil_prefix
  ·exact List.prefix_refl _
 refine ⟨g.addFz w.heap.size cs, ⟨hle, List.prefix_refl _, fun _ _ _ h => h, List.prefix_refl _, List.prefix_refl _⟩, h.fzmore hle (fun b hb' => by simp only [G.addFz]; rw [if_neg (by omega)]) ⟨rfl, rfl, rfl, rfl⟩ hb ?_, by simp [G.addFz], rfl⟩
 intro b hn
 by_cases hbk : b = w.heap.size
 ·subst hbk
  simp only [G.addFz, if_true]
  exact ⟨cur, T, fr, hk, hp⟩
 ·simp only [G.addFz, if_neg hbk] at hn ⊢
  exact (h.fz.kept hb) b hn
theorem jFa : ∀ {es : List LV} {bs : List UInt8}, eVa es = some bs → ∃ ns : List Int, es = ns.map LV.byte ∧ bs = ns.map fun n => UInt8.ofNat n.toNat
 | [], bs, h => by simp only [eVa] at h; cases h; exact ⟨[], rfl, rfl⟩
 | e :: es, bs, h => by
  simp only [eVa] at h
  cases hb : bWb e with
  | none => rw [hb] at h; cases h
  | some b =>
   cases hr : eVa es with
   | none => rw [hb, hr] at h; cases h
   | some rest =>
    rw [hb, hr] at h
    cases h
    obtain ⟨ns, rfl, rfl⟩ := jFa hr
    unfold bWb at hb
    split at hb
    ·rename_i n; cases hb; exact ⟨n :: ns, rfl, rfl⟩
    ·cases hb
theorem lFa : ∀ {ns : List Int} {vs : List Value}, aJa g (ns.map LV.byte) 1 vs → ∀ (i : Nat), i < ns.length → vs[i]? = some (.int .u8 (ns.getD i 0))
 | [], vs, h, i, hi => by simp at hi
 | n :: ns, vs, h, i, hi => by
  simp only [List.map_cons, aJa] at h
  obtain ⟨⟨u, h1, h2, _⟩, h4⟩ := h
  have hu := bOa h1
  subst hu
  cases vs with
  | nil => simp [Value.cells] at h2
  | cons v vs =>
   cases i with
   | zero => simp [Value.cells] at h2 ⊢; exact h2.symm
   | succ i => simpa using lFa h4 i (by simpa using hi)
theorem wLa {src dst : TypeId} {x : Operand} {e : Env} {a : Act} (hT : dYa g e.t a.tmps) (h : aMa w0 f0 ms σ g w) {o : Oper} (ho : o.op = .convert src dst x) {own : Bool} {r : LV × St} (hop : aDa P own o e.ev σ = some r) :
  bWa w0 f0 ms g r.1 r.2 ((execOp a.eval o).run P w) := by
 have hx := aZa hT x
 simp only [aDa, ho] at hop
 have exec : ∀ {v : Value} {w' : World}, (convert src dst (a.eval x)).run P w = .ok v w' → (execOp a.eval o).run P w = .ok (.value v) w' := fun hv => by
  simp only [execOp, ho, Sem.run_bind, hv, Result.andThen_ok, Sem.run_pure]
 split at hop
 ·rename_i k' k kk n hs hd hb
  cases hop
  rw [hb] at hx
  refine aLa h (bPa _ _) (exec ?_)
  rw [bOa hx]
  simp [convert, run_underlying hs, run_underlying hd, Conv.intToInt]
 ·rename_i s hs hd hb
  cases hop
  rw [hb] at hx
  refine aLa h (gFa _) (exec ?_)
  rw [dGa hx]
  simp [convert, run_underlying hs, run_underlying hd]
 ·rename_i el hs hd
  split at hop
  ·rename_i he
   simp only [Option.bind_eq_bind, Option.bind_eq_some_iff] at hop
   obtain ⟨es, hes, bs, hbs, hr⟩ := hop
   cases hr
   obtain ⟨ns, rfl, rfl⟩ := jFa hbs
   obtain ⟨g', k1, k2, k3⟩ := mIa h hx hes
   simp only [aEa] at k3
   obtain ⟨ao, cap, hv, hle, hc⟩ := k3
   have hstr : (⟨(ns.map fun n => UInt8.ofNat n.toNat).toArray⟩ : ByteArray) = strOfNums ns := rfl
   refine aLa h (gFa _) (exec ?_)
   rw [hv]
   rcases hc with hc | ⟨b, off, sz, hs0, hao, hes'⟩
   ·have hns : ns = [] := by simpa using hc
    subst hns
    cases ao with
    | none => exact run_convert_bytes_nil (P := P) w src el hs he 0 cap dst hd
    | some ad =>
     rw [run_convert_bytes_string w src dst el _ _ cap hs he hd]
     simp [Conv.bytesToString, loadCells, loadCellsFrom]
     rfl
   ·subst hao
    have hsz1 : ns = [] ∨ sz = 1 := by
     cases ns with
     | nil => exact .inl rfl
     | cons n ns =>
      simp only [List.map_cons, aJa] at hes'
      obtain ⟨⟨u, u1, u2, u3, _⟩, _⟩ := hes'
      rw [bOa u1] at u3
      exact .inr (by simpa [Value.cells] using u3.symm)
    rcases hsz1 with hns | hsz1
    ·subst hns
     have := run_convert_bytes_arg (P := P) w src el hs he b off 0 cap [] rfl (fun i hi => by omega) dst hd
     simpa [strOfNums] using this
    ·subst hsz1
     have hlies : ∀ i, i < ns.length → w.cell? ⟨b, off + i, none⟩ = some (.int .u8 (ns.getD i 0)) := fun i hi => by
      have h9 := lFa hes' i hi
      exact lNa k2.fz (us := (g'.fz b).drop off) (rest := []) (by simp) i _ h9
     have := run_convert_bytes_arg (P := P) w src el hs he b off ns.length cap ns rfl hlies dst hd
     simpa [strOfNums] using this
  ·cases hop
 ·rename_i _ _ _ el s hs hd hb
  split at hop
  ·rename_i he
   split at hop
   ·rename_i hmax
    cases hop
    rw [hb] at hx
    have hrun := Lib.run_convert_string_bytes (P := P) w src dst el s hs hd he
    have hbel : Below w.heap.size w (Lib.bytesWorld w el s) := ⟨rfl, rfl, rfl, by rw [Lib.bytesWorld_size]; omega, fun k hk => Lib.bytesWorld_at_old w el s k hk⟩
    have hcs : (s.data.toList.map fun b => Value.int .u8 b.toNat) <+: (Lib.bytesCells w el s).toList := by
     simp only [Lib.bytesCells, Array.toList_append, Array.toList_map]
     exact List.prefix_append _ _
    obtain ⟨g', k1, k2, k3, _⟩ := h.newFz hbel (Lib.bytesWorld_at_new w el s) hcs
    refine ⟨_, _, g', .inl (exec (by rw [dGa hx]; exact hrun)), ?_, k1, k2⟩
    simp only [aEa]
    have hlen : (gQa s).length = s.size := by simp [gQa]
    refine ⟨_, _, by rw [hlen], by rw [hlen]; exact grownCap_ge w s.size 0 el, ?_⟩
    by_cases hz : s.size = 0
    ·exact .inl (List.eq_nil_of_length_eq_zero (by rw [hlen]; exact hz))
    ·refine .inr ⟨w.heap.size, 0, 1, by omega, rfl, ?_⟩
     rw [k3, List.drop_zero]
     have gen : ∀ l : List UInt8, aJa g' (l.map fun b => LV.byte b.toNat) 1 (l.map fun b => Value.int .u8 b.toNat) := by
      intro l
      induction l with
      | nil => simp [aJa]
      | cons b l ih =>
       simp only [List.map_cons, aJa, List.drop_succ_cons, List.drop_zero]
       exact ⟨⟨_, bPa _ _, by simp [Value.cells], rfl, by simp [Value.cells, Value.oneCell']⟩, ih⟩
     exact gen s.data.toList
   ·cases hop
  ·cases hop
 ·cases hop
end
end Go.Proofs.YtpeaaophmddhnaaGreat.LI
namespace Go.Proofs.YtpeaaophmddhnaaGreat.LI
open Go Go.RowKit
section
variable {P : Program} {w0 w : World} {f0 : Nat → List Value} {ms : List Nat} {σ : St} {g : G}
theorem oMa {sz : Nat} {x : LV} {xs : List LV} (h : bGa sz (x :: xs) = true) : x.cells.length = sz ∧ storable x = true ∧ bGa sz xs = true := by
 simp only [bGa, List.all_cons, Bool.and_eq_true, beq_iff_eq] at h
 exact ⟨h.1.1, h.1.2, h.2⟩
def qYa (vs : List Value) : List Value := vs.flatMap fun v => v.cells.toList
theorem cBb {sz : Nat} : ∀ {xs : List LV} {vs : List Value}, aBa g xs vs → bGa sz xs = true → aJa g xs sz (qYa vs) ∧ (qYa vs).length = xs.length * sz ∧ ∀ u ∈ qYa vs, u.oneCell' = true
 | [], vs, h, hok => by simp only [aBa] at h; subst h; simp [aJa, qYa]
 | x :: xs, vs, h, hok => by
  simp only [aBa] at h
  obtain ⟨v, vs', rfl, h2, h3⟩ := h
  obtain ⟨o1, o2, o3⟩ := oMa hok
  obtain ⟨i1, i2, i3⟩ := cBb h3 o3
  obtain ⟨d1, d2⟩ := eAa h2 o2
  have hv : v.cells.toList.length = sz := by rw [aPa d1]; exact o1
  have hf : qYa (v :: vs') = v.cells.toList ++ qYa vs' := rfl
  rw [hf]
  refine ⟨?_, ?_, ?_⟩
  ·simp only [aJa]
   refine ⟨⟨v, h2, by rw [List.take_append_of_le_length (by omega), List.take_of_length_le (by omega)], by rw [← Array.length_toList]; exact hv, d2⟩, ?_⟩
   rw [List.drop_append_of_le_length (by omega), List.drop_of_length_le (by omega), List.nil_append]
   exact i1
  ·rw [List.length_append, hv, i2, List.length_cons, Nat.add_mul]; omega
  ·intro u hu
   rcases List.mem_append.1 hu with hu | hu
   ·exact d2 u hu
   ·exact i3 u hu
theorem tWa {sz : Nat} : ∀ (xs : List LV) (vs : List Value) (m : Nat) (arr : Array Value), aBa g xs vs → bGa sz xs = true → (m + xs.length) * sz ≤ arr.size →
  ∃ cells', Instr.fill (fun i => some (i * sz, sz)) arr ((List.range' m xs.length).zip vs) = some cells' ∧ cells'.toList = arr.toList.take (m * sz) ++ qYa vs ++ arr.toList.drop ((m + xs.length) * sz)
 | [], vs, m, arr, h, hok, hl => by
  simp only [aBa] at h; subst h
  exact ⟨arr, rfl, by simp [qYa]⟩
 | x :: xs, vs, m, arr, h, hok, hl => by
  simp only [aBa] at h
  obtain ⟨v, vs', rfl, h2, h3⟩ := h
  obtain ⟨o1, o2, o3⟩ := oMa hok
  obtain ⟨d1, d2⟩ := eAa h2 o2
  have hv : v.cells.toList.length = sz := by rw [aPa d1]; exact o1
  have hv' : v.cells.size = sz := by rw [← Array.length_toList]; exact hv
  have e0 : (m + (x :: xs).length) * sz = m * sz + sz + xs.length * sz := by rw [List.length_cons, Nat.add_mul, Nat.add_mul]; omega
  have e1 : (m + 1) * sz = m * sz + sz := by rw [Nat.add_mul]; omega
  rw [e0] at hl ⊢
  have hstep := xPa (place := fun i => some (i * sz, sz)) (cells := arr) (i := m) (rest := (List.range' (m + 1) xs.length).zip vs') rfl hv' (by omega)
  obtain ⟨cells1, c1, c2⟩ := hstep
  have hsz : cells1.size = arr.size := by
   rw [← Array.length_toList, c1, List.length_append, List.length_append, List.length_take, List.length_drop, hv, Array.length_toList]; omega
  obtain ⟨cells', k1, k2⟩ := tWa xs vs' (m + 1) cells1 h3 o3 (by rw [hsz, show m + 1 + xs.length = (m + 1) + xs.length from rfl, Nat.add_mul, e1]; omega)
  refine ⟨cells', ?_, ?_⟩
  ·rw [List.length_cons, List.range'_succ, List.zip_cons_cons, c2]
   exact k1
  ·rw [k2, c1, e1]
   have hf : qYa (v :: vs') = v.cells.toList ++ qYa vs' := rfl
   have ht : (arr.toList.take (m * sz)).length = m * sz := by rw [List.length_take, Array.length_toList]; omega
   have a1 : (arr.toList.take (m * sz) ++ v.cells.toList ++ arr.toList.drop (m * sz + sz)).take (m * sz + sz) = arr.toList.take (m * sz) ++ v.cells.toList := by
    rw [List.take_append_of_le_length (by rw [List.length_append, ht, hv]; omega), List.take_of_length_le (by rw [List.length_append, ht, hv]; omega)]
   have a2 : (arr.toList.take (m * sz) ++ v.cells.toList ++ arr.toList.drop (m * sz + sz)).drop ((m + 1 + xs.length) * sz) = arr.toList.drop (m * sz + sz + xs.length * sz) := by
    rw [show (m + 1 + xs.length) * sz = (arr.toList.take (m * sz) ++ v.cells.toList).length + xs.length * sz from by rw [List.length_append, ht, hv, Nat.add_mul, e1], List.drop_append, List.drop_of_length_le (by omega), List.nil_append, Nat.add_sub_cancel_left, List.drop_drop]
   rw [a1, a2, hf]
   simp
theorem zDa {α β : Type} : ∀ (l : List (α × β)), l = (l.map (·.1)).zip (l.map (·.2))
 | [] => rfl
 | x :: l => by simp only [List.map_cons, List.zip_cons_cons]; rw [← zDa l]
theorem jHa {t : TypeId} {len : Nat} {parts : Array (Nat × Operand)} {e : Env} {a : Act} (hT : dYa g e.t a.tmps) (h : aMa w0 f0 ms σ g w) {o : Oper} (ho : o.op = .buildSlice t len parts) {own : Bool} {r : LV × St} (hop : aDa P own o e.ev σ = some r) (hno : (own && (Nat.beq len 0 && parts.toList.isEmpty)) = false) :
  ∃ el cells, fMa P t = some el ∧ (execOp a.eval o).run P w = .ok (.value (.slice (some ⟨w.heap.size, 0, none⟩) len len)) (w.alloc (.cells cells el)) ∧
   ∀ (w' : World) (fr : Nat × Nat), Below w.heap.size w w' → w'.heap[w.heap.size]? = some (.cells cells el fr) → ∃ g', aEa g' r.1 (.slice (some ⟨w.heap.size, 0, none⟩) len len) ∧ g.le g' ∧ aMa w0 f0 ms r.2 g' w' := by
 simp only [aDa, ho, hno, cond_false, Option.bind_eq_some_iff] at hop
 obtain ⟨el, hel, sz, hsz, _, hzb, hop⟩ := hop
 have hu := dLa hel
 obtain ⟨inf, hinf, hins⟩ := bAa hsz
 split at hop
 ·rename_i hc
  obtain ⟨rfl, hp⟩ := hc
  cases hop
  have hp : parts.toList = [] := List.eq_nil_of_length_eq_zero hp
  refine ⟨el, #[], hel, ?_, fun w' fr hbel hnew => ⟨g, by simp only [aEa]; exact ⟨_, 0, rfl, Nat.le_refl _, .inl trivial⟩, G.le.refl g, h.kept hbel⟩⟩
  simp [execOp, ho, Instr.buildSlice, run_underlying hu, sizeOf, typeInfo, hinf, newRow, hp, Instr.fill]
  congr 2
  exact Array.eq_empty_of_size_eq_zero (by simp)
 split at hop
 ·rename_i hc
  obtain ⟨hidx, hok, hmax, hpos, hlen⟩ := hc
  cases hop
  have hp0 : aBa g (parts.toList.map fun p => e.ev p.2) (parts.toList.map fun p => a.eval p.2) := eTa _ _ _ (fun x _ => aZa hT x.2)
  obtain ⟨g1, k1, k2, k3⟩ := h.freeze (aQa.rowsInL (parts.toList.map fun p => e.ev p.2))
  have hp1 : aBa g1 (aGb σ (parts.toList.map fun p => e.ev p.2)).1 (parts.toList.map fun p => a.eval p.2) := fWa k1.le _ _ k3 hp0
  obtain ⟨inf', z, hinf', hz, hzs, hz1, _⟩ := iAa hzb
  rw [hinf] at hinf'
  obtain rfl := Option.some.inj hinf'
  have hxl : (aGb σ (parts.toList.map fun p => e.ev p.2)).1.length = len := by
   have h1 := aPa hp1
   have h2 := congrArg List.length hidx
   simp at h1 h2
   omega
  have hvp : (parts.toList.map fun p => (p.1, a.eval p.2)) = (List.range' 0 len).zip (parts.toList.map fun p => a.eval p.2) := by
   rw [zDa (parts.toList.map fun p => (p.1, a.eval p.2)), List.map_map, List.map_map, ← List.range_eq_range', ← hidx]
   rfl
  have hnz : len * sz ≠ 0 := by
   have := Nat.mul_pos hlen hpos
   omega
  have hcells0 : ((Array.range (len * sz)).map (z.cells[· % z.cells.size]!)).size = len * sz := by simp
  obtain ⟨cells, c1, c2⟩ := tWa (sz := sz) _ _ 0 ((Array.range (len * sz)).map (z.cells[· % z.cells.size]!)) hp1 hok (by rw [hcells0, hxl, Nat.zero_add]; exact Nat.le_refl _)
  rw [hxl] at c1 c2
  obtain ⟨f1, f2, f3⟩ := cBb hp1 hok
  have c3 : cells.toList = qYa (parts.toList.map fun p => a.eval p.2) := by
   rw [c2, Nat.zero_mul, List.take_zero, List.nil_append, Nat.zero_add, List.drop_of_length_le (by rw [Array.length_toList, hcells0]; exact Nat.le_refl _), List.append_nil]
  have hrun : (Instr.buildSlice t len (parts.map fun (i, x) => (i, a.eval x))).run P w = .ok (.slice (some ⟨w.heap.size, 0, none⟩) len len) (w.alloc (.cells cells el)) := by
   have h24 : ¬ (len * inf.size > 2 ^ 24) := by rw [hins]; omega
   have hnz' : ¬ (len * inf.size = 0) := by rw [hins]; exact hnz
   have hfill : Instr.fill (fun i => some (i * inf.size, inf.size)) ((Array.range (len * inf.size)).map (z.cells[· % z.cells.size]!)) (parts.map fun (i, x) => (i, a.eval x)).toList = some cells := by
    rw [hins]
    simpa [hvp] using c1
   unfold Instr.buildSlice
   simp only [Sem.run_bind, run_underlying hu, Result.andThen_ok, sizeOf, typeInfo, run_program, hinf, Sem.run_pure, if_neg h24, if_neg hnz', zeroValue, hz, hfill, newRow, run_newObj]
   rfl
  refine ⟨el, cells, hel, by simp only [execOp, ho, Sem.run_bind, hrun, Result.andThen_ok, Sem.run_pure], fun w' fr hbel hnew => ?_⟩
  obtain ⟨g', m1, m2, m3, _⟩ := k2.newFz hbel hnew (List.prefix_refl _)
  refine ⟨g', ?_, k1.le.trans m1, m2⟩
  simp only [aEa]
  refine ⟨_, len, by rw [hxl], by omega, .inr ⟨w.heap.size, 0, sz, hpos, rfl, ?_⟩⟩
  rw [m3, List.drop_zero, c3]
  exact aVa m1 _ _ _ _ (List.prefix_refl _) f1
 ·cases hop
theorem pGa (_hTy : lNb P) {t : TypeId} {len : Nat} {parts : Array (Nat × Operand)} {e : Env} {a : Act} (hT : dYa g e.t a.tmps) (h : aMa w0 f0 ms σ g w) {o : Oper} (ho : o.op = .buildSlice t len parts) {own : Bool} {r : LV × St} (hop : aDa P own o e.ev σ = some r) (hno : (own && (Nat.beq len 0 && parts.toList.isEmpty)) = false) :
  bWa w0 f0 ms g r.1 r.2 ((execOp a.eval o).run P w) := by
 obtain ⟨el, cells, _, hrun, hall⟩ := jHa hT h ho hop hno
 obtain ⟨g', k1, k2, k3⟩ := hall (w.alloc (.cells cells el)) (0, 0) ((Below.refl _ _).alloc (Nat.le_refl _) _) (heap_alloc_new w (.cells cells el))
 exact ⟨_, _, g', .inl hrun, k1, k2, k3⟩
end
end Go.Proofs.YtpeaaophmddhnaaGreat.LI
namespace Go.Proofs.YtpeaaophmddhnaaGreat.LI
open Go Go.RowKit
section
variable {P : Program} {w0 w : World} {f0 : Nat → List Value} {ms : List Nat} {σ : St} {g : G}
theorem pXa.putObj (w : World) (k : Nat) (o : Obj) : pXa w (w.putObj k o) k := ⟨rfl, rfl, rfl, by simp, fun q hq => World.putObj_heap_other hq⟩
theorem aMa.touch (h : aMa w0 f0 ms σ g w) {k : Nat} {o : Obj} (hk : w.heap[k]? = some o) (ho : o.isCells = false) (h0 : w0.heap.size ≤ k) (o' : Obj) {lps : List cOa} {mps : List jGb} {ms' : List Nat}
  (hll : lps.length = σ.loops.length) (hml : mps.length = σ.maps.length)
  (hloop : ∀ (l : Nat) (lr : cOa) (q : Nat), lps[l]? = some lr → g.loop[l]? = some q → w0.heap.size ≤ q ∧ ∃ rec, (w.putObj k o').heap[q]? = some (.loop rec) ∧ gOa g lr rec)
  (hmap : ∀ (m : Nat) (q : jGb) (p : Nat), mps[m]? = some q → g.map[m]? = some p → w0.heap.size ≤ p ∧ ∃ es clock, (w.putObj k o').heap[p]? = some (.map es clock) ∧ aBa g q.ks (es.toList.map (·.key)) ∧ aBa g q.vs (es.toList.map (·.val)))
  (hms : ∀ q ∈ ms', q ∈ ms ∧ q ≠ k) (hnd : ms'.Nodup) :
  aMa w0 f0 ms' { σ with loops := lps, maps := mps } g (w.putObj k o') := by
 have ht := pXa.putObj w k o'
 have hfk : g.fz k = [] := by
  by_cases hn : g.fz k = []
  ·exact hn
  ·obtain ⟨cs, T, fr, h1, _⟩ := h.fz k hn
   rw [hk] at h1; cases h1; cases ho
 exact {
  below := h.below.trans (ht.below h0)
  f0 := h.f0
  fz := h.fz.touch ht (fun hn => absurd hfk hn)
  boxl := h.boxl
  box := fun i cells q e1 e2 => by
   obtain ⟨h3, h4, cs2, T2, h5, h6, h7⟩ := h.box i cells q e1 e2
   have hne : q ≠ k := by rintro rfl; rw [hk] at h5; cases h5; cases ho
   exact ⟨h3, h4, cs2, T2, (ht.block q hne).trans h5, h6, h7⟩
  pend := h.pend
  nodup := h.nodup
  row := fun r row hr => by
   obtain ⟨v, vs, e1, e2, e3, e4, e5⟩ := h.row r row hr
   refine ⟨v, vs, e1, iKa e2 ht (fun hx => ?_), e3, e4, e5⟩
   rcases e2.2 with ⟨rfl, _⟩ | ⟨q, cap, cur, rfl, _, hc, _⟩
   ·simp [Value.ownBlock] at hx
   ·simp [Value.ownBlock] at hx
    subst hx
    rw [hk] at hc; cases hc; cases ho
  apart := h.apart
  phys := h.phys
  loopl := by rw [h.loopl]; exact hll.symm
  loop := hloop
  lnodup := h.lnodup
  mapl := by rw [h.mapl]; exact hml.symm
  map := hmap
  qnodup := h.qnodup
  marks := fun q hq => by
   obtain ⟨m1, m2⟩ := h.marks q (hms q hq).1
   exact ⟨m1, (ht.block q (hms q hq).2).trans m2⟩
  mnodup := hnd }
theorem aMa.loops_at (h : aMa w0 f0 ms σ g w) {k : Nat} {o : Obj} (hk : w.heap[k]? = some o) (hno : ∀ r, o ≠ .loop r) (o' : Obj) (l : Nat) (lr : cOa) (q : Nat) (h1 : σ.loops[l]? = some lr) (h2 : g.loop[l]? = some q) :
  w0.heap.size ≤ q ∧ ∃ rec, (w.putObj k o').heap[q]? = some (.loop rec) ∧ gOa g lr rec := by
 obtain ⟨h3, rec, h4, h5⟩ := h.loop l lr q h1 h2
 have hne : q ≠ k := by rintro rfl; rw [hk] at h4; cases h4; exact hno _ rfl
 exact ⟨h3, rec, (World.putObj_heap_other hne).trans h4, h5⟩
theorem aMa.maps_at (h : aMa w0 f0 ms σ g w) {k : Nat} {o : Obj} (hk : w.heap[k]? = some o) (hno : ∀ es c, o ≠ .map es c) (o' : Obj) (m : Nat) (q : jGb) (p : Nat) (h1 : σ.maps[m]? = some q) (h2 : g.map[m]? = some p) :
  w0.heap.size ≤ p ∧ ∃ es clock, (w.putObj k o').heap[p]? = some (.map es clock) ∧ aBa g q.ks (es.toList.map (·.key)) ∧ aBa g q.vs (es.toList.map (·.val)) := by
 obtain ⟨h3, es, c, h4, h5⟩ := h.map m q p h1 h2
 have hne : p ≠ k := by rintro rfl; rw [hk] at h4; cases h4; exact hno _ _ rfl
 exact ⟨h3, es, c, (World.putObj_heap_other hne).trans h4, h5⟩
def G.addMap (g : G) (k : Nat) : G := { g with map := g.map ++ [k] }
theorem G.le_addMap (g : G) (k : Nat) : g.le (g.addMap k) := ⟨fun _ => List.prefix_refl _, List.prefix_refl _, fun _ _ _ h => h, List.prefix_refl _, List.prefix_append _ _⟩
theorem aMa.map_lt (h : aMa w0 f0 ms σ g w) {k : Nat} (hk : k ∈ g.map) : k < w.heap.size := by
 obtain ⟨i, hi⟩ := jPa hk
 have hl : i < σ.maps.length := by rw [← h.mapl]; exact (List.getElem?_eq_some_iff.1 hi).1
 obtain ⟨_, es, c, h5, _⟩ := h.map i σ.maps[i] k (List.getElem?_eq_getElem hl) hi
 exact dMa h5
theorem aMa.newMap (h : aMa w0 f0 ms σ g w) : aMa w0 f0 ms { σ with maps := σ.maps ++ [{ ks := [], vs := [] }] } (g.addMap w.heap.size) (w.alloc (.map #[] 0)) := by
 have hb : Below w.heap.size w (w.alloc (.map #[] 0)) := (Below.refl _ _).alloc (Nat.le_refl _) _
 have k := h.kept hb
 have hg := g.le_addMap w.heap.size
 exact {
  below := k.below
  f0 := k.f0
  fz := k.fz
  boxl := k.boxl
  box := fun i cells q e1 e2 => by
   obtain ⟨h3, h4, cs', T', h5, h6, h7⟩ := k.box i cells q e1 e2
   exact ⟨h3, h4, cs', T', h5, aIa hg _ _ h6, h7⟩
  pend := k.pend
  nodup := k.nodup
  row := fun r row hr => by
   obtain ⟨v, vs, e1, e2, e3, e4⟩ := k.row r row hr
   exact ⟨v, vs, e1, e2, aVa hg _ _ _ _ (List.prefix_refl _) e3, e4⟩
  apart := k.apart
  phys := k.phys
  loopl := k.loopl
  loop := fun l lr q e1 e2 => by
   obtain ⟨h3, rec, h4, h5⟩ := k.loop l lr q e1 e2
   exact ⟨h3, rec, h4, bVa hg h5⟩
  lnodup := k.lnodup
  mapl := by simp [G.addMap, h.mapl]
  map := fun m q p e1 e2 => by
   simp only [G.addMap] at e2
   by_cases hi : m < σ.maps.length
   ·rw [List.getElem?_append_left hi] at e1
    rw [List.getElem?_append_left (by rw [h.mapl]; exact hi)] at e2
    obtain ⟨h3, es, c, h4, h5, h6⟩ := k.map m q p e1 e2
    exact ⟨h3, es, c, h4, aIa hg _ _ h5, aIa hg _ _ h6⟩
   ·rw [List.getElem?_append_right (by omega)] at e1
    rw [List.getElem?_append_right (by rw [h.mapl]; omega)] at e2
    rw [h.mapl] at e2
    have hz : m - σ.maps.length = 0 := by
     have := (List.getElem?_eq_some_iff.1 e1).1
     simp at this; omega
    rw [hz] at e1 e2
    simp at e1 e2
    subst e1 e2
    exact ⟨h.below.size, #[], 0, heap_alloc_new w _, by simp [aBa], by simp [aBa]⟩
  qnodup := by
   simp only [G.addMap]
   rw [List.nodup_append]
   refine ⟨h.qnodup, by simp, fun a ha b hb' => ?_⟩
   simp at hb'
   subst hb'
   have := h.map_lt ha
   omega
  marks := k.marks
  mnodup := k.mnodup }
theorem aMa.setMap (h : aMa w0 f0 ms σ g w) {m k : Nat} {q : jGb} {es es' : Array MapEntry} {c c' : Nat} (hm : σ.maps[m]? = some q) (hk : g.map[m]? = some k) (hw : w.heap[k]? = some (.map es c)) {q' : jGb}
  (h1 : aBa g q'.ks (es'.toList.map (·.key))) (h2 : aBa g q'.vs (es'.toList.map (·.val))) :
  aMa w0 f0 ms { σ with maps := σ.maps.set m q' } g (w.putObj k (.map es' c')) := by
 obtain ⟨hk0, _⟩ := h.map m q k hm hk
 have hml : m < σ.maps.length := (List.getElem?_eq_some_iff.1 hm).1
 refine h.touch (lps := σ.loops) hw rfl hk0 _ rfl (by simp) (h.loops_at hw (fun r hr => by cases hr) _) (fun m' q2 p e1 e2 => ?_) (fun p hp => ⟨hp, ?_⟩) h.mnodup
 ·by_cases hi : m = m'
  ·subst hi
   rw [List.getElem?_set_self hml] at e1
   cases e1
   rw [hk] at e2; cases e2
   exact ⟨hk0, es', c', World.putObj_heap_same (dMa hw), h1, h2⟩
  ·rw [List.getElem?_set_ne hi] at e1
   obtain ⟨h3, es2, c2, h4, h5⟩ := h.map m' q2 p e1 e2
   have hne : p ≠ k := by rintro rfl; exact hi (rNa h.qnodup hk e2)
   exact ⟨h3, es2, c2, (World.putObj_heap_other hne).trans h4, h5⟩
 ·rintro rfl
  obtain ⟨_, m2⟩ := h.marks p hp
  rw [hw] at m2; cases m2
def nRb (str : Bool) (d : TypeDesc) : Prop := match str with
 | false => ∃ q, d = .int q
 | true => d = .string
theorem vYa {t e : TypeId} {str : Bool} (h : hQb P t = some (e, str)) : ∃ k d, P.underlying t = some (.map k e) ∧ P.underlying k = some d ∧ nRb str d := by
 unfold hQb at h
 split at h
 ·rename_i k' e' hu
  split at h
  ·rename_i q hk; cases h; exact ⟨_, _, hu, hk, q, rfl⟩
  ·rename_i hk; cases h; exact ⟨_, _, hu, hk, rfl⟩
  ·cases h
 ·cases h
theorem dVa {kt : TypeId} {d : TypeDesc} {str : Bool} (hd : P.underlying kt = some d) (hk : nRb str d) (e : Bool) (v : Value) (w : World) : (Instr.checkKey e 10000 kt v).run P w = .ok () w := by
 show (Instr.checkKey e (9999 + 1) kt v).run P w = _
 unfold Instr.checkKey
 cases str with
 | false => obtain ⟨q, rfl⟩ := hk; cases v <;> simp [run_underlying hd]
 | true => cases hk; cases v <;> simp [run_underlying hd]
theorem xWa {x y : LV} {u v : Value} {b : Bool} {d : TypeDesc} {str : Bool} (hd : nRb str d) (hx : aEa g x u) (hy : aEa g y v) (h : eCb str x y = some b) :
  Instr.sameNow d u v = some b ∧ (b = true → ∀ n, Instr.sameBits n v u = true) := by
 unfold eCb at h
 split at h
 ·rename_i k a k' c
  rw [bOa hx, bOa hy]
  obtain ⟨q, rfl⟩ := hd
  split at h
  ·rename_i hk
   subst hk
   cases h
   refine ⟨by simp [Instr.sameNow], fun hb n => ?_⟩
   have : a = c := by simpa using hb
   subst this
   cases n <;> simp [Instr.sameBits]
  ·cases h
 ·rename_i a c
  rw [dGa hx, dGa hy]
  cases hd
  cases h
  refine ⟨by simp [Instr.sameNow, beq_toListBytes], fun hb n => ?_⟩
  have : a.toList = c.toList := by simpa using hb
  have e : (c == a) = true := by rw [beq_toListBytes, this]; simp
  cases n <;> simp [Instr.sameBits, e]
 ·cases h
theorem qXa {d : TypeDesc} {str : Bool} (hd : nRb str d) {k : LV} {kv : Value} (hk : aEa g k kv) : ∀ (ks : List LV) (es : List MapEntry) (i : Nat) (o : Option Nat), aBa g ks (es.map (·.key)) → mOa str k ks = some o →
  ∃ r, Instr.findNow d kv es i = some r ∧ match o with
   | none => r = none
   | some j => ∃ e, es[j]? = some e ∧ r = some (i + j, e.val) ∧ Instr.sameBits 10000 e.key kv = true
 | [], es, i, o, hr, h => by
  simp only [aBa] at hr
  have : es = [] := by simpa using hr
  subst this
  simp only [mOa] at h
  cases h
  exact ⟨none, rfl, rfl⟩
 | x :: ks, es, i, o, hr, h => by
  simp only [aBa] at hr
  obtain ⟨v, vs', he, h2, h3⟩ := hr
  cases es with
  | nil => simp at he
  | cons e es =>
   simp only [List.map_cons, List.cons.injEq] at he
   obtain ⟨rfl, rfl⟩ := he
   simp only [mOa] at h
   split at h
   ·rename_i hq
    cases h
    obtain ⟨a1, a2⟩ := xWa hd hk h2 hq
    exact ⟨some (i, e.val), by simp [Instr.findNow, a1], e, rfl, rfl, a2 rfl _⟩
   ·rename_i hq
    obtain ⟨a1, _⟩ := xWa hd hk h2 hq
    obtain ⟨o', ho', rfl⟩ := Option.map_eq_some_iff.1 h
    obtain ⟨r, r1, r2⟩ := qXa hd hk ks es (i + 1) o' h3 ho'
    refine ⟨r, by simp [Instr.findNow, a1, r1], ?_⟩
    cases o' with
    | none => exact r2
    | some j =>
     obtain ⟨e', b1, b2, b3⟩ := r2
     exact ⟨e', by simpa using b1, by rw [b2]; congr 2; show i + 1 + j = i + (j + 1); omega, b3⟩
   ·cases h
theorem lLa {d : TypeDesc} {str : Bool} {kt : TypeId} (hkt : P.underlying kt = some d) (hd : nRb str d) {k : LV} {kv : Value} (hk : aEa g k kv) {ks : List LV} {es : Array MapEntry} {o : Option Nat} (hr : aBa g ks (es.toList.map (·.key))) (h : mOa str k ks = some o) (w : World) :
  ∃ r, (Instr.findKey kt kv es.toList).run P w = .ok r w ∧ match o with
   | none => r = none
   | some j => ∃ e, es[j]? = some e ∧ r = some (j, e.val) ∧ Instr.sameBits 10000 e.key kv = true := by
 obtain ⟨r, r1, r2⟩ := qXa hd hk ks es.toList 0 o hr h
 refine ⟨r, by simp [Instr.findKey, run_underlying hkt, r1], ?_⟩
 cases o with
 | none => exact r2
 | some j =>
  obtain ⟨e, b1, b2, b3⟩ := r2
  exact ⟨e, by simpa using b1, by simpa using b2, b3⟩
theorem gKa {k : Nat} {es : Array MapEntry} {c : Nat} (h : w.heap[k]? = some (.map es c)) : (getObj k).run P w = .ok (.map es c) w := by simp [getObj, Sem.run, h]
theorem kPa {k : Nat} {es : Array MapEntry} {c : Nat} (h : w.heap[k]? = some (.map es c)) (o : Obj) : (setObj k o).run P w = .ok () (w.putObj k o) := by simp [setObj, Sem.run, h, World.putObj]
theorem pYa : ∀ {xs : List LV} {vs : List Value} (i : Nat) {x : LV} {v : Value}, aBa g xs vs → aEa g x v → aBa g (xs.set i x) (vs.set i v)
 | [], vs, i, x, v, h, _ => by simp only [aBa] at h; subst h; simp [aBa]
 | y :: xs, vs, i, x, v, h, hx => by
  simp only [aBa] at h
  obtain ⟨u, vs', rfl, h1, h2⟩ := h
  cases i with
  | zero => simp only [List.set_cons_zero, aBa]; exact ⟨v, vs', rfl, hx, h2⟩
  | succ i => simp only [List.set_cons_succ, aBa]; exact ⟨u, _, rfl, h1, pYa i h2 hx⟩
theorem lHa : ∀ {xs : List LV} {vs : List Value} (i : Nat), aBa g xs vs → aBa g (xs.eraseIdx i) (vs.eraseIdx i)
 | [], vs, i, h => by simp only [aBa] at h; subst h; simp [aBa]
 | y :: xs, vs, i, h => by
  simp only [aBa] at h
  obtain ⟨u, vs', rfl, h1, h2⟩ := h
  cases i with
  | zero => simpa using h2
  | succ i => simp only [List.eraseIdx_cons_succ, aBa]; exact ⟨u, _, rfl, h1, lHa i h2⟩
theorem qVa {α β : Type} (f : α → β) : ∀ (l : List α) (i : Nat), (l.map f).eraseIdx i = (l.eraseIdx i).map f
 | [], _ => rfl
 | _ :: _, 0 => rfl
 | _ :: l, i + 1 => by simp [qVa f l i]
theorem wNa {own : Bool} {t : TypeId} {e : Env} {a : Act} (h : aMa w0 f0 ms σ g w) {o : Oper} (ho : o.op = .makeMap t none) {r : LV × St} (hop : aDa P own o e.ev σ = some r) : bWa w0 f0 ms g r.1 r.2 ((execOp a.eval o).run P w) := by
 simp only [aDa, ho, Option.map_eq_some_iff] at hop
 obtain ⟨_, _, rfl⟩ := hop
 refine ⟨.map (some w.heap.size), _, g.addMap w.heap.size, .inl ?_, ?_, g.le_addMap _, h.newMap⟩
 ·simp [execOp, ho, Instr.makeMap]
 ·simp only [aEa]
  exact ⟨w.heap.size, by simp [G.addMap, ← h.mapl], rfl⟩
theorem yYa {own : Bool} {t : TypeId} {m k : Operand} {ok : Bool} {e : Env} {a : Act} (hT : dYa g e.t a.tmps) (h : aMa w0 f0 ms σ g w) {o : Oper} (ho : o.op = .lookup t m k ok) {r : LV × St} (hop : aDa P own o e.ev σ = some r) : bWa w0 f0 ms g r.1 r.2 ((execOp a.eval o).run P w) := by
 have hm := aZa hT m
 have hk := aZa hT k
 simp only [aDa, ho] at hop
 split at hop
 ·rename_i q hq
  rw [hq] at hm
  simp only [aEa] at hm
  obtain ⟨b, hb, hmv⟩ := hm
  simp only [Option.bind_eq_some_iff] at hop
  obtain ⟨⟨el, str⟩, hme, mp, hmp, f, hf, z, hz, hop⟩ := hop
  obtain ⟨kt, d, hu, hkd, hd⟩ := vYa hme
  obtain ⟨_, es, c, hw, hks, hvs⟩ := h.map q mp b hmp hb
  obtain ⟨rr, r1, r2⟩ := lLa (P := P) hkd hd hk hks hf w
  obtain ⟨i, zv, hi, hzv, _, _, hzr⟩ := kSa hz
  have fin : ∀ {lv : LV} {v : Value} {b : Bool}, aEa g lv v → r = (bif ok then .tuple [lv, .bool b] else lv, σ) → (Instr.lookup t (a.eval m) (a.eval k) ok).run P w = .ok (if ok = true then .tuple #[v, .bool b] else v) w → bWa w0 f0 ms g r.1 r.2 ((execOp a.eval o).run P w) := fun {lv v b} hv hr hrun => by
   subst hr
   refine aLa (v := if ok = true then .tuple #[v, .bool b] else v) h ?_ (by simp only [execOp, ho, Sem.run_bind, hrun, Result.andThen_ok, Sem.run_pure])
   cases ok with
   | true => simp only [cond_true, if_true, aEa]; exact ⟨_, rfl, by simp only [aBa]; exact ⟨_, _, rfl, hv, _, _, rfl, bRa _, rfl⟩⟩
   | false => simpa using hv
  cases f with
  | none =>
   simp only at r2 hop
   subst r2
   refine fin (hzr g) (Option.some.inj hop).symm ?_
   cases ok <;> simp [Instr.lookup, run_underlying hu, hmv, gKa hw, dVa hkd hd, r1, zeroValue, typeInfo, hi, hzv]
  | some j =>
   simp only at r2 hop
   obtain ⟨en, e1, rfl, _⟩ := r2
   obtain ⟨v, hv, rfl⟩ := Option.map_eq_some_iff.1 hop
   obtain ⟨u, hu1, hu2⟩ := lYa hvs hv
   have : u = en.val := by
    rw [List.getElem?_map] at hu1
    have e2 : es.toList[j]? = some en := by simpa using e1
    rw [e2] at hu1
    exact (Option.some.inj hu1).symm
   subst this
   refine fin hu2 rfl ?_
   cases ok <;> simp [Instr.lookup, run_underlying hu, hmv, gKa hw, dVa hkd hd, r1]
 ·cases hop
theorem sIa {own : Bool} {t : TypeId} {m k x : Operand} {e : Env} {a : Act} (hT : dYa g e.t a.tmps) (h : aMa w0 f0 ms σ g w) {o : Oper} (ho : o.op = .mapUpdate t m k x) {r : LV × St} (hop : aDa P own o e.ev σ = some r) : bWa w0 f0 ms g r.1 r.2 ((execOp a.eval o).run P w) := by
 have hm := aZa hT m
 have hk := aZa hT k
 have hx := aZa hT x
 simp only [aDa, ho] at hop
 have hund : ∀ g, aEa g (.tuple []) Go.undef := fun g => by simp only [aEa]; exact ⟨#[], rfl, by simp [aBa]⟩
 split at hop
 ·rename_i q hq
  rw [hq] at hm
  simp only [aEa] at hm
  obtain ⟨b, hb, hmv⟩ := hm
  simp only [Option.bind_eq_some_iff] at hop
  obtain ⟨⟨el, str⟩, hme, mp, hmp, f, hf, hop⟩ := hop
  obtain ⟨kt, d, hu, hkd, hd⟩ := vYa hme
  split at hop
  ·obtain ⟨g1, k1, k2, k3⟩ := h.freeze (aQa (e.ev x))
   have hx' := hFa k1.le _ _ k3 hx
   have hk' := cFa k1.le _ _ hk
   have hmp' : (gVa σ (aQa (e.ev x))).maps[q]? = some mp := by rw [vUa]; exact hmp
   have hb' : g1.map[q]? = some b := by rw [k1.map]; exact hb
   obtain ⟨_, es, c, hw, hks, hvs⟩ := k2.map q mp b hmp' hb'
   obtain ⟨rr, r1, r2⟩ := lLa (P := P) hkd hd hk' hks hf w
   cases f with
   | none =>
    simp only at r2 hop
    subst r2
    split at hop
    ·cases hop
     have hset := k2.setMap (q' := { ks := mp.ks ++ [e.ev k], vs := mp.vs ++ [bIa σ (e.ev x)] }) (es' := es.push { key := a.eval k, val := a.eval x, born := c }) (c' := c + 1) hmp' hb' hw (by
      simp only [Array.toList_push, List.map_append, List.map_cons, List.map_nil]
      exact cQa hks (bFa hk')) (by
      simp only [Array.toList_push, List.map_append, List.map_cons, List.map_nil]
      exact cQa hvs (bFa hx'))
     rw [vUa] at hset
     refine ⟨Go.undef, _, g1, .inr ⟨?_, rfl⟩, hund _, k1.le, hset⟩
     simp [execOp, ho, Instr.mapUpdate, run_underlying hu, hmv, gKa hw, dVa hkd hd, r1, kPa hw]
    ·cases hop
   | some j =>
    simp only at r2 hop
    obtain ⟨en, e1, rfl, hsb⟩ := r2
    cases hop
    have hset := k2.setMap (q' := { ks := mp.ks.set j (e.ev k), vs := mp.vs.set j (bIa σ (e.ev x)) }) (es' := es.modify j fun en => { en with key := a.eval k, val := a.eval x }) (c' := c) hmp' hb' hw (by
      have := pYa j hks hk'
      have e3 : (es.modify j fun en => { en with key := a.eval k, val := a.eval x }).toList.map (·.key) = (es.toList.map (·.key)).set j (a.eval k) := by
       apply List.ext_getElem?
       intro i
       simp only [Array.toList_modify, List.getElem?_map, List.getElem?_modify, List.getElem?_set, List.length_map]
       by_cases hij : j = i
       ·subst hij
        by_cases hl : j < es.toList.length
        ·have hl' : j < es.size := by simpa using hl
         simp [hl']
        ·have hl' : ¬ j < es.size := by simpa using hl
         simp [hl']
       ·simp [hij]
      rw [e3]; exact this) (by
      have := pYa j hvs hx'
      have e3 : (es.modify j fun en => { en with key := a.eval k, val := a.eval x }).toList.map (·.val) = (es.toList.map (·.val)).set j (a.eval x) := by
       apply List.ext_getElem?
       intro i
       simp only [Array.toList_modify, List.getElem?_map, List.getElem?_modify, List.getElem?_set, List.length_map]
       by_cases hij : j = i
       ·subst hij
        by_cases hl : j < es.toList.length
        ·have hl' : j < es.size := by simpa using hl
         simp [hl']
        ·have hl' : ¬ j < es.size := by simpa using hl
         simp [hl']
       ·simp [hij]
      rw [e3]; exact this)
    rw [vUa] at hset
    refine ⟨Go.undef, _, g1, .inr ⟨?_, rfl⟩, hund _, k1.le, hset⟩
    have hks2 : (Instr.keyThatStays en.key (a.eval k)).run P w = .ok (a.eval k) w := by simp [Instr.keyThatStays, hsb]
    simp [execOp, ho, Instr.mapUpdate, run_underlying hu, hmv, gKa hw, dVa hkd hd, r1, e1, hks2, kPa hw]
  ·cases hop
 ·cases hop
theorem yXa {t kt' ty : TypeId} {q : Nat} {k : LV} {mv kv : Value} (h : aMa w0 f0 ms σ g w) (hm : aEa g (.mapr q) mv) (hk : aEa g k kv) {el : TypeId} {str : Bool} (hme : hQb P t = some (el, str)) {mp : jGb} (hmp : σ.maps[q]? = some mp) {f : Option Nat} (hf : mOa str k mp.ks = some f) :
  ∃ w', (Builtin.delete_ #[t, kt'] ty #[mv, kv]).run P w = .ok (.tuple #[]) w' ∧ aMa w0 f0 ms (match f with | some i => { σ with maps := σ.maps.set q { ks := mp.ks.eraseIdx i, vs := mp.vs.eraseIdx i } } | none => σ) g w' := by
 simp only [aEa] at hm
 obtain ⟨b, hb, rfl⟩ := hm
 obtain ⟨kt, d, hu, hkd, hd⟩ := vYa hme
 obtain ⟨_, es, c, hw, hks, hvs⟩ := h.map q mp b hmp hb
 obtain ⟨rr, r1, r2⟩ := lLa (P := P) hkd hd hk hks hf w
 cases f with
 | none =>
  simp only at r2
  subst r2
  have hset := h.setMap (q' := mp) (es' := es) (c' := c) hmp hb hw hks hvs
  refine ⟨w.putObj b (.map es c), by simp [Builtin.delete_, run_underlying hu, gKa hw, dVa hkd hd, r1, kPa hw], ?_⟩
  have e1 : σ.maps.set q mp = σ.maps := by
   obtain ⟨hl, rfl⟩ := List.getElem?_eq_some_iff.1 hmp
   exact List.set_getElem_self hl
  rw [e1] at hset
  exact hset
 | some j =>
  simp only at r2
  obtain ⟨en, e1, rfl, hsb⟩ := r2
  have hset := h.setMap (q' := { ks := mp.ks.eraseIdx j, vs := mp.vs.eraseIdx j }) (es' := es.eraseIdxIfInBounds j) (c' := c) hmp hb hw (by
   have := lHa j hks
   rw [qVa] at this
   simpa using this) (by
   have := lHa j hvs
   rw [qVa] at this
   simpa using this)
  exact ⟨w.putObj b (.map (es.eraseIdxIfInBounds j) c), by simp [Builtin.delete_, run_underlying hu, gKa hw, dVa hkd hd, r1, kPa hw], hset⟩
end
end Go.Proofs.YtpeaaophmddhnaaGreat.LI
