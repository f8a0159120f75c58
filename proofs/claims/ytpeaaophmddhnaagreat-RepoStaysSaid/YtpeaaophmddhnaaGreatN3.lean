/-
  An interpreter over values is sound, part 3.
-/
import Derived.Test.YtpeaaophmddhnaaGreatN2
namespace Go.Proofs.YtpeaaophmddhnaaGreat.LI
open Go Go.RowKit
inductive Ty where
 | int (k : IntKind)
 | byte
 | bool
 | str
 | list (t : Ty)
 | unit
 | pair (a b : Ty)
 deriving DecidableEq, Inhabited
abbrev Ty.den : Ty → Type
 | .int _ => Int
 | .byte => UInt8
 | .bool => Bool
 | .str => ByteArray
 | .list t => List t.den
 | .unit => Unit
 | .pair a b => a.den × b.den
def Ty.dfl : (t : Ty) → t.den
 | .int _ => (0 : Int)
 | .byte => (0 : UInt8)
 | .bool => false
 | .str => ByteArray.empty
 | .list _ => []
 | .unit => ()
 | .pair a b => (a.dfl, b.dfl)
def Ty.isAgg : Ty → Bool
 | .unit => true
 | .pair _ _ => true
 | _ => false
def Ty.ncells : Ty → Nat
 | .unit => 0
 | .pair a b => a.ncells + b.ncells
 | _ => 1
def kFb (agg : Bool) (cs : List LV) : LV := bif agg then .agg cs else cs.headD .undef
def cPa : (t : Ty) → t.den → List LV
 | .int k, n => [.sc (.int k n)]
 | .byte, n => [.sc (.int .u8 (UInt8.toNat n))]
 | .bool, b => [.sc (.bool b)]
 | .str, s => [.sc (.string s)]
 | .list t, p => [.slice (p.map fun x => kFb t.isAgg (cPa t x))]
 | .unit, _ => []
 | .pair a b, p => cPa a p.1 ++ cPa b p.2
def eEa (t : Ty) (x : t.den) : LV := kFb t.isAgg (cPa t x)
def kBb (t : Ty) (l : List t.den) : LV := .slice (l.map (eEa t))
inductive KV where
 | undef
 | sc (v : Value)
 | st (v : Value)
 | nils
 | lst (t : Ty) (l : List t.den)
 | mref (r n : Nat)
 | mview (r n lo hi sz : Nat)
 | mapr (m : Nat)
 | agg (cs : List KV)
 | tuple (vs : List KV)
 | bptr (b off : Nat)
 | pptr (cs : List KV)
 | vec (es : List KV)
 | rptr (r n i sz off : Nat)
 | func (fn : Fn) (fst caps : List KV)
 deriving Inhabited
namespace KV
def cells : KV → List KV
 | .agg cs => cs
 | v => [v]
def toL : KV → LV
 | .undef => .undef
 | .sc v => .sc v
 | .st v => .sc v
 | .nils => .nils
 | .lst t l => kBb t l
 | .mref r n => .mref r n
 | .mview r n lo hi sz => .mview r n lo hi sz
 | .mapr m => .mapr m
 | .agg cs => .agg (toLs cs)
 | .tuple vs => .tuple (toLs vs)
 | .bptr b o => .bptr b o
 | .pptr cs => .pptr (toLs cs)
 | .vec es => .slice (toLs es)
 | .rptr r n i sz o => .rptr r n i sz o
 | .func fn fst caps => .func fn (toLs fst) (toLs caps)
where
 toLs : List KV → List LV
 | [] => []
 | v :: vs => toL v :: toLs vs
abbrev int (n : Int) : KV := .sc (.int .i64 n)
abbrev bool (b : Bool) : KV := .sc (.bool b)
abbrev str (s : ByteArray) : KV := .sc (.string s)
def storable : KV → Bool
 | .undef => false
 | .tuple _ => false
 | _ => true
def int? : KV → Option (Bool × IntKind × Int)
 | .st (.int k n) => some (true, k, n)
 | .sc (.int k n) => some (false, k, n)
 | _ => none
def bool? : KV → Option (Bool × Bool)
 | .st (.bool b) => some (true, b)
 | .sc (.bool b) => some (false, b)
 | _ => none
def str? : KV → Option (Bool × ByteArray)
 | .st (.string s) => some (true, s)
 | .sc (.string s) => some (false, s)
 | _ => none
def mk (s : Bool) (v : Value) : KV :=
 match s with
 | true => .st v
 | false => .sc v
def dyn : KV → KV
 | .st v => .sc v
 | .agg cs => .agg (dyns cs)
 | .tuple vs => .tuple (dyns vs)
 | .pptr cs => .pptr (dyns cs)
 | .func fn fst caps => .func fn (dyns fst) (dyns caps)
 | v => v
where
 dyns : List KV → List KV
 | [] => []
 | v :: vs => dyn v :: dyns vs
end KV
inductive Ck where
 | ok
 | is (b : Bool)
 | and (a b : Ck)
def Ck.val : Ck → Bool
 | .ok => true
 | .is b => b
 | .and a b => a.val && b.val
def Ck.st (s : Bool) (b : Bool) : Ck :=
 match s with
 | true => (match b with
  | true => .ok
  | false => .is false)
 | false => .is b
def oLa : (t : Ty) → t.den → List KV
 | .int k, n => [.sc (.int k n)]
 | .byte, n => [.sc (.int .u8 (UInt8.toNat n))]
 | .bool, b => [.sc (.bool b)]
 | .str, s => [.sc (.string s)]
 | .list t, p => [.lst t p]
 | .unit, _ => []
 | .pair a b, p => oLa a p.1 ++ oLa b p.2
def jRb (t : Ty) (x : t.den) : KV := bif t.isAgg then .agg (oLa t x) else (oLa t x).headD .undef
def lAb (k : IntKind) : List KV → Option (Ck × Int × List KV)
 | x :: r => match x.int? with
  | some (_, k', n) => if k = k' then some (.ok, n, r) else none
  | none => none
 | _ => none
def gDb : List KV → Option (Ck × UInt8 × List KV)
 | x :: r => match x.int? with
  | some (s, .u8, n) => some (.st s (decide (0 ≤ n) && decide (n < 256)), UInt8.ofNat n.toNat, r)
  | _ => none
 | _ => none
def gCb : List KV → Option (Ck × Bool × List KV)
 | x :: r => match x.bool? with
  | some (_, b) => some (.ok, b, r)
  | none => none
 | _ => none
def lBb : List KV → Option (Ck × ByteArray × List KV)
 | x :: r => match x.str? with
  | some (_, s) => some (.ok, s, r)
  | none => none
 | _ => none
def gEb (t : Ty) : List KV → Option (Ck × List t.den × List KV)
 | .lst t' l :: r => if h : t' = t then some (.ok, h ▸ l, r) else (match t', l with
  | .unit, [] => some (.ok, [], r)
  | _, _ => none)
 | _ => none
def jHb : (t : Ty) → List KV → Option (Ck × t.den × List KV)
 | .int k => lAb k
 | .byte => gDb
 | .bool => gCb
 | .str => lBb
 | .list t => gEb t
 | .unit => fun r => some (.ok, (), r)
 | .pair a b => fun r => match jHb a r with
  | some (c, x, r') => match jHb b r' with
   | some (c', y, r'') => some (.and c c', (x, y), r'')
   | none => none
  | none => none
def oQb : KV → Bool
 | .agg _ => true
 | _ => false
def fGb (t : Ty) (v : KV) : Option (Ck × t.den) :=
 if oQb v = t.isAgg then match jHb t v.cells with
  | some (c, x, []) => some (c, x)
  | _ => none
 else none
def jOb (t : Ty) : List KV → Option (Ck × List t.den)
 | [] => some (.ok, [])
 | v :: vs => match fGb t v, jOb t vs with
  | some (c, x), some (c', xs) => some (.and c c', x :: xs)
  | _, _ => none
def qEa (t' t : Ty) (l : List t'.den) : Option (List t.den) := if h : t' = t then some (h ▸ l) else none
structure aYa where
 t : Ty
 l : List t.den
 e : TypeId
 sz : Nat
 wr : Bool
structure bNa where
 fn : FuncId
 t : List KV
 deriving Inhabited
structure hJa where
 env : bNa
 params : List Tmp
 assign : Code
 body : Code
 pending : Option Code
 state : LoopState
structure tJa where
 kt : Ty
 vt : Ty
 l : List (kt.den × vt.den)
structure KSt where
 boxes : List (List KV) := []
 rows : List aYa := []
 loops : List hJa := []
 maps : List tJa := []
 deriving Inhabited
structure dXa where
 ex : Ex := .normal
 v : KV := .undef
 env : bNa := default
 σ : KSt := {}
 deriving Inhabited
inductive sTa where
 | call (f : FuncId) (args : List KV)
 | callS (f : FuncId) (args : List KV) (σ : KSt)
 | apply (own : Bool) (f : KV) (args : List KV) (σ : KSt)
 | code (c : Code) (e : bNa) (σ : KSt)
def aYa.toL (r : aYa) : Row := ⟨r.l.map (eEa r.t), r.e, r.sz, r.wr⟩
def bNa.toL (e : bNa) : Env := ⟨e.fn, KV.toL.toLs e.t⟩
def hJa.toL (l : hJa) : cOa := ⟨l.env.toL, l.params, l.assign, l.body, l.pending, l.state⟩
def tJa.toL (m : tJa) : jGb := ⟨m.l.map fun p => eEa m.kt p.1, m.l.map fun p => eEa m.vt p.2⟩
def KSt.toL (σ : KSt) : St := ⟨σ.boxes.map KV.toL.toLs, σ.rows.map aYa.toL, σ.loops.map hJa.toL, σ.maps.map tJa.toL⟩
def dXa.toL (r : dXa) : Res := ⟨r.ex, r.v.toL, r.env.toL, r.σ.toL⟩
def sTa.toL : sTa → iBa
 | .call f args => .call f (KV.toL.toLs args)
 | .callS f args σ => .callS f (KV.toL.toLs args) σ.toL
 | .apply own f args σ => .apply own f.toL (KV.toL.toLs args) σ.toL
 | .code c e σ => .code c e.toL σ.toL
def gIa (σ : KSt) : KV → Ck × KV
 | .mref r n => match σ.rows[r]? with
  | some row => (.is (decide (row.l.length = n)), .lst row.t row.l)
  | none => (.is false, .undef)
 | .mview r n lo hi sz => match σ.rows[r]? with
  | some row => (.and (.is (decide (row.l.length = n))) (.and (.st true (Nat.beq row.sz sz)) (.and (.is (decide (lo ≤ hi))) (.is (decide (hi ≤ n))))), .lst row.t ((row.l.drop lo).take (hi - lo)))
  | none => (.is false, .undef)
 | .nils => (.ok, .lst .unit [])
 | .agg cs => ((frzKL cs).1, .agg (frzKL cs).2)
 | .tuple vs => ((frzKL vs).1, .tuple (frzKL vs).2)
 | .func fn fst caps => (.and (frzKL fst).1 (frzKL caps).1, .func fn (frzKL fst).2 (frzKL caps).2)
 | v => (.ok, v)
where
 frzKL : List KV → Ck × List KV
 | [] => (.ok, [])
 | v :: vs => (.and (gIa σ v).1 (frzKL vs).1, (gIa σ v).2 :: (frzKL vs).2)
def fPa : KV → List Nat
 | .mref r _ => [r]
 | .mview r _ _ _ _ => [r]
 | .agg cs => rowsKL cs
 | .tuple vs => rowsKL vs
 | .func _ fst caps => rowsKL fst ++ rowsKL caps
 | _ => []
where
 rowsKL : List KV → List Nat
 | [] => []
 | v :: vs => fPa v ++ rowsKL vs
def hMa (σ : KSt) : List Nat → KSt
 | [] => σ
 | r :: rs => hMa { σ with rows := match σ.rows[r]? with | some row => σ.rows.set r { row with wr := false } | none => σ.rows } rs
def fAa : KV → Bool
 | .undef => true
 | .sc _ => true
 | .st _ => true
 | .nils => true
 | .lst _ _ => true
 | .mref _ _ => false
 | .mview _ _ _ _ _ => false
 | .mapr _ => false
 | .agg cs => freeKL cs
 | .tuple vs => freeKL vs
 | .bptr _ _ => false
 | .pptr cs => freeKL cs
 | .vec es => freeKL es
 | .rptr _ _ _ _ _ => false
 | .func fn fst caps => (match fn with | .yield _ => false | _ => true) && freeKL fst && freeKL caps
where
 freeKL : List KV → Bool
 | [] => true
 | v :: vs => fAa v && freeKL vs
def scK : Value → KV
 | .bool b => .st (.bool b)
 | .int k n => .st (.int k n)
 | .string s => .st (.string s)
 | v => .sc v
def eCa : Value → KV
 | .slice none 0 0 => .nils
 | v => if jRa v then scK v else .undef
def nAa : Value → KV
 | .agg cs => if cs.toList.all (·.oneCell') then .agg (cs.toList.map eCa) else .undef
 | .tuple vs => if vs.size = 0 then .tuple [] else .undef
 | v => eCa v
def fDb (P : Program) (t : TypeId) : Option (List KV) := (P.info? t).bind fun i => i.zero.bind fun z =>
 if z.cells.size = i.size ∧ (z.cells.toList.all fun u => u.oneCell') = true then some (z.cells.toList.map eCa) else none
def tBa (P : Program) (t : TypeId) (cs : List KV) : Option KV := do
 let n ← bKa P t
 if ← xVa P t then (if n ≤ cs.length then some (.agg (cs.take n)) else none)
 else cs.head?
def wOa (cs : List KV) (off : Nat) (new : List KV) : List KV := cs.take off ++ new ++ cs.drop (off + new.length)
def bNa.ev (e : bNa) : Operand → KV
 | .tmp t => e.t.getD t .undef
 | .const v => nAa v
 | .global _ => .undef
 | .func f => .func (.func f) [] []
def bNa.put (e : bNa) (dst : Option Tmp) (v : KV) : bNa :=
 match dst with
 | some d => { e with t := e.t.set d v }
 | none => e
def bLb (row : aYa) (n lo hi sz : Nat) : Ck := .and (.is (decide (row.l.length = n))) (.and (.st true (Nat.beq row.sz sz)) (.and (.is (decide (lo ≤ hi))) (.is (decide (hi ≤ n)))))
def qNa (σ : KSt) : KV → Option (Ck × (t : Ty) × List t.den)
 | .nils => some (.ok, ⟨.unit, []⟩)
 | .lst t l => some (.ok, ⟨t, l⟩)
 | .mref r n => match σ.rows[r]? with
  | some row => some (.is (decide (row.l.length = n)), ⟨row.t, row.l⟩)
  | none => none
 | .mview r n lo hi sz => match σ.rows[r]? with
  | some row => some (bLb row n lo hi sz, ⟨row.t, (row.l.drop lo).take (hi - lo)⟩)
  | none => none
 | _ => none
def qHb (σ : KSt) : KV → Option (Ck × Bool × Nat)
 | .nils => some (.ok, true, 0)
 | .lst _ l => some (.ok, false, l.length)
 | .vec es => some (.ok, true, es.length)
 | .mref r n => match σ.rows[r]? with
  | some row => some (.is (decide (row.l.length = n)), false, row.l.length)
  | none => none
 | .mview r n lo hi sz => match σ.rows[r]? with
  | some row => some (bLb row n lo hi sz, false, hi - lo)
  | none => none
 | _ => none
def eFb (σ : KSt) : KV → Option (Ck × Nat × aYa × Nat × Nat)
 | .mref r n => match σ.rows[r]? with
  | some row => some (.is (decide (row.l.length = n)), r, row, 0, n)
  | none => none
 | .mview r n lo hi sz => match σ.rows[r]? with
  | some row => some (bLb row n lo hi sz, r, row, lo, hi)
  | none => none
 | _ => none
def hYb {β : Type} (xs : List β) (lo : Nat) (ys : List β) : List β := xs.take lo ++ ys ++ xs.drop (lo + ys.length)
def dBa (T : TypeId → Option Ty) (σ : KSt) : List (Option (TypeId × Nat)) → List KV → Option (List KV × KSt)
 | some (e, sz) :: ls, c :: cs => match c with
  | .nils => if 0 < sz then match T e with
   | some t => match dBa T { σ with rows := σ.rows ++ [⟨t, [], e, sz, true⟩] } ls cs with
    | some (cs', σ') => some (.mref σ.rows.length 0 :: cs', σ')
    | none => none
   | none => none
   else match dBa T σ ls cs with
    | some (cs', σ') => some (.nils :: cs', σ')
    | none => none
  | c => match dBa T σ ls cs with
   | some (cs', σ') => some (c :: cs', σ')
   | none => none
 | none :: ls, c :: cs => match dBa T σ ls cs with
  | some (cs', σ') => some (c :: cs', σ')
  | none => none
 | [], cs => some (cs, σ)
 | _, [] => some ([], σ)
def aDb : KV → Bool
 | .nils => true
 | _ => false
def vZa (T : TypeId → Option Ty) (P : Program) (own : Bool) (t : TypeId) (cs : List KV) (σ : KSt) : Option (KV × KSt) :=
 match own with
 | true => match dBa T σ (eOa P 8 t) cs with
  | some (cs', σ') => some (.bptr σ.boxes.length 0, { σ' with boxes := σ'.boxes ++ [cs'] })
  | none => none
 | false => some (.bptr σ.boxes.length 0, { σ with boxes := σ.boxes ++ [cs] })
def aJb (T : TypeId → Option Ty) (P : Program) (own : Bool) (t : TypeId) (v : KV) (σ : KSt) : Option (KV × KSt) :=
 match own with
 | false => some (v, σ)
 | true => match v with
  | .nils => match fMa P t with
   | some e => match bKa P e, T e with
    | some sz, some ty => if 0 < sz then some (.mref σ.rows.length 0, { σ with rows := σ.rows ++ [⟨ty, [], e, sz, true⟩] }) else none
    | _, _ => none
   | none => none
  | v => some (v, σ)
def zCa (P : Program) (t : TypeId) : Option KV := (P.info? t).bind fun i => i.zero.bind fun z =>
 if z.cells.size = i.size ∧ (z.cells.toList.all fun u => u.oneCell') = true then some (gIa {} (match z with | .agg cs => .agg (cs.toList.map eCa) | z => eCa z)).2 else none
def eqK : (t : Ty) → t.den → t.den → Bool
 | .int _, a, b => (show Int from a) == (show Int from b)
 | .str, a, b => ByteArray.toList a == ByteArray.toList b
 | _, _, _ => false
def aLb (kt vt : Ty) (k : kt.den) (l : List (kt.den × vt.den)) : Option Nat := l.findIdx? fun p => eqK kt k p.1
def qLb (kt vt : Ty) (k : kt.den) (v : vt.den) (l : List (kt.den × vt.den)) : List (kt.den × vt.den) :=
 match aLb kt vt k l with
 | some i => l.set i (k, v)
 | none => l ++ [(k, v)]
def qQb (kt vt : Ty) (k : kt.den) (l : List (kt.den × vt.den)) : List (kt.den × vt.den) :=
 match aLb kt vt k l with
 | some i => l.eraseIdx i
 | none => l
def nMb (kt vt : Ty) (k : kt.den) (z : vt.den) (l : List (kt.den × vt.den)) : vt.den :=
 match aLb kt vt k l with
 | some i => (l.map (·.2)).getD i z
 | none => z
def qEb (kt vt : Ty) (k : kt.den) (l : List (kt.den × vt.den)) : Bool := (aLb kt vt k l).isSome
def uEa (str : Bool) : Ty → Bool
 | .int _ => !str
 | .str => str
 | _ => false
def zMa (op : BinOp) (s : Bool) (k : IntKind) (a b : Int) : Option (Ck × KV) :=
 match op with
 | .add => some (.ok, .mk s (.int k (k.wrap (a + b))))
 | .sub => some (.ok, .mk s (.int k (k.wrap (a - b))))
 | .mul => some (.ok, .mk s (.int k (k.wrap (a * b))))
 | .quo => some (.is (!decide (b = 0)), .mk s (.int k (k.wrap (a.tdiv b))))
 | .rem => some (.is (!decide (b = 0)), .mk s (.int k (a.tmod b)))
 | .eql => some (.ok, .mk s (.bool (a == b)))
 | .neq => some (.ok, .mk s (.bool (a != b)))
 | .lss => some (.ok, .mk s (.bool (decide (a < b))))
 | .leq => some (.ok, .mk s (.bool (decide (a ≤ b))))
 | .gtr => some (.ok, .mk s (.bool (decide (a > b))))
 | .geq => some (.ok, .mk s (.bool (decide (a ≥ b))))
 | _ => none
def zOa (op : BinOp) (s : Bool) (a b : ByteArray) : Option (Ck × KV) :=
 match op with
 | .add => some (.is (decide (a.size + b.size < 2 ^ 62)), .mk s (.string (a ++ b)))
 | .eql => some (.ok, .mk s (.bool (a.toList == b.toList)))
 | .neq => some (.ok, .mk s (.bool !(a.toList == b.toList)))
 | .lss => some (.ok, .mk s (.bool (Op.bytesLess a.toList b.toList)))
 | .leq => some (.ok, .mk s (.bool (Op.bytesLess a.toList b.toList || (a.toList == b.toList))))
 | .gtr => some (.ok, .mk s (.bool !(Op.bytesLess a.toList b.toList || (a.toList == b.toList))))
 | .geq => some (.ok, .mk s (.bool !(Op.bytesLess a.toList b.toList)))
 | _ => none
def pJb (P : Program) (op : BinOp) (t : TypeId) (b : Bool) : Option KV :=
 match P.underlying t, op with
 | some (.slice _), .eql => some (.st (.bool b))
 | some (.slice _), .neq => some (.st (.bool !b))
 | _, _ => none
def pWb (P : Program) (op : BinOp) (t : TypeId) (x y : KV) : Option (Ck × KV) :=
 match aDb y with
 | true => (match x with
  | .nils => (match pJb P op t true with
   | some v => some (.ok, v)
   | none => none)
  | .lst _ l => (match pJb P op t false with
   | some v => some (.is (!l.isEmpty), v)
   | none => none)
  | _ => none)
 | false => match x.int?, y.int? with
 | some (s, k, a), some (s', k', b) => if k = k' then zMa op (s && s') k a b else none
 | _, _ => match x.str?, y.str? with
  | some (s, a), some (s', b) => zOa op (s && s') a b
  | _, _ => match x.bool?, y.bool? with
   | some (s, a), some (s', b) => match P.underlying t, op with
    | some .bool, .eql => some (.ok, .mk (s && s') (.bool (a == b)))
    | some .bool, .neq => some (.ok, .mk (s && s') (.bool !(a == b)))
    | _, _ => none
   | _, _ => none
def gSb (P : Program) (eq : TypeId → KV → KV → Option (Bool × Bool)) (xs ys : List KV) : List Field → Option (Bool × Bool)
 | [] => some (true, true)
 | f :: fs => if f.name = "_" then none else match tBa P f.type (xs.drop f.offset), tBa P f.type (ys.drop f.offset) with
  | some x, some y => (match eq f.type x y with
   | some (s, r) => (match gSb P eq xs ys fs with
    | some (s', r') => some (s && s', r && r')
    | none => none)
   | none => none)
  | _, _ => none
def oEb (P : Program) : Nat → TypeId → KV → KV → Option (Bool × Bool)
 | 0, _, _, _ => none
 | d + 1, t, x, y => match P.underlying t with
  | some (.int _) => (match x.int?, y.int? with
   | some (s, k, a), some (s', k', b) => if k = k' then some (s && s', a == b) else none
   | _, _ => none)
  | some .string => (match x.str?, y.str? with
   | some (s, a), some (s', b) => some (s && s', a.toList == b.toList)
   | _, _ => none)
  | some .bool => (match x.bool?, y.bool? with
   | some (s, a), some (s', b) => some (s && s', a == b)
   | _, _ => none)
  | some (.struct fs) => (match x, y with
   | .agg xs, .agg ys => if P.stoodInHeld t = true then none else gSb P (oEb P d) xs ys fs.toList
   | _, _ => none)
  | _ => none
def lQb (P : Program) (op : BinOp) (t : TypeId) (x y : KV) : Option (Ck × KV) :=
 match x, y with
 | .agg xs, .agg ys => if P.eqGuardType P.depth t = true then none else match oEb P 8 t (.agg xs) (.agg ys) with
  | some (s, b) => (match op with
   | .eql => some (.ok, .mk s (.bool b))
   | .neq => some (.ok, .mk s (.bool !b))
   | _ => none)
  | none => none
 | x, y => pWb P op t x y
def unK (op : UnOp) (x : KV) : Option KV :=
 match op with
 | .not => match x.bool? with
  | some (s, b) => some (.mk s (.bool !b))
  | none => none
 | .neg => match x.int? with
  | some (s, k, n) => some (.mk s (.int k (k.wrap (0 - n))))
  | none => none
 | _ => none
def mLb (c x y : KV) : Option KV :=
 match c.bool? with
 | some (true, c) => (match c with
  | true => some x
  | false => some y)
 | some (false, c) => match x.bool?, y.bool? with
  | some (_, a), some (_, b) => some (.sc (.bool (bif c then a else b)))
  | _, _ => none
 | none => none
def jTb (place : Nat → Option (Nat × Nat)) (cells : List KV) : List (Nat × KV) → Option (List KV)
 | [] => some cells
 | (i, v) :: rest => match place i with
  | none => none
  | some (off, n) => if v.cells.length = n ∧ v.storable = true ∧ off + n ≤ cells.length then jTb place (wOa cells off v.cells) rest else none
def fZb (P : Program) (t : TypeId) (parts : List (Nat × KV)) : Option (List KV) :=
 (fDb P t).bind fun zs => (wBa P t).bind fun pl => jTb (fun i => pl[i]?) zs parts
def dKb (v : Option KV) (n m : Nat) : Option (Ck × Nat) :=
 match v with
 | none => some (.ok, n)
 | some v => match v.int? with
  | some (s, _, x) => some (.and (.st s (decide (0 ≤ x))) (.is (decide (x ≤ m))), x.toNat)
  | none => none
def pAa (v : Option KV) (h : Nat) : Option (Ck × Nat) :=
 match v with
 | none => some (.ok, 0)
 | some v => match v.int? with
  | some (s, _, x) => some (.and (.st s (decide (0 ≤ x))) (.is (decide (x ≤ h))), x.toNat)
  | none => none
def lTa (P : Program) (tx : TypeId) (t : Ty) (sz : Nat) (σ : KSt) (x : KV) : Option (Ck × List t.den) :=
 match P.underlying tx with
 | some .string => match x.str? with
  | some (_, s) => if sz = 1 then (match qEa .byte t s.data.toList with
   | some l => some (.ok, l)
   | none => none) else none
  | none => none
 | some (.slice _) => match qNa σ x with
  | some (c, ⟨t', l⟩) => (match qEa t' t l with
   | some l => some (c, l)
   | none => (match t', l with
    | .unit, [] => some (c, [])
    | _, _ => none))
  | none => none
 | _ => none
def qIb (T : TypeId → Option Ty) (P : Program) (tx : TypeId) (x : KV) (e : TypeId) (sz : Nat) (σ : KSt) : Option (Ck × KV × KSt) :=
 match T e with
 | some t => if t.ncells = sz then match lTa P tx t sz σ x with
  | some (c, ys) => some (.and c (.is (decide (ys.length ≤ bBa))), .mref σ.rows.length ys.length, { σ with rows := σ.rows ++ [⟨t, ys, e, sz, true⟩] })
  | none => none else none
 | none => none
def zKa (T : TypeId → Option Ty) (P : Program) (tx : TypeId) (d x : KV) (e : TypeId) (sz : Nat) (σ : KSt) : Option (Ck × KV × KSt) :=
 match d with
 | .nils => qIb T P tx x e sz σ
 | .mref r n => match σ.rows[r]? with
  | some row => if row.e = e ∧ row.sz = sz ∧ row.t.ncells = sz then match lTa P tx row.t sz σ x with
   | some (c, ys) => some (.and c (.and (.is (decide (row.l.length = n))) (.is (decide ((row.l ++ ys).length ≤ bBa)))), .mref r (row.l ++ ys).length, { σ with rows := σ.rows.set r { row with l := row.l ++ ys } })
   | none => none else none
  | none => none
 | .mview r n lo hi sz' => match σ.rows[r]? with
  | some row => if row.e = e ∧ row.sz = sz ∧ sz' = sz ∧ row.wr = true ∧ row.t.ncells = sz then match lTa P tx row.t sz σ x with
   | some (c, ys) => some (.and c (.and (.is (decide (row.l.length = n))) (.and (.is (decide (lo ≤ hi))) (.is (decide (hi + ys.length ≤ n))))), .mview r n lo (hi + ys.length) sz, { σ with rows := σ.rows.set r { row with l := hYb row.l hi ys } })
   | none => none else none
  | none => none
 | _ => none
def pQa (T : TypeId → Option Ty) (P : Program) (e : TypeId) (sz : Nat) (n : Nat) (σ : KSt) : Option (Ck × KV × KSt) :=
 match T e, zCa P e with
 | some t, some z => if t.ncells = sz then match fGb t z with
  | some (c, x) => some (c, .mref σ.rows.length (List.replicate n x).length, { σ with rows := σ.rows ++ [⟨t, List.replicate n x, e, sz, true⟩] })
  | none => none else none
 | _, _ => none
def vHa (T : TypeId → Option Ty) (P : Program) (b : Builtin) (ats : List TypeId) (args : List KV) (σ : KSt) : Option (Ck × KV × KSt) :=
 match b, ats, args with
 | .len, [t], [x] => match P.underlying t with
  | some .string => (match x.str? with
   | some (st, s) => some (.ok, .mk st (.int .i64 s.size), σ)
   | none => none)
  | some (.slice _) => (match qHb σ x with
   | some (c, s, n) => some (c, .mk s (.int .i64 n), σ)
   | none => none)
  | some (.map _ _) => match x with
   | .mapr m => (match σ.maps[m]? with
    | some q => some (.ok, .sc (.int .i64 q.l.length), σ)
    | none => none)
   | _ => none
  | _ => none
 | .cap, [t], [x] => match x with
  | .nils => (match fMa P t with
   | some _ => some (.ok, .st (.int .i64 0), σ)
   | none => none)
  | _ => none
 | .append, [t, tx], [d, x] => match fMa P t with
  | some e => match bKa P e, iVa P e, iXa P e with
   | some sz, some _, some bs => if bs ≤ 128 ∧ 0 < sz then match uCa P tx with
    | true => (match d with
     | .nils => (match x.int? with
      | some (s, _, n) => (match pQa T P e sz n.toNat σ with
       | some (c, v, σ') => some (.and (.st s (decide (0 < n))) (.and (.st s (decide (n ≤ bBa))) c), v, σ')
       | none => none)
      | none => none)
     | _ => none)
    | false => zKa T P tx d x e sz σ
    else none
   | _, _, _ => none
  | none => none
 | .copy, [t, tx], [d, x] => match fMa P t with
  | some e => match bKa P e, eFb σ d with
   | some sz, some (c, r, row, lo, hi) => if row.wr = true ∧ row.sz = sz ∧ 0 < sz ∧ row.t.ncells = sz then match lTa P tx row.t sz σ x with
    | some (c', ys) => some (.and c c', .sc (.int .i64 ((min ys.length (hi - lo) : Nat) : Int)), { σ with rows := σ.rows.set r { row with l := hYb row.l lo (ys.take (hi - lo)) } })
    | none => none else none
   | _, _ => none
  | none => none
 | .clear, [t], [d] => match fMa P t with
  | some e => match bKa P e, zCa P e, eFb σ d with
   | some sz, some z, some (c, r, row, lo, hi) => if row.wr = true ∧ row.sz = sz ∧ 0 < sz ∧ row.t.ncells = sz then match fGb row.t z with
    | some (c', x) => some (.and c c', .tuple [], { σ with rows := σ.rows.set r { row with l := hYb row.l lo (List.replicate (hi - lo) x) } })
    | none => none else none
   | _, _, _ => none
  | none => none
 | .delete, [t, _], [m, k] => match m with
  | .mapr m => match hQb P t, σ.maps[m]? with
   | some (_, str), some q => if uEa str q.kt = true then match fGb q.kt k with
    | some (c, k) => some (c, .tuple [], { σ with maps := σ.maps.set m { q with l := qQb q.kt q.vt k q.l } })
    | none => none else none
   | _, _ => none
  | _ => none
 | .min, _, [x, y] => match x.int?, y.int? with
  | some (s, k, a), some (s', k', b) => if k = k' then some (.ok, .mk (s && s') (.int k (bif decide (b < a) then b else a)), σ) else none
  | _, _ => none
 | .max, _, [x, y] => match x.int?, y.int? with
  | some (s, k, a), some (s', k', b) => if k = k' then some (.ok, .mk (s && s') (.int k (bif decide (a < b) then b else a)), σ) else none
  | _, _ => none
 | _, _, _ => none
def mHb (P : Program) (t : TypeId) (σ : KSt) : KV → Option (Ck × KV)
 | .bptr b off => match σ.boxes[b]? with
  | some cs => (match tBa P t (cs.drop off) with
   | some v => some (.ok, v)
   | none => none)
  | none => none
 | .pptr cs => match tBa P t cs with
  | some v => some (.ok, v)
  | none => none
 | .rptr r n i sz off => match σ.rows[r]? with
  | some row => if row.sz = sz then (match tBa P t ((jRb row.t (row.l.getD i row.t.dfl)).cells.drop off) with
   | some v => some (.and (.is (decide (row.l.length = n))) (.is (decide (i < row.l.length))), v)
   | none => none) else none
  | none => none
 | _ => none
def nPa (T : TypeId → Option Ty) (P : Program) (ats : List TypeId) (args : List KV) (σ : KSt) : Option (Ck × KV × KSt) :=
 match ats, args with
 | [t, tx], [.nils, x] => match fMa P t with
  | some e => match bKa P e, iVa P e, iXa P e, T e with
   | some sz, some _, some bs, some ty => if bs ≤ 128 ∧ 0 < sz ∧ uCa P tx = false ∧ ty.ncells = sz then (match lTa P tx ty sz σ x with
    | some (c, ys) => some (.and c (.is (decide (ys.length ≤ bBa))), .lst ty ys, σ)
    | none => none) else none
   | _, _, _, _ => none
  | none => none
 | _, _ => none
def jBb (sz : Nat) : List KV → Bool
 | [] => true
 | v :: vs => (Nat.beq v.cells.length sz && v.storable) && jBb sz vs
def opK (T : TypeId → Option Ty) (P : Program) (own : Bool) (oty : TypeId) (op : Op) (ρ : Operand → KV) (σ : KSt) : Option (Ck × KV × KSt) :=
 match op with
 | .move x | .assign x => match aJb T P own oty (ρ x) σ with
  | some (v, σ') => some (.ok, v, σ')
  | none => none
 | .pick c a b => match mLb (ρ c) (ρ a) (ρ b) with
  | some v => some (.ok, v, σ)
  | none => none
 | .alloc t => match fDb P t with
  | some cs => (match vZa T P own t cs σ with
   | some (v, σ') => some (.ok, v, σ')
   | none => none)
  | none => none
 | .box t x => match bKa P t with
  | some n => if (ρ x).cells.length = n ∧ (ρ x).storable = true then (match vZa T P own t (ρ x).cells σ with
   | some (v, σ') => some (.ok, v, σ')
   | none => none) else none
  | none => none
 | .build t parts => match fZb P t (parts.toList.map fun p => (p.1, ρ p.2)) with
  | some cs => some (.ok, .agg cs, σ)
  | none => none
 | .buildSlice t len parts => match fMa P t with
  | some e => match bKa P e, iVa P e, T e with
   | some sz, some _, some ty =>
    bif own && (Nat.beq len 0 && parts.toList.isEmpty) then (if 0 < sz then some (.ok, .mref σ.rows.length 0, { σ with rows := σ.rows ++ [⟨ty, [], e, sz, true⟩] }) else none) else
    if len = 0 ∧ parts.toList.length = 0 then some (.ok, .lst ty [], σ) else if parts.toList.map (·.1) = List.range len ∧ ty.ncells = sz ∧ len * sz ≤ 4096 ∧ 0 < sz ∧ 0 < len then
     match jOb ty (gIa.frzKL σ (parts.toList.map fun p => ρ p.2)).2 with
     | some (c, xs) => some (.and (gIa.frzKL σ (parts.toList.map fun p => ρ p.2)).1 c, .lst ty xs, hMa σ (fPa.rowsKL (parts.toList.map fun p => ρ p.2)))
     | none => none
    else none
   | some sz, some _, none => bif own then none else if parts.toList.map (·.1) = List.range len ∧ len * sz ≤ 4096 ∧ 0 < sz ∧ 0 < len then
     (bif jBb sz (gIa.frzKL σ (parts.toList.map fun p => ρ p.2)).2 then some ((gIa.frzKL σ (parts.toList.map fun p => ρ p.2)).1, .vec (gIa.frzKL σ (parts.toList.map fun p => ρ p.2)).2, hMa σ (fPa.rowsKL (parts.toList.map fun p => ρ p.2))) else none)
    else none
   | _, _, _ => none
  | none => none
 | .load t a => match mHb P t σ (ρ a) with
  | some (c, v) => some (c, v, σ)
  | none => none
 | .store t a x => match ρ a with
  | .bptr b off => match σ.boxes[b]?, bKa P t with
   | some cs, some n => if (ρ x).cells.length = n ∧ (ρ x).storable = true ∧ off + n ≤ cs.length then
     some (.ok, .tuple [], { σ with boxes := σ.boxes.set b (wOa cs off (ρ x).cells) }) else none
   | _, _ => none
  | .rptr r n i sz off => match bKa P t, σ.rows[r]? with
   | some k, some row => if row.wr = true ∧ off = 0 ∧ k = sz ∧ row.sz = sz ∧ row.t.ncells = sz ∧ r ∉ fPa (ρ x) then
     match fGb row.t (gIa σ (ρ x)).2 with
     | some (c, y) => some (.and (gIa σ (ρ x)).1 (.and c (.and (.is (decide (row.l.length = n))) (.is (decide (i < n))))), .tuple [], { hMa σ (fPa (ρ x)) with rows := (hMa σ (fPa (ρ x))).rows.set r { row with l := row.l.set i y } })
     | none => none
    else none
   | _, _ => none
  | _ => none
 | .binOp op t x y _ => match lQb P op t (ρ x) (ρ y) with
  | some (c, v) => some (c, v, σ)
  | none => none
 | .unOp op _ x => match unK op (ρ x) with
  | some v => some (.ok, v, σ)
  | none => none
 | .convert src dst x => match P.underlying src, P.underlying dst with
  | some (.int _), some (.int k) => (match (ρ x).int? with
   | some (s, _, n) => some (.ok, .mk s (.int k (k.wrap n)), σ)
   | none => none)
  | some .string, some .string => (match (ρ x).str? with
   | some (st, s) => some (.ok, .mk st (.string s), σ)
   | none => none)
  | some (.slice e), some .string => (match P.underlying e, ρ x with
   | some (.int .u8), .nils => some (.ok, .str ⟨([] : List UInt8).toArray⟩, σ)
   | some (.int .u8), .lst .byte l => some (.ok, .str ⟨List.toArray l⟩, σ)
   | some (.int .u8), .mref r n => (match σ.rows[r]? with
    | some ⟨.byte, l, _, _, _⟩ => some (.is (decide (List.length l = n)), .str ⟨List.toArray l⟩, σ)
    | _ => none)
   | _, _ => none)
  | some .string, some (.slice e) => (match P.underlying e, (ρ x).str? with
   | some (.int .u8), some (_, s) => some (.is (decide (s.size ≤ bBa)), .lst .byte s.data.toList, σ)
   | _, _ => none)
  | _, _ => none
 | .nilCheck x => match ρ x with
  | .bptr b off => some (.ok, .bptr b off, σ)
  | .pptr cs => some (.ok, .pptr cs, σ)
  | .rptr r n i sz off => some (.ok, .rptr r n i sz off, σ)
  | _ => none
 | .makeFunc fn fst caps => match fn with
  | .yield _ => none
  | fn => some (.ok, .func fn (fst.toList.map ρ) (caps.toList.map ρ), σ)
 | .slice t x lo hi mx => match P.underlying t with
  | some .string => if mx.isSome then none else (match (ρ x).str? with
   | some (_, s) => (match dKb (hi.map ρ) s.size s.size with
    | some (c, h) => (match pAa (lo.map ρ) h with
     | some (c', l) => some (.and c c', .str (s.extract l h), σ)
     | none => none)
    | none => none)
   | none => none)
  | some (.slice e) => match aDb (ρ x), own with
   | true, _ => if mx.isSome then none else (match bKa P e, dKb (hi.map ρ) 0 0 with
    | some _, some (c, h) => (match pAa (lo.map ρ) h with
     | some (c', _) => some (.and c c', .nils, σ)
     | none => none)
    | _, _ => none)
   | false, true => (match bKa P e, eFb σ (ρ x) with
    | some sz, some (c0, r, row, a, b) => (match mx with
     | some m => (match pAa (some (ρ m)) (b - a), hi with
      | some (c, q), some hi => (match pAa (some (ρ hi)) q with
       | some (c', h) => (match pAa (lo.map ρ) h with
        | some (c'', _) => some (.and c0 (.and c (.and c' c'')), .undef, σ)
        | none => none)
       | none => none)
      | _, _ => none)
     | none => match dKb (hi.map ρ) (b - a) (row.l.length - a) with
     | some (c, h) => (match pAa (lo.map ρ) h with
      | some (c', l) => if row.sz = sz then some (.and c0 (.and c c'), .mview r row.l.length (a + l) (a + h) sz, σ) else none
      | none => none)
     | none => none)
    | _, _ => none)
   | false, false => (match bKa P e, qNa σ (ρ x) with
    | some sz, some (c0, ⟨ty, es⟩) => (match mx with
     | none => (match dKb (hi.map ρ) es.length es.length with
      | some (c, h) => (match pAa (lo.map ρ) h with
       | some (c', l) => if (ty.ncells == sz || es.isEmpty) = true then some (.and c0 (.and c c'), .lst ty ((es.drop l).take (h - l)), hMa σ (fPa (ρ x))) else none
       | none => none)
      | none => none)
     | some m => (match pAa (some (ρ m)) es.length, hi with
      | some (c, q), some hi => (match pAa (some (ρ hi)) q with
       | some (c', h) => (match pAa (lo.map ρ) h with
        | some (c'', l) => if (ty.ncells == sz || es.isEmpty) = true then some (.and c0 (.and c (.and c' c'')), .lst ty ((es.drop l).take (h - l)), hMa σ (fPa (ρ x))) else none
        | none => none)
       | none => none)
      | _, _ => none))
    | _, _ => none)
  | _ => none
 | .fieldAddr s x f => match qWa P s f with
  | some (off, t) => match bKa P t with
   | some n => if n = 0 then none else match ρ x with
    | .bptr b o => some (.ok, .bptr b (o + off), σ)
    | .pptr cs => if off < cs.length then some (.ok, .pptr (cs.drop off), σ) else none
    | .rptr r n i sz o => some (.ok, .rptr r n i sz (o + off), σ)
    | _ => none
   | none => none
  | none => none
 | .field s x f => match qWa P s f, ρ x with
  | some (off, t), .agg cs => match tBa P t (cs.drop off) with
   | some v => some (.ok, v, σ)
   | none => none
  | _, _ => none
 | .indexAddr t x i => match P.underlying t with
  | some (.array m e) => (match bKa P e, (ρ i).int? with
   | some sz, some (true, _, k) => if 0 ≤ k ∧ k < m ∧ 1 < m ∧ 0 < sz then (match ρ x with
    | .bptr b o => some (.ok, .bptr b (o + k.toNat * sz), σ)
    | .pptr cs => if k.toNat * sz < cs.length then some (.ok, .pptr (cs.drop (k.toNat * sz)), σ) else none
    | .rptr r n j z o => some (.ok, .rptr r n j z (o + k.toNat * sz), σ)
    | _ => none) else none
   | _, _ => none)
  | _ => match fMa P t with
  | some e => match bKa P e, (ρ i).int? with
   | some sz, some (s, _, k) => match ρ x with
    | .lst ty l => if ty.ncells = sz ∧ 0 < sz then some (.and (.st s (decide (0 ≤ k))) (.is (decide (k < l.length))), .pptr (jRb ty (l.getD k.toNat ty.dfl)).cells, σ) else none
    | .mref r n => (match σ.rows[r]? with
     | some row => if row.sz = sz then some (.and (.st s (decide (0 ≤ k))) (.and (.is (decide (row.l.length = n))) (.is (decide (k < n)))), .rptr r n k.toNat sz 0, σ) else none
     | none => none)
    | .mview r n lo hi sz' => (match σ.rows[r]? with
     | some row => if row.sz = sz ∧ sz' = sz then some (.and (.st s (decide (0 ≤ k))) (.and (bLb row n lo hi sz) (.is (decide (k < (hi - lo : Nat))))), .rptr r n (lo + k.toNat) sz 0, σ) else none
     | none => none)
    | .vec es => bif s then (match es[k.toNat]? with
     | some y => if y.cells.length = sz ∧ y.storable = true ∧ 0 < sz ∧ 0 ≤ k then some (.ok, .pptr y.cells, σ) else none
     | none => none) else none
    | _ => none
   | _, _ => none
  | none => none
 | .index t x i => match P.underlying t with
  | some .string => (match (ρ x).str?, (ρ i).int? with
   | some (_, s), some (st, _, k) => some (.and (.st st (decide (0 ≤ k))) (.is (decide (k < s.size))), .sc (.int .u8 (UInt8.toNat (s.data.toList.getD k.toNat 0))), σ)
   | _, _ => none)
  | some (.array m e) => (match ρ x, (ρ i).int?, bKa P e with
   | .agg cs, some (true, _, k), some sz => if 0 ≤ k ∧ k < m then (match tBa P e (cs.drop (k.toNat * sz)) with
    | some v => some (.ok, v, σ)
    | none => none) else none
   | _, _, _ => none)
  | _ => none
 | .makeMap t r => match r, P.underlying t with
  | none, some (.map k e) => (match hQb P t, T k, T e with
   | some _, some kt, some vt => some (.ok, .mapr σ.maps.length, { σ with maps := σ.maps ++ [⟨kt, vt, []⟩] })
   | _, _, _ => none)
  | _, _ => none
 | .mapUpdate t m k v => match ρ m with
  | .mapr m => (match hQb P t, σ.maps[m]? with
   | some (_, str), some q => if uEa str q.kt = true then (match fGb q.kt (ρ k), fGb q.vt (gIa σ (ρ v)).2 with
    | some (c, k), some (c', x) => some (.and (gIa σ (ρ v)).1 (.and c (.and c' (.is (decide (q.l.length < bBa))))), .tuple [], { hMa σ (fPa (ρ v)) with maps := σ.maps.set m { q with l := qLb q.kt q.vt k x q.l } })
    | _, _ => none) else none
   | _, _ => none)
  | _ => none
 | .lookup t m k ok => match ρ m with
  | .mapr m => (match hQb P t, σ.maps[m]? with
   | some (e, str), some q => if uEa str q.kt = true then (match fGb q.kt (ρ k), zCa P e with
    | some (c, k), some z => (match fGb q.vt z with
     | some (c', z) => some (.and c c', (match ok with
      | true => .tuple [jRb q.vt (nMb q.kt q.vt k z q.l), .sc (.bool (qEb q.kt q.vt k q.l))]
      | false => jRb q.vt (nMb q.kt q.vt k z q.l)), σ)
     | none => none)
    | _, _ => none) else none
   | _, _ => none)
  | _ => none
 | .makeSlice t l c => match fMa P t with
  | some e => (match bKa P e, iXa P e, (ρ l).int?, (ρ c).int? with
   | some sz, some bs, some (s, _, n), some (s', _, m) => if bs ≤ 128 ∧ 0 < sz then (match pQa T P e sz n.toNat σ with
    | some (c, v, σ') => some (.and (.st (s && s') (decide (n = m))) (.and (.st s (decide (0 ≤ n))) (.and (.st s (decide (n ≤ bBa))) c)), v, σ')
    | none => none) else none
   | _, _, _, _ => none)
  | none => none
 | .extract t i => match ρ t with
  | .tuple vs => match vs[i]? with
   | some v => some (.ok, v, σ)
   | none => none
  | _ => none
 | .call { callee := .builtin b, args, argTypes } => match own && rEa b with
  | true => nPa T P argTypes.toList (args.toList.map ρ) σ
  | false => vHa T P b argTypes.toList (args.toList.map ρ) σ
 | _ => none
end Go.Proofs.YtpeaaophmddhnaaGreat.LI
