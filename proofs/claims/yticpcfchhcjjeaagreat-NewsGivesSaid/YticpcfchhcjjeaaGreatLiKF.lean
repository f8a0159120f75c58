/-
  The interpreter with letters in it, what follows being handed on: definitions. No program is named here.
-/
import Derived.Test.YticpcfchhcjjeaaGreatLiKE
namespace Go.Proofs.YticpcfchhcjjeaaGreat.LI
open Go Go.RowKit
open KV (toL)
open KV.toL (toLs)

/-- A value whose shape is worked out before it is handed on. -/
def forceK {β : Type} (v : KV) (k : KV → β) : β :=
  match v with
  | .undef => k .undef
  | .sc (.bool b) => k (.sc (.bool b))
  | .sc (.int i n) => k (.sc (.int i n))
  | .sc (.string s) => k (.sc (.string s))
  | .sc v => k (.sc v)
  | .st (.bool b) => (match b with
    | true => k (.st (.bool true))
    | false => k (.st (.bool false)))
  | .st (.int i n) => k (.st (.int i n))
  | .st (.string s) => k (.st (.string s))
  | .st v => k (.st v)
  | .nils => k .nils
  | .lst t l => k (.lst t l)
  | .mref r n => k (.mref r n)
  | .mview r n lo hi sz => k (.mview r n lo hi sz)
  | .mapr m => k (.mapr m)
  | .agg cs => k (.agg cs)
  | .tuple vs => k (.tuple vs)
  | .bptr b o => k (.bptr b o)
  | .pptr cs => k (.pptr cs)
  | .rptr r n i sz o => k (.rptr r n i sz o)
  | .func fn fst caps => k (.func fn fst caps)
theorem forceK_eq {β : Type} (v : KV) (k : KV → β) : forceK v k = k v := by
  unfold forceK
  split <;> first | rfl | (split <;> rfl)

/-! ### loops, and what is kept around them -/
def loopsOf : Code → List Code
  | .seq a b => loopsOf a ++ loopsOf b
  | .cond _ a b => loopsOf a ++ loopsOf b
  | .block _ a => loopsOf a
  | .loop a => a :: loopsOf a
  | .rangeFunc _ _ a b => loopsOf a ++ loopsOf b
  | _ => []
/-- The ranges over functions: slots, what is assigned, the body. -/
def rangesOf : Code → List (List Tmp × Code × Code)
  | .seq a b => rangesOf a ++ rangesOf b
  | .cond _ a b => rangesOf a ++ rangesOf b
  | .block _ a => rangesOf a
  | .loop a => rangesOf a
  | .rangeFunc _ ps a b => (ps.toList, a, b) :: (rangesOf a ++ rangesOf b)
  | _ => []
def bodyOf (P : Program) (f : FuncId) : Code := match P.funcs[f]? with
  | some fn => (match fn.body with | some c => c | none => .skip)
  | none => .skip
def ntm (P : Program) (f : FuncId) : Nat := match P.funcs[f]? with
  | some fn => fn.ntmps
  | none => 0
/-- The slots that are kept. -/
def compress {β : Type} : List Bool → List β → List β
  | true :: m, v :: t => v :: compress m t
  | false :: m, _ :: t => compress m t
  | _, _ => []
def expand : List Bool → Nat → List KV → List KV
  | _, 0, _ => []
  | true :: m, n + 1, v :: vs => v :: expand m n vs
  | true :: m, n + 1, [] => .undef :: expand m n []
  | false :: m, n + 1, vs => .undef :: expand m n vs
  | [], n + 1, vs => .undef :: expand [] n vs

/-! ### the store behind calls -/
def belowK (n : Sz) : KV → Bool
  | .undef => true
  | .sc _ => true
  | .st _ => true
  | .nils => true
  | .lst _ _ => true
  | .mref r _ => Nat.blt r n.nr
  | .mview r _ _ _ _ => Nat.blt r n.nr
  | .mapr m => Nat.blt m n.nm
  | .agg cs => belowKL n cs
  | .tuple vs => belowKL n vs
  | .bptr b _ => Nat.blt b n.nb
  | .pptr cs => belowKL n cs
  | .rptr r _ _ _ _ => Nat.blt r n.nr
  | .func fn fst caps => (match fn with | .yield l => Nat.blt l n.nl | _ => true) && belowKL n fst && belowKL n caps
where
  belowKL (n : Sz) : List KV → Bool
  | [] => true
  | v :: vs => belowK n v && belowKL n vs
def KSt.sz (σ : KSt) : Sz := ⟨σ.boxes.length, σ.rows.length, σ.loops.length, σ.maps.length⟩
def trimOkK (n : Sz) (vs : List KV) (σ : KSt) : Bool :=
  belowK.belowKL n vs && (σ.boxes.take n.nb).all (belowK.belowKL n) && (σ.loops.take n.nl).all (fun l => belowK.belowKL n l.env.t)
def trimK (n : Sz) (vs : List KV) (σ : KSt) : KSt :=
  if σ.boxes.length = n.nb ∧ σ.rows.length = n.nr ∧ σ.loops.length = n.nl ∧ σ.maps.length = n.nm then σ
  else if trimOkK n vs σ then { boxes := σ.boxes.take n.nb, rows := σ.rows.take n.nr, loops := σ.loops.take n.nl, maps := σ.maps.take n.nm } else σ
def setStateK (σ : KSt) (l : Nat) (f : KLoop → KLoop) : KSt := { σ with loops := match σ.loops[l]? with | some r => σ.loops.set l (f r) | none => σ.loops }
def isReadyK (σ : KSt) (l : Nat) : Bool := match σ.loops[l]? with | some r => decide (r.state = .ready) | none => false
def endK (σ : KSt) (e : KEnv) (τ : KSt) : KSt := trimK σ.sz e.t (setStateK τ σ.loops.length fun q => { q with state := .exhausted })
def maskK : List Bool → List KV → List KV
  | true :: m, v :: t => v :: maskK m t
  | false :: m, _ :: t => .undef :: maskK m t
  | [], _ :: t => .undef :: maskK [] t
  | _, [] => []
def tidyK (Θ : Th) (k : Option Nat) (e : KEnv) : KEnv := { e with t := maskK (Θ.keep e.fn k) e.t }

def resOneK (P : Program) (e : KEnv) (σ : KSt) : ResultVar → Option KV
  | .tmp t => some (e.t.getD t .undef)
  | .cell a t => match e.t.getD a .undef with
    | .bptr b 0 => match σ.boxes[b]? with
      | some cs => readK P t cs
      | none => none
    | _ => none
def resAllK (P : Program) (e : KEnv) (σ : KSt) : List ResultVar → Option (List KV)
  | [] => some []
  | r :: rs => match resOneK P e σ r, resAllK P e σ rs with
    | some v, some vs => some (v :: vs)
    | _, _ => none
def resultK (P : Program) (fn : Func) (e : KEnv) (σ : KSt) : Option KV :=
  match fn.results.toList with
  | [] => some (.tuple [])
  | [r] => resOneK P e σ r
  | rs => match resAllK P e σ rs with
    | some vs => some (.tuple vs)
    | none => none
def isFnK (Θ : Th) : KV → Bool
  | .func (.func f) _ _ => Θ.ent f
  | _ => false
/-- No memory in it. -/
def noMemK : KV → Bool
  | .sc _ => true
  | .st _ => true
  | .tuple vs => noMemKL vs
  | .agg cs => noMemKL cs
  | _ => false
where
  noMemKL : List KV → Bool
  | [] => true
  | v :: vs => noMemK v && noMemKL vs
def looksK (Θ : Th) (o : Oper) (e : KEnv) (v : KV) : Bool :=
  match callV o with
  | some (f, args) => match e.ev f with
    | .func (.func f) fst caps => Θ.ent f && Θ.pureF f && (noMemK v || (rowsK.rowsKL (fst ++ args.toList.map e.ev ++ caps)).isEmpty)
    | _ => false
  | none => match o.op with
    | .slice _ x _ _ _ => Θ.owns e.fn o.dst || (rowsK (e.ev x)).isEmpty
    | .buildSlice _ _ parts => (rowsK.rowsKL (parts.toList.map fun p => e.ev p.2)).isEmpty
    | _ => true
def fineK (Θ : Th) (strict : Bool) (o : Oper) (e : KEnv) (v : KV) : Bool := !strict || ((opClass Θ e.fn o == 0 || Nat.ble 2 (opClass Θ e.fn o)) || looksK Θ o e v)

/-! ### the same store -/
def eqT : (t : Ty) → t.den → t.den → Bool
  | .int _, a, b => decide ((show Int from a) = b)
  | .byte, a, b => decide ((show UInt8 from a) = b)
  | .bool, a, b => decide ((show Bool from a) = b)
  | .str, a, b => decide ((show ByteArray from a).data.toList = (show ByteArray from b).data.toList)
  | .list t, a, b => eqL t a b
  | .unit, _, _ => true
  | .pair a b, p, q => eqT a p.1 q.1 && eqT b p.2 q.2
where
  eqL (t : Ty) : List t.den → List t.den → Bool
  | [], [] => true
  | x :: xs, y :: ys => eqT t x y && eqL t xs ys
  | _, _ => false
def eqRowK (a b : KRow) : Option Ck :=
  match castL b.t a.t b.l with
  | some l => (match Nat.beq a.e b.e && (Nat.beq a.sz b.sz && (a.wr == b.wr)) with
    | true => some (.is (eqT (.list a.t) a.l l))
    | false => none)
  | none => none
def eqRowsK : List KRow → List KRow → Option Ck
  | [], [] => some .ok
  | a :: as, b :: bs => match eqRowK a b, eqRowsK as bs with
    | some c, some c' => some (.and c c')
    | _, _ => none
  | _, _ => none
def eqScK : Value → Value → Option Ck
  | .bool a, .bool b => some (.is (decide (a = b)))
  | .int k a, .int k' b => if k = k' then some (.is (decide (a = b))) else none
  | .string a, .string b => some (.is (eqT .str a b))
  | .pointer none, .pointer none => some .ok
  | .nilFunc, .nilFunc => some .ok
  | .nilIface, .nilIface => some .ok
  | .map none, .map none => some .ok
  | _, _ => none
def eqVK : KV → KV → Option Ck
  | .undef, .undef => some .ok
  | .sc a, .sc b => eqScK a b
  | .st a, .st b => eqScK a b
  | .nils, .nils => some .ok
  | .lst t l, .lst t' l' => match castL t' t l' with
    | some l' => some (.is (eqT (.list t) l l'))
    | none => none
  | .mref r n, .mref r' n' => (match Nat.beq r r' with
    | true => some (.is (decide (n = n')))
    | false => none)
  | .mapr m, .mapr m' => (match Nat.beq m m' with
    | true => some .ok
    | false => none)
  | .agg cs, .agg cs' => eqVsK cs cs'
  | .bptr b o, .bptr b' o' => (match Nat.beq b b' && Nat.beq o o' with
    | true => some .ok
    | false => none)
  | _, _ => none
where
  eqVsK : List KV → List KV → Option Ck
  | [], [] => some .ok
  | a :: as, b :: bs => match eqVK a b, eqVsK as bs with
    | some c, some c' => some (.and c c')
    | _, _ => none
  | _, _ => none
def eqBoxesK : List (List KV) → List (List KV) → Option Ck
  | [], [] => some .ok
  | a :: as, b :: bs => match eqVK.eqVsK a b, eqBoxesK as bs with
    | some c, some c' => some (.and c c')
    | _, _ => none
  | _, _ => none
/-- The same store, as far as it is without loops and maps. -/
def sameStK (σ τ : KSt) : Option Ck :=
  match σ.loops, τ.loops, σ.maps, τ.maps with
  | [], [], [], [] => (match eqRowsK σ.rows τ.rows, eqBoxesK σ.boxes τ.boxes with
    | some c, some c' => some (.and c c')
    | _, _ => none)
  | _, _, _, _ => none

/-! ### answers that hand rows over -/
def thawGoK (T : TypeId → Option Ty) (σ : KSt) : List (Option (TypeId × Nat)) → List KV → List Nat → List KRow → Option (Ck × List KV × List KRow)
  | some (e, sz) :: ks, v :: vs, used, acc => match v with
    | .nils => if 0 < sz then match T e with
      | some t => match thawGoK T σ ks vs used (acc ++ [⟨t, [], e, sz, true⟩]) with
        | some (c, vs', rows) => some (c, .mref acc.length 0 :: vs', rows)
        | none => none
      | none => none else none
    | .mref r n => match σ.rows[r]? with
      | some row => if row.e = e ∧ row.sz = sz ∧ row.wr = true ∧ r ∉ used then match thawGoK T σ ks vs (r :: used) (acc ++ [row]) with
        | some (c, vs', rows) => some (.and (.is (decide (row.l.length = n))) c, .mref acc.length row.l.length :: vs', rows)
        | none => none else none
      | none => none
    | .mview r n lo hi z => match lo, σ.rows[r]? with
      | 0, some row => if row.e = e ∧ row.sz = sz ∧ z = sz ∧ row.wr = true ∧ r ∉ used then match thawGoK T σ ks vs (r :: used) (acc ++ [{ row with l := row.l.take hi }]) with
        | some (c, vs', rows) => some (.and (.is (decide (row.l.length = n))) (.and (.is (decide (hi ≤ n))) (.and (.is (decide (0 < n))) c)), .mref acc.length (row.l.take hi).length :: vs', rows)
        | none => none else none
      | _, _ => none
    | _ => none
  | none :: ks, v :: vs, used, acc => bif freeK (frzK σ v).2 then match thawGoK T σ ks vs used acc with
    | some (c, vs', rows) => some (.and (frzK σ v).1 c, (frzK σ v).2 :: vs', rows)
    | none => none else none
  | [], vs, _, acc => bif freeK.freeKL (frzK.frzKL σ vs).2 then some ((frzK.frzKL σ vs).1, (frzK.frzKL σ vs).2, acc) else none
  | _, [], _, acc => some (.ok, [], acc)
def shutInK : List (Option (TypeId × Nat)) → List KV → List Nat
  | some _ :: ks, _ :: vs => shutInK ks vs
  | none :: ks, v :: vs => rowsK v ++ shutInK ks vs
  | [], vs => rowsK.rowsKL vs
  | _, [] => []
def isTupK : KV → Option (List KV)
  | .tuple vs => some vs
  | _ => none
def thawK (T : TypeId → Option Ty) (σ : KSt) (ks : List (Option (TypeId × Nat))) (v : KV) : Option (Ck × KV × List KRow) :=
  match isTupK v with
  | some vs => match thawGoK T (frzKS σ (shutInK ks vs)) ks vs [] [] with
    | some (c, vs', rows) => some (c, .tuple vs', rows)
    | none => none
  | none => match thawGoK T (frzKS σ (shutInK ks [v])) ks [v] [] [] with
    | some (c, vs', rows) => (match vs' with
      | v' :: _ => some (c, v', rows)
      | [] => none)
    | none => none
def isMrefK : KV → Bool
  | .mref _ _ => true
  | _ => false
def callOkK : KV → Bool
  | .mref _ _ => true
  | .tuple vs => vs.all fun v => isMrefK v || freeK v
  | v => freeK v
def shift1K (d : Nat) : KV → KV
  | .mref r n => .mref (r + d) n
  | v => v
def shiftK (d : Nat) : KV → KV
  | .tuple vs => .tuple (vs.map (shift1K d))
  | v => shift1K d v
def takeOverK (own : Bool) (v : KV) (rows : List KRow) (σ : KSt) : Ck × KV × KSt :=
  match own with
  | true => (.ok, shiftK σ.rows.length v, { σ with rows := σ.rows ++ rows })
  | false => ((frzK { rows } v).1, (frzK { rows } v).2, σ)
def afterPureK (own : Bool) (v : KV) (rows : List KRow) (σ : KSt) (rs : List Nat) : Ck × KV × KSt :=
  match noMemK v with
  | true => (.ok, v, σ)
  | false => takeOverK own v rows (frzKS σ rs)

/-! ### contracts -/
abbrev CallK := FuncId → Option (List KV → Option (Ck × KV × List KRow))
abbrev ExtK := FuncId → Option (List KV → Option (Ck × KV))
abbrev StoreK := FuncId → Option (List KV → KSt → Option (Ck × KV × KSt))
/-- How a loop ends, or (normal) from where it goes on: one way, or one of two. -/
inductive Out where
  | one (ex : Ex) (vs : List KV) (σ : KSt)
  | two (b : Bool) (x y : Out)
def Out.pick : Out → Ex × List KV × KSt
  | .one ex vs σ => (ex, vs, σ)
  | .two b x y => bif b then x.pick else y.pick
abbrev LoopK := FuncId → Option Nat → Option (List KV → KSt → Option (Ck × Out))
abbrev Fk := ∀ {α : Type}, Bool → Option α → Option α → Option α
def condF {α : Type} (c : Bool) (x y : Option α) : Option α := bif c then x else y
theorem condF_true {α : Type} (x y : Option α) : condF true x y = x := rfl
theorem condF_false {α : Type} (x y : Option α) : condF false x y = y := rfl
abbrev Bd := ∀ {α β : Type}, Option α → (α → Option β) → Option β
abbrev Sm := ∀ {α β γ : Type}, α ⊕ β → (α → Option γ) → (β → Option γ) → Option γ
def bindF {α β : Type} (x : Option α) (f : α → Option β) : Option β := x.bind f
def sumF {α β γ : Type} (x : α ⊕ β) (f : α → Option γ) (g : β → Option γ) : Option γ := Sum.elim f g x
/-- A call's answer that is given a name: what must hold, the answer's data, the answer. -/
structure CBnd where
  α : Type
  c : Ck
  x : Option α
  e : α → KV × List KRow
/-- The same of a loop: how it ends, or (normal) from where it goes on. -/
structure LBnd where
  α : Type
  c : Ck
  x : Option α
  pick : α → Ex × List KV × KSt
  e : Sm → ∀ {γ : Type}, α → (Ex → List KV → KSt → Option γ) → Option γ
structure Cs where
  fk : Fk
  bd : Bd
  sm : Sm
  T : TypeId → Option Ty
  bt : FuncId → Option (List KV → Option CBnd)
  ct : CallK
  xt : ExtK
  st : StoreK
  bl : FuncId → Option Nat → Option (List KV → KSt → Option LBnd)
  lt : LoopK

def chk (S : Cs) {α : Type} : Ck → Option α → Option α
  | .ok, x => x
  | .is b, x => S.fk b x none
  | .and a b, x => chk S a (chk S b x)
/-- A fork is a fork. -/
class FkOK (S : Cs) : Prop where
  eq : ∀ {α : Type} (c : Bool) (x y : Option α), S.fk c x y = bif c then x else y
  bd : ∀ {α β : Type} (x : Option α) (f : α → Option β), S.bd x f = x.bind f
  sm : ∀ {α β γ : Type} (x : α ⊕ β) (f : α → Option γ) (g : β → Option γ), S.sm x f g = Sum.elim f g x

section
variable (P : Program) (Θ : Th) (S : Cs) {α : Type}
abbrev Rec (α : Type) := KTask → (KRes → Option α) → Option α

/-- What comes of an operation, frozen or not. -/
def frzResK (b : Bool) (v : KV) (σ : KSt) : Ck × KV × KSt :=
  match b with
  | true => ((frzK σ v).1, (frzK σ v).2, frzKS σ (rowsK v))
  | false => (.ok, v, σ)
def doneK (strict : Bool) (o : Oper) (e : KEnv) (v : KV) (σ0 σ : KSt) (k : KEnv → KSt → Option α) : Option α :=
  match frzResK (Θ.frzs e.fn o.dst) v σ with
  | (c, v, σ) => chk S c (forceK v fun v => bif fineK Θ strict o e v then k (e.put o.dst v) σ else match sameStK σ0 σ with
    | some c => chk S c (k (e.put o.dst v) σ)
    | none => none)
/-- An index into an array: how many places, which slot. -/
def arrIdx (o : Op) : Option (Nat × Tmp) :=
  match o with
  | .index t _ (.tmp j) => match P.underlying t with
    | some (.array m _) => some (m, j)
    | _ => none
  | .indexAddr t _ (.tmp j) => match P.underlying t with
    | some (.array m _) => some (m, j)
    | _ => none
  | _ => none
/-- A number is one of so many, each written out. -/
def forkIdx (e : KEnv) (j : Tmp) (kd : IntKind) (n : Int) (f : KEnv → Option α) : Nat → Nat → Option α
  | 0, _ => none
  | m + 1, i => S.fk (decide (n = i)) (f { e with t := e.t.set j (.st (.int kd i)) }) (forkIdx e j kd n f m (i + 1))
def plainK (strict : Bool) (o : Oper) (σ : KSt) (k : KEnv → KSt → Option α) (e : KEnv) : Option α :=
  match opK S.T P (Θ.owns e.fn o.dst) o.type o.op e.ev σ with
  | some (c, v, σ') => chk S c (doneK Θ S strict o e v σ σ' k)
  | none => none
def doK (rec : Rec α) (strict : Bool) (o : Oper) (e : KEnv) (σ : KSt) (k : KEnv → KSt → Option α) : Option α :=
  match callV o with
  | some (f, args) => rec (.apply (Θ.owns e.fn o.dst) (e.ev f) (args.toList.map e.ev) σ) fun r => doneK Θ S strict o e r.v σ r.σ k
  | none => match arrIdx P o.op with
    | some (m, j) => (match e.t.getD j .undef with
      | .sc (.int kd n) => bif Nat.ble m 16 then forkIdx S e j kd n (plainK P Θ S strict o σ k) m 0 else none
      | _ => plainK P Θ S strict o σ k e)
    | none => plainK P Θ S strict o σ k e
def goK (rec : Rec α) (strict : Bool) (o : Oper) (e : KEnv) (σ : KSt) (k : KEnv → KSt → Option α) (b : Bool) : Option α :=
  bif b then doK P Θ S rec strict o e σ k else k (e.put o.dst (.tuple [])) σ
def exK (rec : Rec α) (strict : Bool) (all : List Oper) : List Oper → KEnv → KSt → (KEnv → KSt → Option α) → Option α
  | [], e, σ, k => k e σ
  | o :: os, e, σ, k => match o.guard with
    | none => doK P Θ S rec strict o e σ (fun e σ => exK rec strict all os e σ k)
    | some (j, want) => match (all[j]?).bind (·.dst) with
      | none => none
      | some d => match (e.t.getD d .undef).bool? with
        | some (true, b) => (match b with
          | true => goK P Θ S rec strict o e σ (fun e σ => exK rec strict all os e σ k) (true == want)
          | false => goK P Θ S rec strict o e σ (fun e σ => exK rec strict all os e σ k) (false == want))
        | some (false, b) => S.fk b (goK P Θ S rec strict o { e with t := e.t.set d (.st (.bool true)) } σ (fun e σ => exK rec strict all os e σ k) (true == want))
            (goK P Θ S rec strict o { e with t := e.t.set d (.st (.bool false)) } σ (fun e σ => exK rec strict all os e σ k) (false == want))
        | none => (match e.t.getD d .undef with
          | .tuple [] => exK rec strict all os (e.put o.dst (.tuple [])) σ k
          | _ => none)

def callIn (rec : Rec α) (f : FuncId) (args : List KV) (k : KRes → Option α) : Option α :=
  match Θ.prim f with
  | some _ => none
  | none => bif freeK.freeKL args then
      rec (.callS f args {}) fun r => match thawK S.T r.σ (Θ.fresh f) r.v with
        | some (c, v, rows) => bif callOkK v then chk S c (k { v, σ := { rows } }) else none
        | none => none
    else none
def callOld (rec : Rec α) (f : FuncId) (args : List KV) (k : KRes → Option α) : Option α :=
  match S.ct f with
  | some p => match p args with
    | some (c, v, rows) => chk S c (k { v, σ := { rows } })
    | none => callIn Θ S rec f args k
  | none => callIn Θ S rec f args k
def callK (rec : Rec α) (f : FuncId) (args : List KV) (k : KRes → Option α) : Option α :=
  match S.bt f with
  | some p => match p args with
    | some b => chk S b.c (S.bd b.x fun y => match b.e y with
      | (v, rows) => k { v, σ := { rows } })
    | none => callOld Θ S rec f args k
  | none => callOld Θ S rec f args k
def applyK (rec : Rec α) (own : Bool) (f : KV) (args : List KV) (σ : KSt) (k : KRes → Option α) : Option α :=
  match f with
  | .func (.func f) fst caps =>
    bif Θ.ent f then
      bif Θ.pureF f then chk S (frzK.frzKL σ (fst ++ args ++ caps)).1 (rec (.call f (frzK.frzKL σ (fst ++ args ++ caps)).2) fun r =>
        match afterPureK own r.v r.σ.rows σ (rowsK.rowsKL (fst ++ args ++ caps)) with
        | (c, v, σ') => chk S c (k { v, σ := σ' }))
      else match Θ.extS f with
        | some _ => match S.st f with
          | some p => (match p (fst ++ args ++ caps) σ with
            | some (c, v, σ') => chk S c (k { v, σ := σ' })
            | none => none)
          | none => none
        | none => rec (.callS f (fst ++ args ++ caps) σ) k
    else match S.xt f with
      | some p => match p (KV.dyn.dyns (frzK.frzKL σ (fst ++ args ++ caps)).2) with
        | some (c, v) => chk S (.and (frzK.frzKL σ (fst ++ args ++ caps)).1 c) (k { v, σ := frzKS σ (rowsK.rowsKL (fst ++ args ++ caps)) })
        | none => none
      | none => none
  | .func (.yield l) [] [] => match σ.loops[l]? with
    | some lr =>
      bif decide (lr.state = .ready) && Nat.beq args.length lr.params.length then
        rec (.code lr.assign { lr.env with t := (lr.params.zip args).foldl (fun t (p : Nat × KV) => t.set p.1 p.2) lr.env.t } σ) fun r1 =>
          match r1.ex with
          | .normal => bif isReadyK r1.σ l then
              rec (.code lr.body r1.env (setStateK r1.σ l fun q => { q with state := .busy })) fun r2 =>
                k { v := .st (.bool (r2.ex.code).isNone), σ := trimK σ.sz [] (setStateK r2.σ l fun q => { q with state := if (r2.ex.code).isNone then .ready else .done, pending := r2.ex.code }) }
            else none
          | _ => none
      else none
    | none => none
  | _ => none
def outK (rec : Rec α) (a : Code) (f : FuncId) (k : KRes → Option α) : Out → Option α
  | .one ex vs σ => match ex with
    | .normal => rec (.code (.loop a) ⟨f, expand (Θ.keep f (loopKey a)) (ntm P f) vs⟩ σ) k
    | ex => k ⟨ex, .undef, ⟨f, expand (Θ.keep f (loopKey a)) (ntm P f) vs⟩, σ⟩
  | .two b x y => S.fk b (outK rec a f k x) (outK rec a f k y)
def loopIn (rec : Rec α) (a : Code) (e : KEnv) (σ : KSt) (k : KRes → Option α) : Option α :=
  rec (.code a (tidyK Θ (loopKey a) e) σ) fun r => match r.ex with
    | .normal => rec (.code (.loop a) (tidyK Θ (loopKey a) r.env) (trimK σ.sz (tidyK Θ (loopKey a) r.env).t r.σ)) k
    | _ => k { r with env := tidyK Θ (loopKey a) r.env }
/-- From where a loop goes on, or how it ends. -/
def outB (rec : Rec α) (a : Code) (f : FuncId) (k : KRes → Option α) (ex : Ex) (vs : List KV) (σ : KSt) : Option α :=
  match ex with
  | .normal => rec (.code (.loop a) ⟨f, expand (Θ.keep f (loopKey a)) (ntm P f) vs⟩ σ) k
  | ex => k ⟨ex, .undef, ⟨f, expand (Θ.keep f (loopKey a)) (ntm P f) vs⟩, σ⟩
def loopOld (rec : Rec α) (a : Code) (e : KEnv) (σ : KSt) (k : KRes → Option α) : Option α :=
  match S.lt e.fn (loopKey a) with
  | some p => bif Nat.beq e.t.length (ntm P e.fn) then
      match p (compress (Θ.keep e.fn (loopKey a)) e.t) σ with
      | some (c, o) => chk S c (outK P Θ S rec a e.fn k o)
      | none => loopIn Θ rec a e σ k
    else none
  | none => loopIn Θ rec a e σ k
def loopGo (rec : Rec α) (a : Code) (e : KEnv) (σ : KSt) (k : KRes → Option α) : Option α :=
  match S.bl e.fn (loopKey a) with
  | some p => bif Nat.beq e.t.length (ntm P e.fn) then
      match p (compress (Θ.keep e.fn (loopKey a)) e.t) σ with
      | some b => chk S b.c (S.bd b.x fun y => b.e S.sm y (outB P Θ rec a e.fn k))
      | none => loopOld P Θ S rec a e σ k
    else none
  | none => loopOld P Θ S rec a e σ k
def rangeGo (rec : Rec α) (f : Operand) (ps : Array Tmp) (assign body : Code) (e : KEnv) (σ : KSt) (k : KRes → Option α) : Option α :=
  bif isFnK Θ (e.ev f) then
    rec (.apply false (e.ev f) [.func (.yield σ.loops.length) [] []] { σ with loops := σ.loops ++ [{ env := tidyK Θ (loopKey assign) e, params := ps.toList, assign, body, pending := none, state := .ready }] }) fun r =>
      match r.σ.loops[σ.loops.length]? with
      | some lr => bif decide (lr.state = .busy) then none else match lr.pending with
        | none => k { env := e, σ := endK σ e r.σ }
        | some .ret => k { ex := .ret, env := e, σ := endK σ e r.σ }
        | some (.exit id) => k { ex := .exit id, env := e, σ := endK σ e r.σ }
        | some (.goto t) => k { ex := .goto t, env := e, σ := endK σ e r.σ }
        | some _ => none
      | none => none
  else none
def regionGo (rec : Rec α) (ops : Array Oper) (draw : Bool) (e : KEnv) (σ : KSt) (k : KRes → Option α) : Option α :=
  bif draw then (bif drawOk Θ e.fn ops then exK P Θ S rec true ops.toList ops.toList e σ (fun e σ => k { env := e, σ }) else none)
  else bif litStart P ops.toList then
    match ops.toList with
    | o1 :: o2 :: os => match o1.dst.bind fun d => e.t[d]? with
      | some _ => match opK S.T P false o1.type o1.op e.ev σ with
        | some (c, v, σ') => chk S c (exK P Θ S rec false ops.toList os ((e.put o1.dst v).put o2.dst v) σ' (fun e σ => k { env := e, σ }))
        | none => none
      | none => none
    | _ => none
  else exK P Θ S rec false ops.toList ops.toList e σ (fun e σ => k { env := e, σ })
def codeK (rec : Rec α) (c : Code) (e : KEnv) (σ : KSt) (k : KRes → Option α) : Option α :=
  match c with
  | .skip => k { env := e, σ }
  | .label _ => k { env := e, σ }
  | .region _ ops draw => regionGo P Θ S rec ops draw e σ k
  | .seq a b => rec (.code a e σ) fun r => match r.ex with
    | .normal => rec (.code b r.env r.σ) k
    | _ => k r
  | .cond c a b => match (e.ev c).bool? with
    | some (true, t) => (match t with
      | true => rec (.code a e σ) k
      | false => rec (.code b e σ) k)
    | some (false, t) => S.fk t (rec (.code a e σ) k) (rec (.code b e σ) k)
    | none => none
  | .block id a => rec (.code a e σ) fun r => match r.ex with
    | .exit i => bif Nat.beq i id then k { r with ex := .normal } else k r
    | _ => k r
  | .loop a => loopGo P Θ S rec a e σ k
  | .rangeFunc f ps assign body => rangeGo Θ rec f ps assign body e σ k
  | .exit id => k { ex := .exit id, env := e, σ }
  | .goto t => k { ex := .goto t, env := e, σ }
  | .ret => k { ex := .ret, env := e, σ }
  | .scope _ => none
  | .refuse _ => none
def stepK (rec : Rec α) : KTask → (KRes → Option α) → Option α
  | .call f args, k => callK Θ S rec f args k
  | .callS f args σ, k => match P.funcs[f]? with
    | some fn => match fn.body with
      | some c => rec (.code c { fn := f, t := args ++ List.replicate (fn.ntmps - args.length) .undef } σ) fun r =>
        match r.ex with
        | .normal | .ret => match resultK P fn r.env r.σ with
          | some v => k { v, σ := trimK σ.sz [v] r.σ }
          | none => none
        | _ => none
      | none => none
    | none => none
  | .apply own f args σ, k => applyK Θ S rec own f args σ k
  | .code c e σ, k => codeK P Θ S rec c e σ k
def runK : Nat → Rec α
  | 0 => fun _ _ => none
  | n + 1 => stepK P Θ S (runK n)
end
end Go.Proofs.YticpcfchhcjjeaaGreat.LI
