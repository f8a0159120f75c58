/-
  An interpreter over values is sound, part 7.
-/
import Derived.Test.YtpeaaophmddhnaaGreatN6
namespace Go.Proofs.YtpeaaophmddhnaaGreat.LI
open Go Go.RowKit
open KV (toL)
open KV.toL (toLs)
def uTa {β : Type} (n : Nat) (k : Nat → β) : List Nat → β
 | [] => k n
 | i :: is => bif Nat.beq n i then k i else uTa n k is
theorem yVa {β : Type} (n : Nat) (k : Nat → β) : ∀ l : List Nat, uTa n k l = k n
 | [] => rfl
 | i :: is => by
  simp only [uTa]
  cases h : Nat.beq n i with
  | true => rw [Nat.eq_of_beq_eq_true h]; rfl
  | false => exact yVa n k is
def iOb : List Nat := [0, 1, 2, 3, 4, 5, 6, 7, 8, 9, 10, 11, 12, 13, 14, 15, 16, 17, 18, 19, 20, 21, 22, 23, 24]
def cDb {β : Type} (v : KV) (k : KV → β) : β :=
 match v with
 | .undef => k .undef
 | .sc (.bool b) => k (.sc (.bool b))
 | .sc (.int i n) => k (.sc (.int i n))
 | .sc (.string s) => k (.sc (.string s))
 | .sc v => k (.sc v)
 | .st (.bool b) => (match b with
  | true => k (.st (.bool true))
  | false => k (.st (.bool false)))
 | .st (.int i n) => k (.st (.int i n))
 | .st (.string s) => k (.st (.string s))
 | .st v => k (.st v)
 | .nils => k .nils
 | .lst t l => k (.lst t l)
 | .mref r n => uTa r (fun r => k (.mref r n)) iOb
 | .mview r n lo hi sz => k (.mview r n lo hi sz)
 | .mapr m => k (.mapr m)
 | .agg cs => k (.agg cs)
 | .tuple vs => k (.tuple vs)
 | .bptr b o => uTa b (fun b => uTa o (fun o => k (.bptr b o)) iOb) iOb
 | .pptr cs => k (.pptr cs)
 | .vec es => k (.vec es)
 | .rptr r n i sz o => k (.rptr r n i sz o)
 | .func fn fst caps => k (.func fn fst caps)
theorem xSa {β : Type} (v : KV) (k : KV → β) : cDb v k = k v := by
 unfold cDb
 split <;> first | rfl | (split <;> rfl) | (simp only [yVa])
def cEb {β : Type} : List KV → (List KV → β) → β
 | [], k => k []
 | v :: vs, k => cDb v fun v => cEb vs fun vs => k (v :: vs)
theorem xTa {β : Type} : ∀ (vs : List KV) (k : List KV → β), cEb vs k = k vs
 | [], _ => rfl
 | v :: vs, k => by simp only [cEb, xSa, xTa vs]
def vQa {β : Type} : List (List KV) → (List (List KV) → β) → β
 | [], k => k []
 | b :: bs, k => cEb b fun b => vQa bs fun bs => k (b :: bs)
theorem tXa {β : Type} : ∀ (bs : List (List KV)) (k : List (List KV) → β), vQa bs k = k bs
 | [], _ => rfl
 | b :: bs, k => by simp only [vQa, xTa, tXa bs]
def vSa {β : Type} : List aYa → (List aYa → β) → β
 | [], k => k []
 | ⟨t, l, e, sz, wr⟩ :: rs, k => vSa rs fun rs => k (⟨t, l, e, sz, wr⟩ :: rs)
theorem tYa {β : Type} : ∀ (rs : List aYa) (k : List aYa → β), vSa rs k = k rs
 | [], _ => rfl
 | ⟨_, _, _, _, _⟩ :: rs, k => by simp only [vSa, tYa rs]
def tZa {α β : Type} : List α → (List α → β) → β
 | [], k => k []
 | v :: vs, k => tZa vs fun vs => k (v :: vs)
theorem xUa {α β : Type} : ∀ (vs : List α) (k : List α → β), tZa vs k = k vs
 | [], _ => rfl
 | v :: vs, k => by simp only [tZa, xUa vs]
def vRa {β : Type} (r : dXa) (k : dXa → β) : β := match r with
 | ⟨ex, v, ⟨f, t⟩, ⟨bs, rs, ls, ms⟩⟩ => vQa bs fun bs => vSa rs fun rs => tZa t fun t => tZa ls fun ls => tZa ms fun ms => k ⟨ex, v, ⟨f, t⟩, ⟨bs, rs, ls, ms⟩⟩
theorem zXa {β : Type} (r : dXa) (k : dXa → β) : vRa r k = k r := by
 unfold vRa
 simp only [tXa, tYa, xUa]
def aGa : Code → List Code
 | .seq a b => aGa a ++ aGa b
 | .cond _ a b => aGa a ++ aGa b
 | .block _ a => aGa a
 | .scope a => aGa a
 | .loop a => a :: aGa a
 | .rangeFunc _ _ a b => aGa a ++ aGa b
 | _ => []
def aFa : Code → List (List Tmp × Code × Code)
 | .seq a b => aFa a ++ aFa b
 | .cond _ a b => aFa a ++ aFa b
 | .block _ a => aFa a
 | .scope a => aFa a
 | .loop a => aFa a
 | .rangeFunc _ ps a b => (ps.toList, a, b) :: (aFa a ++ aFa b)
 | _ => []
def aWa (P : Program) (f : FuncId) : Code := match P.funcs[f]? with
 | some fn => (match fn.body with | some c => c | none => .skip)
 | none => .skip
def ntm (P : Program) (f : FuncId) : Nat := match P.funcs[f]? with
 | some fn => fn.ntmps
 | none => 0
def cGa {β : Type} : List Bool → List β → List β
 | true :: m, v :: t => v :: cGa m t
 | false :: m, _ :: t => cGa m t
 | _, _ => []
def aOa : List Bool → Nat → List KV → List KV
 | _, 0, _ => []
 | true :: m, n + 1, v :: vs => v :: aOa m n vs
 | true :: m, n + 1, [] => .undef :: aOa m n []
 | false :: m, n + 1, vs => .undef :: aOa m n vs
 | [], n + 1, vs => .undef :: aOa [] n vs
def iWa (n : Sz) : KV → Bool
 | .undef => true
 | .sc _ => true
 | .st _ => true
 | .nils => true
 | .lst _ _ => true
 | .mref r _ => Nat.blt r n.nr
 | .mview r _ _ _ _ => Nat.blt r n.nr
 | .mapr m => Nat.blt m n.nm
 | .agg cs => belowKL n cs
 | .tuple vs => belowKL n vs
 | .bptr b _ => Nat.blt b n.nb
 | .pptr cs => belowKL n cs
 | .vec cs => belowKL n cs
 | .rptr r _ _ _ _ => Nat.blt r n.nr
 | .func fn fst caps => (match fn with | .yield l => Nat.blt l n.nl | _ => true) && belowKL n fst && belowKL n caps
where
 belowKL (n : Sz) : List KV → Bool
 | [] => true
 | v :: vs => iWa n v && belowKL n vs
def KSt.sz (σ : KSt) : Sz := ⟨σ.boxes.length, σ.rows.length, σ.loops.length, σ.maps.length⟩
def bKb (n : Sz) (vs : List KV) (σ : KSt) : Bool :=
 iWa.belowKL n vs && (σ.boxes.take n.nb).all (iWa.belowKL n) && (σ.loops.take n.nl).all (fun l => iWa.belowKL n l.env.t)
def kUa (n : Sz) (vs : List KV) (σ : KSt) : KSt :=
 if σ.boxes.length = n.nb ∧ σ.rows.length = n.nr ∧ σ.loops.length = n.nl ∧ σ.maps.length = n.nm then σ
 else if bKb n vs σ then { boxes := σ.boxes.take n.nb, rows := σ.rows.take n.nr, loops := σ.loops.take n.nl, maps := σ.maps.take n.nm } else σ
def dRa (σ : KSt) (l : Nat) (f : hJa → hJa) : KSt := { σ with loops := match σ.loops[l]? with | some r => σ.loops.set l (f r) | none => σ.loops }
def pMa (σ : KSt) (l : Nat) : Bool := match σ.loops[l]? with | some r => decide (r.state = .ready) | none => false
def lXb (σ : KSt) (e : bNa) (τ : KSt) : KSt := kUa σ.sz e.t (dRa τ σ.loops.length fun q => { q with state := .exhausted })
def hOa : List Bool → List KV → List KV
 | true :: m, v :: t => v :: hOa m t
 | false :: m, _ :: t => .undef :: hOa m t
 | [], _ :: t => .undef :: hOa [] t
 | _, [] => []
def fIa (Θ : Th) (k : Option Nat) (e : bNa) : bNa := { e with t := hOa (Θ.keep e.fn k) e.t }
def oCa (P : Program) (e : bNa) (σ : KSt) : ResultVar → Option KV
 | .tmp t => some (e.t.getD t .undef)
 | .cell a t => match e.t.getD a .undef with
  | .bptr b 0 => match σ.boxes[b]? with
   | some cs => tBa P t cs
   | none => none
  | _ => none
def oBa (P : Program) (e : bNa) (σ : KSt) : List ResultVar → Option (List KV)
 | [] => some []
 | r :: rs => match oCa P e σ r, oBa P e σ rs with
  | some v, some vs => some (v :: vs)
  | _, _ => none
def wFa (P : Program) (fn : Func) (e : bNa) (σ : KSt) : Option KV :=
 match fn.results.toList with
 | [] => some (.tuple [])
 | [r] => oCa P e σ r
 | rs => match oBa P e σ rs with
  | some vs => some (.tuple vs)
  | none => none
def oRb (Θ : Th) : KV → Bool
 | .func (.func f) _ _ => Θ.ent f
 | _ => false
def mZa : KV → Bool
 | .sc _ => true
 | .st _ => true
 | .tuple vs => noMemKL vs
 | .agg cs => noMemKL cs
 | _ => false
where
 noMemKL : List KV → Bool
 | [] => true
 | v :: vs => mZa v && noMemKL vs
def hMb (Θ : Th) (o : Oper) (e : bNa) (v : KV) : Bool :=
 match eGa o with
 | some (f, args) => match e.ev f with
  | .func (.func f) fst caps => Θ.ent f && Θ.pureF f && (mZa v || (fPa.rowsKL (fst ++ args.toList.map e.ev ++ caps)).isEmpty)
  | _ => false
 | none => match o.op with
  | .slice _ x _ _ _ => Θ.owns e.fn o.dst || (fPa (e.ev x)).isEmpty
  | .buildSlice _ _ parts => (fPa.rowsKL (parts.toList.map fun p => e.ev p.2)).isEmpty
  | _ => true
def jUb (Θ : Th) (strict : Bool) (o : Oper) (e : bNa) (v : KV) : Bool := !strict || ((aRa Θ e.fn o == 0 || (Nat.ble 2 (aRa Θ e.fn o) && !iJa Θ o)) || (Nat.ble (aRa Θ e.fn o) 1 && hMb Θ o e v))
def eqT : (t : Ty) → t.den → t.den → Bool
 | .int _, a, b => decide ((show Int from a) = b)
 | .byte, a, b => decide ((show UInt8 from a) = b)
 | .bool, a, b => decide ((show Bool from a) = b)
 | .str, a, b => decide ((show ByteArray from a).data.toList = (show ByteArray from b).data.toList)
 | .list t, a, b => eqL t a b
 | .unit, _, _ => true
 | .pair a b, p, q => eqT a p.1 q.1 && eqT b p.2 q.2
where
 eqL (t : Ty) : List t.den → List t.den → Bool
 | [], [] => true
 | x :: xs, y :: ys => eqT t x y && eqL t xs ys
 | _, _ => false
def gTb (a b : aYa) : Option Ck :=
 match qEa b.t a.t b.l with
 | some l => (match Nat.beq a.e b.e && (Nat.beq a.sz b.sz && (a.wr == b.wr)) with
  | true => some (.is (eqT (.list a.t) a.l l))
  | false => none)
 | none => none
def vKa : List aYa → List aYa → Option Ck
 | [], [] => some .ok
 | a :: as, b :: bs => match gTb a b, vKa as bs with
  | some c, some c' => some (.and c c')
  | _, _ => none
 | _, _ => none
def jSb : Value → Value → Option Ck
 | .bool a, .bool b => some (.is (decide (a = b)))
 | .int k a, .int k' b => if k = k' then some (.is (decide (a = b))) else none
 | .string a, .string b => some (.is (eqT .str a b))
 | .pointer none, .pointer none => some .ok
 | .nilFunc, .nilFunc => some .ok
 | .nilIface, .nilIface => some .ok
 | .map none, .map none => some .ok
 | _, _ => none
def tTa : KV → KV → Option Ck
 | .undef, .undef => some .ok
 | .sc a, .sc b => jSb a b
 | .st a, .st b => jSb a b
 | .nils, .nils => some .ok
 | .lst t l, .lst t' l' => match qEa t' t l' with
  | some l' => some (.is (eqT (.list t) l l'))
  | none => none
 | .mref r n, .mref r' n' => (match Nat.beq r r' with
  | true => some (.is (decide (n = n')))
  | false => none)
 | .mapr m, .mapr m' => (match Nat.beq m m' with
  | true => some .ok
  | false => none)
 | .agg cs, .agg cs' => eqVsK cs cs'
 | .bptr b o, .bptr b' o' => (match Nat.beq b b' && Nat.beq o o' with
  | true => some .ok
  | false => none)
 | _, _ => none
where
 eqVsK : List KV → List KV → Option Ck
 | [], [] => some .ok
 | a :: as, b :: bs => match tTa a b, eqVsK as bs with
  | some c, some c' => some (.and c c')
  | _, _ => none
 | _, _ => none
def mKa : List (List KV) → List (List KV) → Option Ck
 | [], [] => some .ok
 | a :: as, b :: bs => match tTa.eqVsK a b, mKa as bs with
  | some c, some c' => some (.and c c')
  | _, _ => none
 | _, _ => none
def aTb (σ τ : KSt) : Option Ck :=
 match σ.loops, τ.loops, σ.maps, τ.maps with
 | [], [], [], [] => (match vKa σ.rows τ.rows, mKa σ.boxes τ.boxes with
  | some c, some c' => some (.and c c')
  | _, _ => none)
 | _, _, _, _ => none
def fSa (T : TypeId → Option Ty) (σ : KSt) : List (Option (TypeId × Nat)) → List KV → List Nat → List aYa → Option (Ck × List KV × List aYa)
 | some (e, sz) :: ks, v :: vs, used, acc => match v with
  | .nils => if 0 < sz then match T e with
   | some t => match fSa T σ ks vs used (acc ++ [⟨t, [], e, sz, true⟩]) with
    | some (c, vs', rows) => some (c, .mref acc.length 0 :: vs', rows)
    | none => none
   | none => none else none
  | .mref r n => match σ.rows[r]? with
   | some row => if row.e = e ∧ row.sz = sz ∧ row.wr = true ∧ r ∉ used then match fSa T σ ks vs (r :: used) (acc ++ [row]) with
    | some (c, vs', rows) => some (.and (.is (decide (row.l.length = n))) c, .mref acc.length row.l.length :: vs', rows)
    | none => none else none
   | none => none
  | .mview r n lo hi z => match lo, σ.rows[r]? with
   | 0, some row => if row.e = e ∧ row.sz = sz ∧ z = sz ∧ row.wr = true ∧ r ∉ used then match fSa T σ ks vs (r :: used) (acc ++ [{ row with l := row.l.take hi }]) with
    | some (c, vs', rows) => some (.and (.is (decide (row.l.length = n))) (.and (.is (decide (hi ≤ n))) (.and (.is (decide (0 < n))) c)), .mref acc.length (row.l.take hi).length :: vs', rows)
    | none => none else none
   | _, _ => none
  | _ => none
 | none :: ks, v :: vs, used, acc => bif fAa (gIa σ v).2 then match fSa T σ ks vs used acc with
  | some (c, vs', rows) => some (.and (gIa σ v).1 c, (gIa σ v).2 :: vs', rows)
  | none => none else none
 | [], vs, _, acc => bif fAa.freeKL (gIa.frzKL σ vs).2 then some ((gIa.frzKL σ vs).1, (gIa.frzKL σ vs).2, acc) else none
 | _, [], _, acc => some (.ok, [], acc)
def iTa : List (Option (TypeId × Nat)) → List KV → List Nat
 | some _ :: ks, _ :: vs => iTa ks vs
 | none :: ks, v :: vs => fPa v ++ iTa ks vs
 | [], vs => fPa.rowsKL vs
 | _, [] => []
def oSb : KV → Option (List KV)
 | .tuple vs => some vs
 | _ => none
def nDb (T : TypeId → Option Ty) (σ : KSt) (ks : List (Option (TypeId × Nat))) (v : KV) : Option (Ck × KV × List aYa) :=
 match oSb v with
 | some vs => match fSa T (hMa σ (iTa ks vs)) ks vs [] [] with
  | some (c, vs', rows) => some (c, .tuple vs', rows)
  | none => none
 | none => match fSa T (hMa σ (iTa ks [v])) ks [v] [] [] with
  | some (c, vs', rows) => (match vs' with
   | v' :: _ => some (c, v', rows)
   | [] => none)
  | none => none
def hIb : KV → Bool
 | .mref _ _ => true
 | _ => false
def lJa : KV → Bool
 | .mref _ _ => true
 | .tuple vs => vs.all fun v => hIb v || fAa v
 | v => fAa v
def aUb (d : Nat) : KV → KV
 | .mref r n => .mref (r + d) n
 | v => v
def iMb (d : Nat) : KV → KV
 | .tuple vs => .tuple (vs.map (aUb d))
 | v => aUb d v
def hDa (own : Bool) (v : KV) (rows : List aYa) (σ : KSt) : Ck × KV × KSt :=
 match own with
 | true => (.ok, iMb σ.rows.length v, { σ with rows := σ.rows ++ rows })
 | false => ((gIa { rows } v).1, (gIa { rows } v).2, σ)
def gGa (own : Bool) (v : KV) (rows : List aYa) (σ : KSt) (rs : List Nat) : Ck × KV × KSt :=
 match mZa v with
 | true => (.ok, v, σ)
 | false => hDa own v rows (hMa σ rs)
abbrev pPb := FuncId → Option (List KV → Option (Ck × KV × List aYa))
abbrev qWb := FuncId → Option (List KV → Option (Ck × KV))
abbrev nTb := FuncId → Option (List KV → KSt → Option (Ck × KV × KSt))
inductive Out where
 | one (ex : Ex) (vs : List KV) (σ : KSt)
 | two (b : Bool) (x y : Out)
def Out.pick : Out → Ex × List KV × KSt
 | .one ex vs σ => (ex, vs, σ)
 | .two b x y => bif b then x.pick else y.pick
abbrev pTb := FuncId → Option Nat → Option (List KV → KSt → Option (Ck × Out))
abbrev Fk := ∀ {α : Type}, Bool → Option α → Option α → Option α
def jKa {α : Type} (c : Bool) (x y : Option α) : Option α := bif c then x else y
theorem nKb {α : Type} (x y : Option α) : jKa true x y = x := rfl
theorem lUb {α : Type} (x y : Option α) : jKa false x y = y := rfl
abbrev Bd := ∀ {α β : Type}, Option α → (α → Option β) → Option β
abbrev Sm := ∀ {α β γ : Type}, α ⊕ β → (α → Option γ) → (β → Option γ) → Option γ
def lIa {α β : Type} (x : Option α) (f : α → Option β) : Option β := x.bind f
def bFb {α β γ : Type} (x : α ⊕ β) (f : α → Option γ) (g : β → Option γ) : Option γ := Sum.elim f g x
structure pOb where
 α : Type
 c : Ck
 x : Option α
 e : α → KV × List aYa
structure pSb where
 α : Type
 c : Ck
 x : Option α
 pick : α → Ex × List KV × KSt
 e : Sm → ∀ {γ : Type}, α → (Ex → List KV → KSt → Option γ) → Option γ
structure Cs where
 fk : Fk
 bd : Bd
 sm : Sm
 T : TypeId → Option Ty
 bt : FuncId → Option (List KV → Option pOb)
 ct : pPb
 xt : qWb
 st : nTb
 bl : FuncId → Option Nat → Option (List KV → KSt → Option pSb)
 lt : pTb
def chk (S : Cs) {α : Type} : Ck → Option α → Option α
 | .ok, x => x
 | .is b, x => S.fk b x none
 | .and a b, x => chk S a (chk S b x)
class FkOK (S : Cs) : Prop where
 eq : ∀ {α : Type} (c : Bool) (x y : Option α), S.fk c x y = bif c then x else y
 bd : ∀ {α β : Type} (x : Option α) (f : α → Option β), S.bd x f = x.bind f
 sm : ∀ {α β γ : Type} (x : α ⊕ β) (f : α → Option γ) (g : β → Option γ), S.sm x f g = Sum.elim f g x
section
variable (P : Program) (Θ : Th) (S : Cs) {α : Type}
abbrev Rec (α : Type) := sTa → (dXa → Option α) → Option α
def iIa (own b : Bool) (v : KV) (σ : KSt) : Ck × KV × KSt :=
 match b, own with
 | true, false => ((gIa σ v).1, (gIa σ v).2, hMa σ (fPa v))
 | true, true => (.ok, v, hMa σ (fPa v))
 | false, _ => (.ok, v, σ)
def oVb (strict : Option Nat) (o : Oper) (e : bNa) (σ0 σ : KSt) : Option Ck :=
 match strict with
 | some n => bif iJa Θ o && Nat.ble 2 (aRa Θ e.fn o) then mKa (σ.boxes.take n) (σ0.boxes.take n) else aTb σ0 σ
 | none => none
def jPb (strict : Option Nat) (o : Oper) (e : bNa) (v : KV) (σ0 σ : KSt) (k : bNa → KSt → Option α) : Option α :=
 match iIa (Θ.owns e.fn o.dst) (Θ.frzs e.fn o.dst) v σ with
 | (c, v, σ) => chk S c (cDb v fun v => bif jUb Θ strict.isSome o e v then k (e.put o.dst v) σ else match oVb Θ strict o e σ0 σ with
  | some c => chk S c (k (e.put o.dst v) σ)
  | none => none)
def nVb (o : Op) : Option (Nat × Tmp) :=
 match o with
 | .index t _ (.tmp j) => match P.underlying t with
  | some (.array m _) => some (m, j)
  | _ => none
 | .indexAddr t _ (.tmp j) => match P.underlying t with
  | some (.array m _) => some (m, j)
  | _ => none
 | _ => none
def vTa (e : bNa) (j : Tmp) (kd : IntKind) (n : Int) (f : bNa → Option α) : Nat → Nat → Option α
 | 0, _ => none
 | m + 1, i => S.fk (decide (n = i)) (f { e with t := e.t.set j (.st (.int kd i)) }) (vTa e j kd n f m (i + 1))
def yNa (strict : Option Nat) (o : Oper) (σ : KSt) (k : bNa → KSt → Option α) (e : bNa) : Option α :=
 match opK S.T P (Θ.owns e.fn o.dst) o.type o.op e.ev σ with
 | some (c, v, σ') => chk S c (jPb Θ S strict o e v σ σ' k)
 | none => none
def doK (rec : Rec α) (strict : Option Nat) (o : Oper) (e : bNa) (σ : KSt) (k : bNa → KSt → Option α) : Option α :=
 match eGa o with
 | some (f, args) => rec (.apply (Θ.owns e.fn o.dst) (e.ev f) (args.toList.map e.ev) σ) fun r => jPb Θ S strict o e r.v σ r.σ k
 | none => match nVb P o.op with
  | some (m, j) => (match e.t.getD j .undef with
   | .sc (.int kd n) => bif Nat.ble m 16 then vTa S e j kd n (yNa P Θ S strict o σ k) m 0 else none
   | _ => yNa P Θ S strict o σ k e)
  | none => yNa P Θ S strict o σ k e
def KV.isAt (b lo : Nat) : KV → Bool
 | .bptr b' lo' => Nat.beq b b' && Nat.beq lo lo'
 | _ => false
def mPa : fFb → Oper → bNa → Bool
 | .rbox b lo _, o, e => match o.op with
  | .load _ a => (e.ev a).isAt b lo
  | _ => false
 | .wbox b lo _, o, e => match o.op with
  | .store _ a _ => (e.ev a).isAt b lo
  | _ => false
 | .free, o, e => match o.op with
  | .buildSlice _ _ parts => fAa.freeKL (parts.toList.map fun p => e.ev p.2)
  | _ => false
 | _, _, _ => true
def nZb (rec : Rec α) (strict : Option Dr) (all : List Oper) (o : Oper) (e : bNa) (σ : KSt) (k : bNa → KSt → Option α) : Option α :=
 match strict with
 | some dr => bif cBa Θ e.fn o then k (e.put o.dst (.bptr (dr.n + lOa Θ e.fn o all) 0)) σ else bif mPa (eBa P Θ e.fn dr all o) o e then doK P Θ S rec (some dr.n) o e σ k else none
 | none => doK P Θ S rec none o e σ k
def goK (rec : Rec α) (strict : Option Dr) (all : List Oper) (o : Oper) (e : bNa) (σ : KSt) (k : bNa → KSt → Option α) (b : Bool) : Option α :=
 bif b then nZb P Θ S rec strict all o e σ k else k (e.put o.dst (.tuple [])) σ
def exK (rec : Rec α) (strict : Option Dr) (all : List Oper) : List Oper → bNa → KSt → (bNa → KSt → Option α) → Option α
 | [], e, σ, k => k e σ
 | o :: os, e, σ, k => match o.guard with
  | none => nZb P Θ S rec strict all o e σ (fun e σ => exK rec strict all os e σ k)
  | some (j, want) => match (all[j]?).bind (·.dst) with
   | none => none
   | some d => match (e.t.getD d .undef).bool? with
    | some (true, b) => (match b with
     | true => goK P Θ S rec strict all o e σ (fun e σ => exK rec strict all os e σ k) (true == want)
     | false => goK P Θ S rec strict all o e σ (fun e σ => exK rec strict all os e σ k) (false == want))
    | some (false, b) => S.fk b (goK P Θ S rec strict all o { e with t := e.t.set d (.st (.bool true)) } σ (fun e σ => exK rec strict all os e σ k) (true == want))
      (goK P Θ S rec strict all o { e with t := e.t.set d (.st (.bool false)) } σ (fun e σ => exK rec strict all os e σ k) (false == want))
    | none => (match e.t.getD d .undef with
     | .tuple [] => exK rec strict all os (e.put o.dst (.tuple [])) σ k
     | _ => none)
def bXb (rec : Rec α) (f : FuncId) (args : List KV) (k : dXa → Option α) : Option α :=
 match Θ.prim f with
 | some _ => none
 | none => bif fAa.freeKL args then
   rec (.callS f args {}) fun r => match nDb S.T r.σ (Θ.fresh f) r.v with
    | some (c, v, rows) => bif lJa v then chk S c (k { v, σ := { rows } }) else none
    | none => none
  else none
def vIa (rec : Rec α) (f : FuncId) (args : List KV) (k : dXa → Option α) : Option α :=
 match S.ct f with
 | some p => match p args with
  | some (c, v, rows) => chk S c (k { v, σ := { rows } })
  | none => bXb Θ S rec f args k
 | none => bXb Θ S rec f args k
def lSb (rec : Rec α) (f : FuncId) (args : List KV) (k : dXa → Option α) : Option α :=
 match S.bt f with
 | some p => match p args with
  | some b => chk S b.c (S.bd b.x fun y => match b.e y with
   | (v, rows) => k { v, σ := { rows } })
  | none => vIa Θ S rec f args k
 | none => vIa Θ S rec f args k
def fUb (rec : Rec α) (own : Bool) (f : KV) (args : List KV) (σ : KSt) (k : dXa → Option α) : Option α :=
 match f with
 | .func (.func f) fst caps =>
  bif Θ.ent f then
   bif Θ.pureF f then chk S (gIa.frzKL σ (fst ++ args ++ caps)).1 (rec (.call f (gIa.frzKL σ (fst ++ args ++ caps)).2) fun r =>
    match gGa own r.v r.σ.rows σ (fPa.rowsKL (fst ++ args ++ caps)) with
    | (c, v, σ') => chk S c (k { v, σ := σ' }))
   else match Θ.extS f with
    | some _ => match S.st f with
     | some p => (match p (fst ++ args ++ caps) σ with
      | some (c, v, σ') => chk S c (k { v, σ := σ' })
      | none => none)
     | none => none
    | none => rec (.callS f (fst ++ args ++ caps) σ) k
  else match S.xt f with
   | some p => match p (KV.dyn.dyns (gIa.frzKL σ (fst ++ args ++ caps)).2) with
    | some (c, v) => chk S (.and (gIa.frzKL σ (fst ++ args ++ caps)).1 c) (k { v, σ := hMa σ (fPa.rowsKL (fst ++ args ++ caps)) })
    | none => none
   | none => none
 | .func (.yield l) [] [] => match σ.loops[l]? with
  | some lr =>
   bif (decide (lr.state = .ready) && Nat.beq args.length lr.params.length) && !Θ.gcF lr.env.fn then
    rec (.code lr.assign { lr.env with t := (lr.params.zip args).foldl (fun t (p : Nat × KV) => t.set p.1 p.2) lr.env.t } σ) fun r1 =>
     match r1.ex with
     | .normal => bif pMa r1.σ l then
       rec (.code lr.body r1.env (dRa r1.σ l fun q => { q with state := .busy })) fun r2 =>
        k { v := .st (.bool (r2.ex.code).isNone), σ := kUa σ.sz [] (dRa r2.σ l fun q => { q with state := if (r2.ex.code).isNone then .ready else .done, pending := r2.ex.code }) }
      else none
     | _ => none
   else none
  | none => none
 | _ => none
def nPb (rec : Rec α) (a : Code) (f : FuncId) (k : dXa → Option α) : Out → Option α
 | .one ex vs σ => match ex with
  | .normal => rec (.code (.loop a) ⟨f, aOa (Θ.keep f (aCa a)) (ntm P f) vs⟩ σ) k
  | ex => k ⟨ex, .undef, ⟨f, aOa (Θ.keep f (aCa a)) (ntm P f) vs⟩, σ⟩
 | .two b x y => S.fk b (nPb rec a f k x) (nPb rec a f k y)
def cJb (rec : Rec α) (a : Code) (e : bNa) (σ : KSt) (k : dXa → Option α) : Option α :=
 rec (.code a (fIa Θ (aCa a) e) σ) fun r => match r.ex with
  | .normal => rec (.code (.loop a) (fIa Θ (aCa a) r.env) (kUa σ.sz (fIa Θ (aCa a) r.env).t r.σ)) k
  | _ => k { r with env := fIa Θ (aCa a) r.env }
def qJb (rec : Rec α) (a : Code) (f : FuncId) (k : dXa → Option α) (ex : Ex) (vs : List KV) (σ : KSt) : Option α :=
 match ex with
 | .normal => rec (.code (.loop a) ⟨f, aOa (Θ.keep f (aCa a)) (ntm P f) vs⟩ σ) k
 | ex => k ⟨ex, .undef, ⟨f, aOa (Θ.keep f (aCa a)) (ntm P f) vs⟩, σ⟩
def vXa (rec : Rec α) (a : Code) (e : bNa) (σ : KSt) (k : dXa → Option α) : Option α :=
 match S.lt e.fn (aCa a) with
 | some p => bif Nat.beq e.t.length (ntm P e.fn) then
   match p (cGa (Θ.keep e.fn (aCa a)) e.t) σ with
   | some (c, o) => chk S c (nPb P Θ S rec a e.fn k o)
   | none => cJb Θ rec a e σ k
  else none
 | none => cJb Θ rec a e σ k
def hPb (rec : Rec α) (a : Code) (e : bNa) (σ : KSt) (k : dXa → Option α) : Option α :=
 match S.bl e.fn (aCa a) with
 | some p => bif Nat.beq e.t.length (ntm P e.fn) then
   match p (cGa (Θ.keep e.fn (aCa a)) e.t) σ with
   | some b => chk S b.c (S.bd b.x fun y => b.e S.sm y (qJb P Θ rec a e.fn k))
   | none => vXa P Θ S rec a e σ k
  else none
 | none => vXa P Θ S rec a e σ k
def aNb (rec : Rec α) (f : Operand) (ps : Array Tmp) (assign body : Code) (e : bNa) (σ : KSt) (k : dXa → Option α) : Option α :=
 bif oRb Θ (e.ev f) && !Θ.gcF e.fn then
  rec (.apply false (e.ev f) [.func (.yield σ.loops.length) [] []] { σ with loops := σ.loops ++ [{ env := fIa Θ (aCa assign) e, params := ps.toList, assign, body, pending := none, state := .ready }] }) fun r =>
   match r.σ.loops[σ.loops.length]? with
   | some lr => bif decide (lr.state = .busy) then none else match lr.pending with
    | none => k { env := e, σ := lXb σ e r.σ }
    | some .ret => k { ex := .ret, env := e, σ := lXb σ e r.σ }
    | some (.exit id) => k { ex := .exit id, env := e, σ := lXb σ e r.σ }
    | some (.goto t) => k { ex := .goto t, env := e, σ := lXb σ e r.σ }
    | some _ => none
   | none => none
 else none
def oYb (P : Program) (Θ : Th) (fn : FuncId) : List Oper → Option (List (List KV))
 | [] => some []
 | o :: os => bif cBa Θ fn o then (match o.op with
   | .alloc t => (match fDb P t, oYb P Θ fn os with
    | some cs, some B => some (cs :: B)
    | _, _ => none)
   | _ => none) else oYb P Θ fn os
def nWb : KV → Option (Nat × Nat)
 | .bptr b off => some (b, off)
 | _ => none
def bNa.bx (e : bNa) : Tmp → Option (Nat × Nat) := fun t => nWb (e.t.getD t .undef)
def tCa : KV → List Nat
 | .mref r _ => [r]
 | .mview r _ _ _ _ => [r]
 | .rptr r _ _ _ _ => [r]
 | .agg cs => refsKL cs
 | .tuple vs => refsKL vs
 | .func _ fst caps => refsKL fst ++ refsKL caps
 | _ => []
where
 refsKL : List KV → List Nat
 | [] => []
 | v :: vs => tCa v ++ refsKL vs
def pOa (K : List Nat) : KV → Option KV
 | .mref r n => (match pEa r K 0 with
  | some q => some (.mref q n)
  | none => none)
 | .mview r n lo hi sz => (match pEa r K 0 with
  | some q => some (.mview q n lo hi sz)
  | none => none)
 | .rptr r n i sz off => (match pEa r K 0 with
  | some q => some (.rptr q n i sz off)
  | none => none)
 | .agg cs => (match renKL K cs with
  | some cs => some (.agg cs)
  | none => none)
 | .tuple vs => (match renKL K vs with
  | some vs => some (.tuple vs)
  | none => none)
 | .func fn fst caps => (match renKL K fst, renKL K caps with
  | some a, some b => some (.func fn a b)
  | _, _ => none)
 | .pptr cs => bif fAa.freeKL cs then some (.pptr cs) else none
 | .vec cs => bif fAa.freeKL cs then some (.vec cs) else none
 | v => some v
where
 renKL (K : List Nat) : List KV → Option (List KV)
 | [] => some []
 | v :: vs => match pOa K v, renKL K vs with
  | some a, some b => some (a :: b)
  | _, _ => none
def aPb (K : List Nat) : List (List KV) → Option (List (List KV))
 | [] => some []
 | v :: vs => match pOa.renKL K v, aPb K vs with
  | some a, some b => some (a :: b)
  | _, _ => none
def pCa (t : List KV) (σ : KSt) : List Nat := (List.range σ.rows.length).filter fun r => (tCa.refsKL t ++ σ.boxes.flatMap tCa.refsKL).contains r
def gcK (e : bNa) (σ : KSt) : bNa × KSt :=
 bif σ.loops.isEmpty && σ.maps.isEmpty then
  match pOa.renKL (pCa e.t σ) e.t, aPb (pCa e.t σ) σ.boxes with
  | some t, some B => ({ e with t := t }, { σ with rows := (pCa e.t σ).filterMap (fun r => σ.rows[r]?), boxes := B })
  | _, _ => (e, σ)
 else (e, σ)
def jEa (Θ : Th) (fn : FuncId) (id : Nat) (r : dXa) : dXa :=
 match Θ.gcF fn, Θ.gc fn id with
 | true, some k => { r with env := (gcK (fIa Θ (some k) r.env) r.σ).1, σ := (gcK (fIa Θ (some k) r.env) r.σ).2 }
 | _, _ => r
def KSt.isEmpty (σ : KSt) : Bool := (σ.boxes.isEmpty && σ.rows.isEmpty) && (σ.loops.isEmpty && σ.maps.isEmpty)
def wEa (rec : Rec α) (ops : Array Oper) (draw : Bool) (e : bNa) (σ : KSt) (k : dXa → Option α) : Option α :=
 bif draw then (bif kZa P Θ e.fn ⟨σ.boxes.length, e.bx⟩ ops then (match oYb P Θ e.fn ops.toList with
  | some B => exK P Θ S rec (some ⟨σ.boxes.length, e.bx⟩) ops.toList ops.toList e { σ with boxes := σ.boxes ++ B } (fun e σ => k { env := e, σ })
  | none => none) else none)
 else bif fKa P ops.toList then
  match ops.toList with
  | o1 :: o2 :: os => match o1.dst.bind fun d => e.t[d]? with
   | some _ => match opK S.T P false o1.type o1.op e.ev σ with
    | some (c, v, σ') => chk S c (exK P Θ S rec none ops.toList os ((e.put o1.dst v).put o2.dst v) σ' (fun e σ => k { env := e, σ }))
    | none => none
   | none => none
  | _ => none
 else exK P Θ S rec none ops.toList ops.toList e σ (fun e σ => k { env := e, σ })
def zUa (rec : Rec α) (c : Code) (e : bNa) (σ : KSt) (k : dXa → Option α) : Option α :=
 match c with
 | .skip => k { env := e, σ }
 | .label _ => k { env := e, σ }
 | .region id ops draw => wEa P Θ S rec ops draw e σ (fun r => vRa (jEa Θ e.fn id r) k)
 | .seq a b => rec (.code a e σ) fun r => match r.ex with
  | .normal => rec (.code b r.env r.σ) k
  | _ => k r
 | .cond c a b => match (e.ev c).bool? with
  | some (true, t) => (match t with
   | true => rec (.code a e σ) k
   | false => rec (.code b e σ) k)
  | some (false, t) => S.fk t (rec (.code a e σ) k) (rec (.code b e σ) k)
  | none => none
 | .block id a => rec (.code a e σ) fun r => match r.ex with
  | .exit i => bif Nat.beq i id then k { r with ex := .normal } else k r
  | _ => k r
 | .loop a => hPb P Θ S rec a e σ k
 | .rangeFunc f ps assign body => aNb Θ rec f ps assign body e σ k
 | .exit id => k { ex := .exit id, env := e, σ }
 | .goto t => k { ex := .goto t, env := e, σ }
 | .ret => k { ex := .ret, env := e, σ }
 | .scope a => rec (.code a e σ) fun r => match r.ex with
  | .goto _ => none
  | _ => k r
 | .refuse _ => none
def mYb (rec : Rec α) : sTa → (dXa → Option α) → Option α
 | .call f args, k => lSb Θ S rec f args k
 | .callS f args σ, k => bif Θ.gcF f && !σ.isEmpty then none else match P.funcs[f]? with
  | some fn => match fn.body with
   | some c => rec (.code c { fn := f, t := args ++ List.replicate (fn.ntmps - args.length) .undef } σ) fun r =>
    match r.ex with
    | .normal | .ret => match wFa P fn r.env r.σ with
     | some v => k { v, σ := kUa σ.sz [v] r.σ }
     | none => none
    | _ => none
   | none => none
  | none => none
 | .apply own f args σ, k => fUb Θ S rec own f args σ k
 | .code c e σ, k => zUa P Θ S rec c e σ k
def pKb : Nat → Rec α
 | 0 => fun _ _ => none
 | n + 1 => mYb P Θ S (pKb n)
end
end Go.Proofs.YtpeaaophmddhnaaGreat.LI
