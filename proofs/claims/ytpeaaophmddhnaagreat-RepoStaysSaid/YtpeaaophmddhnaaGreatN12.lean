/-
  An interpreter over values is sound, part 12.
-/
import Derived.Test.YtpeaaophmddhnaaGreatN11
namespace Go.Proofs.YtpeaaophmddhnaaGreat.LI
open Go Go.RowKit
open KV (toL)
open KV.toL (toLs)
inductive Shp where
 | undef
 | nils
 | empt
 | ty (t : Ty)
 | st (v : Value)
 | mref (r : Nat)
 | mview (r sz : Nat)
 | mapr (m : Nat)
 | agg (cs : List Shp)
 | tuple (cs : List Shp)
 | bptr (b off : Nat)
 | rptr (r sz off : Nat)
 | func (f : FuncId) (fst caps : List Shp)
 | yield (l : Nat)
 deriving Inhabited
@[reducible] def Shp.den : Shp → Type → Type
 | .undef, ρ => ρ
 | .nils, ρ => ρ
 | .empt, ρ => ρ
 | .ty t, ρ => t.den × ρ
 | .st _, ρ => ρ
 | .mref _, ρ => ρ
 | .mview _ _, ρ => Nat × Nat × ρ
 | .mapr _, ρ => ρ
 | .agg cs, ρ => dens cs ρ
 | .tuple cs, ρ => dens cs ρ
 | .bptr _ _, ρ => ρ
 | .rptr _ _ _, ρ => Nat × ρ
 | .func _ fst caps, ρ => dens fst (dens caps ρ)
 | .yield _, ρ => ρ
where
 @[reducible] dens : List Shp → Type → Type
 | [], ρ => ρ
 | s :: ss, ρ => den s (dens ss ρ)
abbrev dens := Shp.den.dens
def Shp.dfl : (s : Shp) → (ρ : Type) → ρ → s.den ρ
 | .undef, _, x => x
 | .nils, _, x => x
 | .empt, _, x => x
 | .ty t, _, x => (t.dfl, x)
 | .st _, _, x => x
 | .mref _, _, x => x
 | .mview _ _, _, x => (0, 0, x)
 | .mapr _, _, x => x
 | .agg cs, _, x => dfls cs _ x
 | .tuple cs, _, x => dfls cs _ x
 | .bptr _ _, _, x => x
 | .rptr _ _ _, _, x => (0, x)
 | .func _ fst caps, _, x => dfls fst _ (dfls caps _ x)
 | .yield _, _, x => x
where
 dfls : (ss : List Shp) → (ρ : Type) → ρ → dens ss ρ
 | [], _, x => x
 | s :: ss, _, x => dfl s _ (dfls ss _ x)
def hAa (rows : List aYa) (r : Nat) : Nat := match rows[r]? with
 | some row => row.l.length
 | none => 0
def hEa (rows : List aYa) : (s : Shp) → (ρ : Type) → s.den ρ → KV × ρ
 | .undef, _, x => (.undef, x)
 | .nils, _, x => (.nils, x)
 | .empt, _, x => (.lst .unit [], x)
 | .ty t, _, x => match x with
  | (d, y) => (jRb t d, y)
 | .st v, _, x => (scK v, x)
 | .mref r, _, x => (.mref r (hAa rows r), x)
 | .mview r sz, _, x => match x with
  | (a, b, y) => (.mview r (hAa rows r) a b sz, y)
 | .mapr m, _, x => (.mapr m, x)
 | .agg cs, _, x => match encSs cs _ x with
  | (vs, y) => (.agg vs, y)
 | .tuple cs, _, x => match encSs cs _ x with
  | (vs, y) => (.tuple vs, y)
 | .bptr b o, _, x => (.bptr b o, x)
 | .rptr r sz o, _, x => match x with
  | (a, y) => (.rptr r (hAa rows r) a sz o, y)
 | .func f fst caps, _, x => match encSs fst _ x with
  | (vs, y) => match encSs caps _ y with
   | (us, z) => (.func (.func f) vs us, z)
 | .yield l, _, x => (.func (.yield l) [] [], x)
where
 encSs : (ss : List Shp) → (ρ : Type) → dens ss ρ → List KV × ρ
 | [], _, x => ([], x)
 | s :: ss, _, x => match hEa rows s _ x with
  | (v, y) => match encSs ss _ y with
   | (vs, z) => (v :: vs, z)
def iKb : Value → Value → Bool
 | .bool a, .bool b => match a, b with
  | true, true => true
  | false, false => true
  | _, _ => false
 | .int k a, .int k' b => decide (k = k') && decide (a = b)
 | .string a, .string b => decide (a.data.toList = b.data.toList)
 | .pointer none, .pointer none => true
 | .nilFunc, .nilFunc => true
 | .nilIface, .nilIface => true
 | .map none, .map none => true
 | _, _ => false
def aRb : Value → Value → Bool
 | .pointer none, .pointer none => true
 | .nilFunc, .nilFunc => true
 | .nilIface, .nilIface => true
 | .map none, .map none => true
 | _, _ => false
def qKa (rows : List aYa) : (s : Shp) → (ρ : Type) → KV → ρ → Option (Ck × s.den ρ)
 | .undef, _, v, x => match v with
  | .undef => some (.ok, x)
  | _ => none
 | .nils, _, v, x => match v with
  | .nils => some (.ok, x)
  | _ => none
 | .empt, _, v, x => match v with
  | .lst .unit l => (match l with
   | [] => some (.ok, x)
   | _ => none)
  | _ => none
 | .ty t, _, v, x => match fGb t v with
  | some (c, d) => some (c, (d, x))
  | none => none
 | .st u, _, v, x => match v with
  | .st w => (match iKb u w with
   | true => some (.ok, x)
   | false => none)
  | .sc w => (match aRb u w with
   | true => some (.ok, x)
   | false => none)
  | _ => none
 | .mref r, _, v, x => match v with
  | .mref r' n => (match Nat.beq r r' with
   | true => some (.is (decide (hAa rows r = n)), x)
   | false => none)
  | _ => none
 | .mview r sz, _, v, x => match v with
  | .mview r' n lo hi sz' => (match Nat.beq r r' && Nat.beq sz sz' with
   | true => some (.is (decide (hAa rows r = n)), (lo, hi, x))
   | false => none)
  | _ => none
 | .mapr m, _, v, x => match v with
  | .mapr m' => (match Nat.beq m m' with
   | true => some (.ok, x)
   | false => none)
  | _ => none
 | .agg cs, _, v, x => match v with
  | .agg vs => decSs cs _ vs x
  | _ => none
 | .tuple cs, _, v, x => match v with
  | .tuple vs => decSs cs _ vs x
  | _ => none
 | .bptr b o, _, v, x => match v with
  | .bptr b' o' => (match Nat.beq b b' && Nat.beq o o' with
   | true => some (.ok, x)
   | false => none)
  | _ => none
 | .rptr r sz o, _, v, x => match v with
  | .rptr r' n i sz' o' => (match Nat.beq r r' && (Nat.beq sz sz' && Nat.beq o o') with
   | true => some (.is (decide (hAa rows r = n)), (i, x))
   | false => none)
  | _ => none
 | .func f fst caps, _, v, x => match v with
  | .func (.func f') as bs => (match Nat.beq f f' with
   | true => (match decSs caps _ bs x with
    | some (c, y) => (match decSs fst _ as y with
     | some (c', z) => some (.and c c', z)
     | none => none)
    | none => none)
   | false => none)
  | _ => none
 | .yield l, _, v, x => match v with
  | .func (.yield l') [] [] => (match Nat.beq l l' with
   | true => some (.ok, x)
   | false => none)
  | _ => none
where
 decSs : (ss : List Shp) → (ρ : Type) → List KV → ρ → Option (Ck × dens ss ρ)
 | [], _, vs, x => match vs with
  | [] => some (.ok, x)
  | _ => none
 | s :: ss, _, vs, x => match vs with
  | v :: vs => (match decSs ss _ vs x with
   | some (c, y) => (match qKa rows s _ v y with
    | some (c', z) => some (.and c' c, z)
    | none => none)
   | none => none)
  | [] => none
structure sUa where
 t : Ty
 e : TypeId
 sz : Nat
 wr : Bool := true
structure kXb where
 fn : FuncId
 key : Nat
 env : List Shp
 pend : Ex := .normal
 state : LoopState := .ready
@[reducible] def rowsDen : List sUa → Type → Type
 | [], ρ => ρ
 | r :: rs, ρ => List r.t.den × rowsDen rs ρ
@[reducible] def mapsDen : List (Ty × Ty) → Type → Type
 | [], ρ => ρ
 | m :: ms, ρ => List (m.1.den × m.2.den) × mapsDen ms ρ
@[reducible] def boxesDen : List (List Shp) → Type → Type
 | [], ρ => ρ
 | b :: bs, ρ => dens b (boxesDen bs ρ)
@[reducible] def loopsDen : List kXb → Type → Type
 | [], ρ => ρ
 | l :: ls, ρ => dens l.env (loopsDen ls ρ)
def iDb : (rs : List sUa) → (ρ : Type) → ρ → rowsDen rs ρ
 | [], _, x => x
 | _ :: rs, _, x => ([], iDb rs _ x)
def hRb : (ms : List (Ty × Ty)) → (ρ : Type) → ρ → mapsDen ms ρ
 | [], _, x => x
 | _ :: ms, _, x => ([], hRb ms _ x)
def bVb : (bs : List (List Shp)) → (ρ : Type) → ρ → boxesDen bs ρ
 | [], _, x => x
 | b :: bs, _, x => Shp.dfl.dfls b _ (bVb bs _ x)
def cKb : (ls : List kXb) → (ρ : Type) → ρ → loopsDen ls ρ
 | [], _, x => x
 | l :: ls, _, x => Shp.dfl.dfls l.env _ (cKb ls _ x)
def jMa : (rs : List sUa) → (ρ : Type) → rowsDen rs ρ → List aYa × ρ
 | [], _, x => ([], x)
 | r :: rs, _, x => match x with
  | (l, y) => match jMa rs _ y with
   | (ks, z) => (⟨r.t, l, r.e, r.sz, r.wr⟩ :: ks, z)
def qPa : (ms : List (Ty × Ty)) → (ρ : Type) → mapsDen ms ρ → List tJa × ρ
 | [], _, x => ([], x)
 | m :: ms, _, x => match x with
  | (l, y) => match qPa ms _ y with
   | (ks, z) => (⟨m.1, m.2, l⟩ :: ks, z)
def mJa (rows : List aYa) : (bs : List (List Shp)) → (ρ : Type) → boxesDen bs ρ → List (List KV) × ρ
 | [], _, x => ([], x)
 | b :: bs, _, x => match hEa.encSs rows b _ x with
  | (v, y) => match mJa rows bs _ y with
   | (vs, z) => (v :: vs, z)
def nQb (l : List KV) (n : Nat) : List KV := l ++ List.replicate (n - l.length) .undef
def gJb (P : Program) (l : kXb) (vs : List KV) : hJa :=
 ⟨⟨l.fn, nQb vs (ntm P l.fn)⟩, (iUa P l.fn (some l.key)).1, (iUa P l.fn (some l.key)).2.1, (iUa P l.fn (some l.key)).2.2, l.pend.code, l.state⟩
def iGa (P : Program) (rows : List aYa) : (ls : List kXb) → (ρ : Type) → loopsDen ls ρ → List hJa × ρ
 | [], _, x => ([], x)
 | l :: ls, _, x => match hEa.encSs rows l.env _ x with
  | (v, y) => match iGa P rows ls _ y with
   | (vs, z) => (gJb P l v :: vs, z)
def qJa : (rs : List sUa) → (ρ : Type) → List aYa → ρ → Option (rowsDen rs ρ)
 | [], _, ks, x => match ks with
  | [] => some x
  | _ => none
 | r :: rs, _, ks, x => match ks with
  | k :: ks => (match Nat.beq k.e r.e && (Nat.beq k.sz r.sz && (k.wr == r.wr)) with
   | true => (match qEa k.t r.t k.l, qJa rs _ ks x with
    | some l, some y => some (l, y)
    | _, _ => none)
   | false => none)
  | [] => none
def lTb (a b c d : Ty) (l : List (a.den × b.den)) : Option (List (c.den × d.den)) := if h : a = c ∧ b = d then some (h.1 ▸ h.2 ▸ l) else none
def qIa : (ms : List (Ty × Ty)) → (ρ : Type) → List tJa → ρ → Option (mapsDen ms ρ)
 | [], _, ks, x => match ks with
  | [] => some x
  | _ => none
 | m :: ms, _, ks, x => match ks with
  | k :: ks => (match lTb k.kt k.vt m.1 m.2 k.l, qIa ms _ ks x with
   | some l, some y => some (l, y)
   | _, _ => none)
  | [] => none
def mEa (rows : List aYa) : (bs : List (List Shp)) → (ρ : Type) → List (List KV) → ρ → Option (Ck × boxesDen bs ρ)
 | [], _, ks, x => match ks with
  | [] => some (.ok, x)
  | _ => none
 | b :: bs, _, ks, x => match ks with
  | k :: ks => (match mEa rows bs _ ks x with
   | some (c, y) => (match qKa.decSs rows b _ k y with
    | some (c', z) => some (.and c' c, z)
    | none => none)
   | none => none)
  | [] => none
def jAb : Nat → List KV → Option (List KV)
 | 0, vs => (match vs.all fun v => (match v with | .undef => true | _ => false) with
  | true => some []
  | false => none)
 | n + 1, v :: vs => match jAb n vs with
  | some us => some (v :: us)
  | none => none
 | _ + 1, [] => none
def wHa : Ex → Option Code → Bool
 | .normal, none => true
 | .ret, some .ret => true
 | .exit i, some (.exit j) => Nat.beq i j
 | .goto i, some (.goto j) => Nat.beq i j
 | _, _ => false
def mFa (P : Program) (rows : List aYa) : (ls : List kXb) → (ρ : Type) → List hJa → ρ → Option (Ck × loopsDen ls ρ)
 | [], _, ks, x => match ks with
  | [] => some (.ok, x)
  | _ => none
 | l :: ls, _, ks, x => match ks with
  | k :: ks => (match Nat.beq k.env.fn l.fn && ((aCa k.assign == some l.key) && (Nat.beq k.env.t.length (ntm P l.fn) && (wHa l.pend k.pending && decide (k.state = l.state)))) with
   | true => (match mFa P rows ls _ ks x with
    | some (c, y) => (match jAb l.env.length k.env.t with
     | some vs => (match qKa.decSs rows l.env _ vs y with
      | some (c', z) => some (.and c' c, z)
      | none => none)
     | none => none)
    | none => none)
   | false => none)
  | [] => none
structure fCa where
 rows : List sUa := []
 maps : List (Ty × Ty) := []
 boxes : List (List Shp) := []
 loops : List kXb := []
 slots : List Shp := []
@[reducible] def fCa.den (s : fCa) : Type := rowsDen s.rows (mapsDen s.maps (boxesDen s.boxes (loopsDen s.loops (dens s.slots Unit))))
def fCa.dfl (s : fCa) : s.den := iDb s.rows _ (hRb s.maps _ (bVb s.boxes _ (cKb s.loops _ (Shp.dfl.dfls s.slots _ ()))))
def aXa (P : Program) (s : fCa) (x : s.den) : KSt × dens s.slots Unit :=
 match jMa s.rows _ x with
 | (rows, x1) => match qPa s.maps _ x1 with
  | (maps, x2) => match mJa rows s.boxes _ x2 with
   | (boxes, x3) => match iGa P rows s.loops _ x3 with
    | (loops, x4) => (⟨boxes, rows, loops, maps⟩, x4)
def cAa (P : Program) (s : fCa) (x : s.den) : List KV := match aXa P s x with
 | (σ, y) => (hEa.encSs σ.rows s.slots _ y).1
def lUa {β : Type} (P : Program) (s : fCa) (x : s.den) (k : List KV → KSt → β) : β :=
 match aXa P s x with
 | (σ, y) => match hEa.encSs σ.rows s.slots _ y with
  | (vs, _) => k vs σ
theorem hZa {β : Type} (P : Program) (s : fCa) (x : s.den) (k : List KV → KSt → β) : lUa P s x k = k (cAa P s x) (aXa P s x).1 := rfl
section
variable (rows : List aYa) {ρ : Type}
theorem nLb (x : Shp.den .undef ρ) : hEa rows .undef ρ x = (.undef, x) := rfl
theorem oBb (x : Shp.den .nils ρ) : hEa rows .nils ρ x = (.nils, x) := rfl
theorem oAb (x : Shp.den .empt ρ) : hEa rows .empt ρ x = (.lst .unit [], x) := rfl
theorem lWb (t : Ty) (x : Shp.den (.ty t) ρ) : hEa rows (.ty t) ρ x = (jRb t x.1, x.2) := rfl
theorem gPb (v : Value) (x : Shp.den (.st v) ρ) : hEa rows (.st v) ρ x = (scK v, x) := rfl
theorem gNb (r : Nat) (x : Shp.den (.mref r) ρ) : hEa rows (.mref r) ρ x = (.mref r (hAa rows r), x) := rfl
theorem dSb (r sz : Nat) (x : Shp.den (.mview r sz) ρ) : hEa rows (.mview r sz) ρ x = (.mview r (hAa rows r) x.1 x.2.1 sz, x.2.2) := rfl
theorem gMb (m : Nat) (x : Shp.den (.mapr m) ρ) : hEa rows (.mapr m) ρ x = (.mapr m, x) := rfl
theorem jQb (cs : List Shp) (x : Shp.den (.agg cs) ρ) : hEa rows (.agg cs) ρ x = (.agg (hEa.encSs rows cs _ x).1, (hEa.encSs rows cs _ x).2) := rfl
theorem dTb (cs : List Shp) (x : Shp.den (.tuple cs) ρ) : hEa rows (.tuple cs) ρ x = (.tuple (hEa.encSs rows cs _ x).1, (hEa.encSs rows cs _ x).2) := rfl
theorem gKb (b o : Nat) (x : Shp.den (.bptr b o) ρ) : hEa rows (.bptr b o) ρ x = (.bptr b o, x) := rfl
theorem gOb (r sz o : Nat) (x : Shp.den (.rptr r sz o) ρ) : hEa rows (.rptr r sz o) ρ x = (.rptr r (hAa rows r) x.1 sz o, x.2) := rfl
theorem gLb (f : FuncId) (fst caps : List Shp) (x : Shp.den (.func f fst caps) ρ) : hEa rows (.func f fst caps) ρ x = (.func (.func f) (hEa.encSs rows fst _ x).1 (hEa.encSs rows caps _ (hEa.encSs rows fst _ x).2).1, (hEa.encSs rows caps _ (hEa.encSs rows fst _ x).2).2) := rfl
theorem dUb (l : Nat) (x : Shp.den (.yield l) ρ) : hEa rows (.yield l) ρ x = (.func (.yield l) [] [], x) := rfl
theorem oCb (x : dens [] ρ) : hEa.encSs rows [] ρ x = ([], x) := rfl
theorem dVb (s : Shp) (ss : List Shp) (x : dens (s :: ss) ρ) : hEa.encSs rows (s :: ss) ρ x = ((hEa rows s _ x).1 :: (hEa.encSs rows ss _ (hEa rows s _ x).2).1, (hEa.encSs rows ss _ (hEa rows s _ x).2).2) := rfl
end
def zWa (P : Program) (s : fCa) (vs : List KV) (σ : KSt) : Option (Ck × s.den) :=
 match qKa.decSs σ.rows s.slots Unit vs () with
 | some (c1, x1) => (match mFa P σ.rows s.loops _ σ.loops x1 with
  | some (c2, x2) => (match mEa σ.rows s.boxes _ σ.boxes x2 with
   | some (c3, x3) => (match qIa s.maps _ σ.maps x3 with
    | some x4 => (match qJa s.rows _ σ.rows x4 with
     | some x5 => some (.and c1 (.and c2 c3), x5)
     | none => none)
    | none => none)
   | none => none)
  | none => none)
 | none => none
def okS (P : Program) (s : fCa) : Bool := s.loops.all fun l => Nat.beq ((aFa (aWa P l.fn)).filter fun a => aCa a.2.1 == some l.key).length 1
noncomputable def shut {α : Type} (x : α) : { y : α // y = x } := Classical.choice ⟨⟨x, rfl⟩⟩
noncomputable def jTa {α : Type} (x : α) : α := (shut x).1
theorem jUa {α : Type} (x : α) : jTa x = x := (shut x).2
noncomputable def got {α : Type} (d : α) (o : Option α) : α := jTa (o.getD d)
theorem pIb {α : Type} (d x : α) : got d (some x) = x := jUa _
structure sQa where
 ex : Ex
 s : fCa
@[reducible] def denO : List sQa → Type
 | [] => Empty
 | [o] => o.s.den
 | o :: o' :: os => o.s.den ⊕ denO (o' :: os)
def pDa (P : Program) : (os : List sQa) → denO os → Ex × List KV × KSt
 | [], e => nomatch e
 | [o], x => lUa P o.s x fun vs σ => (o.ex, vs, σ)
 | o :: o' :: os, x => match x with
  | .inl y => lUa P o.s y fun vs σ => (o.ex, vs, σ)
  | .inr y => pDa P (o' :: os) y
def oXb (P : Program) : (os : List sQa) → Sm → {γ : Type} → denO os → (Ex → List KV → KSt → Option γ) → Option γ
 | [], _, _, e, _ => nomatch e
 | [o], _, _, x, k => lUa P o.s x fun vs σ => k o.ex vs σ
 | o :: o' :: os, sm, _, x, k => sm x (fun y => lUa P o.s y fun vs σ => k o.ex vs σ) (fun y => oXb P (o' :: os) sm y k)
def tOa (P : Program) : (os : List sQa) → Ex → List KV → KSt → Option (Ck × denO os)
 | [], _, _, _ => none
 | [o], ex, vs, σ => (match decide (o.ex = ex) with
  | true => zWa P o.s vs σ
  | false => none)
 | o :: o' :: os, ex, vs, σ => match decide (o.ex = ex), zWa P o.s vs σ with
  | true, some (c, x) => some (c, .inl x)
  | _, _ => (match tOa P (o' :: os) ex vs σ with
   | some (c, x) => some (c, .inr x)
   | none => none)
section
variable (P : Program) (Θ : Th) (S : Cs)
@[reducible] def retS (v : Shp) (rows : List sUa) : fCa := { rows, slots := [v] }
@[reducible] def argS (as : List Shp) : fCa := { slots := as }
def fnT (f : FuncId) (as : List Shp) (v : Shp) (rows : List sUa) (x : dens as Unit) : Option (retS v rows).den :=
 match hEa.encSs [] as _ x with
 | (vs, _) => pKb P Θ S 1000 (.call f vs) fun r => match zWa P (retS v rows) [r.v] r.σ with
  | some (c, y) => chk S c (some y)
  | none => none
def nHa (f : FuncId) (key : Nat) (h : fCa) (os : List sQa) (x : h.den) : Option (h.den ⊕ denO os) :=
 lUa P h x fun vs σ => pKb P Θ S 1000 (.code (eZa P f (some key)) ⟨f, aOa (Θ.keep f (some key)) (ntm P f) vs⟩ σ) fun r =>
  match Nat.beq r.env.t.length (ntm P f), r.v with
  | true, .undef => (match r.ex with
   | .normal => (match zWa P h (cGa (Θ.keep f (some key)) r.env.t) (kUa σ.sz (fIa Θ (some key) ⟨f, r.env.t⟩).t r.σ) with
    | some (c, y) => chk S c (some (.inl y))
    | none => (match tOa P os .normal (cGa (Θ.keep f (some key)) r.env.t) (kUa σ.sz (fIa Θ (some key) ⟨f, r.env.t⟩).t r.σ) with
     | some (c, y) => chk S c (some (.inr y))
     | none => none))
   | ex => (match tOa P os ex (cGa (Θ.keep f (some key)) r.env.t) r.σ with
    | some (c, y) => chk S c (some (.inr y))
    | none => none))
  | _, _ => none
end
def lMa {α β : Type} (step : α → Option (α ⊕ β)) : Nat → α → Option β
 | 0, _ => none
 | n + 1, x => (step x).bind (Sum.elim (lMa step n) some)
open Classical in
noncomputable def pBa {α β : Type} (step : α → Option (α ⊕ β)) (x : α) : Option β :=
 if h : ∃ n, (lMa step n x).isSome then lMa step (Classical.choose h) x else none
def btF (P : Program) (old : Option (List KV → Option pOb)) (as : List Shp) (v : Shp) (rows : List sUa) (F : dens as Unit → Option (retS v rows).den) (args : List KV) : Option pOb :=
 match qKa.decSs [] as Unit args () with
 | some (c, x) => some ⟨(retS v rows).den, c, F x, fun y => lUa P (retS v rows) y fun vs σ => (vs.headD .undef, σ.rows)⟩
 | none => match old with
  | some p => p args
  | none => none
def Cs.addF (P : Program) (S : Cs) (f : FuncId) (as : List Shp) (v : Shp) (rows : List sUa) (F : dens as Unit → Option (retS v rows).den) : Cs :=
 { S with bt := fun g => match Nat.beq g f with
  | true => some (btF P (S.bt f) as v rows F)
  | false => S.bt g }
def blF (P : Program) (old : Option (List KV → KSt → Option pSb)) (h : fCa) (os : List sQa) (L : h.den → Option (denO os)) (vs : List KV) (σ : KSt) : Option pSb :=
 match zWa P h vs σ with
 | some (c, x) => some ⟨denO os, c, L x, pDa P os, oXb P os⟩
 | none => match old with
  | some p => p vs σ
  | none => none
def qGb (key : Nat) : Option Nat → Bool
 | some j => Nat.beq j key
 | none => false
def Cs.addLT (P : Program) (S : Cs) (f : FuncId) (key : Nat) (h : fCa) (os : List sQa) (L : h.den → Option (denO os)) : Cs :=
 { S with bl := fun g j => match Nat.beq g f && qGb key j with
  | true => some (blF P (S.bl f (some key)) h os L)
  | false => S.bl g j }
end Go.Proofs.YtpeaaophmddhnaaGreat.LI
