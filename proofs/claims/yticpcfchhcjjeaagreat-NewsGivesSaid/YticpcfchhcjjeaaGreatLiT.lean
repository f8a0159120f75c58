/-
  Shapes: what is written out of a state, and Lean's own data for the rest. Definitions alone. No program is named here.
-/
import Derived.Test.YticpcfchhcjjeaaGreatLiKI
namespace Go.Proofs.YticpcfchhcjjeaaGreat.LI
open Go Go.RowKit
open KV (toL)
open KV.toL (toLs)

inductive Shp where
  | undef
  | nils
  | empt
  | ty (t : Ty)
  | st (v : Value)
  | mref (r : Nat)
  | mview (r sz : Nat)
  | mapr (m : Nat)
  | agg (cs : List Shp)
  | tuple (cs : List Shp)
  | bptr (b off : Nat)
  | rptr (r sz off : Nat)
  | func (f : FuncId) (fst caps : List Shp)
  | yield (l : Nat)
  deriving Inhabited
/-- The data of a shape, and what comes behind them. -/
@[reducible] def Shp.den : Shp → Type → Type
  | .undef, ρ => ρ
  | .nils, ρ => ρ
  | .empt, ρ => ρ
  | .ty t, ρ => t.den × ρ
  | .st _, ρ => ρ
  | .mref _, ρ => ρ
  | .mview _ _, ρ => Nat × Nat × ρ
  | .mapr _, ρ => ρ
  | .agg cs, ρ => dens cs ρ
  | .tuple cs, ρ => dens cs ρ
  | .bptr _ _, ρ => ρ
  | .rptr _ _ _, ρ => Nat × ρ
  | .func _ fst caps, ρ => dens fst (dens caps ρ)
  | .yield _, ρ => ρ
where
  @[reducible] dens : List Shp → Type → Type
  | [], ρ => ρ
  | s :: ss, ρ => den s (dens ss ρ)
abbrev dens := Shp.den.dens
def Shp.dfl : (s : Shp) → (ρ : Type) → ρ → s.den ρ
  | .undef, _, x => x
  | .nils, _, x => x
  | .empt, _, x => x
  | .ty t, _, x => (t.dfl, x)
  | .st _, _, x => x
  | .mref _, _, x => x
  | .mview _ _, _, x => (0, 0, x)
  | .mapr _, _, x => x
  | .agg cs, _, x => dfls cs _ x
  | .tuple cs, _, x => dfls cs _ x
  | .bptr _ _, _, x => x
  | .rptr _ _ _, _, x => (0, x)
  | .func _ fst caps, _, x => dfls fst _ (dfls caps _ x)
  | .yield _, _, x => x
where
  dfls : (ss : List Shp) → (ρ : Type) → ρ → dens ss ρ
  | [], _, x => x
  | s :: ss, _, x => dfl s _ (dfls ss _ x)
/-- How long a row is. -/
def rowLen (rows : List KRow) (r : Nat) : Nat := match rows[r]? with
  | some row => row.l.length
  | none => 0
def encS (rows : List KRow) : (s : Shp) → (ρ : Type) → s.den ρ → KV × ρ
  | .undef, _, x => (.undef, x)
  | .nils, _, x => (.nils, x)
  | .empt, _, x => (.lst .unit [], x)
  | .ty t, _, x => match x with
    | (d, y) => (encT t d, y)
  | .st v, _, x => (scK v, x)
  | .mref r, _, x => (.mref r (rowLen rows r), x)
  | .mview r sz, _, x => match x with
    | (a, b, y) => (.mview r (rowLen rows r) a b sz, y)
  | .mapr m, _, x => (.mapr m, x)
  | .agg cs, _, x => match encSs cs _ x with
    | (vs, y) => (.agg vs, y)
  | .tuple cs, _, x => match encSs cs _ x with
    | (vs, y) => (.tuple vs, y)
  | .bptr b o, _, x => (.bptr b o, x)
  | .rptr r sz o, _, x => match x with
    | (a, y) => (.rptr r (rowLen rows r) a sz o, y)
  | .func f fst caps, _, x => match encSs fst _ x with
    | (vs, y) => match encSs caps _ y with
      | (us, z) => (.func (.func f) vs us, z)
  | .yield l, _, x => (.func (.yield l) [] [], x)
where
  encSs : (ss : List Shp) → (ρ : Type) → dens ss ρ → List KV × ρ
  | [], _, x => ([], x)
  | s :: ss, _, x => match encS rows s _ x with
    | (v, y) => match encSs ss _ y with
      | (vs, z) => (v :: vs, z)
/-- The same value that is written out. -/
def sameSt : Value → Value → Bool
  | .bool a, .bool b => match a, b with
    | true, true => true
    | false, false => true
    | _, _ => false
  | .int k a, .int k' b => decide (k = k') && decide (a = b)
  | .string a, .string b => decide (a.data.toList = b.data.toList)
  | .pointer none, .pointer none => true
  | .nilFunc, .nilFunc => true
  | .nilIface, .nilIface => true
  | .map none, .map none => true
  | _, _ => false
def sameNil : Value → Value → Bool
  | .pointer none, .pointer none => true
  | .nilFunc, .nilFunc => true
  | .nilIface, .nilIface => true
  | .map none, .map none => true
  | _, _ => false
def decS (rows : List KRow) : (s : Shp) → (ρ : Type) → KV → ρ → Option (Ck × s.den ρ)
  | .undef, _, v, x => match v with
    | .undef => some (.ok, x)
    | _ => none
  | .nils, _, v, x => match v with
    | .nils => some (.ok, x)
    | _ => none
  | .empt, _, v, x => match v with
    | .lst .unit l => (match l with
      | [] => some (.ok, x)
      | _ => none)
    | _ => none
  | .ty t, _, v, x => match decV t v with
    | some (c, d) => some (c, (d, x))
    | none => none
  | .st u, _, v, x => match v with
    | .st w => (match sameSt u w with
      | true => some (.ok, x)
      | false => none)
    | .sc w => (match sameNil u w with
      | true => some (.ok, x)
      | false => none)
    | _ => none
  | .mref r, _, v, x => match v with
    | .mref r' n => (match Nat.beq r r' with
      | true => some (.is (decide (rowLen rows r = n)), x)
      | false => none)
    | _ => none
  | .mview r sz, _, v, x => match v with
    | .mview r' n lo hi sz' => (match Nat.beq r r' && Nat.beq sz sz' with
      | true => some (.is (decide (rowLen rows r = n)), (lo, hi, x))
      | false => none)
    | _ => none
  | .mapr m, _, v, x => match v with
    | .mapr m' => (match Nat.beq m m' with
      | true => some (.ok, x)
      | false => none)
    | _ => none
  | .agg cs, _, v, x => match v with
    | .agg vs => decSs cs _ vs x
    | _ => none
  | .tuple cs, _, v, x => match v with
    | .tuple vs => decSs cs _ vs x
    | _ => none
  | .bptr b o, _, v, x => match v with
    | .bptr b' o' => (match Nat.beq b b' && Nat.beq o o' with
      | true => some (.ok, x)
      | false => none)
    | _ => none
  | .rptr r sz o, _, v, x => match v with
    | .rptr r' n i sz' o' => (match Nat.beq r r' && (Nat.beq sz sz' && Nat.beq o o') with
      | true => some (.is (decide (rowLen rows r = n)), (i, x))
      | false => none)
    | _ => none
  | .func f fst caps, _, v, x => match v with
    | .func (.func f') as bs => (match Nat.beq f f' with
      | true => (match decSs caps _ bs x with
        | some (c, y) => (match decSs fst _ as y with
          | some (c', z) => some (.and c c', z)
          | none => none)
        | none => none)
      | false => none)
    | _ => none
  | .yield l, _, v, x => match v with
    | .func (.yield l') [] [] => (match Nat.beq l l' with
      | true => some (.ok, x)
      | false => none)
    | _ => none
where
  decSs : (ss : List Shp) → (ρ : Type) → List KV → ρ → Option (Ck × dens ss ρ)
  | [], _, vs, x => match vs with
    | [] => some (.ok, x)
    | _ => none
  | s :: ss, _, vs, x => match vs with
    | v :: vs => (match decSs ss _ vs x with
      | some (c, y) => (match decS rows s _ v y with
        | some (c', z) => some (.and c' c, z)
        | none => none)
      | none => none)
    | [] => none

/-! ### stores -/
structure RShp where
  t : Ty
  e : TypeId
  sz : Nat
  wr : Bool := true
structure LShp where
  fn : FuncId
  key : Nat
  env : List Shp
  pend : Ex := .normal
  state : LoopState := .ready
@[reducible] def rowsDen : List RShp → Type → Type
  | [], ρ => ρ
  | r :: rs, ρ => List r.t.den × rowsDen rs ρ
@[reducible] def mapsDen : List (Ty × Ty) → Type → Type
  | [], ρ => ρ
  | m :: ms, ρ => List (m.1.den × m.2.den) × mapsDen ms ρ
@[reducible] def boxesDen : List (List Shp) → Type → Type
  | [], ρ => ρ
  | b :: bs, ρ => dens b (boxesDen bs ρ)
@[reducible] def loopsDen : List LShp → Type → Type
  | [], ρ => ρ
  | l :: ls, ρ => dens l.env (loopsDen ls ρ)
def rowsDfl : (rs : List RShp) → (ρ : Type) → ρ → rowsDen rs ρ
  | [], _, x => x
  | _ :: rs, _, x => ([], rowsDfl rs _ x)
def mapsDfl : (ms : List (Ty × Ty)) → (ρ : Type) → ρ → mapsDen ms ρ
  | [], _, x => x
  | _ :: ms, _, x => ([], mapsDfl ms _ x)
def boxesDfl : (bs : List (List Shp)) → (ρ : Type) → ρ → boxesDen bs ρ
  | [], _, x => x
  | b :: bs, _, x => Shp.dfl.dfls b _ (boxesDfl bs _ x)
def loopsDfl : (ls : List LShp) → (ρ : Type) → ρ → loopsDen ls ρ
  | [], _, x => x
  | l :: ls, _, x => Shp.dfl.dfls l.env _ (loopsDfl ls _ x)
def encRows : (rs : List RShp) → (ρ : Type) → rowsDen rs ρ → List KRow × ρ
  | [], _, x => ([], x)
  | r :: rs, _, x => match x with
    | (l, y) => match encRows rs _ y with
      | (ks, z) => (⟨r.t, l, r.e, r.sz, r.wr⟩ :: ks, z)
def encMaps : (ms : List (Ty × Ty)) → (ρ : Type) → mapsDen ms ρ → List KMap × ρ
  | [], _, x => ([], x)
  | m :: ms, _, x => match x with
    | (l, y) => match encMaps ms _ y with
      | (ks, z) => (⟨m.1, m.2, l⟩ :: ks, z)
def encBoxes (rows : List KRow) : (bs : List (List Shp)) → (ρ : Type) → boxesDen bs ρ → List (List KV) × ρ
  | [], _, x => ([], x)
  | b :: bs, _, x => match encS.encSs rows b _ x with
    | (v, y) => match encBoxes rows bs _ y with
      | (vs, z) => (v :: vs, z)
def padK (l : List KV) (n : Nat) : List KV := l ++ List.replicate (n - l.length) .undef
def encLoop (P : Program) (l : LShp) (vs : List KV) : KLoop :=
  ⟨⟨l.fn, padK vs (ntm P l.fn)⟩, (theRange P l.fn (some l.key)).1, (theRange P l.fn (some l.key)).2.1, (theRange P l.fn (some l.key)).2.2, l.pend.code, l.state⟩
def encLoops (P : Program) (rows : List KRow) : (ls : List LShp) → (ρ : Type) → loopsDen ls ρ → List KLoop × ρ
  | [], _, x => ([], x)
  | l :: ls, _, x => match encS.encSs rows l.env _ x with
    | (v, y) => match encLoops P rows ls _ y with
      | (vs, z) => (encLoop P l v :: vs, z)
def decRows : (rs : List RShp) → (ρ : Type) → List KRow → ρ → Option (rowsDen rs ρ)
  | [], _, ks, x => match ks with
    | [] => some x
    | _ => none
  | r :: rs, _, ks, x => match ks with
    | k :: ks => (match Nat.beq k.e r.e && (Nat.beq k.sz r.sz && (k.wr == r.wr)) with
      | true => (match castL k.t r.t k.l, decRows rs _ ks x with
        | some l, some y => some (l, y)
        | _, _ => none)
      | false => none)
    | [] => none
def castM (a b c d : Ty) (l : List (a.den × b.den)) : Option (List (c.den × d.den)) := if h : a = c ∧ b = d then some (h.1 ▸ h.2 ▸ l) else none
def decMaps : (ms : List (Ty × Ty)) → (ρ : Type) → List KMap → ρ → Option (mapsDen ms ρ)
  | [], _, ks, x => match ks with
    | [] => some x
    | _ => none
  | m :: ms, _, ks, x => match ks with
    | k :: ks => (match castM k.kt k.vt m.1 m.2 k.l, decMaps ms _ ks x with
      | some l, some y => some (l, y)
      | _, _ => none)
    | [] => none
def decBoxes (rows : List KRow) : (bs : List (List Shp)) → (ρ : Type) → List (List KV) → ρ → Option (Ck × boxesDen bs ρ)
  | [], _, ks, x => match ks with
    | [] => some (.ok, x)
    | _ => none
  | b :: bs, _, ks, x => match ks with
    | k :: ks => (match decBoxes rows bs _ ks x with
      | some (c, y) => (match decS.decSs rows b _ k y with
        | some (c', z) => some (.and c' c, z)
        | none => none)
      | none => none)
    | [] => none
/-- Blanks behind are blanks. -/
def unpad : Nat → List KV → Option (List KV)
  | 0, vs => (match vs.all fun v => (match v with | .undef => true | _ => false) with
    | true => some []
    | false => none)
  | n + 1, v :: vs => match unpad n vs with
    | some us => some (v :: us)
    | none => none
  | _ + 1, [] => none
def samePend : Ex → Option Code → Bool
  | .normal, none => true
  | .ret, some .ret => true
  | .exit i, some (.exit j) => Nat.beq i j
  | .goto i, some (.goto j) => Nat.beq i j
  | _, _ => false
def decLoops (P : Program) (rows : List KRow) : (ls : List LShp) → (ρ : Type) → List KLoop → ρ → Option (Ck × loopsDen ls ρ)
  | [], _, ks, x => match ks with
    | [] => some (.ok, x)
    | _ => none
  | l :: ls, _, ks, x => match ks with
    | k :: ks => (match Nat.beq k.env.fn l.fn && ((loopKey k.assign == some l.key) && (Nat.beq k.env.t.length (ntm P l.fn) && (samePend l.pend k.pending && decide (k.state = l.state)))) with
      | true => (match decLoops P rows ls _ ks x with
        | some (c, y) => (match unpad l.env.length k.env.t with
          | some vs => (match decS.decSs rows l.env _ vs y with
            | some (c', z) => some (.and c' c, z)
            | none => none)
          | none => none)
        | none => none)
      | false => none)
    | [] => none

/-! ### states -/
structure StShp where
  rows : List RShp := []
  maps : List (Ty × Ty) := []
  boxes : List (List Shp) := []
  loops : List LShp := []
  slots : List Shp := []
@[reducible] def StShp.den (s : StShp) : Type := rowsDen s.rows (mapsDen s.maps (boxesDen s.boxes (loopsDen s.loops (dens s.slots Unit))))
def StShp.dfl (s : StShp) : s.den := rowsDfl s.rows _ (mapsDfl s.maps _ (boxesDfl s.boxes _ (loopsDfl s.loops _ (Shp.dfl.dfls s.slots _ ()))))
def encStore (P : Program) (s : StShp) (x : s.den) : KSt × dens s.slots Unit :=
  match encRows s.rows _ x with
  | (rows, x1) => match encMaps s.maps _ x1 with
    | (maps, x2) => match encBoxes rows s.boxes _ x2 with
      | (boxes, x3) => match encLoops P rows s.loops _ x3 with
        | (loops, x4) => (⟨boxes, rows, loops, maps⟩, x4)
def encSlots (P : Program) (s : StShp) (x : s.den) : List KV := match encStore P s x with
  | (σ, y) => (encS.encSs σ.rows s.slots _ y).1
/-- The same, worked out once. -/
def withEnc {β : Type} (P : Program) (s : StShp) (x : s.den) (k : List KV → KSt → β) : β :=
  match encStore P s x with
  | (σ, y) => match encS.encSs σ.rows s.slots _ y with
    | (vs, _) => k vs σ
theorem withEnc_eq {β : Type} (P : Program) (s : StShp) (x : s.den) (k : List KV → KSt → β) : withEnc P s x k = k (encSlots P s x) (encStore P s x).1 := rfl
section
variable (rows : List KRow) {ρ : Type}
theorem encS_undef (x : Shp.den .undef ρ) : encS rows .undef ρ x = (.undef, x) := rfl
theorem encS_nils (x : Shp.den .nils ρ) : encS rows .nils ρ x = (.nils, x) := rfl
theorem encS_empt (x : Shp.den .empt ρ) : encS rows .empt ρ x = (.lst .unit [], x) := rfl
theorem encS_ty (t : Ty) (x : Shp.den (.ty t) ρ) : encS rows (.ty t) ρ x = (encT t x.1, x.2) := rfl
theorem encS_st (v : Value) (x : Shp.den (.st v) ρ) : encS rows (.st v) ρ x = (scK v, x) := rfl
theorem encS_mref (r : Nat) (x : Shp.den (.mref r) ρ) : encS rows (.mref r) ρ x = (.mref r (rowLen rows r), x) := rfl
theorem encS_mview (r sz : Nat) (x : Shp.den (.mview r sz) ρ) : encS rows (.mview r sz) ρ x = (.mview r (rowLen rows r) x.1 x.2.1 sz, x.2.2) := rfl
theorem encS_mapr (m : Nat) (x : Shp.den (.mapr m) ρ) : encS rows (.mapr m) ρ x = (.mapr m, x) := rfl
theorem encS_agg (cs : List Shp) (x : Shp.den (.agg cs) ρ) : encS rows (.agg cs) ρ x = (.agg (encS.encSs rows cs _ x).1, (encS.encSs rows cs _ x).2) := rfl
theorem encS_tuple (cs : List Shp) (x : Shp.den (.tuple cs) ρ) : encS rows (.tuple cs) ρ x = (.tuple (encS.encSs rows cs _ x).1, (encS.encSs rows cs _ x).2) := rfl
theorem encS_bptr (b o : Nat) (x : Shp.den (.bptr b o) ρ) : encS rows (.bptr b o) ρ x = (.bptr b o, x) := rfl
theorem encS_rptr (r sz o : Nat) (x : Shp.den (.rptr r sz o) ρ) : encS rows (.rptr r sz o) ρ x = (.rptr r (rowLen rows r) x.1 sz o, x.2) := rfl
theorem encS_func (f : FuncId) (fst caps : List Shp) (x : Shp.den (.func f fst caps) ρ) : encS rows (.func f fst caps) ρ x = (.func (.func f) (encS.encSs rows fst _ x).1 (encS.encSs rows caps _ (encS.encSs rows fst _ x).2).1, (encS.encSs rows caps _ (encS.encSs rows fst _ x).2).2) := rfl
theorem encS_yield (l : Nat) (x : Shp.den (.yield l) ρ) : encS rows (.yield l) ρ x = (.func (.yield l) [] [], x) := rfl
theorem encSs_nil (x : dens [] ρ) : encS.encSs rows [] ρ x = ([], x) := rfl
theorem encSs_cons (s : Shp) (ss : List Shp) (x : dens (s :: ss) ρ) : encS.encSs rows (s :: ss) ρ x = ((encS rows s _ x).1 :: (encS.encSs rows ss _ (encS rows s _ x).2).1, (encS.encSs rows ss _ (encS rows s _ x).2).2) := rfl
end
def decSt (P : Program) (s : StShp) (vs : List KV) (σ : KSt) : Option (Ck × s.den) :=
  match decS.decSs σ.rows s.slots Unit vs () with
  | some (c1, x1) => (match decLoops P σ.rows s.loops _ σ.loops x1 with
    | some (c2, x2) => (match decBoxes σ.rows s.boxes _ σ.boxes x2 with
      | some (c3, x3) => (match decMaps s.maps _ σ.maps x3 with
        | some x4 => (match decRows s.rows _ σ.rows x4 with
          | some x5 => some (.and c1 (.and c2 c3), x5)
          | none => none)
        | none => none)
      | none => none)
    | none => none)
  | none => none
/-- The ranges that a shape names are there, once each. -/
def okS (P : Program) (s : StShp) : Bool := s.loops.all fun l => Nat.beq ((rangesOf (bodyOf P l.fn)).filter fun a => loopKey a.2.1 == some l.key).length 1

/-- A name that is not unfolded. -/
noncomputable def shut {α : Type} (x : α) : { y : α // y = x } := Classical.choice ⟨⟨x, rfl⟩⟩
noncomputable def sealed {α : Type} (x : α) : α := (shut x).1
theorem sealed_eq {α : Type} (x : α) : sealed x = x := (shut x).2
/-- What there is. -/
noncomputable def got {α : Type} (d : α) (o : Option α) : α := sealed (o.getD d)
theorem got_some {α : Type} (d x : α) : got d (some x) = x := sealed_eq _
/-! ### ways out -/
structure OShp where
  ex : Ex
  s : StShp
@[reducible] def denO : List OShp → Type
  | [] => Empty
  | [o] => o.s.den
  | o :: o' :: os => o.s.den ⊕ denO (o' :: os)
/-- Which way out is taken, and with what. -/
def pickE (P : Program) : (os : List OShp) → denO os → Ex × List KV × KSt
  | [], e => nomatch e
  | [o], x => withEnc P o.s x fun vs σ => (o.ex, vs, σ)
  | o :: o' :: os, x => match x with
    | .inl y => withEnc P o.s y fun vs σ => (o.ex, vs, σ)
    | .inr y => pickE P (o' :: os) y
def outE (P : Program) : (os : List OShp) → Sm → {γ : Type} → denO os → (Ex → List KV → KSt → Option γ) → Option γ
  | [], _, _, e, _ => nomatch e
  | [o], _, _, x, k => withEnc P o.s x fun vs σ => k o.ex vs σ
  | o :: o' :: os, sm, _, x, k => sm x (fun y => withEnc P o.s y fun vs σ => k o.ex vs σ) (fun y => outE P (o' :: os) sm y k)
def decOut (P : Program) : (os : List OShp) → Ex → List KV → KSt → Option (Ck × denO os)
  | [], _, _, _ => none
  | [o], ex, vs, σ => (match decide (o.ex = ex) with
    | true => decSt P o.s vs σ
    | false => none)
  | o :: o' :: os, ex, vs, σ => match decide (o.ex = ex), decSt P o.s vs σ with
    | true, some (c, x) => some (c, .inl x)
    | _, _ => (match decOut P (o' :: os) ex vs σ with
      | some (c, x) => some (c, .inr x)
      | none => none)

/-! ### functions and loops over Lean's own data -/
section
variable (P : Program) (Θ : Th) (S : Cs)
@[reducible] def retS (v : Shp) (rows : List RShp) : StShp := { rows, slots := [v] }
@[reducible] def argS (as : List Shp) : StShp := { slots := as }
/-- A function: arguments' shapes, the answer's. -/
def fnT (f : FuncId) (as : List Shp) (v : Shp) (rows : List RShp) (x : dens as Unit) : Option (retS v rows).den :=
  match encS.encSs [] as _ x with
  | (vs, _) => runK P Θ S 1000 (.call f vs) fun r => match decSt P (retS v rows) [r.v] r.σ with
    | some (c, y) => chk S c (some y)
    | none => none
/-- A round of a loop: from where it goes on, or how it ends. -/
def stepLT (f : FuncId) (key : Nat) (h : StShp) (os : List OShp) (x : h.den) : Option (h.den ⊕ denO os) :=
  withEnc P h x fun vs σ => runK P Θ S 1000 (.code (theLoop P f (some key)) ⟨f, expand (Θ.keep f (some key)) (ntm P f) vs⟩ σ) fun r =>
    match Nat.beq r.env.t.length (ntm P f), r.v with
    | true, .undef => (match r.ex with
      | .normal => (match decSt P h (compress (Θ.keep f (some key)) r.env.t) (trimK σ.sz (tidyK Θ (some key) ⟨f, r.env.t⟩).t r.σ) with
        | some (c, y) => chk S c (some (.inl y))
        | none => (match decOut P os .normal (compress (Θ.keep f (some key)) r.env.t) (trimK σ.sz (tidyK Θ (some key) ⟨f, r.env.t⟩).t r.σ) with
          | some (c, y) => chk S c (some (.inr y))
          | none => none))
      | ex => (match decOut P os ex (compress (Θ.keep f (some key)) r.env.t) r.σ with
        | some (c, y) => chk S c (some (.inr y))
        | none => none))
    | _, _ => none
end
/-- What a loop comes to. -/
def iterN {α β : Type} (step : α → Option (α ⊕ β)) : Nat → α → Option β
  | 0, _ => none
  | n + 1, x => (step x).bind (Sum.elim (iterN step n) some)
open Classical in
noncomputable def iterW {α β : Type} (step : α → Option (α ⊕ β)) (x : α) : Option β :=
  if h : ∃ n, (iterN step n x).isSome then iterN step (Classical.choose h) x else none
/-- Contracts. -/
def btF (P : Program) (old : Option (List KV → Option CBnd)) (as : List Shp) (v : Shp) (rows : List RShp) (F : dens as Unit → Option (retS v rows).den) (args : List KV) : Option CBnd :=
  match decS.decSs [] as Unit args () with
  | some (c, x) => some ⟨(retS v rows).den, c, F x, fun y => withEnc P (retS v rows) y fun vs σ => (vs.headD .undef, σ.rows)⟩
  | none => match old with
    | some p => p args
    | none => none
def Cs.addF (P : Program) (S : Cs) (f : FuncId) (as : List Shp) (v : Shp) (rows : List RShp) (F : dens as Unit → Option (retS v rows).den) : Cs :=
  { S with bt := fun g => match Nat.beq g f with
    | true => some (btF P (S.bt f) as v rows F)
    | false => S.bt g }
def blF (P : Program) (old : Option (List KV → KSt → Option LBnd)) (h : StShp) (os : List OShp) (L : h.den → Option (denO os)) (vs : List KV) (σ : KSt) : Option LBnd :=
  match decSt P h vs σ with
  | some (c, x) => some ⟨denO os, c, L x, pickE P os, outE P os⟩
  | none => match old with
    | some p => p vs σ
    | none => none
def isKey (key : Nat) : Option Nat → Bool
  | some j => Nat.beq j key
  | none => false
def Cs.addLT (P : Program) (S : Cs) (f : FuncId) (key : Nat) (h : StShp) (os : List OShp) (L : h.den → Option (denO os)) : Cs :=
  { S with bl := fun g j => match Nat.beq g f && isKey key j with
    | true => some (blF P (S.bl f (some key)) h os L)
    | false => S.bl g j }
end Go.Proofs.YticpcfchhcjjeaaGreat.LI
