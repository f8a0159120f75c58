/-
  The interpreter with letters in it, what follows being handed on: definitions. No program is named here.
-/
import Derived.Test.YtecokfbldjekiaaLiKE
namespace Go.Proofs.Ytecokfbldjekiaa.LI
open Go Go.RowKit
open KV (toL)
open KV.toL (toLs)

/-- A value whose shape is worked out before it is handed on. -/
def forceK {β : Type} (v : KV) (k : KV → β) : β :=
  match v with
  | .undef => k .undef
  | .sc (.bool b) => k (.sc (.bool b))
  | .sc (.int i n) => k (.sc (.int i n))
  | .sc (.string s) => k (.sc (.string s))
  | .sc v => k (.sc v)
  | .st (.bool b) => (match b with
    | true => k (.st (.bool true))
    | false => k (.st (.bool false)))
  | .st (.int i n) => k (.st (.int i n))
  | .st (.string s) => k (.st (.string s))
  | .st v => k (.st v)
  | .nils => k .nils
  | .lst t b l => k (.lst t b l)
  | .mref r n => k (.mref r n)
  | .agg cs => k (.agg cs)
  | .tuple vs => k (.tuple vs)
  | .bptr b o => k (.bptr b o)
  | .pptr cs => k (.pptr cs)
  | .rptr r n i sz o => k (.rptr r n i sz o)
  | .func fn fst caps => k (.func fn fst caps)
theorem forceK_eq {β : Type} (v : KV) (k : KV → β) : forceK v k = k v := by
  unfold forceK
  split <;> first | rfl | (split <;> rfl)

/-! ### loops, and what is kept around them -/
def loopsOf : Code → List Code
  | .seq a b => loopsOf a ++ loopsOf b
  | .cond _ a b => loopsOf a ++ loopsOf b
  | .block _ a => loopsOf a
  | .loop a => a :: loopsOf a
  | .rangeFunc _ _ a b => loopsOf a ++ loopsOf b
  | _ => []
/-- The ranges over functions: slots, what is assigned, the body. -/
def rangesOf : Code → List (List Tmp × Code × Code)
  | .seq a b => rangesOf a ++ rangesOf b
  | .cond _ a b => rangesOf a ++ rangesOf b
  | .block _ a => rangesOf a
  | .loop a => rangesOf a
  | .rangeFunc _ ps a b => (ps.toList, a, b) :: (rangesOf a ++ rangesOf b)
  | _ => []
/-- The first region's number. -/
def loopKey : Code → Option Nat
  | .region id _ _ => some id
  | .seq a b => match loopKey a with
    | some n => some n
    | none => loopKey b
  | .cond _ a b => match loopKey a with
    | some n => some n
    | none => loopKey b
  | .block _ a => loopKey a
  | .loop a => loopKey a
  | _ => none
def bodyOf (P : Program) (f : FuncId) : Code := match P.funcs[f]? with
  | some fn => (match fn.body with | some c => c | none => .skip)
  | none => .skip
def ntm (P : Program) (f : FuncId) : Nat := match P.funcs[f]? with
  | some fn => fn.ntmps
  | none => 0
/-- The slots that are kept. -/
def compress {β : Type} : List Bool → List β → List β
  | true :: m, v :: t => v :: compress m t
  | false :: m, _ :: t => compress m t
  | _, _ => []
def expand : List Bool → Nat → List KV → List KV
  | _, 0, _ => []
  | true :: m, n + 1, v :: vs => v :: expand m n vs
  | true :: m, n + 1, [] => .undef :: expand m n []
  | false :: m, n + 1, vs => .undef :: expand m n vs
  | [], n + 1, vs => .undef :: expand [] n vs

/-! ### the store behind calls -/
def belowK (nb nr nl : Nat) : KV → Bool
  | .undef => true
  | .sc _ => true
  | .st _ => true
  | .nils => true
  | .lst _ _ _ => true
  | .mref r _ => decide (r < nr)
  | .agg cs => belowKL nb nr nl cs
  | .tuple vs => belowKL nb nr nl vs
  | .bptr b _ => decide (b < nb)
  | .pptr cs => belowKL nb nr nl cs
  | .rptr r _ _ _ _ => decide (r < nr)
  | .func fn fst caps => (match fn with | .yield l => decide (l < nl) | _ => true) && belowKL nb nr nl fst && belowKL nb nr nl caps
where
  belowKL (nb nr nl : Nat) : List KV → Bool
  | [] => true
  | v :: vs => belowK nb nr nl v && belowKL nb nr nl vs
def KSt.sz (σ : KSt) : Sz := ⟨σ.boxes.length, σ.rows.length, σ.loops.length⟩
def trimOkK (n : Sz) (vs : List KV) (σ : KSt) : Bool :=
  belowK.belowKL n.nb n.nr n.nl vs && (σ.boxes.take n.nb).all (belowK.belowKL n.nb n.nr n.nl) && (σ.loops.take n.nl).all (fun l => belowK.belowKL n.nb n.nr n.nl l.env.t)
def trimK (n : Sz) (vs : List KV) (σ : KSt) : KSt :=
  if σ.boxes.length = n.nb ∧ σ.rows.length = n.nr ∧ σ.loops.length = n.nl then σ
  else if trimOkK n vs σ then { boxes := σ.boxes.take n.nb, rows := σ.rows.take n.nr, loops := σ.loops.take n.nl } else σ
def setStateK (σ : KSt) (l : Nat) (f : KLoop → KLoop) : KSt := { σ with loops := match σ.loops[l]? with | some r => σ.loops.set l (f r) | none => σ.loops }
def isReadyK (σ : KSt) (l : Nat) : Bool := match σ.loops[l]? with | some r => decide (r.state = .ready) | none => false
def endK (σ : KSt) (e : KEnv) (τ : KSt) : KSt := trimK σ.sz e.t (setStateK τ σ.loops.length fun q => { q with state := .exhausted })
def maskK : List Bool → List KV → List KV
  | true :: m, v :: t => v :: maskK m t
  | false :: m, _ :: t => .undef :: maskK m t
  | [], _ :: t => .undef :: maskK [] t
  | _, [] => []
def tidyK (Θ : Th) (e : KEnv) : KEnv := { e with t := maskK (Θ.keep e.fn) e.t }

def resOneK (P : Program) (e : KEnv) (σ : KSt) : ResultVar → Option KV
  | .tmp t => some (e.t.getD t .undef)
  | .cell a t => match e.t.getD a .undef with
    | .bptr b 0 => match σ.boxes[b]? with
      | some cs => readK P t cs
      | none => none
    | _ => none
def resAllK (P : Program) (e : KEnv) (σ : KSt) : List ResultVar → Option (List KV)
  | [] => some []
  | r :: rs => match resOneK P e σ r, resAllK P e σ rs with
    | some v, some vs => some (v :: vs)
    | _, _ => none
def resultK (P : Program) (fn : Func) (e : KEnv) (σ : KSt) : Option KV :=
  match fn.results.toList with
  | [] => some (.tuple [])
  | [r] => resOneK P e σ r
  | rs => match resAllK P e σ rs with
    | some vs => some (.tuple vs)
    | none => none
def isFnK (Θ : Th) : KV → Bool
  | .func (.func f) _ _ => Θ.ent f
  | _ => false
def looksK (Θ : Th) (o : Oper) (e : KEnv) : Bool :=
  match callV o with
  | some (f, args) => match e.ev f with
    | .func (.func f) fst caps => Θ.ent f && Θ.pureF f && (rowsK.rowsKL (fst ++ args.toList.map e.ev ++ caps)).isEmpty
    | _ => false
  | none => match o.op with
    | .slice _ x _ _ _ => (rowsK (e.ev x)).isEmpty
    | .buildSlice _ _ parts => (rowsK.rowsKL (parts.toList.map fun p => e.ev p.2)).isEmpty
    | _ => true
def fineK (Θ : Th) (strict : Bool) (o : Oper) (e : KEnv) : Bool := !strict || ((opClass o == 0 || Nat.ble 2 (opClass o)) || looksK Θ o e)

/-! ### contracts -/
abbrev CallK := FuncId → Option (List KV → Option (Ck × KV))
/-- How a loop ends: one way, or one of two. -/
inductive Out where
  | one (ex : Ex) (vs : List KV) (σ : KSt)
  | two (b : Bool) (x y : Out)
def Out.pick : Out → Ex × List KV × KSt
  | .one ex vs σ => (ex, vs, σ)
  | .two b x y => bif b then x.pick else y.pick
abbrev LoopK := FuncId → Option Nat → Option (List KV → KSt → Option (Ck × Out))
abbrev Fk := ∀ {α : Type}, Bool → Option α → Option α → Option α
def condF {α : Type} (c : Bool) (x y : Option α) : Option α := bif c then x else y
theorem condF_true {α : Type} (x y : Option α) : condF true x y = x := rfl
theorem condF_false {α : Type} (x y : Option α) : condF false x y = y := rfl
structure Cs where
  fk : Fk
  T : TypeId → Option Ty
  ct : CallK
  xt : CallK
  lt : LoopK

def chk (S : Cs) {α : Type} : Ck → Option α → Option α
  | .ok, x => x
  | .is b, x => S.fk b x none
  | .and a b, x => chk S a (chk S b x)
/-- A fork is a fork. -/
class FkOK (S : Cs) : Prop where
  eq : ∀ {α : Type} (c : Bool) (x y : Option α), S.fk c x y = bif c then x else y

section
variable (P : Program) (Θ : Th) (S : Cs) {α : Type}
abbrev Rec (α : Type) := KTask → (KRes → Option α) → Option α

def doK (rec : Rec α) (strict : Bool) (o : Oper) (e : KEnv) (σ : KSt) (k : KEnv → KSt → Option α) : Option α :=
  bif fineK Θ strict o e then
    match callV o with
    | some (f, args) => rec (.apply (e.ev f) (args.toList.map e.ev) σ) fun r => forceK r.v fun v => k (e.put o.dst v) r.σ
    | none => match opK S.T P o.op e.ev σ with
      | some (c, v, σ') => chk S c (forceK v fun v => k (e.put o.dst v) σ')
      | none => none
  else none
def goK (rec : Rec α) (strict : Bool) (o : Oper) (e : KEnv) (σ : KSt) (k : KEnv → KSt → Option α) (b : Bool) : Option α :=
  bif b then doK P Θ S rec strict o e σ k else k (e.put o.dst (.tuple [])) σ
def exK (rec : Rec α) (strict : Bool) (all : List Oper) : List Oper → KEnv → KSt → (KEnv → KSt → Option α) → Option α
  | [], e, σ, k => k e σ
  | o :: os, e, σ, k => match o.guard with
    | none => doK P Θ S rec strict o e σ (fun e σ => exK rec strict all os e σ k)
    | some (j, want) => match (all[j]?).bind (·.dst) with
      | none => none
      | some d => match (e.t.getD d .undef).bool? with
        | some (true, b) => (match b with
          | true => goK P Θ S rec strict o e σ (fun e σ => exK rec strict all os e σ k) (true == want)
          | false => goK P Θ S rec strict o e σ (fun e σ => exK rec strict all os e σ k) (false == want))
        | some (false, b) => S.fk b (goK P Θ S rec strict o { e with t := e.t.set d (.st (.bool true)) } σ (fun e σ => exK rec strict all os e σ k) (true == want))
            (goK P Θ S rec strict o { e with t := e.t.set d (.st (.bool false)) } σ (fun e σ => exK rec strict all os e σ k) (false == want))
        | none => (match e.t.getD d .undef with
          | .tuple [] => exK rec strict all os (e.put o.dst (.tuple [])) σ k
          | _ => none)

def callK (rec : Rec α) (f : FuncId) (args : List KV) (k : KRes → Option α) : Option α :=
  match S.ct f with
  | some p => match p (KV.dyn.dyns args) with
    | some (c, v) => chk S c (k { v })
    | none => none
  | none => match Θ.prim f with
    | some _ => none
    | none => bif freeK.freeKL args then
        rec (.callS f args {}) fun r => bif freeK (frzK r.σ r.v).2 then chk S (frzK r.σ r.v).1 (k { v := (frzK r.σ r.v).2 }) else none
      else none
def applyK (rec : Rec α) (f : KV) (args : List KV) (σ : KSt) (k : KRes → Option α) : Option α :=
  match f with
  | .func (.func f) fst caps =>
    bif Θ.ent f then
      bif Θ.pureF f then chk S (frzK.frzKL σ (fst ++ args ++ caps)).1 (rec (.call f (frzK.frzKL σ (fst ++ args ++ caps)).2) fun r => k { v := r.v, σ := frzKS σ (rowsK.rowsKL (fst ++ args ++ caps)) })
      else rec (.callS f (fst ++ args ++ caps) σ) k
    else match S.xt f with
      | some p => match p (KV.dyn.dyns (frzK.frzKL σ (fst ++ args ++ caps)).2) with
        | some (c, v) => chk S (.and (frzK.frzKL σ (fst ++ args ++ caps)).1 c) (k { v, σ := frzKS σ (rowsK.rowsKL (fst ++ args ++ caps)) })
        | none => none
      | none => none
  | .func (.yield l) [] [] => match σ.loops[l]? with
    | some lr =>
      bif decide (lr.state = .ready) && Nat.beq args.length lr.params.length then
        rec (.code lr.assign { lr.env with t := (lr.params.zip args).foldl (fun t (p : Nat × KV) => t.set p.1 p.2) lr.env.t } σ) fun r1 =>
          match r1.ex with
          | .normal => bif isReadyK r1.σ l then
              rec (.code lr.body r1.env (setStateK r1.σ l fun q => { q with state := .busy })) fun r2 =>
                k { v := .st (.bool (r2.ex.code).isNone), σ := trimK σ.sz [] (setStateK r2.σ l fun q => { q with state := if (r2.ex.code).isNone then .ready else .done, pending := r2.ex.code }) }
            else none
          | _ => none
      else none
    | none => none
  | _ => none
def outK (f : FuncId) (k : KRes → Option α) : Out → Option α
  | .one ex vs σ => k ⟨ex, .undef, ⟨f, expand (Θ.keep f) (ntm P f) vs⟩, σ⟩
  | .two b x y => S.fk b (outK f k x) (outK f k y)
def loopGo (rec : Rec α) (a : Code) (e : KEnv) (σ : KSt) (k : KRes → Option α) : Option α :=
  match S.lt e.fn (loopKey a) with
  | some p => bif Nat.beq e.t.length (ntm P e.fn) then
      match p (KV.dyn.dyns (compress (Θ.keep e.fn) e.t)) σ with
      | some (c, o) => chk S c (outK P Θ S e.fn k o)
      | none => none
    else none
  | none => rec (.code a (tidyK Θ e) σ) fun r => match r.ex with
    | .normal => rec (.code (.loop a) (tidyK Θ r.env) (trimK σ.sz (tidyK Θ r.env).t r.σ)) k
    | _ => k { r with env := tidyK Θ r.env }
def rangeGo (rec : Rec α) (f : Operand) (ps : Array Tmp) (assign body : Code) (e : KEnv) (σ : KSt) (k : KRes → Option α) : Option α :=
  bif isFnK Θ (e.ev f) then
    rec (.apply (e.ev f) [.func (.yield σ.loops.length) [] []] { σ with loops := σ.loops ++ [{ env := tidyK Θ e, params := ps.toList, assign, body, pending := none, state := .ready }] }) fun r =>
      match r.σ.loops[σ.loops.length]? with
      | some lr => bif decide (lr.state = .busy) then none else match lr.pending with
        | none => k { env := e, σ := endK σ e r.σ }
        | some .ret => k { ex := .ret, env := e, σ := endK σ e r.σ }
        | some (.exit id) => k { ex := .exit id, env := e, σ := endK σ e r.σ }
        | some (.goto t) => k { ex := .goto t, env := e, σ := endK σ e r.σ }
        | some _ => none
      | none => none
  else none
def regionGo (rec : Rec α) (ops : Array Oper) (draw : Bool) (e : KEnv) (σ : KSt) (k : KRes → Option α) : Option α :=
  bif draw then (bif drawOk ops then exK P Θ S rec true ops.toList ops.toList e σ (fun e σ => k { env := e, σ }) else none)
  else bif litStart P ops.toList then
    match ops.toList with
    | o1 :: o2 :: os => match o1.dst.bind fun d => e.t[d]? with
      | some _ => match opK S.T P o1.op e.ev σ with
        | some (c, v, σ') => chk S c (exK P Θ S rec false ops.toList os ((e.put o1.dst v).put o2.dst v) σ' (fun e σ => k { env := e, σ }))
        | none => none
      | none => none
    | _ => none
  else exK P Θ S rec false ops.toList ops.toList e σ (fun e σ => k { env := e, σ })
def codeK (rec : Rec α) (c : Code) (e : KEnv) (σ : KSt) (k : KRes → Option α) : Option α :=
  match c with
  | .skip => k { env := e, σ }
  | .label _ => k { env := e, σ }
  | .region _ ops draw => regionGo P Θ S rec ops draw e σ k
  | .seq a b => rec (.code a e σ) fun r => match r.ex with
    | .normal => rec (.code b r.env r.σ) k
    | _ => k r
  | .cond c a b => match (e.ev c).bool? with
    | some (true, t) => (match t with
      | true => rec (.code a e σ) k
      | false => rec (.code b e σ) k)
    | some (false, t) => S.fk t (rec (.code a e σ) k) (rec (.code b e σ) k)
    | none => none
  | .block id a => rec (.code a e σ) fun r => match r.ex with
    | .exit i => bif Nat.beq i id then k { r with ex := .normal } else k r
    | _ => k r
  | .loop a => loopGo P Θ S rec a e σ k
  | .rangeFunc f ps assign body => rangeGo Θ rec f ps assign body e σ k
  | .exit id => k { ex := .exit id, env := e, σ }
  | .goto t => k { ex := .goto t, env := e, σ }
  | .ret => k { ex := .ret, env := e, σ }
  | .scope _ => none
  | .refuse _ => none
def stepK (rec : Rec α) : KTask → (KRes → Option α) → Option α
  | .call f args, k => callK Θ S rec f args k
  | .callS f args σ, k => match P.funcs[f]? with
    | some fn => match fn.body with
      | some c => rec (.code c { fn := f, t := args ++ List.replicate (fn.ntmps - args.length) .undef } σ) fun r =>
        match r.ex with
        | .normal | .ret => match resultK P fn r.env r.σ with
          | some v => k { v, σ := r.σ }
          | none => none
        | _ => none
      | none => none
    | none => none
  | .apply f args σ, k => applyK Θ S rec f args σ k
  | .code c e σ, k => codeK P Θ S rec c e σ k
def runK : Nat → Rec α
  | 0 => fun _ _ => none
  | n + 1 => stepK P Θ S (runK n)
end
end Go.Proofs.Ytecokfbldjekiaa.LI
