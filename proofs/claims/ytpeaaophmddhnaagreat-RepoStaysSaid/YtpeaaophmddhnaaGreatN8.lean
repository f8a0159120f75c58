/-
  An interpreter over values is sound, part 8.
-/
import Derived.Test.YtpeaaophmddhnaaGreatN7
namespace Go.Proofs.YtpeaaophmddhnaaGreat.LI
open Go Go.RowKit
variable {P : Program} {Θ : Th}
noncomputable def Res.onTo (P : Program) (Θ : Th) (b : Code) (r : Res) : Option Res :=
 match r.ex with
 | .normal => run P Θ (.code b r.env r.σ)
 | _ => some r
theorem mSb (a b : Code) (e : Env) (σ : St) : run P Θ (.code (.seq a b) e σ) = (run P Θ (.code a e σ)).bind (Res.onTo P Θ b) := by
 rw [aUa]; rfl
theorem kMb (e : Env) (σ : St) : run P Θ (.code .skip e σ) = some ⟨.normal, .undef, e, σ⟩ := by rw [aUa]; rfl
theorem iHb (l : Nat) (e : Env) (σ : St) : run P Θ (.code (.label l) e σ) = some ⟨.normal, .undef, e, σ⟩ := by rw [aUa]; rfl
theorem mRb (e : Env) (σ : St) : run P Θ (.code .ret e σ) = some ⟨.ret, .undef, e, σ⟩ := by rw [aUa]; rfl
theorem kKb (i : Nat) (e : Env) (σ : St) : run P Θ (.code (.exit i) e σ) = some ⟨.exit i, .undef, e, σ⟩ := by rw [aUa]; rfl
theorem kLb (i : Nat) (e : Env) (σ : St) : run P Θ (.code (.goto i) e σ) = some ⟨.goto i, .undef, e, σ⟩ := by rw [aUa]; rfl
noncomputable def oWb (P : Program) (Θ : Th) (all : List Oper) (e : Env) (σ : St) : List Oper → Option Res
 | o1 :: o2 :: os => (o1.dst.bind fun d => e.t[d]?).bind fun _ => (aDa P false o1 e.ev σ).bind fun r => (exec P Θ none all os ((e.put o1.dst r.1).put o2.dst r.1) r.2).map cLb
 | _ => none
noncomputable def hKb (P : Program) (Θ : Th) (l : List Oper) (e : Env) (σ : St) : Option Res :=
 bif fKa P l then oWb P Θ l e σ l else (exec P Θ none l l e σ).map cLb
theorem eLb (id : Nat) (ops : Array Oper) (e : Env) (σ : St) : run P Θ (.code (.region id ops false) e σ) = (hKb P Θ ops.toList e σ).map (kVa Θ e.fn id) := by
 rw [aUa]
 simp only [bEa, iPa, hKb, Bool.false_eq_true, if_false]
 cases fKa P ops.toList with
 | false => rfl
 | true =>
  simp only [cond_true]
  generalize ops.toList = l
  cases l with
  | nil => rfl
  | cons o1 l => cases l <;> rfl
theorem rZa (id : Nat) (ops : Array Oper) (e : Env) (σ : St) (h : kZa P Θ e.fn ⟨σ.boxes.length, e.bx⟩ ops = true) :
  run P Θ (.code (.region id ops true) e σ) = ((fHb P Θ e.fn ops.toList).bind fun B => (exec P Θ (some ⟨σ.boxes.length, e.bx⟩) ops.toList ops.toList e (σ.addB B)).map cLb).map (kVa Θ e.fn id) := by
 rw [aUa]; simp only [bEa, iPa, h, if_true]; rfl
theorem uQa (c : Operand) (a b : Code) (e : Env) (σ : St) (h : e.ev c = .sc (.bool true)) :
  run P Θ (.code (.cond c a b) e σ) = run P Θ (.code a e σ) := by
 rw [aUa]; simp only [bEa, h]
theorem uPa (c : Operand) (a b : Code) (e : Env) (σ : St) (h : e.ev c = .sc (.bool false)) :
  run P Θ (.code (.cond c a b) e σ) = run P Θ (.code b e σ) := by
 rw [aUa]; simp only [bEa, h]
def Res.unblock (id : Nat) (r : Res) : Option Res :=
 match r.ex with
 | .exit i => if i = id then some { r with ex := .normal } else some r
 | _ => some r
theorem iFb (id : Nat) (a : Code) (e : Env) (σ : St) : run P Θ (.code (.block id a) e σ) = (run P Θ (.code a e σ)).bind (Res.unblock id) := by
 rw [aUa]; rfl
def Res.unscope (r : Res) : Option Res :=
 match r.ex with
 | .goto _ => none
 | _ => some r
theorem iJb (a : Code) (e : Env) (σ : St) : run P Θ (.code (.scope a) e σ) = (run P Θ (.code a e σ)).bind Res.unscope := by
 rw [aUa]; rfl
theorem cXb {l : List LV} {d : Nat} {v : LV} (h : l.getD d .undef = v) (hv : v ≠ .undef) : l.set d v = l := by
 apply List.ext_getElem?
 intro i
 rw [List.getElem?_set]
 split
 ·rename_i hd
  subst hd
  rw [List.getD_eq_getElem?_getD] at h
  cases hl : l[d]? with
  | none => rw [hl] at h; exact absurd h.symm hv
  | some x =>
   rw [hl] at h
   have : d < l.length := (List.getElem?_eq_some_iff.1 hl).1
   simp [this]
   exact h.symm
 ·rfl
theorem yQa (own : Bool) (f : FuncId) (fst caps args : List LV) (σ : St) (he : Θ.ent f = true) (hp : Θ.pureF f = false) (hs : Θ.extS f = none) :
  run P Θ (.apply own (.func (.func f) fst caps) args σ) = run P Θ (.callS f (fst ++ args ++ caps) σ) := by
 rw [aUa]; simp [bEa, he, hp, hs]
theorem tEa (own : Bool) (f : FuncId) (fst caps args : List LV) (σ : St) (he : Θ.ent f = true) (hp : Θ.pureF f = false) {p : List LV → St → Option (LV × St)} (hs : Θ.extS f = some p) :
  run P Θ (.apply own (.func (.func f) fst caps) args σ) = (p (fst ++ args ++ caps) σ).map fun q => { v := q.1, σ := q.2 } := by
 rw [aUa]; simp [bEa, he, hp, hs]
theorem wGa (own : Bool) (f : FuncId) (fst caps args : List LV) (σ : St) (he : Θ.ent f = false) {p : List LV → Option LV} (hp : Θ.ext f = some p) :
  run P Θ (.apply own (.func (.func f) fst caps) args σ) = (p (bIa.frzL σ (fst ++ args ++ caps))).bind fun v => if aAa v = true then some ⟨.normal, v, default, gVa σ (aQa.rowsInL (fst ++ args ++ caps))⟩ else none := by
 rw [aUa]; simp [bEa, he, pZb, hp]
theorem kJb (f : FuncId) (args : List LV) (hp : Θ.prim f = none) (ha : aAa.refFreeL args = true) : run P Θ (.call f args) = (run P Θ (.callS f args {})).bind fun r => (nCb r.σ (Θ.fresh f) r.v).bind hKa := by
 rw [aUa]; simp only [bEa, hp, ha, if_true]
def gQb (P : Program) (fn : Func) (n : Sz) (r : Res) : Option Res :=
 match r.ex with
 | .normal | .ret => (jSa P fn r.env r.σ).map fun v => { v, σ := trim n [v] r.σ }
 | _ => none
theorem iGb (f : FuncId) (args : List LV) (σ : St) {fn : Func} {c : Code} (hgc : (Θ.gcF f && !σ.isEmpty) = false) (hf : P.funcs[f]? = some fn) (hb : fn.body = some c) :
  run P Θ (.callS f args σ) = (run P Θ (.code c { fn := f, t := args ++ List.replicate (fn.ntmps - args.length) .undef } σ)).bind (gQb P fn σ.sz) := by
 rw [aUa]; simp only [bEa, hgc, Bool.false_eq_true, if_false, hf, Option.bind_some, hb]; rfl
noncomputable def lKb (l : Nat) (n : Sz) (r2 : Res) : Option Res :=
 some { v := .sc (.bool (r2.ex.code).isNone), σ := trim n [] (eXa r2.σ l fun q => { q with state := if (r2.ex.code).isNone then .ready else .done, pending := r2.ex.code }) }
noncomputable def jDb (P : Program) (Θ : Th) (l : Nat) (n : Sz) (body : Code) (r1 : Res) : Option Res :=
 if r1.ex = .normal ∧ rFa r1.σ l = true then (run P Θ (.code body r1.env (eXa r1.σ l fun q => { q with state := .busy }))).bind (lKb l n) else none
noncomputable def jCb (P : Program) (Θ : Th) (l : Nat) (args : List LV) (σ : St) (lr : cOa) : Option Res :=
 if lr.state = .ready ∧ args.length = lr.params.length ∧ Θ.gcF lr.env.fn = false then
  (run P Θ (.code lr.assign { lr.env with t := (lr.params.zip args).foldl (fun t (p : Nat × LV) => t.set p.1 p.2) lr.env.t } σ)).bind (jDb P Θ l σ.sz lr.body)
 else none
theorem rXa (own : Bool) (l : Nat) (args : List LV) (σ : St) : run P Θ (.apply own (.func (.yield l) [] []) args σ) = (σ.loops[l]?).bind (jCb P Θ l args σ) := by
 rw [aUa]
 simp only [bEa]
 congr 1
 funext lr
 unfold jCb
 split
 ·congr 1
  funext r1
  unfold jDb
  split
  ·rename_i h
   cases run P Θ (.code lr.body r1.env (eXa r1.σ l fun q => { q with state := .busy })) <;> rfl
  ·rfl
 ·rfl
noncomputable def lGb (e : Env) (σ τ : St) (lr : cOa) : Option Res :=
 if lr.state = .busy then none else
  match lr.pending with
  | none => some { env := e, σ := gRb σ e τ }
  | some .ret => some { ex := .ret, env := e, σ := gRb σ e τ }
  | some (.exit id) => some { ex := .exit id, env := e, σ := gRb σ e τ }
  | some (.goto t) => some { ex := .goto t, env := e, σ := gRb σ e τ }
  | some _ => none
noncomputable def lFb (e : Env) (σ : St) (r : Res) : Option Res := (r.σ.loops[σ.loops.length]?).bind (lGb e σ r.σ)
theorem iIb (f : Operand) (ps : Array Tmp) (assign body : Code) (e : Env) (σ : St) : run P Θ (.code (.rangeFunc f ps assign body) e σ) =
  bif (e.ev f).isFn Θ && !Θ.gcF e.fn then (run P Θ (.apply false (e.ev f) [.func (.yield σ.loops.length) [] []] { σ with loops := σ.loops ++ [{ env := iZa Θ (aCa assign) e, params := ps.toList, assign, body, pending := none, state := .ready }] })).bind (lFb e σ) else none := by
 rw [aUa]
 simp only [bEa]
 cases h : ((e.ev f).isFn Θ && !Θ.gcF e.fn) with
 | false => simp
 | true =>
  simp only [Bool.true_eq_false, if_false, cond_true]
  congr 1
end Go.Proofs.YtpeaaophmddhnaaGreat.LI
