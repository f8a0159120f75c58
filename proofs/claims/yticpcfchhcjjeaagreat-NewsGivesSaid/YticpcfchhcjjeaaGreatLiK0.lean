/-
  The interpreter's equations, one for each form of code. No program is named here.
-/
import Derived.Test.YticpcfchhcjjeaaGreatLiKF
namespace Go.Proofs.YticpcfchhcjjeaaGreat.LI
open Go Go.RowKit
variable {P : Program} {Θ : Th}

/-- A row of results joined to what follows. -/
noncomputable def Res.onTo (P : Program) (Θ : Th) (b : Code) (r : Res) : Option Res :=
  match r.ex with
  | .normal => run P Θ (.code b r.env r.σ)
  | _ => some r
theorem run_seq (a b : Code) (e : Env) (σ : St) : run P Θ (.code (.seq a b) e σ) = (run P Θ (.code a e σ)).bind (Res.onTo P Θ b) := by
  rw [run_step]; rfl
theorem run_skip (e : Env) (σ : St) : run P Θ (.code .skip e σ) = some ⟨.normal, .undef, e, σ⟩ := by rw [run_step]; rfl
theorem run_label (l : Nat) (e : Env) (σ : St) : run P Θ (.code (.label l) e σ) = some ⟨.normal, .undef, e, σ⟩ := by rw [run_step]; rfl
theorem run_ret (e : Env) (σ : St) : run P Θ (.code .ret e σ) = some ⟨.ret, .undef, e, σ⟩ := by rw [run_step]; rfl
theorem run_exit (i : Nat) (e : Env) (σ : St) : run P Θ (.code (.exit i) e σ) = some ⟨.exit i, .undef, e, σ⟩ := by rw [run_step]; rfl
theorem run_goto (i : Nat) (e : Env) (σ : St) : run P Θ (.code (.goto i) e σ) = some ⟨.goto i, .undef, e, σ⟩ := by rw [run_step]; rfl
noncomputable def litGo (P : Program) (Θ : Th) (all : List Oper) (e : Env) (σ : St) : List Oper → Option Res
  | o1 :: o2 :: os => (o1.dst.bind fun d => e.t[d]?).bind fun _ => (opStep P false o1 e.ev σ).bind fun r => (exec P Θ false all os ((e.put o1.dst r.1).put o2.dst r.1) r.2).map opsRes
  | _ => none
noncomputable def litRun (P : Program) (Θ : Th) (l : List Oper) (e : Env) (σ : St) : Option Res :=
  bif litStart P l then litGo P Θ l e σ l else (exec P Θ false l l e σ).map opsRes
theorem run_region (id : Nat) (ops : Array Oper) (e : Env) (σ : St) : run P Θ (.code (.region id ops false) e σ) = litRun P Θ ops.toList e σ := by
  rw [run_step]
  simp only [stepT, litRun, Bool.false_eq_true, if_false]
  cases litStart P ops.toList with
  | false => rfl
  | true =>
    simp only [cond_true]
    generalize ops.toList = l
    cases l with
    | nil => rfl
    | cons o1 l => cases l <;> rfl
theorem run_region_draw (id : Nat) (ops : Array Oper) (e : Env) (σ : St) (h : drawOk Θ e.fn ops = true) :
    run P Θ (.code (.region id ops true) e σ) = (exec P Θ true ops.toList ops.toList e σ).map opsRes := by
  rw [run_step]; simp [stepT, h]; rfl
theorem run_cond_t (c : Operand) (a b : Code) (e : Env) (σ : St) (h : e.ev c = .sc (.bool true)) :
    run P Θ (.code (.cond c a b) e σ) = run P Θ (.code a e σ) := by
  rw [run_step]; simp only [stepT, h]
theorem run_cond_f (c : Operand) (a b : Code) (e : Env) (σ : St) (h : e.ev c = .sc (.bool false)) :
    run P Θ (.code (.cond c a b) e σ) = run P Θ (.code b e σ) := by
  rw [run_step]; simp only [stepT, h]
def Res.unblock (id : Nat) (r : Res) : Option Res :=
  match r.ex with
  | .exit i => if i = id then some { r with ex := .normal } else some r
  | _ => some r
theorem run_block (id : Nat) (a : Code) (e : Env) (σ : St) : run P Θ (.code (.block id a) e σ) = (run P Θ (.code a e σ)).bind (Res.unblock id) := by
  rw [run_step]; rfl
theorem set_same {l : List LV} {d : Nat} {v : LV} (h : l.getD d .undef = v) (hv : v ≠ .undef) : l.set d v = l := by
  apply List.ext_getElem?
  intro i
  rw [List.getElem?_set]
  split
  · rename_i hd
    subst hd
    rw [List.getD_eq_getElem?_getD] at h
    cases hl : l[d]? with
    | none => rw [hl] at h; exact absurd h.symm hv
    | some x =>
      rw [hl] at h
      have : d < l.length := (List.getElem?_eq_some_iff.1 hl).1
      simp [this]
      exact h.symm
  · rfl

/-! ### calls -/
theorem run_apply_st (own : Bool) (f : FuncId) (fst caps args : List LV) (σ : St) (he : Θ.ent f = true) (hp : Θ.pureF f = false) (hs : Θ.extS f = none) :
    run P Θ (.apply own (.func (.func f) fst caps) args σ) = run P Θ (.callS f (fst ++ args ++ caps) σ) := by
  rw [run_step]; simp [stepT, he, hp, hs]
theorem run_apply_extS (own : Bool) (f : FuncId) (fst caps args : List LV) (σ : St) (he : Θ.ent f = true) (hp : Θ.pureF f = false) {p : List LV → St → Option (LV × St)} (hs : Θ.extS f = some p) :
    run P Θ (.apply own (.func (.func f) fst caps) args σ) = (p (fst ++ args ++ caps) σ).map fun q => { v := q.1, σ := q.2 } := by
  rw [run_step]; simp [stepT, he, hp, hs]
theorem run_apply_ext (own : Bool) (f : FuncId) (fst caps args : List LV) (σ : St) (he : Θ.ent f = false) {p : List LV → Option LV} (hp : Θ.ext f = some p) :
    run P Θ (.apply own (.func (.func f) fst caps) args σ) = (p (frzV.frzL σ (fst ++ args ++ caps))).bind fun v => if refFree v = true then some ⟨.normal, v, default, frzS σ (rowsIn.rowsInL (fst ++ args ++ caps))⟩ else none := by
  rw [run_step]; simp [stepT, he, extL, hp]
theorem run_call (f : FuncId) (args : List LV) (hp : Θ.prim f = none) (ha : refFree.refFreeL args = true) : run P Θ (.call f args) = (run P Θ (.callS f args {})).bind fun r => (thaw r.σ (Θ.fresh f) r.v).bind callEnd := by
  rw [run_step]; simp only [stepT, hp, ha, if_true]
def endCall (P : Program) (fn : Func) (n : Sz) (r : Res) : Option Res :=
  match r.ex with
  | .normal | .ret => (resultL P fn r.env r.σ).map fun v => { v, σ := trim n [v] r.σ }
  | _ => none
theorem run_callS (f : FuncId) (args : List LV) (σ : St) {fn : Func} {c : Code} (hf : P.funcs[f]? = some fn) (hb : fn.body = some c) :
    run P Θ (.callS f args σ) = (run P Θ (.code c { fn := f, t := args ++ List.replicate (fn.ntmps - args.length) .undef } σ)).bind (endCall P fn σ.sz) := by
  rw [run_step]; simp only [stepT, hf, Option.bind_some, hb]; rfl

/-! ### a range over a function -/
noncomputable def yield3 (l : Nat) (n : Sz) (r2 : Res) : Option Res :=
  some { v := .sc (.bool (r2.ex.code).isNone), σ := trim n [] (setState r2.σ l fun q => { q with state := if (r2.ex.code).isNone then .ready else .done, pending := r2.ex.code }) }
noncomputable def yield2 (P : Program) (Θ : Th) (l : Nat) (n : Sz) (body : Code) (r1 : Res) : Option Res :=
  if r1.ex = .normal ∧ isReady r1.σ l = true then (run P Θ (.code body r1.env (setState r1.σ l fun q => { q with state := .busy }))).bind (yield3 l n) else none
noncomputable def yield1 (P : Program) (Θ : Th) (l : Nat) (args : List LV) (σ : St) (lr : LoopRec) : Option Res :=
  if lr.state = .ready ∧ args.length = lr.params.length then
    (run P Θ (.code lr.assign { lr.env with t := (lr.params.zip args).foldl (fun t (p : Nat × LV) => t.set p.1 p.2) lr.env.t } σ)).bind (yield2 P Θ l σ.sz lr.body)
  else none
theorem run_apply_yield (own : Bool) (l : Nat) (args : List LV) (σ : St) : run P Θ (.apply own (.func (.yield l) [] []) args σ) = (σ.loops[l]?).bind (yield1 P Θ l args σ) := by
  rw [run_step]
  simp only [stepT]
  congr 1
  funext lr
  unfold yield1
  split
  · congr 1
    funext r1
    unfold yield2
    split
    · rename_i h
      cases run P Θ (.code lr.body r1.env (setState r1.σ l fun q => { q with state := .busy })) <;> rfl
    · rfl
  · rfl
noncomputable def range2 (e : Env) (σ τ : St) (lr : LoopRec) : Option Res :=
  if lr.state = .busy then none else
    match lr.pending with
    | none => some { env := e, σ := endL σ e τ }
    | some .ret => some { ex := .ret, env := e, σ := endL σ e τ }
    | some (.exit id) => some { ex := .exit id, env := e, σ := endL σ e τ }
    | some (.goto t) => some { ex := .goto t, env := e, σ := endL σ e τ }
    | some _ => none
noncomputable def range1 (e : Env) (σ : St) (r : Res) : Option Res := (r.σ.loops[σ.loops.length]?).bind (range2 e σ r.σ)
theorem run_range (f : Operand) (ps : Array Tmp) (assign body : Code) (e : Env) (σ : St) : run P Θ (.code (.rangeFunc f ps assign body) e σ) =
    bif (e.ev f).isFn Θ then (run P Θ (.apply false (e.ev f) [.func (.yield σ.loops.length) [] []] { σ with loops := σ.loops ++ [{ env := tidy Θ (loopKey assign) e, params := ps.toList, assign, body, pending := none, state := .ready }] })).bind (range1 e σ) else none := by
  rw [run_step]
  simp only [stepT]
  cases h : (e.ev f).isFn Θ with
  | false => simp
  | true =>
    simp only [Bool.true_eq_false, if_false, cond_true]
    congr 1

end Go.Proofs.YticpcfchhcjjeaaGreat.LI
