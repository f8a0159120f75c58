/-
  The interpreter's equations, one for each form of code. No program is named here.
-/
import Derived.Test.YtecokfbldjekiaaLiB
namespace Go.Proofs.Ytecokfbldjekiaa.LI
open Go Go.RowKit
variable {P : Program} {Θ : Th}

/-- A row of results joined to what follows. -/
noncomputable def Res.onTo (P : Program) (Θ : Th) (b : Code) (r : Res) : Option Res :=
  match r.ex with
  | .normal => run P Θ (.code b r.env r.σ)
  | _ => some r
theorem run_seq (a b : Code) (e : Env) (σ : St) : run P Θ (.code (.seq a b) e σ) = (run P Θ (.code a e σ)).bind (Res.onTo P Θ b) := by
  rw [run_step]; rfl
theorem onTo_normal (b : Code) (v : LV) (e : Env) (σ : St) : Res.onTo P Θ b ⟨.normal, v, e, σ⟩ = run P Θ (.code b e σ) := rfl
theorem onTo_ret (b : Code) (v : LV) (e : Env) (σ : St) : Res.onTo P Θ b ⟨.ret, v, e, σ⟩ = some ⟨.ret, v, e, σ⟩ := rfl
theorem onTo_exit (b : Code) (i : Nat) (v : LV) (e : Env) (σ : St) : Res.onTo P Θ b ⟨.exit i, v, e, σ⟩ = some ⟨.exit i, v, e, σ⟩ := rfl
theorem onTo_goto (b : Code) (i : Nat) (v : LV) (e : Env) (σ : St) : Res.onTo P Θ b ⟨.goto i, v, e, σ⟩ = some ⟨.goto i, v, e, σ⟩ := rfl
theorem run_skip (e : Env) (σ : St) : run P Θ (.code .skip e σ) = some ⟨.normal, .undef, e, σ⟩ := by rw [run_step]; rfl
theorem run_label (l : Nat) (e : Env) (σ : St) : run P Θ (.code (.label l) e σ) = some ⟨.normal, .undef, e, σ⟩ := by rw [run_step]; rfl
theorem run_ret (e : Env) (σ : St) : run P Θ (.code .ret e σ) = some ⟨.ret, .undef, e, σ⟩ := by rw [run_step]; rfl
theorem run_exit (i : Nat) (e : Env) (σ : St) : run P Θ (.code (.exit i) e σ) = some ⟨.exit i, .undef, e, σ⟩ := by rw [run_step]; rfl
theorem run_goto (i : Nat) (e : Env) (σ : St) : run P Θ (.code (.goto i) e σ) = some ⟨.goto i, .undef, e, σ⟩ := by rw [run_step]; rfl
/-- What has come of a row of operations. -/
def opsRes (r : Env × St) : Res := { env := r.1, σ := r.2 }
noncomputable def exec (P : Program) (Θ : Th) := execOps P (run P Θ)
noncomputable def litGo (P : Program) (Θ : Th) (all : List Oper) (e : Env) (σ : St) : List Oper → Option Res
  | o1 :: o2 :: os => (o1.dst.bind fun d => e.t[d]?).bind fun _ => (opStep P o1 e.ev σ).bind fun r => (exec P Θ false all os ((e.put o1.dst r.1).put o2.dst r.1) r.2).map opsRes
  | _ => none
noncomputable def litRun (P : Program) (Θ : Th) (l : List Oper) (e : Env) (σ : St) : Option Res :=
  bif litStart P l then litGo P Θ l e σ l else (exec P Θ false l l e σ).map opsRes
theorem run_region (id : Nat) (ops : Array Oper) (e : Env) (σ : St) : run P Θ (.code (.region id ops false) e σ) = litRun P Θ ops.toList e σ := by
  rw [run_step]
  simp only [stepT, litRun, Bool.false_eq_true, if_false]
  cases litStart P ops.toList with
  | false => rfl
  | true =>
    simp only [cond_true]
    generalize ops.toList = l
    cases l with
    | nil => rfl
    | cons o1 l => cases l <;> rfl
theorem run_region_draw (id : Nat) (ops : Array Oper) (e : Env) (σ : St) (h : drawOk ops = true) :
    run P Θ (.code (.region id ops true) e σ) = (exec P Θ true ops.toList ops.toList e σ).map opsRes := by
  rw [run_step]; simp [stepT, h]; rfl
/-- Two ways. -/
def br {α : Type} (b : Bool) (x y : α) : α := if b = true then x else y
theorem br_true {α : Type} (x y : α) : br true x y = x := rfl
theorem br_false {α : Type} (x y : α) : br false x y = y := rfl
theorem br_congr {α : Type} {b b' : Bool} {x y x' y' : α} (h : b = b') (ht : b' = true → x = x') (hf : b' = false → y = y') : br b x y = br b' x' y' := by
  subst h
  cases b
  · exact hf rfl
  · exact ht rfl
theorem br_bind {α β : Type} (b : Bool) (x y : Option α) (f : α → Option β) : (br b x y).bind f = br b (x.bind f) (y.bind f) := by cases b <;> rfl
theorem br_map {α β : Type} (b : Bool) (x y : Option α) (f : α → β) : (br b x y).map f = br b (x.map f) (y.map f) := by cases b <;> rfl
theorem br_same {α : Type} (b : Bool) (x : α) : br b x x = x := by cases b <;> rfl
theorem run_cond (c : Operand) (a b : Code) (e : Env) (σ : St) (t : Bool) (h : e.ev c = .sc (.bool t)) :
    run P Θ (.code (.cond c a b) e σ) = if t = true then run P Θ (.code a e σ) else run P Θ (.code b e σ) := by
  rw [run_step]; simp only [stepT, h]; cases t <;> rfl
noncomputable def condRun (P : Program) (Θ : Th) (a b : Code) (e : Env) (σ : St) : LV → Option Res
  | .sc (.bool t) => br t (run P Θ (.code a e σ)) (run P Θ (.code b e σ))
  | _ => none
theorem run_cond' (c : Operand) (a b : Code) (e : Env) (σ : St) : run P Θ (.code (.cond c a b) e σ) = condRun P Θ a b e σ (e.ev c) := by
  rw [run_step]
  simp only [stepT]
  generalize e.ev c = v
  cases v with
  | sc v =>
    cases v with
    | bool b => cases b <;> rfl
    | _ => rfl
  | _ => rfl
theorem condRun_bool (a b : Code) (e : Env) (σ : St) (t : Bool) : condRun P Θ a b e σ (.sc (.bool t)) = br t (run P Θ (.code a e σ)) (run P Θ (.code b e σ)) := rfl
def Res.unblock (id : Nat) (r : Res) : Option Res :=
  match r.ex with
  | .exit i => if i = id then some { r with ex := .normal } else some r
  | _ => some r
theorem run_block (id : Nat) (a : Code) (e : Env) (σ : St) : run P Θ (.code (.block id a) e σ) = (run P Θ (.code a e σ)).bind (Res.unblock id) := by
  rw [run_step]; rfl
theorem unblock_normal (id : Nat) (v : LV) (e : Env) (σ : St) : Res.unblock id ⟨.normal, v, e, σ⟩ = some ⟨.normal, v, e, σ⟩ := rfl
theorem unblock_ret (id : Nat) (v : LV) (e : Env) (σ : St) : Res.unblock id ⟨.ret, v, e, σ⟩ = some ⟨.ret, v, e, σ⟩ := rfl
theorem unblock_goto (id i : Nat) (v : LV) (e : Env) (σ : St) : Res.unblock id ⟨.goto i, v, e, σ⟩ = some ⟨.goto i, v, e, σ⟩ := rfl
theorem unblock_exit (id i : Nat) (v : LV) (e : Env) (σ : St) : Res.unblock id ⟨.exit i, v, e, σ⟩ = if i = id then some ⟨.normal, v, e, σ⟩ else some ⟨.exit i, v, e, σ⟩ := rfl
noncomputable def Res.again (P : Program) (Θ : Th) (a : Code) (n : Sz) (r : Res) : Option Res :=
  match r.ex with
  | .normal => run P Θ (.code (.loop a) (tidy Θ r.env) (trim n (tidy Θ r.env).t r.σ))
  | _ => some { r with env := tidy Θ r.env }
theorem run_loop (a : Code) (e : Env) (σ : St) : run P Θ (.code (.loop a) e σ) = (run P Θ (.code a (tidy Θ e) σ)).bind (Res.again P Θ a σ.sz) := by
  rw [run_step]; rfl
theorem again_normal (a : Code) (n : Sz) (v : LV) (e : Env) (σ : St) : Res.again P Θ a n ⟨.normal, v, e, σ⟩ = run P Θ (.code (.loop a) (tidy Θ e) (trim n (tidy Θ e).t σ)) := rfl
theorem again_ret (a : Code) (n : Sz) (v : LV) (e : Env) (σ : St) : Res.again P Θ a n ⟨.ret, v, e, σ⟩ = some ⟨.ret, v, tidy Θ e, σ⟩ := rfl
theorem again_exit (a : Code) (n : Sz) (i : Nat) (v : LV) (e : Env) (σ : St) : Res.again P Θ a n ⟨.exit i, v, e, σ⟩ = some ⟨.exit i, v, tidy Θ e, σ⟩ := rfl
theorem maskL_idem : ∀ (m : List Bool) (t : List LV), maskL m (maskL m t) = maskL m t
  | true :: m, v :: t => by simp [maskL, maskL_idem m t]
  | false :: m, v :: t => by simp [maskL, maskL_idem m t]
  | [], v :: t => by simp [maskL, maskL_idem [] t]
  | [], [] => rfl
  | _ :: _, [] => by simp [maskL]
theorem run_loop_tidy (a : Code) (e : Env) (σ : St) : run P Θ (.code (.loop a) e σ) = run P Θ (.code (.loop a) (tidy Θ e) σ) := by
  rw [run_loop, run_loop]
  simp only [tidy, maskL_idem]
theorem trim_same (σ : St) (vs : List LV) : trim σ.sz vs σ = σ := by simp [trim, St.sz]

/-! ### tests on numbers -/
theorem wrap64 {x : Int} (h0 : -9223372036854775808 ≤ x) (h1 : x < 9223372036854775808) : IntKind.i64.wrap x = x := by
  have e1 : IntKind.i64.wrap x = (if 9223372036854775808 ≤ x % 18446744073709551616 then x % 18446744073709551616 - 18446744073709551616 else x % 18446744073709551616) := by
    simp [IntKind.wrap, IntKind.signed, IntKind.bits]
  rw [e1]; split <;> omega
theorem lt_t {a b : Int} (h : a < b) : decide (a < b) = true := decide_eq_true h
theorem lt_f {a b : Int} (h : b ≤ a) : decide (a < b) = false := decide_eq_false (by omega)
theorem le_t {a b : Int} (h : a ≤ b) : decide (a ≤ b) = true := decide_eq_true h
theorem le_f {a b : Int} (h : b < a) : decide (a ≤ b) = false := decide_eq_false (by omega)
theorem gt_t {a b : Int} (h : b < a) : decide (a > b) = true := decide_eq_true h
theorem gt_f {a b : Int} (h : a ≤ b) : decide (a > b) = false := decide_eq_false (by omega)
theorem ge_t {a b : Int} (h : b ≤ a) : decide (a ≥ b) = true := decide_eq_true h
theorem ge_f {a b : Int} (h : a < b) : decide (a ≥ b) = false := decide_eq_false (by omega)
theorem bnd_some {x : Int} {d n : Nat} (h0 : 0 ≤ x) (h1 : x ≤ n) : bndL (some (.sc (.int .i64 x))) d n = some x.toNat := by
  simp [bndL, asInt64, h0, h1]
theorem bnd_none {d n : Nat} : bndL none d n = some d := rfl

theorem pick_true (x y : LV) : pickLV (.sc (.bool true)) x y = some x := rfl
theorem pick_false (x y : LV) : pickLV (.sc (.bool false)) x y = some y := rfl
/-! ### operations -/
theorem exec_nil (s : Bool) (all : List Oper) (e : Env) (σ : St) : exec P Θ s all [] e σ = some (e, σ) := rfl
noncomputable def opNext (P : Program) (Θ : Th) (all os : List Oper) (e : Env) (dst : Option Tmp) (r : LV × St) : Option (Env × St) := exec P Θ false all os (e.put dst r.1) r.2
theorem opNext_mk (all os : List Oper) (e : Env) (dst : Option Tmp) (v : LV) (σ : St) : opNext P Θ all os e dst (v, σ) = exec P Θ false all os (e.put dst v) σ := rfl
noncomputable def opNextD (P : Program) (Θ : Th) (all os : List Oper) (o : Oper) (e : Env) (σ : St) (r : LV × St) : Option (Env × St) :=
  open Classical in if opClass o ≤ 1 ∧ r.2 ≠ σ then none else exec P Θ true all os (e.put o.dst r.1) r.2
theorem opNextD_same (all os : List Oper) (o : Oper) (e : Env) (σ : St) (v : LV) : opNextD P Θ all os o e σ (v, σ) = exec P Θ true all os (e.put o.dst v) σ := by
  simp [opNextD]
theorem opNextD_big (all os : List Oper) (o : Oper) (e : Env) (σ : St) (r : LV × St) (h : ¬ opClass o ≤ 1) : opNextD P Θ all os o e σ r = exec P Θ true all os (e.put o.dst r.1) r.2 := by
  simp [opNextD, h]
noncomputable def callRun (P : Program) (Θ : Th) (e : Env) (σ : St) (f : Operand) (args : Array Operand) : Option (LV × St) := (run P Θ (.apply (e.ev f) (args.toList.map e.ev) σ)).map fun r => (r.v, r.σ)
noncomputable def opAny (P : Program) (Θ : Th) (o : Oper) (e : Env) (σ : St) : Option (LV × St) := opEval P (run P Θ) o e σ
theorem b_tf : (true == false) = false := rfl
theorem b_ft : (false == true) = false := rfl
theorem b_tt : (true == true) = true := rfl
theorem b_ff : (false == false) = true := rfl
noncomputable def opGo (P : Program) (Θ : Th) (all os : List Oper) (o : Oper) (e : Env) (σ : St) (b : Bool) : Option (Env × St) :=
  br b ((opAny P Θ o e σ).bind (opNext P Θ all os e o.dst)) <| exec P Θ false all os (e.put o.dst (.tuple [])) σ
noncomputable def opGoD (P : Program) (Θ : Th) (all os : List Oper) (o : Oper) (e : Env) (σ : St) (b : Bool) : Option (Env × St) :=
  br b ((opAny P Θ o e σ).bind (opNextD P Θ all os o e σ)) <| exec P Θ true all os (e.put o.dst (.tuple [])) σ
theorem exec_cons0 (all os : List Oper) (o : Oper) (e : Env) (σ : St) :
    exec P Θ false all (o :: os) e σ = (wantedL all o e).bind (opGo P Θ all os o e σ) := by
  unfold exec
  simp only [execOps]
  congr 1
  funext b
  cases b
  · rfl
  · simp only [cond_true, opGo, br_true, opAny]
    congr 1
theorem exec_consD0 (all os : List Oper) (o : Oper) (e : Env) (σ : St) :
    exec P Θ true all (o :: os) e σ = (wantedL all o e).bind (opGoD P Θ all os o e σ) := by
  unfold exec
  simp only [execOps]
  congr 1
  funext b
  cases b
  · rfl
  · simp only [cond_true, opGoD, br_true, opAny]
    congr 1
    funext r
    simp only [opNextD, exec]
    by_cases h : opClass o ≤ 1 ∧ r.2 ≠ σ
    · rw [if_pos ⟨rfl, h⟩, if_pos h]
    · rw [if_neg (fun x => h x.2), if_neg h]
/-- A guarded operation: both ways, the guard's slot being told in each. -/
noncomputable def gateS (P : Program) (Θ : Th) (all os : List Oper) (o : Oper) (e : Env) (σ : St) (d : Nat) (w : Bool) : LV → Option (Env × St)
  | .sc (.bool b) => br b (opGo P Θ all os o { e with t := e.t.set d (.sc (.bool true)) } σ (true == w)) (opGo P Θ all os o { e with t := e.t.set d (.sc (.bool false)) } σ (false == w))
  | .tuple [] => opGo P Θ all os o e σ false
  | _ => none
noncomputable def gateD (P : Program) (Θ : Th) (all os : List Oper) (o : Oper) (e : Env) (σ : St) (d : Nat) (w : Bool) : LV → Option (Env × St)
  | .sc (.bool b) => br b (opGoD P Θ all os o { e with t := e.t.set d (.sc (.bool true)) } σ (true == w)) (opGoD P Θ all os o { e with t := e.t.set d (.sc (.bool false)) } σ (false == w))
  | .tuple [] => opGoD P Θ all os o e σ false
  | _ => none
noncomputable def gate (P : Program) (Θ : Th) (all os : List Oper) (o : Oper) (e : Env) (σ : St) : Option (Nat × Bool) → Option (Env × St)
  | none => opGo P Θ all os o e σ true
  | some (j, w) => match (all[j]?).bind (·.dst) with
    | none => none
    | some d => gateS P Θ all os o e σ d w (e.t.getD d .undef)
noncomputable def gate' (P : Program) (Θ : Th) (all os : List Oper) (o : Oper) (e : Env) (σ : St) : Option (Nat × Bool) → Option (Env × St)
  | none => opGoD P Θ all os o e σ true
  | some (j, w) => match (all[j]?).bind (·.dst) with
    | none => none
    | some d => gateD P Θ all os o e σ d w (e.t.getD d .undef)
theorem set_same {l : List LV} {d : Nat} {v : LV} (h : l.getD d .undef = v) (hv : v ≠ .undef) : l.set d v = l := by
  apply List.ext_getElem?
  intro i
  rw [List.getElem?_set]
  split
  · rename_i hd
    subst hd
    rw [List.getD_eq_getElem?_getD] at h
    cases hl : l[d]? with
    | none => rw [hl] at h; exact absurd h.symm hv
    | some x =>
      rw [hl] at h
      have : d < l.length := (List.getElem?_eq_some_iff.1 hl).1
      simp [this]
      exact h.symm
  · rfl
theorem exec_cons (all os : List Oper) (o : Oper) (e : Env) (σ : St) : exec P Θ false all (o :: os) e σ = gate P Θ all os o e σ o.guard := by
  rw [exec_cons0]
  unfold wantedL gate
  split
  · rename_i hg; rw [hg]; rfl
  · rename_i j w hg
    simp only [hg]
    cases (all[j]?).bind (·.dst) with
    | none => rfl
    | some d =>
      simp only
      generalize hv : e.t.getD d .undef = v
      cases v with
      | sc v =>
        cases v with
        | bool b => cases b <;> simp only [gateS, br, Option.bind_some, set_same hv (by simp)] <;> rfl
        | _ => rfl
      | tuple vs => cases vs <;> rfl
      | _ => rfl
theorem exec_consD (all os : List Oper) (o : Oper) (e : Env) (σ : St) : exec P Θ true all (o :: os) e σ = gate' P Θ all os o e σ o.guard := by
  rw [exec_consD0]
  unfold wantedL gate'
  split
  · rename_i hg; rw [hg]; rfl
  · rename_i j w hg
    simp only [hg]
    cases (all[j]?).bind (·.dst) with
    | none => rfl
    | some d =>
      simp only
      generalize hv : e.t.getD d .undef = v
      cases v with
      | sc v =>
        cases v with
        | bool b => cases b <;> simp only [gateD, br, Option.bind_some, set_same hv (by simp)] <;> rfl
        | _ => rfl
      | tuple vs => cases vs <;> rfl
      | _ => rfl
theorem opAny_call (d : Option Tmp) (f : Operand) (as : Array Operand) (ts : Array TypeId) (t : TypeId) (pos : String) (af : Array Edge) (gd : Option (Nat × Bool)) (e : Env) (σ : St) :
    opAny P Θ { dst := d, op := .call { callee := .value f, args := as, argTypes := ts }, type := t, pos := pos, after := af, guard := gd } e σ = callRun P Θ e σ f as := rfl
theorem opAny_step (o : Oper) (e : Env) (σ : St) (h : callV o = none) : opAny P Θ o e σ = opStep P o e.ev σ := by
  simp only [opAny, opEval, h]

/-! ### calls -/
theorem run_apply_pure (f : FuncId) (fst caps args : List LV) (σ : St) (he : Θ.ent f = true) (hp : Θ.pureF f = true) :
    run P Θ (.apply (.func (.func f) fst caps) args σ) = (run P Θ (.call f (frzV.frzL σ (fst ++ args ++ caps)))).map fun r => ⟨.normal, r.v, default, frzS σ (rowsIn.rowsInL (fst ++ args ++ caps))⟩ := by
  rw [run_step]; simp only [stepT, he, hp, if_true]
theorem run_apply_st (f : FuncId) (fst caps args : List LV) (σ : St) (he : Θ.ent f = true) (hp : Θ.pureF f = false) :
    run P Θ (.apply (.func (.func f) fst caps) args σ) = run P Θ (.callS f (fst ++ args ++ caps) σ) := by
  rw [run_step]; simp [stepT, he, hp]
theorem run_apply_ext (f : FuncId) (fst caps args : List LV) (σ : St) (he : Θ.ent f = false) {p : List LV → Option LV} (hp : Θ.ext f = some p) :
    run P Θ (.apply (.func (.func f) fst caps) args σ) = (p (frzV.frzL σ (fst ++ args ++ caps))).bind fun v => if refFree v = true then some ⟨.normal, v, default, frzS σ (rowsIn.rowsInL (fst ++ args ++ caps))⟩ else none := by
  rw [run_step]; simp [stepT, he, extL, hp]
def shut1 (v : LV) : Option Res := if refFree v = true then some ⟨.normal, v, default, {}⟩ else none
theorem run_call_prim (f : FuncId) (args : List LV) {p : List LV → Option LV} (hp : Θ.prim f = some p) (ha : refFree.refFreeL args = true) : run P Θ (.call f args) = (p args).bind shut1 := by
  rw [run_step]; simp only [stepT, hp, ha, if_true]; rfl
def shutCall (r : Res) : Option Res := if refFree (frzV r.σ r.v) = true then some ⟨.normal, frzV r.σ r.v, default, {}⟩ else none
theorem run_call (f : FuncId) (args : List LV) (hp : Θ.prim f = none) (ha : refFree.refFreeL args = true) : run P Θ (.call f args) = (run P Θ (.callS f args {})).bind shutCall := by
  rw [run_step]; simp only [stepT, hp, ha, if_true]; rfl
def endCall (P : Program) (fn : Func) (r : Res) : Option Res :=
  match r.ex with
  | .normal | .ret => (resultL P fn r.env r.σ).map fun v => { v, σ := r.σ }
  | _ => none
theorem run_callS (f : FuncId) (args : List LV) (σ : St) {fn : Func} {c : Code} (hf : P.funcs[f]? = some fn) (hb : fn.body = some c) :
    run P Θ (.callS f args σ) = (run P Θ (.code c { fn := f, t := args ++ List.replicate (fn.ntmps - args.length) .undef } σ)).bind (endCall P fn) := by
  rw [run_step]; simp only [stepT, hf, Option.bind_some, hb]; rfl

/-! ### a range over a function -/
noncomputable def yield3 (l : Nat) (n : Sz) (r2 : Res) : Option Res :=
  some { v := .sc (.bool (r2.ex.code).isNone), σ := trim n [] (setState r2.σ l fun q => { q with state := if (r2.ex.code).isNone then .ready else .done, pending := r2.ex.code }) }
noncomputable def yield2 (P : Program) (Θ : Th) (l : Nat) (n : Sz) (body : Code) (r1 : Res) : Option Res :=
  if r1.ex = .normal ∧ isReady r1.σ l = true then (run P Θ (.code body r1.env (setState r1.σ l fun q => { q with state := .busy }))).bind (yield3 l n) else none
noncomputable def yield1 (P : Program) (Θ : Th) (l : Nat) (args : List LV) (σ : St) (lr : LoopRec) : Option Res :=
  if lr.state = .ready ∧ args.length = lr.params.length then
    (run P Θ (.code lr.assign { lr.env with t := (lr.params.zip args).foldl (fun t (p : Nat × LV) => t.set p.1 p.2) lr.env.t } σ)).bind (yield2 P Θ l σ.sz lr.body)
  else none
theorem run_apply_yield (l : Nat) (args : List LV) (σ : St) : run P Θ (.apply (.func (.yield l) [] []) args σ) = (σ.loops[l]?).bind (yield1 P Θ l args σ) := by
  rw [run_step]
  simp only [stepT]
  congr 1
  funext lr
  unfold yield1
  split
  · congr 1
    funext r1
    unfold yield2
    split
    · rename_i h
      cases run P Θ (.code lr.body r1.env (setState r1.σ l fun q => { q with state := .busy })) <;> rfl
    · rfl
  · rfl
noncomputable def range2 (e : Env) (σ τ : St) (lr : LoopRec) : Option Res :=
  if lr.state = .busy then none else
    match lr.pending with
    | none => some { env := e, σ := endL σ e τ }
    | some .ret => some { ex := .ret, env := e, σ := endL σ e τ }
    | some (.exit id) => some { ex := .exit id, env := e, σ := endL σ e τ }
    | some (.goto t) => some { ex := .goto t, env := e, σ := endL σ e τ }
    | some _ => none
noncomputable def range1 (e : Env) (σ : St) (r : Res) : Option Res := (r.σ.loops[σ.loops.length]?).bind (range2 e σ r.σ)
theorem run_range (f : Operand) (ps : Array Tmp) (assign body : Code) (e : Env) (σ : St) : run P Θ (.code (.rangeFunc f ps assign body) e σ) =
    bif (e.ev f).isFn Θ then (run P Θ (.apply (e.ev f) [.func (.yield σ.loops.length) [] []] { σ with loops := σ.loops ++ [{ env := tidy Θ e, params := ps.toList, assign, body, pending := none, state := .ready }] })).bind (range1 e σ) else none := by
  rw [run_step]
  simp only [stepT]
  cases h : (e.ev f).isFn Θ with
  | false => simp
  | true =>
    simp only [Bool.true_eq_false, if_false, cond_true]
    congr 1

end Go.Proofs.Ytecokfbldjekiaa.LI
