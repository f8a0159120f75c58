/-
  Regions with less to carry: an operation is its slot, what it does, its guard. No program is named here.
-/
import Derived.Test.YtecokfbldjekiaaLiX
namespace Go.Proofs.Ytecokfbldjekiaa.LI
open Go Go.RowKit

structure O3 where
  dst : Option Tmp
  op : Op
  guard : Option (Nat × Bool)
def toO3 (o : Oper) : O3 := ⟨o.dst, o.op, o.guard⟩
theorem toO3_mk (d : Option Tmp) (op : Op) (t : TypeId) (pos : String) (af : Array Edge) (gd : Option (Nat × Bool)) : toO3 { dst := d, op := op, type := t, pos := pos, after := af, guard := gd } = ⟨d, op, gd⟩ := rfl
def dstOf (o : Oper) : Option Tmp := o.dst
theorem dstOf_mk (d : Option Tmp) (op : Op) (t : TypeId) (pos : String) (af : Array Edge) (gd : Option (Nat × Bool)) : dstOf { dst := d, op := op, type := t, pos := pos, after := af, guard := gd } = d := rfl

section
variable (P : Program) (Θ : Th)
noncomputable def op3 (op : Op) (e : Env) (σ : St) : Option (LV × St) := opEval P (run P Θ) { dst := none, op := op, type := 0, pos := "", after := #[], guard := none } e σ
def want3 (ds : List (Option Tmp)) (gd : Option (Nat × Bool)) (e : Env) : Option Bool :=
  match gd with
  | none => some true
  | some (j, want) => match (ds[j]?).bind id with
    | none => none
    | some d => match e.t.getD d .undef with
      | .sc (.bool b) => some (b == want)
      | .tuple [] => some false
      | _ => none
noncomputable def ex3 (ds : List (Option Tmp)) : List O3 → Env → St → Option (Env × St)
  | [], e, σ => some (e, σ)
  | x :: xs, e, σ => (want3 ds x.guard e).bind fun b => bif b then (op3 P Θ x.op e σ).bind (fun r => ex3 ds xs (e.put x.dst r.1) r.2) else ex3 ds xs (e.put x.dst (.tuple [])) σ
noncomputable def nx3 (ds : List (Option Tmp)) (xs : List O3) (e : Env) (dst : Option Tmp) (r : LV × St) : Option (Env × St) := ex3 P Θ ds xs (e.put dst r.1) r.2
noncomputable def go3 (ds : List (Option Tmp)) (xs : List O3) (dst : Option Tmp) (op : Op) (e : Env) (σ : St) (b : Bool) : Option (Env × St) :=
  br b ((op3 P Θ op e σ).bind (nx3 P Θ ds xs e dst)) (ex3 P Θ ds xs (e.put dst (.tuple [])) σ)
noncomputable def gs3 (ds : List (Option Tmp)) (xs : List O3) (dst : Option Tmp) (op : Op) (e : Env) (σ : St) (d : Nat) (w : Bool) : LV → Option (Env × St)
  | .sc (.bool b) => br b (go3 P Θ ds xs dst op { e with t := e.t.set d (.sc (.bool true)) } σ (true == w)) (go3 P Θ ds xs dst op { e with t := e.t.set d (.sc (.bool false)) } σ (false == w))
  | .tuple [] => go3 P Θ ds xs dst op e σ false
  | _ => none
noncomputable def gt3 (ds : List (Option Tmp)) (xs : List O3) (dst : Option Tmp) (op : Op) (e : Env) (σ : St) : Option (Nat × Bool) → Option (Env × St)
  | none => (op3 P Θ op e σ).bind (nx3 P Θ ds xs e dst)
  | some (j, w) => match (ds[j]?).bind id with
    | none => none
    | some d => gs3 P Θ ds xs dst op e σ d w (e.t.getD d .undef)
end
section
variable {P : Program} {Θ : Th}
theorem ex3_nil (ds : List (Option Tmp)) (e : Env) (σ : St) : ex3 P Θ ds [] e σ = some (e, σ) := rfl
theorem nx3_mk (ds : List (Option Tmp)) (xs : List O3) (e : Env) (dst : Option Tmp) (v : LV) (σ : St) : nx3 P Θ ds xs e dst (v, σ) = ex3 P Θ ds xs (e.put dst v) σ := rfl
theorem op3_call (f : Operand) (as : Array Operand) (ts : Array TypeId) (e : Env) (σ : St) : op3 P Θ (.call { callee := .value f, args := as, argTypes := ts }) e σ = callRun P Θ e σ f as := rfl
theorem ex3_cons (ds : List (Option Tmp)) (dst : Option Tmp) (op : Op) (gd : Option (Nat × Bool)) (xs : List O3) (e : Env) (σ : St) : ex3 P Θ ds (⟨dst, op, gd⟩ :: xs) e σ = gt3 P Θ ds xs dst op e σ gd := by
  simp only [ex3]
  cases gd with
  | none => rfl
  | some p =>
    obtain ⟨j, w⟩ := p
    simp only [want3, gt3]
    cases (ds[j]?).bind id with
    | none => rfl
    | some d =>
      simp only
      generalize hv : e.t.getD d .undef = v
      cases v with
      | sc v =>
        cases v with
        | bool b => cases b <;> cases w <;> simp only [gs3, go3, br, Option.bind_some, set_same hv (by simp)] <;> rfl
        | _ => rfl
      | tuple vs => cases vs <;> rfl
      | _ => rfl
theorem execOps_ex3 (all : List Oper) : ∀ (os : List Oper) (e : Env) (σ : St), execOps P (run P Θ) false all os e σ = ex3 P Θ (all.map dstOf) (os.map toO3) e σ
  | [], e, σ => rfl
  | o :: os, e, σ => by
    have hw : wantedL all o e = want3 (all.map dstOf) (toO3 o).guard e := by
      have hg : (toO3 o).guard = o.guard := rfl
      unfold wantedL want3
      rw [hg]
      cases o.guard with
      | none => rfl
      | some p =>
        obtain ⟨j, w⟩ := p
        simp only [List.getElem?_map]
        cases all[j]? with
        | none => rfl
        | some o' => rfl
    simp only [execOps, List.map_cons, ex3, hw]
    congr 1
    funext b
    cases b with
    | false => simp only [cond_false]; exact execOps_ex3 all os _ _
    | true =>
      simp only [cond_true]
      have ho : opEval P (run P Θ) o e σ = op3 P Θ (toO3 o).op e σ := rfl
      rw [ho]
      congr 1
      funext r
      rw [if_neg (fun h => by simp at h)]
      exact execOps_ex3 all os _ _
noncomputable def reg3 (P : Program) (Θ : Th) (l : List Oper) (e : Env) (σ : St) : Option Res :=
  bif litStart P l then litGo3 P Θ l e σ else (ex3 P Θ (l.map dstOf) (l.map toO3) e σ).map opsRes
where
  litGo3 (P : Program) (Θ : Th) (l : List Oper) (e : Env) (σ : St) : Option Res := match l with
    | o1 :: o2 :: os => (o1.dst.bind fun d => e.t[d]?).bind fun _ => (opStep P o1 e.ev σ).bind fun r => (ex3 P Θ (l.map dstOf) (os.map toO3) ((e.put o1.dst r.1).put o2.dst r.1) r.2).map opsRes
    | _ => none
theorem run_region3 (id : Nat) (ops : Array Oper) (e : Env) (σ : St) : run P Θ (.code (.region id ops false) e σ) = reg3 P Θ ops.toList e σ := by
  rw [run_region]
  unfold litRun reg3
  cases litStart P ops.toList with
  | false => simp only [cond_false, exec, execOps_ex3]
  | true =>
    simp only [cond_true]
    generalize ops.toList = l
    cases l with
    | nil => rfl
    | cons o1 l =>
      cases l with
      | nil => rfl
      | cons o2 os => simp only [litGo, reg3.litGo3, exec, execOps_ex3]
end
end Go.Proofs.Ytecokfbldjekiaa.LI
