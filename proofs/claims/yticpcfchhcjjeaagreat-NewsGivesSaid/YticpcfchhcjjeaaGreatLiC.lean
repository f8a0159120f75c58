/-
  The interpreter's equations that are used by name; tests on numbers. No program is named here.
-/
import Derived.Test.YticpcfchhcjjeaaGreatLiB
namespace Go.Proofs.YticpcfchhcjjeaaGreat.LI
open Go Go.RowKit
variable {P : Program} {Θ : Th}

noncomputable def Res.again (P : Program) (Θ : Th) (a : Code) (n : Sz) (r : Res) : Option Res :=
  match r.ex with
  | .normal => run P Θ (.code (.loop a) (tidy Θ (loopKey a) r.env) (trim n (tidy Θ (loopKey a) r.env).t r.σ))
  | _ => some { r with env := tidy Θ (loopKey a) r.env }
theorem run_loop (a : Code) (e : Env) (σ : St) : run P Θ (.code (.loop a) e σ) = (run P Θ (.code a (tidy Θ (loopKey a) e) σ)).bind (Res.again P Θ a σ.sz) := by
  rw [run_step]; rfl
theorem maskL_idem : ∀ (m : List Bool) (t : List LV), maskL m (maskL m t) = maskL m t
  | true :: m, v :: t => by simp [maskL, maskL_idem m t]
  | false :: m, v :: t => by simp [maskL, maskL_idem m t]
  | [], v :: t => by simp [maskL, maskL_idem [] t]
  | [], [] => rfl
  | _ :: _, [] => by simp [maskL]
theorem run_loop_tidy (a : Code) (e : Env) (σ : St) : run P Θ (.code (.loop a) e σ) = run P Θ (.code (.loop a) (tidy Θ (loopKey a) e) σ) := by
  rw [run_loop, run_loop]
  simp only [tidy, maskL_idem]

/-! ### tests on numbers -/
theorem wrap64 {x : Int} (h0 : -9223372036854775808 ≤ x) (h1 : x < 9223372036854775808) : IntKind.i64.wrap x = x := by
  have e1 : IntKind.i64.wrap x = (if 9223372036854775808 ≤ x % 18446744073709551616 then x % 18446744073709551616 - 18446744073709551616 else x % 18446744073709551616) := by
    simp [IntKind.wrap, IntKind.signed, IntKind.bits]
  rw [e1]; split <;> omega
theorem lt_t {a b : Int} (h : a < b) : decide (a < b) = true := decide_eq_true h
theorem lt_f {a b : Int} (h : b ≤ a) : decide (a < b) = false := decide_eq_false (by omega)
theorem le_t {a b : Int} (h : a ≤ b) : decide (a ≤ b) = true := decide_eq_true h
theorem le_f {a b : Int} (h : b < a) : decide (a ≤ b) = false := decide_eq_false (by omega)
theorem gt_t {a b : Int} (h : b < a) : decide (a > b) = true := decide_eq_true h
theorem gt_f {a b : Int} (h : a ≤ b) : decide (a > b) = false := decide_eq_false (by omega)
theorem ge_t {a b : Int} (h : b ≤ a) : decide (a ≥ b) = true := decide_eq_true h
theorem ge_f {a b : Int} (h : a < b) : decide (a ≥ b) = false := decide_eq_false (by omega)
noncomputable def exec (P : Program) (Θ : Th) := execOps P Θ (run P Θ)
end Go.Proofs.YticpcfchhcjjeaaGreat.LI
