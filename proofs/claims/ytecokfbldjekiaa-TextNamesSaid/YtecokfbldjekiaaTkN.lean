/-
  TextNames: a name may be just if it is of one to sixteen signs that each may be one alone; it is a line, too. Without conditions.
-/
import Derived.Test.YtecokfbldjekiaaTkD
import Derived.Test.YtecokfbldjekiaaRows
import Derived.Test.YtecokfbldjekiaaChecked
import Derived.ChangeOld
import Derived.ProofKit
import Derived.ShutString
namespace Go.Proofs.Ytecokfbldjekiaa.LI
open Go Go.RowKit
open KV (toL)
open KV.toL (toLs)
set_option maxRecDepth 100000
/-- Is each byte from i on, k of them, alone a name? -/
def allN (s : ByteArray) : Nat → Nat → Bool → Bool
  | 0, _, a => a
  | k + 1, i, a => allN s k (i + 1) (a && nameK (s.extract i (i + 1)))
theorem n4 : ((loopsOf (bodyOf Try.prog 4)).filter fun a => loopKey a == some 6).length = 1 := by kernel_rfl
theorem L4 (s : ByteArray) (r : Bool) (hs : (s.size : Int) < big) : ∀ (k i : Nat) (a : Bool), i + k = s.size →
    LoopTo Try.prog th 4 (some 6) [.sc (.string s), .sc (.bool r), .sc (.bool a), .sc (.int .i64 i)] {} (.exit 0) [.sc (.string s), .sc (.bool r), .sc (.bool (allN s k i a)), .sc (.int .i64 s.size)] {}
  | 0, i, a, hi => by
    have e := i4 s i r a
    simp (disch := omega) only [lt_t, lt_f, le_t, le_f, gt_t, gt_f, ge_t, ge_f, eq_tK, eq_fK, ne_tK, ne_fK, condF_true, condF_false, cond_true, cond_false, decide_true, decide_false, Bool.and_true, Bool.true_and, Bool.and_false, Bool.false_and, Bool.and_self, Bool.not_true, Bool.not_false, wrap64, wrapN, Int.toNat_natCast] at e
    have hi' : i = s.size := by omega
    subst hi'
    exact LoopTo.stop S3_ok n4 StOK.nil e (by simp)
  | k + 1, i, a, hi => by
    have hx : ((s.extract i (i + 1)).size : Int) < big := by
      rw [ByteArray.size_extract]; omega
    have e := i4 s i r a
    cases a with
    | true =>
      simp (disch := omega) only [lt_t, lt_f, le_t, le_f, gt_t, gt_f, ge_t, ge_f, eq_tK, eq_fK, ne_tK, ne_fK, condF_true, condF_false, cond_true, cond_false, decide_true, decide_false, Bool.and_true, Bool.true_and, Bool.and_false, Bool.false_and, Bool.and_self, Bool.not_true, Bool.not_false, wrap64, wrapN, Int.toNat_natCast, fit_t hx] at e
      exact LoopTo.next S3_ok n4 StOK.nil e (L4 s r hs k (i + 1) _ (by omega))
    | false =>
      simp (disch := omega) only [lt_t, lt_f, le_t, le_f, gt_t, gt_f, ge_t, ge_f, eq_tK, eq_fK, ne_tK, ne_fK, condF_true, condF_false, cond_true, cond_false, decide_true, decide_false, Bool.and_true, Bool.true_and, Bool.and_false, Bool.false_and, Bool.and_self, Bool.not_true, Bool.not_false, wrap64, wrapN, Int.toNat_natCast] at e
      exact LoopTo.next S3_ok n4 StOK.nil e (L4 s r hs k (i + 1) _ (by omega))
def pl4 : List KV → KSt → Option (Ck × Out)
  | [.sc (.string s), .sc (.bool r), .sc (.bool a), .sc (.int .i64 i)], ⟨[], [], []⟩ => some (.and (.is (decide (i = 0))) (.is (fit s.size)), .one (.exit 0) [.sc (.string s), .sc (.bool r), .sc (.bool (allN s s.size 0 a)), .sc (.int .i64 s.size)] {})
  | _, _ => none
theorem pl4_ok (vs : List KV) (σ : KSt) (c : Ck) (o : Out) (h : pl4 vs σ = some (c, o)) (hc : c.val = true) (_ : StOK Try.prog σ) : LoopTo Try.prog th 4 (some 6) vs σ o.pick.1 o.pick.2.1 o.pick.2.2 ∧ StOK Try.prog o.pick.2.2 := by
  unfold pl4 at h
  split at h
  · rename_i s r a i _
    cases h
    simp only [val_and_t, val_is_t, val_fit_t] at hc
    obtain ⟨rfl, hs⟩ := hc
    exact ⟨L4 s r hs s.size 0 a (by omega), StOK.nil⟩
  · cases h
noncomputable def S4 (fk : Fk) : Cs := (S3 fk).addL 4 6 pl4
instance : FkOK (S4 condF) := ⟨fun _ _ _ => rfl⟩
theorem S4_ok : CsOK Try.prog th (S4 condF) := S3_ok.addL n4 pl4_ok
theorem k4_ (fk : Fk) (s : ByteArray)  : fnK Try.prog th (S4 fk) 1000 4 [.sc (.string s)] =
    fk (decide ((↑s.size : Int) > (100 : Int))) (some (KV.sc (Value.bool true)))
      (fk (decide ((↑s.size : Int) > (0 : Int)))
        (fk (decide ((0 : Int) = (0 : Int)))
          (fk (fit s.size)
            (fk (fit s.size)
              (fk (nameK s == allN s s.size (0 : Nat) (decide ((↑s.size : Int) ≤ (16 : Int))))
                (fk (!allN s s.size (0 : Nat) (decide ((↑s.size : Int) ≤ (16 : Int)))) (some (KV.sc (Value.bool true)))
                  (some (KV.sc (Value.bool (mayK s)))))
                (some (KV.sc (Value.bool false))))
              none)
            none)
          none)
        (fk (decide ((0 : Int) = (0 : Int)))
          (fk (fit s.size)
            (fk (fit s.size)
              (fk (nameK s == allN s s.size (0 : Nat) false)
                (fk (!allN s s.size (0 : Nat) false) (some (KV.sc (Value.bool true))) (some (KV.sc (Value.bool (mayK s)))))
                (some (KV.sc (Value.bool false))))
              none)
            none)
          none)) := by kernel_rfl
theorem k4 (s : ByteArray)  : fnK Try.prog th (S4 condF) 1000 4 [.sc (.string s)] =
    condF (decide ((↑s.size : Int) > (100 : Int))) (some (KV.sc (Value.bool true)))
      (condF (decide ((↑s.size : Int) > (0 : Int)))
        (condF (decide ((0 : Int) = (0 : Int)))
          (condF (fit s.size)
            (condF (fit s.size)
              (condF (nameK s == allN s s.size (0 : Nat) (decide ((↑s.size : Int) ≤ (16 : Int))))
                (condF (!allN s s.size (0 : Nat) (decide ((↑s.size : Int) ≤ (16 : Int)))) (some (KV.sc (Value.bool true)))
                  (some (KV.sc (Value.bool (mayK s)))))
                (some (KV.sc (Value.bool false))))
              none)
            none)
          none)
        (condF (decide ((0 : Int) = (0 : Int)))
          (condF (fit s.size)
            (condF (fit s.size)
              (condF (nameK s == allN s s.size (0 : Nat) false)
                (condF (!allN s s.size (0 : Nat) false) (some (KV.sc (Value.bool true))) (some (KV.sc (Value.bool (mayK s)))))
                (some (KV.sc (Value.bool false))))
              none)
            none)
          none)) := k4_ condF s
end Go.Proofs.Ytecokfbldjekiaa.LI
