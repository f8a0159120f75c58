/-
  Layer 1 (text): the iterator of text.Split as a contract.
-/
import Derived.Test.YtecokfbldjekiaaTkS
namespace Go.Proofs.Ytecokfbldjekiaa.LI
open Go Go.RowKit
open KV (toL)
open KV.toL (toLs)
set_option maxRecDepth 100000
/-- The line ahead of the first line feed. -/
def lineOf (b : List UInt8) : ByteArray := ByteArray.mk (Array.mk (cutA b))
def goodL : Nat → List UInt8 → Bool
  | 0, _ => true
  | k + 1, b => bif cutOk b then (mayK (lineOf b) && goodL k (cutB b)) else true
def accL : Nat → List ByteArray → List UInt8 → List ByteArray
  | 0, acc, _ => acc
  | k + 1, acc, b => bif cutOk b && mayK (lineOf b) then accL k (acc ++ [lineOf b]) (cutB b) else acc
def endB : Nat → List UInt8 → List UInt8
  | 0, b => b
  | k + 1, b => bif cutOk b && mayK (lineOf b) then endB k (cutB b) else b
def v30 : List KV := [.func (.yield 0) [] [], .bptr 3 0]
noncomputable def stN (b : List UInt8) : KSt := ⟨[[.nils], [.st (.int .i64 0)], [.nils], [.lst .byte false b]], [], [r9 none .ready]⟩
noncomputable def stNB (b : List UInt8) : KSt := ⟨[[.nils], [.st (.int .i64 2)], [.nils], [.lst .byte false b]], [], [r9 (some .ret) .done]⟩
noncomputable def stM (acc : List ByteArray) (b : List UInt8) : KSt := ⟨[[.nils], [.st (.int .i64 0)], [.mref 0 acc.length], [.lst .byte false b]], [⟨.str, acc, 9, 1, true⟩], [r9 none .ready]⟩
noncomputable def stMB (acc : List ByteArray) (b : List UInt8) : KSt := ⟨[[.nils], [.st (.int .i64 2)], [.mref 0 acc.length], [.lst .byte false b]], [⟨.str, acc, 9, 1, true⟩], [r9 (some .ret) .done]⟩
theorem n30 : ((loopsOf (bodyOf Try.prog 30)).filter fun a => loopKey a == some 0).length = 1 := by kernel_rfl
theorem n9 : ((rangesOf (bodyOf Try.prog 9)).filter fun a => loopKey a.2.1 == some 7).length = 1 := by kernel_rfl
theorem cutB_len (b : List UInt8) (h : cutOk b = true) : (cutB b).length < b.length := by
  unfold cutB
  rw [h, cond_true, List.length_drop]
  simp only [cutOk, decide_eq_true_eq] at h
  have := idx_lt b 10 h
  unfold feed at h ⊢
  omega
theorem max_le {n : Nat} (h : n ≤ 1000001) : decide (n ≤ maxEls) = true := by
  have : maxEls = 1099511627776 := rfl
  rw [decide_eq_true_eq, this]; omega
theorem LM (h0 : StOK Try.prog (stN [])) : ∀ (k : Nat) (acc : List ByteArray) (b : List UInt8), b.length < k → acc.length + b.length ≤ 1000000 →
    LoopTo Try.prog th 30 (some 0) v30 (stM acc b) .ret v30 (bif goodL k b then stM (accL k acc b) (endB k b) else stMB (accL k acc b) (endB k b))
  | 0, acc, b, h, _ => by omega
  | k + 1, acc, b, h, hm => by
    have hs : StOK Try.prog (stM acc b) := h0.same rfl
    have hb : b.length.ble 1000000 = true := by rw [Nat.ble_eq]; omega
    have e := i30m acc b
    simp only [hb, condF_true, decide_true] at e
    cases hc : cutOk b with
    | false =>
      simp only [hc, Bool.not_false, condF_true] at e
      have e1 : (bif goodL (k + 1) b then stM (accL (k + 1) acc b) (endB (k + 1) b) else stMB (accL (k + 1) acc b) (endB (k + 1) b)) = stM acc b := by
        simp only [goodL, accL, endB, hc, cond_false, cond_true, Bool.false_and]
      rw [e1]
      exact LoopTo.stop S5_ok n30 hs e (by simp)
    | true =>
      have hl := cutB_len b hc
      simp only [hc, Bool.not_true, condF_false] at e
      cases hy : mayK (lineOf b) with
      | false =>
        have hy' : mayK (ByteArray.mk (Array.mk (cutA b))) = false := hy
        simp only [hy', Bool.not_false, condF_true] at e
        have e1 : (bif goodL (k + 1) b then stM (accL (k + 1) acc b) (endB (k + 1) b) else stMB (accL (k + 1) acc b) (endB (k + 1) b)) = stMB acc b := by
          simp only [goodL, accL, endB, hc, hy, cond_false, cond_true, Bool.false_and, Bool.and_false]
        rw [e1]
        exact LoopTo.stop S5_ok n30 hs e (by simp)
      | true =>
        have hy' : mayK (ByteArray.mk (Array.mk (cutA b))) = true := hy
        have hx : decide (acc.length + [ByteArray.mk (cutA b).toArray].length ≤ maxEls) = true := max_le (by simp only [List.length_cons, List.length_nil]; omega)
        simp only [hy', Bool.not_true, condF_false, hx, condF_true] at e
        have e1 : (bif goodL (k + 1) b then stM (accL (k + 1) acc b) (endB (k + 1) b) else stMB (accL (k + 1) acc b) (endB (k + 1) b)) =
            (bif goodL k (cutB b) then stM (accL k (acc ++ [lineOf b]) (cutB b)) (endB k (cutB b)) else stMB (accL k (acc ++ [lineOf b]) (cutB b)) (endB k (cutB b))) := by
          simp only [goodL, accL, endB, hc, hy, cond_true, Bool.true_and, Bool.and_self]
        rw [e1]
        have ih := LM h0 k (acc ++ [lineOf b]) (cutB b) (by omega) (by simp only [List.length_append, List.length_cons, List.length_nil]; omega)
        have e2 : stM (acc ++ [lineOf b]) (cutB b) = ⟨[[.nils], [.st (.int .i64 0)], [.mref 0 (acc.length + [ByteArray.mk (Array.mk (cutA b))].length)], [.lst .byte false (cutB b)]], [⟨.str, acc ++ [ByteArray.mk (Array.mk (cutA b))], 9, 1, true⟩], [r9 none .ready]⟩ := by
          unfold stM
          rw [List.length_append]
          rfl
        rw [e2] at ih
        exact LoopTo.next S5_ok n30 hs e ih
noncomputable def o30 (b : List UInt8) : Out := .two (cutOk b)
  (.two (mayK (lineOf b))
    (.two (goodL b.length (cutB b)) (.one .ret v30 (stM (accL b.length [lineOf b] (cutB b)) (endB b.length (cutB b)))) (.one .ret v30 (stMB (accL b.length [lineOf b] (cutB b)) (endB b.length (cutB b)))))
    (.one .ret v30 (stNB b)))
  (.one .ret v30 (stN b))
theorem LN (h0 : StOK Try.prog (stN [])) (b : List UInt8) (hm : b.length ≤ 1000000) : LoopTo Try.prog th 30 (some 0) v30 (stN b) (o30 b).pick.1 (o30 b).pick.2.1 (o30 b).pick.2.2 ∧ StOK Try.prog (o30 b).pick.2.2 := by
  have hs : StOK Try.prog (stN b) := h0.same rfl
  have hb : b.length.ble 1000000 = true := by rw [Nat.ble_eq]; omega
  have e := i30n b
  simp only [hb, condF_true] at e
  cases hc : cutOk b with
  | false =>
    simp only [hc, Bool.not_false, condF_true] at e
    have e1 : (o30 b).pick = (.ret, v30, stN b) := by simp only [o30, Out.pick, hc, cond_false]
    rw [e1]
    exact ⟨LoopTo.stop S5_ok n30 hs e (by simp), hs⟩
  | true =>
    have hl := cutB_len b hc
    simp only [hc, Bool.not_true, condF_false] at e
    cases hy : mayK (lineOf b) with
    | false =>
      have hy' : mayK (ByteArray.mk (Array.mk (cutA b))) = false := hy
      simp only [hy', Bool.not_false, condF_true] at e
      have e1 : (o30 b).pick = (.ret, v30, stNB b) := by simp only [o30, Out.pick, hc, hy, cond_false, cond_true]
      rw [e1]
      exact ⟨LoopTo.stop S5_ok n30 hs e (by simp), h0.same rfl⟩
    | true =>
      have hy' : mayK (ByteArray.mk (Array.mk (cutA b))) = true := hy
      have hx : decide ([ByteArray.mk (cutA b).toArray].length ≤ maxEls) = true := max_le (by simp only [List.length_cons, List.length_nil]; omega)
      simp only [hy', Bool.not_true, condF_false, hx, condF_true] at e
      have ih := LM h0 b.length [lineOf b] (cutB b) hl (by simp only [List.length_cons, List.length_nil]; omega)
      have e1 : (o30 b).pick = (.ret, v30, bif goodL b.length (cutB b) then stM (accL b.length [lineOf b] (cutB b)) (endB b.length (cutB b)) else stMB (accL b.length [lineOf b] (cutB b)) (endB b.length (cutB b))) := by
        simp only [o30, Out.pick, hc, hy, cond_true]
        cases goodL b.length (cutB b) <;> rfl
      rw [e1]
      refine ⟨LoopTo.next S5_ok n30 hs e ih, ?_⟩
      cases goodL b.length (cutB b) <;> exact h0.same rfl
noncomputable def pl30 : List KV → KSt → Option (Ck × Out)
  | [.func (.yield 0) [] [], .bptr 3 0], ⟨[[.nils], [.st (.int .i64 z)], [.nils], [.lst .byte false b]], [], [lr]⟩ =>
    match isRec lr 9 7 (padK [.undef, .undef, .bptr 0 0, .bptr 1 0, .bptr 2 0] 40) with
    | true => some (.and (.st true (decide (z = 0))) (.is (Nat.ble b.length 1000000)), o30 b)
    | false => none
  | _, _ => none
theorem pl30_ok (vs : List KV) (σ : KSt) (c : Ck) (o : Out) (h : pl30 vs σ = some (c, o)) (hc : c.val = true) (hs : StOK Try.prog σ) : LoopTo Try.prog th 30 (some 0) vs σ o.pick.1 o.pick.2.1 o.pick.2.2 ∧ StOK Try.prog o.pick.2.2 := by
  unfold pl30 at h
  split at h
  · rename_i z b lr
    split at h
    · rename_i hr
      cases h
      simp only [val_and_t, st_val, val_is, Nat.ble_eq, decide_eq_true_eq] at hc
      obtain ⟨rfl, hb⟩ := hc
      have := isRec_eq n9 hr hs (by simp)
      subst this
      exact LN (hs.same rfl) b hb
    · cases h
  · cases h
noncomputable def S6 (fk : Fk) : Cs := (S5 fk).addL 30 0 pl30
instance : FkOK (S6 condF) := ⟨fun _ _ _ => rfl⟩
theorem S6_ok : CsOK Try.prog th (S6 condF) := S5_ok.addL n30 pl30_ok
theorem k9_ (fk : Fk) (l : List UInt8)  : fnK Try.prog th (S6 fk) 1000 9 [.lst .byte false l] =
    fk (decide ((↑l.length : Int) > (200000 : Int))) (some (KV.tuple [KV.nils, KV.sc (Value.int IntKind.i64 (8 : Int))]))
      (fk (decide ((↑(List.count (UInt8.ofNat (Int.toNat (10 : Int))) l) : Int) > (200 : Int)))
        (some (KV.tuple [KV.nils, KV.sc (Value.int IntKind.i64 (8 : Int))]))
        (fk (decide ((↑l.length : Int) > (0 : Int)))
          (fk (decide ((0 : Int) ≤ IntKind.i64.wrap ((↑l.length : Int) - (1 : Int))))
            (fk (decide (IntKind.i64.wrap ((↑l.length : Int) - (1 : Int)) < (↑l.length : Int)))
              (fk
                ((↑(l.getD (IntKind.i64.wrap ((↑l.length : Int) - (1 : Int))).toNat (0 : UInt8)).toNat : Int) != (10 : Int))
                (some (KV.tuple [KV.nils, KV.sc (Value.int IntKind.i64 (2 : Int))]))
                (fk (l.length.ble (1000000 : Nat))
                  (fk (cutOk l)
                    (fk (mayK (lineOf l))
                      (fk (goodL l.length (cutB l))
                        (fk
                          (decide ((accL l.length [lineOf l] (cutB l)).length = (accL l.length [lineOf l] (cutB l)).length))
                          (some
                            (KV.tuple
                              [KV.lst Ty.str false (accL l.length [lineOf l] (cutB l)),
                                KV.sc (Value.int IntKind.i64 (0 : Int))]))
                          none)
                        (some (KV.tuple [KV.nils, KV.sc (Value.int IntKind.i64 (2 : Int))])))
                      (some (KV.tuple [KV.nils, KV.sc (Value.int IntKind.i64 (2 : Int))])))
                    (some (KV.tuple [KV.nils, KV.sc (Value.int IntKind.i64 (0 : Int))])))
                  none))
              none)
            none)
          (fk (l.length.ble (1000000 : Nat))
            (fk (cutOk l)
              (fk (mayK (lineOf l))
                (fk (goodL l.length (cutB l))
                  (fk (decide ((accL l.length [lineOf l] (cutB l)).length = (accL l.length [lineOf l] (cutB l)).length))
                    (some
                      (KV.tuple
                        [KV.lst Ty.str false (accL l.length [lineOf l] (cutB l)), KV.sc (Value.int IntKind.i64 (0 : Int))]))
                    none)
                  (some (KV.tuple [KV.nils, KV.sc (Value.int IntKind.i64 (2 : Int))])))
                (some (KV.tuple [KV.nils, KV.sc (Value.int IntKind.i64 (2 : Int))])))
              (some (KV.tuple [KV.nils, KV.sc (Value.int IntKind.i64 (0 : Int))])))
            none))) := by kernel_rfl
theorem k9 (l : List UInt8)  : fnK Try.prog th (S6 condF) 1000 9 [.lst .byte false l] =
    condF (decide ((↑l.length : Int) > (200000 : Int))) (some (KV.tuple [KV.nils, KV.sc (Value.int IntKind.i64 (8 : Int))]))
      (condF (decide ((↑(List.count (UInt8.ofNat (Int.toNat (10 : Int))) l) : Int) > (200 : Int)))
        (some (KV.tuple [KV.nils, KV.sc (Value.int IntKind.i64 (8 : Int))]))
        (condF (decide ((↑l.length : Int) > (0 : Int)))
          (condF (decide ((0 : Int) ≤ IntKind.i64.wrap ((↑l.length : Int) - (1 : Int))))
            (condF (decide (IntKind.i64.wrap ((↑l.length : Int) - (1 : Int)) < (↑l.length : Int)))
              (condF
                ((↑(l.getD (IntKind.i64.wrap ((↑l.length : Int) - (1 : Int))).toNat (0 : UInt8)).toNat : Int) != (10 : Int))
                (some (KV.tuple [KV.nils, KV.sc (Value.int IntKind.i64 (2 : Int))]))
                (condF (l.length.ble (1000000 : Nat))
                  (condF (cutOk l)
                    (condF (mayK (lineOf l))
                      (condF (goodL l.length (cutB l))
                        (condF
                          (decide ((accL l.length [lineOf l] (cutB l)).length = (accL l.length [lineOf l] (cutB l)).length))
                          (some
                            (KV.tuple
                              [KV.lst Ty.str false (accL l.length [lineOf l] (cutB l)),
                                KV.sc (Value.int IntKind.i64 (0 : Int))]))
                          none)
                        (some (KV.tuple [KV.nils, KV.sc (Value.int IntKind.i64 (2 : Int))])))
                      (some (KV.tuple [KV.nils, KV.sc (Value.int IntKind.i64 (2 : Int))])))
                    (some (KV.tuple [KV.nils, KV.sc (Value.int IntKind.i64 (0 : Int))])))
                  none))
              none)
            none)
          (condF (l.length.ble (1000000 : Nat))
            (condF (cutOk l)
              (condF (mayK (lineOf l))
                (condF (goodL l.length (cutB l))
                  (condF (decide ((accL l.length [lineOf l] (cutB l)).length = (accL l.length [lineOf l] (cutB l)).length))
                    (some
                      (KV.tuple
                        [KV.lst Ty.str false (accL l.length [lineOf l] (cutB l)), KV.sc (Value.int IntKind.i64 (0 : Int))]))
                    none)
                  (some (KV.tuple [KV.nils, KV.sc (Value.int IntKind.i64 (2 : Int))])))
                (some (KV.tuple [KV.nils, KV.sc (Value.int IntKind.i64 (2 : Int))])))
              (some (KV.tuple [KV.nils, KV.sc (Value.int IntKind.i64 (0 : Int))])))
            none))) := k9_ condF l
end Go.Proofs.Ytecokfbldjekiaa.LI
