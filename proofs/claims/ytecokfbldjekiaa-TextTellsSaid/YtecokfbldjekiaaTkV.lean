/-
  Layer 1 (text): whether two lists are the same, as a contract.
-/
import Derived.Test.YtecokfbldjekiaaTkU
namespace Go.Proofs.Ytecokfbldjekiaa.LI
open Go Go.RowKit
open KV (toL)
open KV.toL (toLs)
set_option maxRecDepth 100000
def differ (p : ByteArray × ByteArray) : Bool := !(p.1.toList == p.2.toList)
/-- The first place where two lists are not the same. -/
def diffAt (a b : List ByteArray) : Nat := (a.zip b).findIdx differ
def sameK (a b : List ByteArray) : Bool := decide (a.length = b.length) && (diffAt a b == (a.zip b).length)
theorem n10 : ((loopsOf (bodyOf Try.prog 10)).filter fun a => loopKey a == some 4).length = 1 := by kernel_rfl
def o10 (a b : List ByteArray) (m n r : Bool) : Out := .two (diffAt a b == (a.zip b).length)
  (.one (.exit 0) [.lst .str m a, .lst .str n b, .sc (.bool r), .sc (.int .i64 a.length)] {})
  (.one .ret [.lst .str m a, .lst .str n b, .sc (.bool false), .sc (.int .i64 (diffAt a b))] {})
theorem L10 (a b : List ByteArray) (m n r : Bool) (hs : (a.length : Int) < big) (hab : a.length = b.length) : ∀ (k i : Nat), i + k = a.length → (∀ j, (hj : j < (a.zip b).length) → j < i → differ (a.zip b)[j] = false) →
    LoopTo Try.prog th 10 (some 4) [.lst .str m a, .lst .str n b, .sc (.bool r), .sc (.int .i64 i)] {} (o10 a b m n r).pick.1 (o10 a b m n r).pick.2.1 (o10 a b m n r).pick.2.2
  | 0, i, hi, hb => by
    have hz : (a.zip b).length = a.length := by rw [List.length_zip, ← hab]; omega
    have e1 : diffAt a b = (a.zip b).length := find_all differ (a.zip b) i (by omega) hb
    have e2 : (o10 a b m n r).pick = (.exit 0, [.lst .str m a, .lst .str n b, .sc (.bool r), .sc (.int .i64 a.length)], {}) := by simp [o10, Out.pick, e1]
    rw [e2]
    have e := i10 a b m n i r
    simp (disch := omega) only [lt_t, lt_f, le_t, le_f, gt_t, gt_f, ge_t, ge_f, eq_tK, eq_fK, ne_tK, ne_fK, condF_true, condF_false, cond_true, cond_false, decide_true, decide_false, Bool.and_true, Bool.true_and, Bool.and_false, Bool.false_and, Bool.and_self, Bool.not_true, Bool.not_false, wrap64, wrapN, Int.toNat_natCast] at e
    have hi' : i = a.length := by omega
    subst hi'
    exact LoopTo.stop S3_ok n10 StOK.nil e (by simp)
  | k + 1, i, hi, hb => by
    have hz : (a.zip b).length = a.length := by rw [List.length_zip, ← hab]; omega
    have hlt : i < (a.zip b).length := by omega
    have ga : a.getD i ByteArray.empty = a[i] := by
      rw [List.getD_eq_getElem?_getD, List.getElem?_eq_getElem (by omega)]; rfl
    have gb : b.getD i ByteArray.empty = b[i] := by
      rw [List.getD_eq_getElem?_getD, List.getElem?_eq_getElem (by omega)]; rfl
    have e := i10 a b m n i r
    simp (disch := omega) only [lt_t, lt_f, le_t, le_f, gt_t, gt_f, ge_t, ge_f, eq_tK, eq_fK, ne_tK, ne_fK, condF_true, condF_false, cond_true, cond_false, decide_true, decide_false, Bool.and_true, Bool.true_and, Bool.and_false, Bool.false_and, Bool.and_self, Bool.not_true, Bool.not_false, wrap64, wrapN, Int.toNat_natCast, ga, gb] at e
    have hd : (!(a[i].toList == b[i].toList)) = differ (a.zip b)[i] := by simp [differ]
    rw [hd] at e
    cases hq : differ (a.zip b)[i] with
    | true =>
      have e1 : diffAt a b = i := find_at differ (a.zip b) i hlt hb hq
      rw [hq, condF_true] at e
      have e2 : (o10 a b m n r).pick = (.ret, [.lst .str m a, .lst .str n b, .sc (.bool false), .sc (.int .i64 i)], {}) := by
        have : (i == (a.zip b).length) = false := by rw [beq_eq_false_iff_ne]; omega
        simp only [o10, Out.pick, e1, this, cond_false]
      rw [e2]
      exact LoopTo.stop S3_ok n10 StOK.nil e (by simp)
    | false =>
      rw [hq, condF_false] at e
      refine LoopTo.next S3_ok n10 StOK.nil e ?_
      refine L10 a b m n r hs hab k (i + 1) (by omega) fun j hj h => ?_
      rcases Nat.lt_or_ge j i with h1 | h1
      · exact hb j hj h1
      · have : j = i := by omega
        subst this
        exact hq
def pl10 : List KV → KSt → Option (Ck × Out)
  | [.lst .str m a, .lst .str n b, .sc (.bool r), .sc (.int .i64 i)], ⟨[], [], []⟩ => some (.and (.is (decide (i = 0))) (.and (.is (fit a.length)) (.is (decide (a.length = b.length)))), o10 a b m n r)
  | _, _ => none
theorem pl10_ok (vs : List KV) (σ : KSt) (c : Ck) (o : Out) (h : pl10 vs σ = some (c, o)) (hc : c.val = true) (_ : StOK Try.prog σ) : LoopTo Try.prog th 10 (some 4) vs σ o.pick.1 o.pick.2.1 o.pick.2.2 ∧ StOK Try.prog o.pick.2.2 := by
  unfold pl10 at h
  split at h
  · rename_i m a n b r i _
    cases h
    simp only [val_and_t, val_is_t, val_fit_t] at hc
    obtain ⟨rfl, hs, hab⟩ := hc
    refine ⟨L10 a b m n r hs hab a.length 0 (by omega) (fun j _ h => by omega), ?_⟩
    unfold o10 Out.pick
    cases diffAt a b == (a.zip b).length <;> exact StOK.nil
  · cases h
noncomputable def S7 (fk : Fk) : Cs := (S3 fk).addL 10 4 pl10
instance : FkOK (S7 condF) := ⟨fun _ _ _ => rfl⟩
theorem S7_ok : CsOK Try.prog th (S7 condF) := S3_ok.addL n10 pl10_ok
theorem k10_ (fk : Fk) (a b : List ByteArray) (m n : Bool)  : fnK Try.prog th (S7 fk) 1000 10 [.lst .str m a, .lst .str n b] =
    fk ((↑a.length : Int) != (↑b.length : Int)) (some (KV.sc (Value.bool false)))
      (fk (decide ((0 : Int) = (0 : Int)))
        (fk (fit a.length)
          (fk (decide (a.length = b.length))
            (fk (diffAt a b == (a.zip b).length) (some (KV.sc (Value.bool true))) (some (KV.sc (Value.bool false)))) none)
          none)
        none) := by kernel_rfl
theorem k10 (a b : List ByteArray) (m n : Bool)  : fnK Try.prog th (S7 condF) 1000 10 [.lst .str m a, .lst .str n b] =
    condF ((↑a.length : Int) != (↑b.length : Int)) (some (KV.sc (Value.bool false)))
      (condF (decide ((0 : Int) = (0 : Int)))
        (condF (fit a.length)
          (condF (decide (a.length = b.length))
            (condF (diffAt a b == (a.zip b).length) (some (KV.sc (Value.bool true))) (some (KV.sc (Value.bool false)))) none)
          none)
        none) := k10_ condF a b m n
theorem s10 (a b : List ByteArray) (m n : Bool) (hs : (a.length : Int) < big) : run Try.prog th (.call 10 [(KV.lst .str m a).toL, (KV.lst .str n b).toL]) = some ⟨.normal, .sc (.bool (sameK a b)), default, {}⟩ := by
  refine fnK_sound S7_ok (n := 1000) (args := [.lst .str m a, .lst .str n b]) (v := .bool (sameK a b)) ?_
  have e := k10 a b m n
  rw [e]
  by_cases h : a.length = b.length
  · have h' : ((a.length : Int) != b.length) = false := by rw [h]; simp
    have hd : decide (a.length = b.length) = true := decide_eq_true h
    rw [h', condF_false, hd, fit_t hs]
    simp only [decide_true, condF_true, sameK, hd, Bool.true_and]
    cases diffAt a b == (a.zip b).length <;> rfl
  · have h' : ((a.length : Int) != b.length) = true := by
      rw [bne_iff_ne]; omega
    simp only [h', condF_true, sameK, h, decide_false, Bool.false_and]
def p10 : List KV → Option (Ck × KV)
  | [.lst .str _ a, .lst .str _ b] => some (.is (fit a.length), .bool (sameK a b))
  | _ => none
theorem c10 (args : List KV) (c : Ck) (v : KV) (h : p10 args = some (c, v)) (hc : c.val = true) : run Try.prog th (.call 10 (toLs args)) = some ⟨.normal, v.toL, default, {}⟩ := by
  unfold p10 at h
  split at h
  · cases h
    simp only [val_fit_t] at hc
    exact s10 _ _ _ _ hc
  · cases h
theorem zip_same : ∀ (a b : List ByteArray), a.length = b.length → ((a.zip b).all fun p => !differ p) = decide (a = b)
  | [], [], _ => rfl
  | x :: a, y :: b, h => by
    have ih := zip_same a b (by simpa using h)
    rw [List.zip_cons_cons, List.all_cons, ih, Bool.eq_iff_iff]
    simp only [differ, Bool.not_not, Bool.and_eq_true, beq_iff_eq, decide_eq_true_eq, List.cons.injEq]
    constructor
    · rintro ⟨h1, h2⟩
      refine ⟨?_, h2⟩
      rw [ByteArray.toList_eq, ByteArray.toList_eq] at h1
      exact ByteArray.ext (Array.toList_inj.1 h1)
    · rintro ⟨rfl, h2⟩; exact ⟨rfl, h2⟩
theorem sameK_iff (a b : List ByteArray) : sameK a b = true ↔ a = b := by
  unfold sameK
  rw [Bool.and_eq_true, decide_eq_true_eq]
  constructor
  · rintro ⟨h1, h2⟩
    have := findIdx_len (fun p => !differ p) (a.zip b)
    simp only [Bool.not_not] at this
    have h3 := zip_same a b h1
    rw [← this] at h3
    have h4 : (diffAt a b == (a.zip b).length) = decide (a = b) := h3
    rw [h2] at h4
    exact of_decide_eq_true h4.symm
  · rintro rfl
    refine ⟨rfl, ?_⟩
    have := findIdx_len (fun p => !differ p) (a.zip a)
    simp only [Bool.not_not] at this
    have h3 := zip_same a a rfl
    rw [← this] at h3
    have h4 : (diffAt a a == (a.zip a).length) = decide (a = a) := h3
    rw [h4]; simp
noncomputable def S8 (fk : Fk) : Cs := ((S3 fk).addC 9 p9).addC 10 p10
instance : FkOK (S8 condF) := ⟨fun _ _ _ => rfl⟩
theorem S8_ok : CsOK Try.prog th (S8 condF) := (S3_ok.addC c9).addC c10
theorem k3_ (fk : Fk) (a b : List UInt8)  : fnK Try.prog th (S8 fk) 1000 3 [.lst .byte false a, .lst .byte false b] =
    fk (decide ((↑a.length : Int) > (3000 : Int))) (some (KV.sc (Value.bool true)))
      (fk (decide ((↑b.length : Int) > (3000 : Int))) (some (KV.sc (Value.bool true)))
        (fk (a.length.ble (1000000 : Nat))
          (fk (b.length.ble (1000000 : Nat))
            (fk (splitE a != (0 : Int)) (some (KV.sc (Value.bool true)))
              (fk (splitE b != (0 : Int)) (some (KV.sc (Value.bool true)))
                (fk (decide (IntKind.i64.wrap ((↑(splitL a).length : Int) + (↑(splitL b).length : Int)) > (200 : Int)))
                  (some (KV.sc (Value.bool true)))
                  (fk (decide (a.length ≤ maxEls))
                    (fk (decide (a.length = a.length))
                      (fk (decide (a.length + b.length ≤ maxEls))
                        (fk (decide ((a ++ b).length = a.length + b.length))
                          (fk ((a ++ b).length.ble (1000000 : Nat))
                            (fk (decide ((splitL a).length ≤ maxEls))
                              (fk (decide ((splitL a).length = (splitL a).length))
                                (fk (decide ((splitL a).length + (splitL b).length ≤ maxEls))
                                  (fk (decide ((splitL a ++ splitL b).length = (splitL a).length + (splitL b).length))
                                    (fk (fit (splitL a ++ splitL b).length)
                                      (fk (splitE (a ++ b) == (0 : Int))
                                        (some (KV.sc (Value.bool (sameK (splitL a ++ splitL b) (splitL (a ++ b))))))
                                        (some (KV.sc (Value.bool false))))
                                      none)
                                    none)
                                  none)
                                none)
                              none)
                            none)
                          none)
                        none)
                      none)
                    none))))
            none)
          none)) := by kernel_rfl
theorem k3 (a b : List UInt8)  : fnK Try.prog th (S8 condF) 1000 3 [.lst .byte false a, .lst .byte false b] =
    condF (decide ((↑a.length : Int) > (3000 : Int))) (some (KV.sc (Value.bool true)))
      (condF (decide ((↑b.length : Int) > (3000 : Int))) (some (KV.sc (Value.bool true)))
        (condF (a.length.ble (1000000 : Nat))
          (condF (b.length.ble (1000000 : Nat))
            (condF (splitE a != (0 : Int)) (some (KV.sc (Value.bool true)))
              (condF (splitE b != (0 : Int)) (some (KV.sc (Value.bool true)))
                (condF (decide (IntKind.i64.wrap ((↑(splitL a).length : Int) + (↑(splitL b).length : Int)) > (200 : Int)))
                  (some (KV.sc (Value.bool true)))
                  (condF (decide (a.length ≤ maxEls))
                    (condF (decide (a.length = a.length))
                      (condF (decide (a.length + b.length ≤ maxEls))
                        (condF (decide ((a ++ b).length = a.length + b.length))
                          (condF ((a ++ b).length.ble (1000000 : Nat))
                            (condF (decide ((splitL a).length ≤ maxEls))
                              (condF (decide ((splitL a).length = (splitL a).length))
                                (condF (decide ((splitL a).length + (splitL b).length ≤ maxEls))
                                  (condF (decide ((splitL a ++ splitL b).length = (splitL a).length + (splitL b).length))
                                    (condF (fit (splitL a ++ splitL b).length)
                                      (condF (splitE (a ++ b) == (0 : Int))
                                        (some (KV.sc (Value.bool (sameK (splitL a ++ splitL b) (splitL (a ++ b))))))
                                        (some (KV.sc (Value.bool false))))
                                      none)
                                    none)
                                  none)
                                none)
                              none)
                            none)
                          none)
                        none)
                      none)
                    none))))
            none)
          none)) := k3_ condF a b
end Go.Proofs.Ytecokfbldjekiaa.LI
