/-
  Layer 1 (text): text.Name, text.All: contracts.
-/
import Derived.Test.YtecokfbldjekiaaTkB
namespace Go.Proofs.Ytecokfbldjekiaa.LI
open Go Go.RowKit
open KV (toL)
open KV.toL (toLs)
set_option maxRecDepth 100000
theorem eq_tK {a b : Int} (h : a = b) : (a == b) = true := by simp [h]
theorem eq_fK {a b : Int} (h : a ≠ b) : (a == b) = false := by simp [h]
theorem ne_tK {a b : Int} (h : a ≠ b) : (a != b) = true := by simp [h]
theorem ne_fK {a b : Int} (h : a = b) : (a != b) = false := by simp [h]
theorem wrapN {n : Nat} (h : (n : Int) < big) : IntKind.i64.wrap ((n : Int) + 1) = ((n + 1 : Nat) : Int) := by
  rw [wrap64] <;> simp only [big] at h <;> omega
theorem find_all {α : Type} (p : α → Bool) (l : List α) (i : Nat) (hi : i = l.length) (h : ∀ j, (hj : j < l.length) → j < i → p l[j] = false) : l.findIdx p = l.length := by
  rw [List.findIdx_eq_length]
  intro x hx
  obtain ⟨j, hj, rfl⟩ := List.mem_iff_getElem.1 hx
  exact h j hj (by omega)
theorem find_at {α : Type} (p : α → Bool) (l : List α) (i : Nat) (hi : i < l.length) (h : ∀ j, (hj : j < l.length) → j < i → p l[j] = false) (hp : p l[i] = true) : l.findIdx p = i := by
  rw [List.findIdx_eq hi]
  exact ⟨hp, fun j hj => h j (by omega) hj⟩
/-- The first byte that is no sign. -/
def badAt (s : ByteArray) : Nat := s.data.toList.findIdx fun b => !signK (b.toNat : Int)
def o11 (s : ByteArray) (r : Bool) : Out := .two (badAt s == s.size)
  (.one (.exit 0) [.sc (.string s), .sc (.bool r), .sc (.int .i64 s.size), .sc (.int .i64 s.size)] {})
  (.one .ret [.sc (.string s), .sc (.bool false), .sc (.int .i64 s.size), .sc (.int .i64 (badAt s))] {})
theorem n11 : ((loopsOf (bodyOf Try.prog 11)).filter fun a => loopKey a == some 2).length = 1 := by kernel_rfl
theorem L11 (s : ByteArray) (r : Bool) (hs : (s.size : Int) < big) : ∀ (k i : Nat), i + k = s.size → (∀ j, (hj : j < s.data.toList.length) → j < i → (!signK ((s.data.toList[j]).toNat : Int)) = false) →
    LoopTo Try.prog th 11 (some 2) [.sc (.string s), .sc (.bool r), .sc (.int .i64 s.size), .sc (.int .i64 i)] {} (o11 s r).pick.1 (o11 s r).pick.2.1 (o11 s r).pick.2.2
  | 0, i, hi, hb => by
    have hl : s.data.toList.length = s.size := by simp
    have e1 : badAt s = s.size := by rw [← hl]; exact find_all (fun b : UInt8 => !signK (b.toNat : Int)) s.data.toList i (by omega) hb
    have e2 : (o11 s r).pick = (.exit 0, [.sc (.string s), .sc (.bool r), .sc (.int .i64 s.size), .sc (.int .i64 s.size)], {}) := by simp [o11, Out.pick, e1]
    rw [e2]
    have e := i11 s i r
    simp (disch := omega) only [lt_t, lt_f, le_t, le_f, gt_t, gt_f, ge_t, ge_f, eq_tK, eq_fK, ne_tK, ne_fK, condF_true, condF_false, cond_true, cond_false, decide_true, decide_false, Bool.and_true, Bool.true_and, Bool.and_false, Bool.false_and, Bool.and_self, Bool.not_true, Bool.not_false, wrap64, wrapN, Int.toNat_natCast] at e
    have hi' : i = s.size := by omega
    subst hi'
    exact LoopTo.stop S1_ok n11 StOK.nil e (by simp)
  | k + 1, i, hi, hb => by
    have hl : s.data.toList.length = s.size := by simp
    have hlt : i < s.data.toList.length := by omega
    have hg : s.data.toList.getD i 0 = s.data.toList[i] := by
      rw [List.getD_eq_getElem?_getD, List.getElem?_eq_getElem hlt]; rfl
    have e := i11 s i r
    simp (disch := omega) only [lt_t, lt_f, le_t, le_f, gt_t, gt_f, ge_t, ge_f, eq_tK, eq_fK, ne_tK, ne_fK, condF_true, condF_false, cond_true, cond_false, decide_true, decide_false, Bool.and_true, Bool.true_and, Bool.and_false, Bool.false_and, Bool.and_self, Bool.not_true, Bool.not_false, wrap64, wrapN, Int.toNat_natCast, hg] at e
    cases hq : (!signK ((s.data.toList[i]).toNat : Int)) with
    | true =>
      have e1 : badAt s = i := find_at (fun b : UInt8 => !signK (b.toNat : Int)) s.data.toList i hlt hb hq
      simp only [hq, condF_true] at e
      have e2 : (o11 s r).pick = (.ret, [.sc (.string s), .sc (.bool false), .sc (.int .i64 s.size), .sc (.int .i64 i)], {}) := by
        have : (i == s.size) = false := by simp; omega
        simp [o11, Out.pick, e1, this]
      rw [e2]
      exact LoopTo.stop S1_ok n11 StOK.nil e (by simp)
    | false =>
      simp (disch := omega) only [hq, condF_false, wrapN] at e
      refine LoopTo.next S1_ok n11 StOK.nil e ?_
      refine L11 s r hs k (i + 1) (by omega) fun j hj h => ?_
      rcases Nat.lt_or_ge j i with h1 | h1
      · exact hb j hj h1
      · have : j = i := by omega
        subst this
        exact hq
def pl11 : List KV → KSt → Option (Ck × Out)
  | [.sc (.string s), .sc (.bool r), .sc (.int .i64 n), .sc (.int .i64 i)], ⟨[], [], []⟩ => some (.and (.is (decide (n = s.size))) (.and (.is (decide (i = 0))) (.is (fit s.size))), o11 s r)
  | _, _ => none
theorem pl11_ok (vs : List KV) (σ : KSt) (c : Ck) (o : Out) (h : pl11 vs σ = some (c, o)) (hc : c.val = true) (_ : StOK Try.prog σ) : LoopTo Try.prog th 11 (some 2) vs σ o.pick.1 o.pick.2.1 o.pick.2.2 ∧ StOK Try.prog o.pick.2.2 := by
  unfold pl11 at h
  split at h
  · rename_i s r n i _
    cases h
    simp only [val_and_t, val_is_t, val_fit_t] at hc
    obtain ⟨rfl, rfl, hs⟩ := hc
    refine ⟨L11 s r hs s.size 0 (by omega) (fun j _ h => by omega), ?_⟩
    unfold o11 Out.pick
    cases badAt s == s.size <;> exact StOK.nil
  · cases h
/-- The first line that may not be. -/
def badLine (l : List ByteArray) : Nat := l.findIdx fun s => !mayK s
def o33 (l : List ByteArray) (n : Bool) (r : Int) : Out := .two (badLine l == l.length)
  (.one (.exit 0) [.lst .str n l, .func (.func 26) [] [], .sc (.int .i64 r), .sc (.int .i64 l.length), .sc (.int .i64 l.length)] {})
  (.one .ret [.lst .str n l, .func (.func 26) [] [], .sc (.int .i64 (badLine l)), .sc (.int .i64 l.length), .sc (.int .i64 (badLine l))] {})
theorem n33 : ((loopsOf (bodyOf Try.prog 33)).filter fun a => loopKey a == some 2).length = 1 := by kernel_rfl
theorem L33 (l : List ByteArray) (n : Bool) (r : Int) (hs : (l.length : Int) < big) : ∀ (k i : Nat), i + k = l.length → (∀ j, (hj : j < l.length) → j < i → (!mayK l[j]) = false) →
    LoopTo Try.prog th 33 (some 2) [.lst .str n l, .func (.func 26) [] [], .sc (.int .i64 r), .sc (.int .i64 l.length), .sc (.int .i64 i)] {} (o33 l n r).pick.1 (o33 l n r).pick.2.1 (o33 l n r).pick.2.2
  | 0, i, hi, hb => by
    have e1 : badLine l = l.length := find_all (fun s => !mayK s) l i (by omega) hb
    have e2 : (o33 l n r).pick = (.exit 0, [.lst .str n l, .func (.func 26) [] [], .sc (.int .i64 r), .sc (.int .i64 l.length), .sc (.int .i64 l.length)], {}) := by simp [o33, Out.pick, e1]
    rw [e2]
    have e := i33 l n i r
    simp (disch := omega) only [lt_t, lt_f, le_t, le_f, gt_t, gt_f, ge_t, ge_f, eq_tK, eq_fK, ne_tK, ne_fK, condF_true, condF_false, cond_true, cond_false, decide_true, decide_false, Bool.and_true, Bool.true_and, Bool.and_false, Bool.false_and, Bool.and_self, Bool.not_true, Bool.not_false, wrap64, wrapN, Int.toNat_natCast] at e
    have hi' : i = l.length := by omega
    subst hi'
    exact LoopTo.stop S1_ok n33 StOK.nil e (by simp)
  | k + 1, i, hi, hb => by
    have hlt : i < l.length := by omega
    have hg : l.getD i ByteArray.empty = l[i] := by
      rw [List.getD_eq_getElem?_getD, List.getElem?_eq_getElem hlt]; rfl
    have e := i33 l n i r
    simp (disch := omega) only [lt_t, lt_f, le_t, le_f, gt_t, gt_f, ge_t, ge_f, eq_tK, eq_fK, ne_tK, ne_fK, condF_true, condF_false, cond_true, cond_false, decide_true, decide_false, Bool.and_true, Bool.true_and, Bool.and_false, Bool.false_and, Bool.and_self, Bool.not_true, Bool.not_false, wrap64, wrapN, Int.toNat_natCast, hg] at e
    cases hq : (!mayK l[i]) with
    | true =>
      have e1 : badLine l = i := find_at (fun s => !mayK s) l i hlt hb hq
      simp only [hq, condF_true] at e
      have e2 : (o33 l n r).pick = (.ret, [.lst .str n l, .func (.func 26) [] [], .sc (.int .i64 i), .sc (.int .i64 l.length), .sc (.int .i64 i)], {}) := by
        have : (i == l.length) = false := by simp; omega
        simp [o33, Out.pick, e1, this]
      rw [e2]
      exact LoopTo.stop S1_ok n33 StOK.nil e (by simp)
    | false =>
      simp (disch := omega) only [hq, condF_false, wrapN] at e
      refine LoopTo.next S1_ok n33 StOK.nil e ?_
      refine L33 l n r hs k (i + 1) (by omega) fun j hj h => ?_
      rcases Nat.lt_or_ge j i with h1 | h1
      · exact hb j hj h1
      · have : j = i := by omega
        subst this
        exact hq
def pl33 : List KV → KSt → Option (Ck × Out)
  | [.lst .str n l, .func (.func 26) [] [], .sc (.int .i64 r), .sc (.int .i64 m), .sc (.int .i64 i)], ⟨[], [], []⟩ => some (.and (.is (decide (m = (l.length : Int)))) (.and (.is (decide (i = 0))) (.is (fit l.length))), o33 l n r)
  | _, _ => none
theorem pl33_ok (vs : List KV) (σ : KSt) (c : Ck) (o : Out) (h : pl33 vs σ = some (c, o)) (hc : c.val = true) (_ : StOK Try.prog σ) : LoopTo Try.prog th 33 (some 2) vs σ o.pick.1 o.pick.2.1 o.pick.2.2 ∧ StOK Try.prog o.pick.2.2 := by
  unfold pl33 at h
  split at h
  · rename_i n l r m i _
    cases h
    simp only [val_and_t, val_is_t, val_fit_t] at hc
    obtain ⟨rfl, rfl, hs⟩ := hc
    refine ⟨L33 l n r hs (List.length (α := ByteArray) l) 0 (by omega) (fun j _ h => by omega), ?_⟩
    unfold o33 Out.pick
    cases badLine l == List.length (α := ByteArray) l <;> exact StOK.nil
  · cases h
noncomputable def S2 (fk : Fk) : Cs := ((S1 fk).addL 11 2 pl11).addL 33 2 pl33
instance : FkOK (S2 condF) := ⟨fun _ _ _ => rfl⟩
theorem S2_ok : CsOK Try.prog th (S2 condF) := (S1_ok.addL n11 pl11_ok).addL n33 pl33_ok
theorem k11_ (fk : Fk) (s : ByteArray)  : fnK Try.prog th (S2 fk) 1000 11 [.sc (.string s)] =
    fk (decide ((↑s.size : Int) = (↑s.size : Int)))
      (fk (decide ((0 : Int) = (0 : Int)))
        (fk (fit s.size)
          (fk (badAt s == s.size)
            (fk (!s.toList == (ByteArray.mk (Array.mk [])).toList)
              (some (KV.sc (Value.bool (decide ((↑s.size : Int) ≤ (16 : Int)))))) (some (KV.sc (Value.bool false))))
            (some (KV.sc (Value.bool false))))
          none)
        none)
      none := by kernel_rfl
theorem k11 (s : ByteArray)  : fnK Try.prog th (S2 condF) 1000 11 [.sc (.string s)] =
    condF (decide ((↑s.size : Int) = (↑s.size : Int)))
      (condF (decide ((0 : Int) = (0 : Int)))
        (condF (fit s.size)
          (condF (badAt s == s.size)
            (condF (!s.toList == (ByteArray.mk (Array.mk [])).toList)
              (some (KV.sc (Value.bool (decide ((↑s.size : Int) ≤ (16 : Int)))))) (some (KV.sc (Value.bool false))))
            (some (KV.sc (Value.bool false))))
          none)
        none)
      none := k11_ condF s
theorem k20_ (fk : Fk) (n : Bool) (l : List ByteArray)  : fnK Try.prog th (S2 fk) 1000 20 [.lst .str n l] =
    fk (decide ((↑l.length : Int) ≤ (200 : Int)))
      (fk (decide ((↑l.length : Int) = (↑l.length : Int)))
        (fk (decide ((0 : Int) = (0 : Int)))
          (fk (fit l.length)
            (fk (badLine l == l.length) (some (KV.sc (Value.bool true)))
              (some (KV.sc (Value.bool !decide ((↑(badLine l) : Int) ≥ (0 : Int))))))
            none)
          none)
        none)
      (some (KV.sc (Value.bool false))) := by kernel_rfl
theorem k20 (n : Bool) (l : List ByteArray)  : fnK Try.prog th (S2 condF) 1000 20 [.lst .str n l] =
    condF (decide ((↑l.length : Int) ≤ (200 : Int)))
      (condF (decide ((↑l.length : Int) = (↑l.length : Int)))
        (condF (decide ((0 : Int) = (0 : Int)))
          (condF (fit l.length)
            (condF (badLine l == l.length) (some (KV.sc (Value.bool true)))
              (some (KV.sc (Value.bool !decide ((↑(badLine l) : Int) ≥ (0 : Int))))))
            none)
          none)
        none)
      (some (KV.sc (Value.bool false))) := k20_ condF n l
end Go.Proofs.Ytecokfbldjekiaa.LI
