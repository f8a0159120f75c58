/-
  Layer 1 (text): the document's May, Name, All, and Light, as contracts.
-/
import Derived.Test.YtecokfbldjekiaaTkX
namespace Go.Proofs.Ytecokfbldjekiaa.LI
open Go Go.RowKit
open KV (toL)
open KV.toL (toLs)
set_option maxRecDepth 100000
theorem step_bad {α : Type} {p : α → Bool} {l : List α} {i : Nat} (hb : ∀ j, (hj : j < l.length) → j < i → p l[j] = false) (hi : i < l.length) (hq : p l[i] = false) : ∀ j, (hj : j < l.length) → j < i + 1 → p l[j] = false := by
  intro j hj h
  rcases Nat.lt_or_ge j i with h1 | h1
  · exact hb j hj h1
  · have : j = i := by omega
    subst this
    exact hq
theorem getD_at {α : Type} (l : List α) (i : Nat) (d : α) (h : i < l.length) : l.getD i d = l[i] := by
  rw [List.getD_eq_getElem?_getD, List.getElem?_eq_getElem h]; rfl
/-! May -/
def isFeed (b : UInt8) : Bool := ((b.toNat : Int) == 10)
theorem n17 : ((loopsOf (bodyOf Try.prog 17)).filter fun a => loopKey a == some 2).length = 1 := by kernel_rfl
def fAt (s : ByteArray) : Nat := s.data.toList.findIdx isFeed
def o17 (s : ByteArray) (r : Bool) : Out := .two (fAt s == s.size)
  (.one (.exit 0) [.sc (.string s), .sc (.bool r), .sc (.int .i64 s.size)] {})
  (.one .ret [.sc (.string s), .sc (.bool false), .sc (.int .i64 (fAt s))] {})
theorem L17 (s : ByteArray) (r : Bool) (hs : (s.size : Int) < big) : ∀ (k i : Nat), i + k = s.size → (∀ j, (hj : j < s.data.toList.length) → j < i → isFeed s.data.toList[j] = false) →
    LoopTo Try.prog th 17 (some 2) [.sc (.string s), .sc (.bool r), .sc (.int .i64 i)] {} (o17 s r).pick.1 (o17 s r).pick.2.1 (o17 s r).pick.2.2
  | 0, i, hi, hb => by
    have hl : s.data.toList.length = s.size := by simp
    have e1 : fAt s = s.size := by rw [← hl]; exact find_all isFeed s.data.toList i (by omega) hb
    have e2 : (o17 s r).pick = (.exit 0, [.sc (.string s), .sc (.bool r), .sc (.int .i64 s.size)], {}) := by simp [o17, Out.pick, e1]
    rw [e2]
    have e := i17 s r i
    simp (disch := omega) only [lt_t, lt_f, le_t, le_f, gt_t, gt_f, ge_t, ge_f, eq_tK, eq_fK, ne_tK, ne_fK, condF_true, condF_false, cond_true, cond_false, decide_true, decide_false, Bool.and_true, Bool.true_and, Bool.and_false, Bool.false_and, Bool.and_self, Bool.not_true, Bool.not_false, wrap64, wrapN, Int.toNat_natCast] at e
    have hi' : i = s.size := by omega
    subst hi'
    exact LoopTo.stop S3_ok n17 StOK.nil e (by simp)
  | k + 1, i, hi, hb => by
    have hl : s.data.toList.length = s.size := by simp
    have hlt : i < s.data.toList.length := by omega
    have e := i17 s r i
    simp (disch := omega) only [lt_t, lt_f, le_t, le_f, gt_t, gt_f, ge_t, ge_f, eq_tK, eq_fK, ne_tK, ne_fK, condF_true, condF_false, cond_true, cond_false, decide_true, decide_false, Bool.and_true, Bool.true_and, Bool.and_false, Bool.false_and, Bool.and_self, Bool.not_true, Bool.not_false, wrap64, wrapN, Int.toNat_natCast, getD_at _ _ _ hlt] at e
    have hd : ((s.data.toList[i].toNat : Int) == 10) = isFeed s.data.toList[i] := rfl
    rw [hd] at e
    cases hq : isFeed s.data.toList[i] with
    | true =>
      have e1 : fAt s = i := find_at isFeed s.data.toList i hlt hb hq
      rw [hq, condF_true] at e
      have e2 : (o17 s r).pick = (.ret, [.sc (.string s), .sc (.bool false), .sc (.int .i64 i)], {}) := by
        have : (i == s.size) = false := by rw [beq_eq_false_iff_ne]; omega
        simp only [o17, Out.pick, e1, this, cond_false]
      rw [e2]
      exact LoopTo.stop S3_ok n17 StOK.nil e (by simp)
    | false =>
      rw [hq, condF_false] at e
      exact LoopTo.next S3_ok n17 StOK.nil e (L17 s r hs k (i + 1) (by omega) (step_bad hb hlt hq))
def pl17 : List KV → KSt → Option (Ck × Out)
  | [.sc (.string s), .sc (.bool r), .sc (.int .i64 i)], ⟨[], [], []⟩ => some (.and (.is (decide (i = 0))) (.is (fit s.size)), o17 s r)
  | _, _ => none
theorem pl17_ok (vs : List KV) (σ : KSt) (c : Ck) (o : Out) (h : pl17 vs σ = some (c, o)) (hc : c.val = true) (_ : StOK Try.prog σ) : LoopTo Try.prog th 17 (some 2) vs σ o.pick.1 o.pick.2.1 o.pick.2.2 ∧ StOK Try.prog o.pick.2.2 := by
  unfold pl17 at h
  split at h
  · rename_i s r i _
    cases h
    simp only [val_and_t, val_is_t, val_fit_t] at hc
    obtain ⟨rfl, hs⟩ := hc
    refine ⟨L17 s r hs s.size 0 (by omega) (fun j _ h => by omega), ?_⟩
    unfold o17 Out.pick
    cases fAt s == s.size <;> exact StOK.nil
  · cases h
/-! Name -/
def noSign (b : UInt8) : Bool := !signK (b.toNat : Int)
theorem n19 : ((loopsOf (bodyOf Try.prog 19)).filter fun a => loopKey a == some 2).length = 1 := by kernel_rfl
def o19 (s : ByteArray) (r : Bool) : Out := .two (badAt s == s.size)
  (.one (.exit 0) [.sc (.string s), .sc (.bool r), .sc (.int .i64 s.size)] {})
  (.one .ret [.sc (.string s), .sc (.bool false), .sc (.int .i64 (badAt s))] {})
theorem L19 (s : ByteArray) (r : Bool) (hs : (s.size : Int) < big) : ∀ (k i : Nat), i + k = s.size → (∀ j, (hj : j < s.data.toList.length) → j < i → noSign s.data.toList[j] = false) →
    LoopTo Try.prog th 19 (some 2) [.sc (.string s), .sc (.bool r), .sc (.int .i64 i)] {} (o19 s r).pick.1 (o19 s r).pick.2.1 (o19 s r).pick.2.2
  | 0, i, hi, hb => by
    have hl : s.data.toList.length = s.size := by simp
    have e1 : badAt s = s.size := by rw [← hl]; exact find_all noSign s.data.toList i (by omega) hb
    have e2 : (o19 s r).pick = (.exit 0, [.sc (.string s), .sc (.bool r), .sc (.int .i64 s.size)], {}) := by simp [o19, Out.pick, e1]
    rw [e2]
    have e := i19 s r i
    simp (disch := omega) only [lt_t, lt_f, le_t, le_f, gt_t, gt_f, ge_t, ge_f, eq_tK, eq_fK, ne_tK, ne_fK, condF_true, condF_false, cond_true, cond_false, decide_true, decide_false, Bool.and_true, Bool.true_and, Bool.and_false, Bool.false_and, Bool.and_self, Bool.not_true, Bool.not_false, wrap64, wrapN, Int.toNat_natCast] at e
    have hi' : i = s.size := by omega
    subst hi'
    exact LoopTo.stop S3_ok n19 StOK.nil e (by simp)
  | k + 1, i, hi, hb => by
    have hl : s.data.toList.length = s.size := by simp
    have hlt : i < s.data.toList.length := by omega
    have e := i19 s r i
    have d1 : decide ((i : Int) < s.size) = true := by rw [decide_eq_true_eq]; omega
    have d2 : decide ((0 : Int) ≤ i) = true := by rw [decide_eq_true_eq]; omega
    have d3 : IntKind.i64.wrap ((i : Int) + 1) = ((i + 1 : Nat) : Int) := wrapN (by omega)
    simp only [d1, d2, d3, condF_true, Int.toNat_natCast, getD_at _ _ _ hlt] at e
    cases hq : noSign s.data.toList[i] with
    | true =>
      have e1 : badAt s = i := find_at noSign s.data.toList i hlt hb hq
      have e2 : (o19 s r).pick = (.ret, [.sc (.string s), .sc (.bool false), .sc (.int .i64 i)], {}) := by
        have : (i == s.size) = false := by rw [beq_eq_false_iff_ne]; omega
        simp only [o19, Out.pick, e1, this, cond_false]
      rw [e2]
      refine LoopTo.stop S3_ok n19 StOK.nil (e.trans ?_) (by simp)
      unfold noSign signK at hq
      revert hq
      generalize (s.data.toList[i].toNat : Int) = c
      have hne : (c != 46) = !(c == 46) := rfl
      rw [hne]
      cases decide (c ≥ 97) <;> cases decide (c ≤ 122) <;> cases decide (c ≥ 48) <;> cases decide (c ≤ 57) <;> cases (c == 46) <;> simp [condF]
    | false =>
      refine LoopTo.next S3_ok n19 StOK.nil (e.trans ?_) (L19 s r hs k (i + 1) (by omega) (step_bad hb hlt hq))
      unfold noSign signK at hq
      revert hq
      generalize (s.data.toList[i].toNat : Int) = c
      have hne : (c != 46) = !(c == 46) := rfl
      rw [hne]
      cases decide (c ≥ 97) <;> cases decide (c ≤ 122) <;> cases decide (c ≥ 48) <;> cases decide (c ≤ 57) <;> cases (c == 46) <;> simp [condF]
def pl19 : List KV → KSt → Option (Ck × Out)
  | [.sc (.string s), .sc (.bool r), .sc (.int .i64 i)], ⟨[], [], []⟩ => some (.and (.is (decide (i = 0))) (.is (fit s.size)), o19 s r)
  | _, _ => none
theorem pl19_ok (vs : List KV) (σ : KSt) (c : Ck) (o : Out) (h : pl19 vs σ = some (c, o)) (hc : c.val = true) (_ : StOK Try.prog σ) : LoopTo Try.prog th 19 (some 2) vs σ o.pick.1 o.pick.2.1 o.pick.2.2 ∧ StOK Try.prog o.pick.2.2 := by
  unfold pl19 at h
  split at h
  · rename_i s r i _
    cases h
    simp only [val_and_t, val_is_t, val_fit_t] at hc
    obtain ⟨rfl, hs⟩ := hc
    refine ⟨L19 s r hs s.size 0 (by omega) (fun j _ h => by omega), ?_⟩
    unfold o19 Out.pick
    cases badAt s == s.size <;> exact StOK.nil
  · cases h
/-! Light -/
def tooLong (s : ByteArray) : Bool := decide ((s.size : Int) > 200)
def longAt (l : List ByteArray) : Nat := l.findIdx tooLong
theorem n13 : ((loopsOf (bodyOf Try.prog 13)).filter fun a => loopKey a == some 4).length = 1 := by kernel_rfl
def o13 (l : List ByteArray) (n r : Bool) : Out := .two (longAt l == l.length)
  (.one (.exit 0) [.lst .str n l, .sc (.bool r), .sc (.int .i64 l.length)] {})
  (.one .ret [.lst .str n l, .sc (.bool false), .sc (.int .i64 (longAt l))] {})
theorem L13 (l : List ByteArray) (n r : Bool) (hs : (l.length : Int) < big) : ∀ (k i : Nat), i + k = l.length → (∀ j, (hj : j < l.length) → j < i → tooLong l[j] = false) →
    LoopTo Try.prog th 13 (some 4) [.lst .str n l, .sc (.bool r), .sc (.int .i64 i)] {} (o13 l n r).pick.1 (o13 l n r).pick.2.1 (o13 l n r).pick.2.2
  | 0, i, hi, hb => by
    have e1 : longAt l = l.length := find_all tooLong l i (by omega) hb
    have e2 : (o13 l n r).pick = (.exit 0, [.lst .str n l, .sc (.bool r), .sc (.int .i64 l.length)], {}) := by simp [o13, Out.pick, e1]
    rw [e2]
    have e := i13 l n r i
    simp (disch := omega) only [lt_t, lt_f, le_t, le_f, gt_t, gt_f, ge_t, ge_f, eq_tK, eq_fK, ne_tK, ne_fK, condF_true, condF_false, cond_true, cond_false, decide_true, decide_false, Bool.and_true, Bool.true_and, Bool.and_false, Bool.false_and, Bool.and_self, Bool.not_true, Bool.not_false, wrap64, wrapN, Int.toNat_natCast] at e
    have hi' : i = l.length := by omega
    subst hi'
    exact LoopTo.stop S3_ok n13 StOK.nil e (by simp)
  | k + 1, i, hi, hb => by
    have hlt : i < l.length := by omega
    have e := i13 l n r i
    have d1 : decide ((i : Int) < l.length) = true := by rw [decide_eq_true_eq]; omega
    have d2 : decide ((0 : Int) ≤ i) = true := by rw [decide_eq_true_eq]; omega
    have d3 : IntKind.i64.wrap ((i : Int) + 1) = ((i + 1 : Nat) : Int) := wrapN (by omega)
    simp only [d1, d2, d3, condF_true, Int.toNat_natCast, getD_at _ _ _ hlt] at e
    have hd : decide ((l[i].size : Int) > 200) = tooLong l[i] := rfl
    rw [hd] at e
    cases hq : tooLong l[i] with
    | true =>
      have e1 : longAt l = i := find_at tooLong l i hlt hb hq
      rw [hq, condF_true] at e
      have e2 : (o13 l n r).pick = (.ret, [.lst .str n l, .sc (.bool false), .sc (.int .i64 i)], {}) := by
        have : (i == l.length) = false := by rw [beq_eq_false_iff_ne]; omega
        simp only [o13, Out.pick, e1, this, cond_false]
      rw [e2]
      exact LoopTo.stop S3_ok n13 StOK.nil e (by simp)
    | false =>
      rw [hq, condF_false] at e
      exact LoopTo.next S3_ok n13 StOK.nil e (L13 l n r hs k (i + 1) (by omega) (step_bad hb hlt hq))
def pl13 : List KV → KSt → Option (Ck × Out)
  | [.lst .str n l, .sc (.bool r), .sc (.int .i64 i)], ⟨[], [], []⟩ => some (.and (.is (decide (i = 0))) (.is (fit l.length)), o13 l n r)
  | _, _ => none
theorem pl13_ok (vs : List KV) (σ : KSt) (c : Ck) (o : Out) (h : pl13 vs σ = some (c, o)) (hc : c.val = true) (_ : StOK Try.prog σ) : LoopTo Try.prog th 13 (some 4) vs σ o.pick.1 o.pick.2.1 o.pick.2.2 ∧ StOK Try.prog o.pick.2.2 := by
  unfold pl13 at h
  split at h
  · rename_i n l r i _
    cases h
    simp only [val_and_t, val_is_t, val_fit_t] at hc
    obtain ⟨rfl, hs⟩ := hc
    refine ⟨L13 l n r hs l.length 0 (by omega) (fun j _ h => by omega), ?_⟩
    unfold o13 Out.pick
    cases longAt l == l.length <;> exact StOK.nil
  · cases h
noncomputable def S9 (fk : Fk) : Cs := (((S3 fk).addL 17 2 pl17).addL 19 2 pl19).addL 13 4 pl13
instance : FkOK (S9 condF) := ⟨fun _ _ _ => rfl⟩
theorem S9_ok : CsOK Try.prog th (S9 condF) := ((S3_ok.addL n17 pl17_ok).addL n19 pl19_ok).addL n13 pl13_ok
theorem k17_ (fk : Fk) (s : ByteArray)  : fnK Try.prog th (S9 fk) 1000 17 [.sc (.string s)] =
    fk (decide ((0 : Int) = (0 : Int)))
      (fk (fit s.size)
        (fk (fAt s == s.size) (some (KV.sc (Value.bool (decide ((↑s.size : Int) ≤ (80 : Int))))))
          (some (KV.sc (Value.bool false))))
        none)
      none := by kernel_rfl
theorem k17 (s : ByteArray)  : fnK Try.prog th (S9 condF) 1000 17 [.sc (.string s)] =
    condF (decide ((0 : Int) = (0 : Int)))
      (condF (fit s.size)
        (condF (fAt s == s.size) (some (KV.sc (Value.bool (decide ((↑s.size : Int) ≤ (80 : Int))))))
          (some (KV.sc (Value.bool false))))
        none)
      none := k17_ condF s
theorem k19_ (fk : Fk) (s : ByteArray)  : fnK Try.prog th (S9 fk) 1000 19 [.sc (.string s)] =
    fk (decide ((0 : Int) = (0 : Int)))
      (fk (fit s.size)
        (fk (badAt s == s.size)
          (fk (decide ((↑s.size : Int) ≥ (1 : Int))) (some (KV.sc (Value.bool (decide ((↑s.size : Int) ≤ (16 : Int))))))
            (some (KV.sc (Value.bool false))))
          (some (KV.sc (Value.bool false))))
        none)
      none := by kernel_rfl
theorem k19 (s : ByteArray)  : fnK Try.prog th (S9 condF) 1000 19 [.sc (.string s)] =
    condF (decide ((0 : Int) = (0 : Int)))
      (condF (fit s.size)
        (condF (badAt s == s.size)
          (condF (decide ((↑s.size : Int) ≥ (1 : Int))) (some (KV.sc (Value.bool (decide ((↑s.size : Int) ≤ (16 : Int))))))
            (some (KV.sc (Value.bool false))))
          (some (KV.sc (Value.bool false))))
        none)
      none := k19_ condF s
theorem k13_ (fk : Fk) (n : Bool) (l : List ByteArray) (m : Int)  : fnK Try.prog th (S9 fk) 1000 13 [.lst .str n l, .sc (.int .i64 m)] =
    fk (decide ((↑l.length : Int) > m)) (some (KV.sc (Value.bool false)))
      (fk (decide ((0 : Int) = (0 : Int)))
        (fk (fit l.length) (fk (longAt l == l.length) (some (KV.sc (Value.bool true))) (some (KV.sc (Value.bool false))))
          none)
        none) := by kernel_rfl
theorem k13 (n : Bool) (l : List ByteArray) (m : Int)  : fnK Try.prog th (S9 condF) 1000 13 [.lst .str n l, .sc (.int .i64 m)] =
    condF (decide ((↑l.length : Int) > m)) (some (KV.sc (Value.bool false)))
      (condF (decide ((0 : Int) = (0 : Int)))
        (condF (fit l.length) (condF (longAt l == l.length) (some (KV.sc (Value.bool true))) (some (KV.sc (Value.bool false))))
          none)
        none) := k13_ condF n l m
end Go.Proofs.Ytecokfbldjekiaa.LI
