/-
  Layer 1 (text): the bytes of lines: text.Join and the document's.
-/
import Derived.Test.YtecokfbldjekiaaTkZ
namespace Go.Proofs.Ytecokfbldjekiaa.LI
open Go Go.RowKit
open KV (toL)
open KV.toL (toLs)
set_option maxRecDepth 100000
/-- A line feed, as it is written out. -/
abbrev ten : UInt8 := UInt8.ofNat (Int.toNat (10 : Int))
/-- The bytes of lines. -/
def joinB (l : List ByteArray) : List UInt8 := l.flatMap fun s => s.data.toList ++ [ten]
def stJ (acc : List UInt8) : KSt := ⟨[], [⟨.byte, acc, 5, 1, true⟩], []⟩
def V15 (l : List ByteArray) (n : Bool) (e : Int) (b : KV) (i : Int) : List KV := [.nils, .sc (.int .i64 e), b, .lst .str n l, .sc (.int .i64 l.length), .sc (.int .i64 i)]
theorem n15 : ((loopsOf (bodyOf Try.prog 15)).filter fun a => loopKey a == some 5).length = 1 := by kernel_rfl
theorem J15m (l : List ByteArray) (n : Bool) (e : Int) (hs : (l.length : Int) < big) : ∀ (k i : Nat) (acc : List UInt8), i + k = l.length → acc.length + (joinB (l.drop i)).length ≤ 1000000 →
    LoopTo Try.prog th 15 (some 5) (V15 l n e (.mref 0 acc.length) i) (stJ acc) (.exit 0) (V15 l n e (.mref 0 (acc ++ joinB (l.drop i)).length) l.length) (stJ (acc ++ joinB (l.drop i)))
  | 0, i, acc, hi, hm => by
    have hd : l.drop i = [] := List.drop_eq_nil_of_le (by omega)
    have ej : acc ++ joinB (l.drop i) = acc := by rw [hd]; simp [joinB]
    rw [ej]
    have h := i15m l n i e acc
    have d1 : decide ((i : Int) < l.length) = false := by rw [decide_eq_false_iff_not]; omega
    simp only [d1, condF_false] at h
    have hi' : i = l.length := by omega
    subst hi'
    exact LoopTo.stop S3_ok n15 StOK.nil h (by simp)
  | k + 1, i, acc, hi, hm => by
    have hlt : i < l.length := by omega
    have hd : l.drop i = l[i] :: l.drop (i + 1) := List.drop_eq_getElem_cons hlt
    have ej : joinB (l.drop i) = l[i].data.toList ++ [ten] ++ joinB (l.drop (i + 1)) := by rw [hd]; rfl
    rw [ej] at hm ⊢
    simp only [List.length_append, List.length_cons, List.length_nil] at hm
    have h := i15m l n i e acc
    have d1 : decide ((i : Int) < l.length) = true := by rw [decide_eq_true_eq]; omega
    have d2 : decide ((0 : Int) ≤ i) = true := by rw [decide_eq_true_eq]; omega
    have d3 : IntKind.i64.wrap ((i : Int) + 1) = ((i + 1 : Nat) : Int) := wrapN (by omega)
    have m1 : decide (acc.length + l[i].data.toList.length ≤ maxEls) = true := max_le (by omega)
    have m2 : decide (acc.length + l[i].data.toList.length + [UInt8.ofNat (Int.toNat (10 : Int))].length ≤ maxEls) = true := max_le (by simp only [List.length_cons, List.length_nil]; omega)
    have m3 : decide ((acc ++ l[i].data.toList).length = acc.length + l[i].data.toList.length) = true := by rw [decide_eq_true_eq, List.length_append]
    simp only [d1, d2, d3, condF_true, Int.toNat_natCast, getD_at _ _ _ hlt, m1, m2, m3, decide_true] at h
    have ih := J15m l n e hs k (i + 1) (acc ++ l[i].data.toList ++ [ten]) (by omega) (by simp only [List.length_append, List.length_cons, List.length_nil]; omega)
    have el : acc.length + l[i].data.toList.length + [UInt8.ofNat (Int.toNat (10 : Int))].length = (acc ++ l[i].data.toList ++ [ten]).length := by
      simp only [List.length_append, List.length_cons, List.length_nil]
    rw [el] at h
    have ea : acc ++ (l[i].data.toList ++ [ten] ++ joinB (l.drop (i + 1))) = acc ++ l[i].data.toList ++ [ten] ++ joinB (l.drop (i + 1)) := by simp only [List.append_assoc]
    rw [ea]
    exact LoopTo.next S3_ok n15 StOK.nil h ih
def o15 (l : List ByteArray) (n : Bool) (e : Int) : Out := .two l.isEmpty
  (.one (.exit 0) (V15 l n e .nils l.length) {})
  (.one (.exit 0) (V15 l n e (.mref 0 (joinB l).length) l.length) (stJ (joinB l)))
theorem J15n (l : List ByteArray) (n : Bool) (e : Int) (hs : (l.length : Int) < big) (hm : (joinB l).length ≤ 1000000) : LoopTo Try.prog th 15 (some 5) (V15 l n e .nils 0) {} (o15 l n e).pick.1 (o15 l n e).pick.2.1 (o15 l n e).pick.2.2 := by
  have h := i15n l n 0 e
  cases l with
  | nil =>
    have d1 : decide ((0 : Int) < ((([] : List ByteArray).length : Nat) : Int)) = false := rfl
    rw [d1, condF_false] at h
    exact LoopTo.stop S3_ok n15 StOK.nil h (by simp [o15, Out.pick])
  | cons s t =>
    have ej : joinB (s :: t) = s.data.toList ++ [ten] ++ joinB t := by simp [joinB]
    rw [ej] at hm
    simp only [List.length_append, List.length_cons, List.length_nil] at hm
    have d1 : decide ((0 : Int) < (((s :: t).length : Nat) : Int)) = true := by rw [decide_eq_true_eq, List.length_cons]; omega
    have d2 : decide ((0 : Int) ≤ 0) = true := rfl
    have d3 : IntKind.i64.wrap ((0 : Int) + 1) = ((1 : Nat) : Int) := by rw [wrap64] <;> omega
    have g : (s :: t).getD (0 : Int).toNat ByteArray.empty = s := rfl
    have m1 : decide (s.data.toList.length ≤ maxEls) = true := max_le (by omega)
    have m2 : decide (s.data.toList.length + [UInt8.ofNat (Int.toNat (10 : Int))].length ≤ maxEls) = true := max_le (by simp only [List.length_cons, List.length_nil]; omega)
    simp only [d1, d2, d3, condF_true, g, m1, m2, decide_true] at h
    have ih := J15m (s :: t) n e hs t.length 1 (s.data.toList ++ [ten]) (by rw [List.length_cons]; omega) (by simp only [List.drop_succ_cons, List.drop_zero, List.length_append, List.length_cons, List.length_nil]; omega)
    have el : s.data.toList.length + [UInt8.ofNat (Int.toNat (10 : Int))].length = (s.data.toList ++ [ten]).length := by
      simp only [List.length_append, List.length_cons, List.length_nil]
    rw [el] at h
    have hp : (o15 (s :: t) n e).pick = (.exit 0, V15 (s :: t) n e (.mref 0 (joinB (s :: t)).length) (s :: t).length, stJ (joinB (s :: t))) := rfl
    rw [hp, ej]
    exact LoopTo.next S3_ok n15 StOK.nil h ih
def pl15 : List KV → KSt → Option (Ck × Out)
  | [.nils, .sc (.int .i64 e), .nils, .lst .str n l, .sc (.int .i64 m), .sc (.int .i64 i)], ⟨[], [], []⟩ => some (.and (.is (decide (i = 0))) (.and (.and (.is (decide (m = (l.length : Int)))) .ok) (.and (.is (fit l.length)) (.is (Nat.ble (joinB l).length 1000000)))), o15 l n e)
  | _, _ => none
theorem pl15_ok (vs : List KV) (σ : KSt) (c : Ck) (o : Out) (h : pl15 vs σ = some (c, o)) (hc : c.val = true) (_ : StOK Try.prog σ) : LoopTo Try.prog th 15 (some 5) vs σ o.pick.1 o.pick.2.1 o.pick.2.2 ∧ StOK Try.prog o.pick.2.2 := by
  unfold pl15 at h
  split at h
  · rename_i e n l m i _
    cases h
    simp only [val_and_t, val_ok, val_is, fit_iff, decide_eq_true_eq, Nat.ble_eq, true_and, and_true] at hc
    obtain ⟨rfl, rfl, hs, hm⟩ := hc
    refine ⟨J15n l n e hs hm, ?_⟩
    unfold o15 Out.pick
    cases List.isEmpty (α := ByteArray) l <;> exact StOK.nil
  · cases h

def V16 (l : List ByteArray) (n : Bool) (e : Int) (b : KV) (i : Int) : List KV := [.lst .str n l, .nils, .sc (.int .i64 e), b, .sc (.int .i64 i)]
theorem n16 : ((loopsOf (bodyOf Try.prog 16)).filter fun a => loopKey a == some 6).length = 1 := by kernel_rfl
theorem J16m (l : List ByteArray) (n : Bool) (e : Int) (hs : (l.length : Int) < big) : ∀ (k i : Nat) (acc : List UInt8), i + k = l.length → acc.length + (joinB (l.drop i)).length ≤ 1000000 →
    LoopTo Try.prog th 16 (some 6) (V16 l n e (.mref 0 acc.length) i) (stJ acc) (.exit 0) (V16 l n e (.mref 0 (acc ++ joinB (l.drop i)).length) l.length) (stJ (acc ++ joinB (l.drop i)))
  | 0, i, acc, hi, hm => by
    have hd : l.drop i = [] := List.drop_eq_nil_of_le (by omega)
    have ej : acc ++ joinB (l.drop i) = acc := by rw [hd]; simp [joinB]
    rw [ej]
    have h := i16m l n i e acc
    have d1 : decide ((i : Int) < l.length) = false := by rw [decide_eq_false_iff_not]; omega
    simp only [d1, condF_false] at h
    have hi' : i = l.length := by omega
    subst hi'
    exact LoopTo.stop S10_ok n16 StOK.nil h (by simp)
  | k + 1, i, acc, hi, hm => by
    have hlt : i < l.length := by omega
    have hd : l.drop i = l[i] :: l.drop (i + 1) := List.drop_eq_getElem_cons hlt
    have ej : joinB (l.drop i) = l[i].data.toList ++ [ten] ++ joinB (l.drop (i + 1)) := by rw [hd]; rfl
    rw [ej] at hm ⊢
    simp only [List.length_append, List.length_cons, List.length_nil] at hm
    have h := i16m l n i e acc
    have d1 : decide ((i : Int) < l.length) = true := by rw [decide_eq_true_eq]; omega
    have d2 : decide ((0 : Int) ≤ i) = true := by rw [decide_eq_true_eq]; omega
    have d3 : IntKind.i64.wrap ((i : Int) + 1) = ((i + 1 : Nat) : Int) := wrapN (by omega)
    have m1 : decide (acc.length + l[i].data.toList.length ≤ maxEls) = true := max_le (by omega)
    have m2 : decide (acc.length + l[i].data.toList.length + [UInt8.ofNat (Int.toNat (10 : Int))].length ≤ maxEls) = true := max_le (by simp only [List.length_cons, List.length_nil]; omega)
    have m3 : decide ((acc ++ l[i].data.toList).length = acc.length + l[i].data.toList.length) = true := by rw [decide_eq_true_eq, List.length_append]
    simp only [d1, d2, d3, condF_true, Int.toNat_natCast, getD_at _ _ _ hlt, m1, m2, m3, decide_true] at h
    have ih := J16m l n e hs k (i + 1) (acc ++ l[i].data.toList ++ [ten]) (by omega) (by simp only [List.length_append, List.length_cons, List.length_nil]; omega)
    have el : acc.length + l[i].data.toList.length + [UInt8.ofNat (Int.toNat (10 : Int))].length = (acc ++ l[i].data.toList ++ [ten]).length := by
      simp only [List.length_append, List.length_cons, List.length_nil]
    rw [el] at h
    have ea : acc ++ (l[i].data.toList ++ [ten] ++ joinB (l.drop (i + 1))) = acc ++ l[i].data.toList ++ [ten] ++ joinB (l.drop (i + 1)) := by simp only [List.append_assoc]
    rw [ea]
    exact LoopTo.next S10_ok n16 StOK.nil h ih
def o16 (l : List ByteArray) (n : Bool) (e : Int) : Out := .two l.isEmpty
  (.one (.exit 0) (V16 l n e .nils l.length) {})
  (.one (.exit 0) (V16 l n e (.mref 0 (joinB l).length) l.length) (stJ (joinB l)))
theorem J16n (l : List ByteArray) (n : Bool) (e : Int) (hs : (l.length : Int) < big) (hm : (joinB l).length ≤ 1000000) : LoopTo Try.prog th 16 (some 6) (V16 l n e .nils 0) {} (o16 l n e).pick.1 (o16 l n e).pick.2.1 (o16 l n e).pick.2.2 := by
  have h := i16n l n 0 e
  cases l with
  | nil =>
    have d1 : decide ((0 : Int) < ((([] : List ByteArray).length : Nat) : Int)) = false := rfl
    rw [d1, condF_false] at h
    exact LoopTo.stop S10_ok n16 StOK.nil h (by simp [o16, Out.pick])
  | cons s t =>
    have ej : joinB (s :: t) = s.data.toList ++ [ten] ++ joinB t := by simp [joinB]
    rw [ej] at hm
    simp only [List.length_append, List.length_cons, List.length_nil] at hm
    have d1 : decide ((0 : Int) < (((s :: t).length : Nat) : Int)) = true := by rw [decide_eq_true_eq, List.length_cons]; omega
    have d2 : decide ((0 : Int) ≤ 0) = true := rfl
    have d3 : IntKind.i64.wrap ((0 : Int) + 1) = ((1 : Nat) : Int) := by rw [wrap64] <;> omega
    have g : (s :: t).getD (0 : Int).toNat ByteArray.empty = s := rfl
    have m1 : decide (s.data.toList.length ≤ maxEls) = true := max_le (by omega)
    have m2 : decide (s.data.toList.length + [UInt8.ofNat (Int.toNat (10 : Int))].length ≤ maxEls) = true := max_le (by simp only [List.length_cons, List.length_nil]; omega)
    simp only [d1, d2, d3, condF_true, g, m1, m2, decide_true] at h
    have ih := J16m (s :: t) n e hs t.length 1 (s.data.toList ++ [ten]) (by rw [List.length_cons]; omega) (by simp only [List.drop_succ_cons, List.drop_zero, List.length_append, List.length_cons, List.length_nil]; omega)
    have el : s.data.toList.length + [UInt8.ofNat (Int.toNat (10 : Int))].length = (s.data.toList ++ [ten]).length := by
      simp only [List.length_append, List.length_cons, List.length_nil]
    rw [el] at h
    have hp : (o16 (s :: t) n e).pick = (.exit 0, V16 (s :: t) n e (.mref 0 (joinB (s :: t)).length) (s :: t).length, stJ (joinB (s :: t))) := rfl
    rw [hp, ej]
    exact LoopTo.next S10_ok n16 StOK.nil h ih
def pl16 : List KV → KSt → Option (Ck × Out)
  | [.lst .str n l, .nils, .sc (.int .i64 e), .nils, .sc (.int .i64 i)], ⟨[], [], []⟩ => some (.and (.is (decide (i = 0))) (.and .ok (.and (.is (fit l.length)) (.is (Nat.ble (joinB l).length 1000000)))), o16 l n e)
  | _, _ => none
theorem pl16_ok (vs : List KV) (σ : KSt) (c : Ck) (o : Out) (h : pl16 vs σ = some (c, o)) (hc : c.val = true) (_ : StOK Try.prog σ) : LoopTo Try.prog th 16 (some 6) vs σ o.pick.1 o.pick.2.1 o.pick.2.2 ∧ StOK Try.prog o.pick.2.2 := by
  unfold pl16 at h
  split at h
  · rename_i n l e i _
    cases h
    simp only [val_and_t, val_ok, val_is, fit_iff, decide_eq_true_eq, Nat.ble_eq, true_and, and_true] at hc
    obtain ⟨rfl, hs, hm⟩ := hc
    refine ⟨J16n l n e hs hm, ?_⟩
    unfold o16 Out.pick
    cases List.isEmpty (α := ByteArray) l <;> exact StOK.nil
  · cases h

end Go.Proofs.Ytecokfbldjekiaa.LI
