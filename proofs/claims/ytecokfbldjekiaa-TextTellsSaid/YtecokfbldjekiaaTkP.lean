/-
  Layer 1 (text): plain laws on bytes, without the program.
-/
import Derived.Test.YtecokfbldjekiaaTkD
namespace Go.Proofs.Ytecokfbldjekiaa.LI
open Go Go.RowKit
theorem idx_neg (c : UInt8) : ∀ l : List UInt8, decide (Lib.indexByte l c < 0) = l.all (fun b => b != c)
  | [] => rfl
  | b :: l => by
    have hg := Lib.indexByte_ge l c
    have ih := idx_neg c l
    rw [Lib.indexByte, List.all_cons]
    by_cases hb : b = c
    · subst hb; simp
    · by_cases hm : Lib.indexByte l c = -1
      · rw [hm] at ih ⊢
        simp [hb, ← ih]
      · have : decide (Lib.indexByte l c < 0) = false := by simp; omega
        rw [this] at ih
        simp [hb, hm, ← ih]; omega
theorem one_byte (s : ByteArray) (i : Nat) (h : i < s.size) : (s.extract i (i + 1)).data.toList = [s.data.toList[i]'(by simpa using h)] := by
  have hl : s.data.size = s.size := rfl
  have := ByteArray.data_extract (a := s) (b := i) (e := i + 1)
  rw [this, Array.toList_extract, List.extract_eq_take_drop]
  have e1 : i + 1 - i = 1 := by omega
  rw [e1, List.drop_eq_getElem_cons (by simpa using h)]
  rfl
theorem findIdx_len {α : Type} (p : α → Bool) (l : List α) : (l.findIdx (fun x => !p x) == l.length) = l.all p := by
  rw [Bool.eq_iff_iff, beq_iff_eq, List.findIdx_eq_length, List.all_eq_true]
  simp
/-- May a byte stand in a name? -/
def signU (b : UInt8) : Bool := signK (b.toNat : Int)
theorem nameK_eq (s : ByteArray) : nameK s = (s.data.toList.all signU && decide (s.data.toList ≠ []) && decide (s.size ≤ 16)) := by
  unfold nameK badAt
  have hl : s.size = s.data.toList.length := by simp
  have e1 : (s.data.toList.findIdx (fun b => !signK (b.toNat : Int)) == s.size) = s.data.toList.all signU := by
    rw [hl]; exact findIdx_len signU s.data.toList
  rw [e1]
  congr 1
  · congr 1
    simp only [ByteArray.toList_eq]
    rw [Bool.eq_iff_iff]
    simp
  · exact decide_eq_decide.2 (by omega)
theorem mayK_eq (s : ByteArray) : mayK s = (decide (s.size ≤ 80) && s.data.toList.all (fun b => b != 10)) := by
  unfold mayK
  have e : (Int.toNat 10).toUInt8 = 10 := rfl
  rw [e, idx_neg]
  congr 1
  exact decide_eq_decide.2 (by omega)
theorem badLine_eq (l : List ByteArray) : (badLine l == l.length) = l.all mayK := findIdx_len mayK l
theorem allK_eq (l : List ByteArray) : allK l = (decide (l.length ≤ 200) && l.all mayK) := by
  unfold allK
  rw [badLine_eq]
  congr 1
  exact decide_eq_decide.2 (by omega)
theorem sign_not_feed (b : UInt8) (h : signU b = true) : (b != 10) = true := by
  rw [bne_iff_ne]
  rintro rfl
  exact absurd h (by decide)
end Go.Proofs.Ytecokfbldjekiaa.LI
