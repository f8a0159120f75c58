/-
  Layer 1 (text): the lines of bytes, byte by byte: plain laws.
-/
import Derived.Test.YtecokfbldjekiaaTkV
namespace Go.Proofs.Ytecokfbldjekiaa.LI
open Go Go.RowKit
def lns : List UInt8 → List UInt8 → List ByteArray
  | _, [] => []
  | acc, c :: t => bif c == 10 then ByteArray.mk (Array.mk acc) :: lns [] t else lns (acc ++ [c]) t
theorem feed_cons (c : UInt8) (t : List UInt8) : feed (c :: t) = if (c == 10) = true then 0 else if (feed t == -1) = true then -1 else feed t + 1 := by
  unfold feed
  rw [Lib.indexByte]
theorem feed_ge (t : List UInt8) : -1 ≤ feed t := Lib.indexByte_ge t 10
theorem lns_cut : ∀ (b acc : List UInt8), lns acc b = bif cutOk b then ByteArray.mk (Array.mk (acc ++ cutA b)) :: lns [] (cutB b) else []
  | [], acc => by simp [lns, cutOk, feed, Lib.indexByte]
  | c :: t, acc => by
    have hg := feed_ge t
    by_cases hc : (c == 10) = true
    · have hf : feed (c :: t) = 0 := by rw [feed_cons, if_pos hc]
      have ho : cutOk (c :: t) = true := by simp [cutOk, hf]
      simp [lns, hc, ho, cutA, cutB, hf]
    · have hc' : (c == 10) = false := by simpa using hc
      have ih := lns_cut t (acc ++ [c])
      have e0 : lns acc (c :: t) = lns (acc ++ [c]) t := by simp only [lns, hc', cond_false]
      rw [e0, ih]
      by_cases hm : (feed t == -1) = true
      · have hf : feed (c :: t) = -1 := by rw [feed_cons, if_neg hc, if_pos hm]
        have hft : feed t = -1 := by simpa using hm
        have ho : cutOk (c :: t) = false := by simp [cutOk, hf]
        have ho' : cutOk t = false := by simp [cutOk, hft]
        rw [ho, ho']; rfl
      · have hf : feed (c :: t) = feed t + 1 := by rw [feed_cons, if_neg hc, if_neg hm]
        have hft : feed t ≠ -1 := by simpa using hm
        have h0 : 0 ≤ feed t := by omega
        have ho : cutOk (c :: t) = true := by simp [cutOk, hf]; omega
        have ho' : cutOk t = true := by simp [cutOk, h0]
        have hn : (feed (c :: t)).toNat = (feed t).toNat + 1 := by omega
        have ea : cutA (c :: t) = c :: cutA t := by simp only [cutA, ho, ho', cond_true, hn, List.take_succ_cons]
        have eb : cutB (c :: t) = cutB t := by simp only [cutB, ho, ho', cond_true, hn, List.drop_succ_cons]
        rw [ho, ho', ea, eb, cond_true, cond_true, List.append_assoc]
        rfl
theorem linesF_lns : ∀ (k : Nat) (b : List UInt8), b.length < k → linesF k b = lns [] b
  | 0, b, h => by omega
  | k + 1, b, h => by
    rw [lns_cut]
    simp only [linesF]
    cases hc : cutOk b with
    | false => rfl
    | true =>
      have := cutB_len b hc
      simp only [cond_true, List.nil_append, lineOf]
      rw [linesF_lns k (cutB b) (by omega)]
theorem linesK_lns (l : List UInt8) : linesK l = lns [] l := linesF_lns _ _ (by omega)
theorem lns_count : ∀ (l acc : List UInt8), (lns acc l).length = l.count 10
  | [], _ => rfl
  | c :: t, acc => by
    rw [lns, List.count_cons]
    cases hc : (c == 10) with
    | true => simp [lns_count t]
    | false => simp [lns_count t]
theorem lns_app : ∀ (a acc b : List UInt8), (a = [] ∧ acc = []) ∨ a.getLast? = some 10 → lns acc (a ++ b) = lns acc a ++ lns [] b
  | [], acc, b, h => by
    rcases h with ⟨_, rfl⟩ | h
    · rfl
    · cases h
  | c :: t, acc, b, h => by
    have hl : (c :: t).getLast? = some 10 := by
      rcases h with ⟨h, _⟩ | h
      · cases h
      · exact h
    rw [List.cons_append, lns, lns]
    cases hc : (c == 10) with
    | true =>
      simp only [cond_true, List.cons_append]
      rw [lns_app t [] b]
      cases t with
      | nil => exact .inl ⟨rfl, rfl⟩
      | cons d t => exact .inr (by rw [List.getLast?_cons_cons] at hl; exact hl)
    | false =>
      simp only [cond_false]
      cases t with
      | nil =>
        simp only [List.getLast?_singleton, Option.some.injEq] at hl
        subst hl
        simp at hc
      | cons d t => exact lns_app (d :: t) (acc ++ [c]) b (.inr (by rw [List.getLast?_cons_cons] at hl; exact hl))
theorem lastOk_iff (l : List UInt8) : lastOk l = true ↔ l = [] ∨ l.getLast? = some 10 := by
  unfold lastOk
  rw [Bool.or_eq_true, decide_eq_true_eq, beq_iff_eq, List.getLast?_eq_getElem?, List.getD_eq_getElem?_getD]
  constructor
  · rintro (h | h)
    · exact .inl h
    · by_cases hn : l = []
      · exact .inl hn
      · have hlt : l.length - 1 < l.length := by
          have := List.length_pos_iff.2 hn
          omega
        rw [List.getElem?_eq_getElem hlt] at h ⊢
        exact .inr (by simpa using h)
  · rintro (h | h)
    · exact .inl h
    · exact .inr (by rw [h]; rfl)
theorem splitE_zero {l : List UInt8} (h : splitE l = 0) : l.length ≤ 200000 ∧ List.count 10 l ≤ 200 ∧ lastOk l = true ∧ (linesK l).all mayK = true ∧ splitL l = lns [] l := by
  have hL : splitL l = linesK l := by rw [splitL, if_pos h]
  unfold splitE at h
  split at h
  · cases h
  · rename_i h1
    split at h
    · cases h
    · rename_i h2
      split at h
      · rename_i h3
        refine ⟨by omega, by omega, by simpa using h2, h3, by rw [hL, linesK_lns]⟩
      · cases h
theorem splitE_mk {l : List UInt8} (h1 : l.length ≤ 200000) (h2 : List.count 10 l ≤ 200) (h3 : lastOk l = true) (h4 : (lns [] l).all mayK = true) : splitE l = 0 ∧ splitL l = lns [] l := by
  have : splitE l = 0 := by
    unfold splitE
    rw [if_neg (by omega), if_neg (by rw [h3]; decide), linesK_lns, if_pos h4]
  exact ⟨this, (splitE_zero this).2.2.2.2⟩
theorem joins_law {a b : List UInt8} (ha : a.length ≤ 3000) (hb : b.length ≤ 3000) (h1 : splitE a = 0) (h2 : splitE b = 0) (hs : (splitL a).length + (splitL b).length ≤ 200) : splitE (a ++ b) = 0 ∧ splitL (a ++ b) = splitL a ++ splitL b := by
  obtain ⟨a1, a2, a3, a4, a5⟩ := splitE_zero h1
  obtain ⟨b1, b2, b3, b4, b5⟩ := splitE_zero h2
  rw [linesK_lns] at a4 b4
  rw [a5, b5, lns_count, lns_count] at hs
  have hla := (lastOk_iff a).1 a3
  have hlb := (lastOk_iff b).1 b3
  have happ : lns [] (a ++ b) = lns [] a ++ lns [] b := lns_app a [] b (hla.imp (fun h => ⟨h, rfl⟩) id)
  have hlast : lastOk (a ++ b) = true := by
    rw [lastOk_iff]
    rcases hlb with rfl | hlb
    · rw [List.append_nil]; exact hla
    · exact .inr (by rw [List.getLast?_append, hlb]; rfl)
  obtain ⟨c1, c2⟩ := splitE_mk (l := a ++ b) (by rw [List.length_append]; omega) (by rw [List.count_append]; omega) hlast (by rw [happ, List.all_append, a4, b4]; rfl)
  exact ⟨c1, by rw [c2, happ, a5, b5]⟩
end Go.Proofs.Ytecokfbldjekiaa.LI
