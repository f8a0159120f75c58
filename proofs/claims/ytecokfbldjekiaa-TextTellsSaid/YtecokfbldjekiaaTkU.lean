/-
  Layer 1 (text): text.Split as a contract, and whether two lists are the same.
-/
import Derived.Test.YtecokfbldjekiaaTkT
namespace Go.Proofs.Ytecokfbldjekiaa.LI
open Go Go.RowKit
open KV (toL)
open KV.toL (toLs)
set_option maxRecDepth 100000
/-- The lines of bytes, by line feeds. -/
def linesF : Nat → List UInt8 → List ByteArray
  | 0, _ => []
  | k + 1, b => bif cutOk b then lineOf b :: linesF k (cutB b) else []
theorem goodL_eq : ∀ (k : Nat) (b : List UInt8), goodL k b = (linesF k b).all mayK
  | 0, _ => rfl
  | k + 1, b => by
    simp only [goodL, linesF]
    cases cutOk b with
    | false => rfl
    | true => simp only [cond_true, List.all_cons, goodL_eq k]
theorem accL_eq : ∀ (k : Nat) (acc : List ByteArray) (b : List UInt8), goodL k b = true → accL k acc b = acc ++ linesF k b
  | 0, acc, _, _ => by simp [accL, linesF]
  | k + 1, acc, b, h => by
    simp only [goodL] at h
    simp only [accL, linesF]
    cases hc : cutOk b with
    | false => simp
    | true =>
      rw [hc, cond_true, Bool.and_eq_true] at h
      rw [h.1, Bool.true_and, cond_true, cond_true, accL_eq k _ _ h.2, List.append_assoc]
      rfl
def linesK (l : List UInt8) : List ByteArray := linesF (l.length + 1) l
/-- Is the last byte a line feed, if there is one? -/
def lastOk (l : List UInt8) : Bool := decide (l = []) || (l.getD (l.length - 1) 0 == 10)
def splitE (l : List UInt8) : Int := if l.length > 200000 ∨ List.count 10 l > 200 then 8 else if lastOk l = false then 2 else if (linesK l).all mayK = true then 0 else 2
def splitL (l : List UInt8) : List ByteArray := if splitE l = 0 then linesK l else []
theorem lst_nil (L : List ByteArray) (h : L = []) : (KV.lst .str true L).toL = .nils := by subst h; rfl
theorem lst_cons (L : List ByteArray) (h : L ≠ []) (b : Bool) : (KV.lst .str b L).toL = (KV.lst .str false L).toL := by
  simp only [toL, lstL]
  have : L.isEmpty = false := by cases L with
    | nil => exact absurd rfl h
    | cons _ _ => rfl
  rw [this, Bool.and_false, Bool.and_false]
theorem s9 (l : List UInt8) (hl : l.length ≤ 1000000) : run Try.prog th (.call 9 [(KV.lst .byte false l).toL]) = some ⟨.normal, (KV.tuple [.lst .str true (splitL l), .int (splitE l)]).toL, default, {}⟩ := by
  have key : ∀ v, fnK Try.prog th (S6 condF) 1000 9 [.lst .byte false l] = some v → v.toL = (KV.tuple [.lst .str true (splitL l), .int (splitE l)]).toL → run Try.prog th (.call 9 [(KV.lst .byte false l).toL]) = some ⟨.normal, (KV.tuple [.lst .str true (splitL l), .int (splitE l)]).toL, default, {}⟩ := by
    intro v h1 h2
    rw [← h2]
    exact fnK_sound S6_ok (args := [.lst .byte false l]) h1
  have hb : l.length.ble 1000000 = true := by rw [Nat.ble_eq]; omega
  have e := k9 l
  have e10 : UInt8.ofNat (Int.toNat 10) = 10 := rfl
  simp only [e10, hb, condF_true, decide_true] at e
  have nil2 : ∀ n : Int, splitE l = n → n ≠ 0 → (KV.tuple [KV.nils, KV.sc (Value.int IntKind.i64 n)]).toL = (KV.tuple [.lst .str true (splitL l), .int (splitE l)]).toL := by
    intro n h1 h2
    have : splitL l = [] := by rw [splitL, if_neg (by rw [h1]; exact h2)]
    simp only [toL, toLs, h1]
    rw [this]
    rfl
  by_cases h1 : (l.length : Int) > 200000
  · simp only [h1, decide_true, condF_true] at e
    exact key _ e (nil2 8 (by rw [splitE, if_pos (.inl (by omega))]) (by decide))
  by_cases h2 : ((List.count 10 l : Nat) : Int) > 200
  · simp only [h1, h2, decide_true, decide_false, condF_true, condF_false] at e
    exact key _ e (nil2 8 (by rw [splitE, if_pos (.inr (by omega))]) (by decide))
  simp only [h1, h2, decide_false, condF_false] at e
  have hn : ¬ (l.length > 200000 ∨ List.count 10 l > 200) := by omega
  -- the middle, once the last byte is told
  have mid : lastOk l = true → fnK Try.prog th (S6 condF) 1000 9 [.lst .byte false l] = condF (cutOk l)
      (condF (mayK (lineOf l)) (condF (goodL l.length (cutB l)) (some (KV.tuple [KV.lst Ty.str false (accL l.length [lineOf l] (cutB l)), KV.sc (Value.int IntKind.i64 0)])) (some (KV.tuple [KV.nils, KV.sc (Value.int IntKind.i64 2)]))) (some (KV.tuple [KV.nils, KV.sc (Value.int IntKind.i64 2)])))
      (some (KV.tuple [KV.nils, KV.sc (Value.int IntKind.i64 0)])) → run Try.prog th (.call 9 [(KV.lst .byte false l).toL]) = some ⟨.normal, (KV.tuple [.lst .str true (splitL l), .int (splitE l)]).toL, default, {}⟩ := by
    intro hlast e
    have hE : splitE l = if (linesK l).all mayK = true then 0 else 2 := by rw [splitE, if_neg hn, if_neg (by rw [hlast]; decide)]
    cases hc : cutOk l with
    | false =>
      rw [hc, condF_false] at e
      have hlk : linesK l = [] := by simp only [linesK, linesF, hc, cond_false]
      refine key _ e ?_
      have h0 : splitE l = 0 := by rw [hE, hlk]; rfl
      have : splitL l = [] := by rw [splitL, if_pos h0, hlk]
      simp only [toL, toLs, h0]
      rw [this]
      rfl
    | true =>
      have hlk : linesK l = lineOf l :: linesF l.length (cutB l) := by simp only [linesK, linesF, hc, cond_true]
      rw [hc, condF_true] at e
      cases hm : mayK (lineOf l) with
      | false =>
        rw [hm, condF_false] at e
        exact key _ e (nil2 2 (by rw [hE, hlk, List.all_cons, hm]; rfl) (by decide))
      | true =>
        rw [hm, condF_true] at e
        cases hg : goodL l.length (cutB l) with
        | false =>
          rw [hg, condF_false] at e
          exact key _ e (nil2 2 (by rw [hE, hlk, List.all_cons, hm, ← goodL_eq, hg]; rfl) (by decide))
        | true =>
          rw [hg, condF_true] at e
          refine key _ e ?_
          have h0 : splitE l = 0 := by rw [hE, hlk, List.all_cons, hm, ← goodL_eq, hg]; rfl
          have hacc : accL l.length [lineOf l] (cutB l) = linesK l := by rw [accL_eq _ _ _ hg, hlk]; rfl
          have hL : splitL l = linesK l := by rw [splitL, if_pos h0]
          have hne : linesK l ≠ [] := by rw [hlk]; simp
          have := lst_cons (linesK l) hne true
          simp only [toL, toLs] at this ⊢
          rw [hacc, hL, h0, this]
  by_cases h3 : (l.length : Int) > 0
  · have hw : IntKind.i64.wrap ((l.length : Int) - 1) = ((l.length - 1 : Nat) : Int) := by rw [wrap64] <;> omega
    have c1 : decide ((0 : Int) ≤ ((l.length - 1 : Nat) : Int)) = true := by simp
    have c2 : decide (((l.length - 1 : Nat) : Int) < (l.length : Int)) = true := by simp only [decide_eq_true_eq]; omega
    simp only [h3, decide_true, condF_true, hw, c1, c2, Int.toNat_natCast] at e
    have hne : l ≠ [] := by
      intro h; rw [h] at h3; simp at h3
    have hlo : (((l.getD (l.length - 1) 0).toNat : Int) != 10) = !lastOk l := by
      simp only [lastOk, hne, decide_false, Bool.false_or]
      generalize l.getD (l.length - 1) 0 = c
      rw [Bool.eq_iff_iff]
      simp only [bne_iff_ne, ne_eq, Bool.not_eq_true', beq_eq_false_iff_ne]
      constructor
      · intro h h2; subst h2; exact h rfl
      · intro h h2
        apply h
        have : c.toNat = 10 := by omega
        exact UInt8.toNat_inj.1 this
    rw [hlo] at e
    cases hq : lastOk l with
    | false =>
      rw [hq, Bool.not_false, condF_true] at e
      exact key _ e (nil2 2 (by rw [splitE, if_neg hn, if_pos hq]) (by decide))
    | true =>
      rw [hq, Bool.not_true, condF_false] at e
      exact mid hq e
  · have he : l = [] := by
      apply List.eq_nil_of_length_eq_zero
      omega
    simp only [h3, decide_false, condF_false] at e
    exact mid (by rw [he]; rfl) e
theorem s9n : run Try.prog th (.call 9 [.nils]) = some ⟨.normal, .tuple [.nils, .sc (.int .i64 0)], default, {}⟩ := runD_run 1000 _ _ (by kernel_rfl)
theorem s9' (b : Bool) (l : List UInt8) (hl : l.length ≤ 1000000) : run Try.prog th (.call 9 [(KV.lst .byte b l).toL]) = some ⟨.normal, (KV.tuple [.lst .str true (splitL l), .int (splitE l)]).toL, default, {}⟩ := by
  cases b with
  | false => exact s9 l hl
  | true =>
    cases l with
    | nil =>
      have h1 : splitE [] = 0 := rfl
      have h2 : splitL [] = [] := rfl
      rw [h1, h2]
      exact s9n
    | cons c t => exact s9 (c :: t) hl
def p9 : List KV → Option (Ck × KV)
  | [.lst .byte _ l] => some (.is (Nat.ble l.length 1000000), .tuple [.lst .str true (splitL l), .int (splitE l)])
  | _ => none
theorem c9 (args : List KV) (c : Ck) (v : KV) (h : p9 args = some (c, v)) (hc : c.val = true) : run Try.prog th (.call 9 (toLs args)) = some ⟨.normal, v.toL, default, {}⟩ := by
  unfold p9 at h
  split at h
  · cases h
    simp only [val_is, Nat.ble_eq] at hc
    exact s9' _ _ hc
  · cases h
theorem i10_ (fk : Fk) (a b : List ByteArray) (m n : Bool) (i : Int) (r : Bool)  : iterK Try.prog th (S3 fk) 1000 10 (some 4) [.lst .str m a, .lst .str n b, .sc (.bool r), .sc (.int .i64 i)] {} =
    fk (decide (i < (↑a.length : Int)))
      (fk (decide ((0 : Int) ≤ i))
        (fk (decide (i < (↑a.length : Int)))
          (fk (decide ((0 : Int) ≤ i))
            (fk (decide (i < (↑b.length : Int)))
              (fk (!(a.getD i.toNat ByteArray.empty).toList == (b.getD i.toNat ByteArray.empty).toList)
                (some
                  (Ex.ret,
                    [KV.lst Ty.str m a, KV.lst Ty.str n b, KV.sc (Value.bool false), KV.sc (Value.int IntKind.i64 i)],
                    KSt.mk [] [] []))
                (some
                  (Ex.normal,
                    [KV.lst Ty.str m a, KV.lst Ty.str n b, KV.sc (Value.bool r),
                      KV.sc (Value.int IntKind.i64 (IntKind.i64.wrap (i + (1 : Int))))],
                    KSt.mk [] [] [])))
              none)
            none)
          none)
        none)
      (some
        (Ex.exit (0 : Nat), [KV.lst Ty.str m a, KV.lst Ty.str n b, KV.sc (Value.bool r), KV.sc (Value.int IntKind.i64 i)],
          KSt.mk [] [] [])) := by kernel_rfl
theorem i10 (a b : List ByteArray) (m n : Bool) (i : Int) (r : Bool)  : iterK Try.prog th (S3 condF) 1000 10 (some 4) [.lst .str m a, .lst .str n b, .sc (.bool r), .sc (.int .i64 i)] {} =
    condF (decide (i < (↑a.length : Int)))
      (condF (decide ((0 : Int) ≤ i))
        (condF (decide (i < (↑a.length : Int)))
          (condF (decide ((0 : Int) ≤ i))
            (condF (decide (i < (↑b.length : Int)))
              (condF (!(a.getD i.toNat ByteArray.empty).toList == (b.getD i.toNat ByteArray.empty).toList)
                (some
                  (Ex.ret,
                    [KV.lst Ty.str m a, KV.lst Ty.str n b, KV.sc (Value.bool false), KV.sc (Value.int IntKind.i64 i)],
                    KSt.mk [] [] []))
                (some
                  (Ex.normal,
                    [KV.lst Ty.str m a, KV.lst Ty.str n b, KV.sc (Value.bool r),
                      KV.sc (Value.int IntKind.i64 (IntKind.i64.wrap (i + (1 : Int))))],
                    KSt.mk [] [] [])))
              none)
            none)
          none)
        none)
      (some
        (Ex.exit (0 : Nat), [KV.lst Ty.str m a, KV.lst Ty.str n b, KV.sc (Value.bool r), KV.sc (Value.int IntKind.i64 i)],
          KSt.mk [] [] [])) := i10_ condF a b m n i r
end Go.Proofs.Ytecokfbldjekiaa.LI
