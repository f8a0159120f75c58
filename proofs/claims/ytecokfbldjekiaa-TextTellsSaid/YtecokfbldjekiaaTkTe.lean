/-
  TextTells: the lines of any bytes, the bytes of any lines, and whether any line, and any name, may be, is what the document says. Without conditions.
-/
import Derived.Test.YtecokfbldjekiaaTkZc
namespace Go.Proofs.Ytecokfbldjekiaa.LI
open Go Go.RowKit
open KV (toL)
open KV.toL (toLs)
set_option maxRecDepth 100000
theorem n14 : ((loopsOf (bodyOf Try.prog 14)).filter fun a => loopKey a == some 3).length = 1 := by kernel_rfl
theorem n14b : ((loopsOf (bodyOf Try.prog 14)).filter fun a => loopKey a == some 14).length = 1 := by kernel_rfl
def feedsFrom : List UInt8 → Int → Int
  | [], f => f
  | c :: t, f => feedsFrom t (bif ((c.toNat : Int) == 10) then f + 1 else f)
theorem feedsFrom_eq : ∀ (l : List UInt8) (f : Int), feedsFrom l f = f + (List.count 10 l : Nat)
  | [], f => by simp [feedsFrom]
  | c :: t, f => by
    rw [feedsFrom, feedsFrom_eq t, List.count_cons]
    have hc : ((c.toNat : Int) == 10) = (c == 10) := by
      have := isFeed_eq c
      unfold isFeed at this
      rw [this]
      cases hb : (c == 10) with
      | true => have : c = 10 := by simpa using hb
                subst this; rfl
      | false => have : c ≠ 10 := by simpa using hb
                 simp [this]
    rw [hc]
    cases c == 10 with
    | true => simp; omega
    | false => simp
theorem j14n_ (fk : Fk) (b : List UInt8) (e f i1 fr i : Int)  : iterK Try.prog th (S10 fk) 1000 14 (some 14) [.lst .byte false b, .nils, .sc (.int .i64 e), .sc (.int .i64 f), .sc (.int .i64 i1), .nils, .sc (.int .i64 fr), .sc (.int .i64 i)] {} =
    fk (decide (i < (↑b.length : Int)))
      (fk (decide ((0 : Int) ≤ i))
        (fk (decide (i < (↑b.length : Int)))
          (fk ((↑(b.getD i.toNat (0 : UInt8)).toNat : Int) != (10 : Int))
            (some
              (Ex.normal,
                [KV.lst Ty.byte false b, KV.nils, KV.sc (Value.int IntKind.i64 e), KV.sc (Value.int IntKind.i64 f),
                  KV.sc (Value.int IntKind.i64 i1), KV.nils, KV.sc (Value.int IntKind.i64 fr),
                  KV.sc (Value.int IntKind.i64 (IntKind.i64.wrap (i + (1 : Int))))],
                KSt.mk [] [] []))
            (fk (decide ((0 : Int) ≤ i))
              (fk (decide (i ≤ (↑b.length : Int)))
                (fk (decide ((0 : Int) ≤ fr))
                  (fk (decide (fr ≤ (↑i.toNat : Int)))
                    (fk (fit (ByteArray.mk (Array.mk (List.take (i.toNat - fr.toNat) (List.drop fr.toNat b)))).size)
                      (fk (!mayK (ByteArray.mk (Array.mk (List.take (i.toNat - fr.toNat) (List.drop fr.toNat b)))))
                        (some
                          (Ex.ret,
                            [KV.lst Ty.byte false b, KV.nils, KV.sc (Value.int IntKind.i64 (2 : Int)),
                              KV.sc (Value.int IntKind.i64 f), KV.sc (Value.int IntKind.i64 i1), KV.nils,
                              KV.sc (Value.int IntKind.i64 fr), KV.sc (Value.int IntKind.i64 i)],
                            KSt.mk [] [] []))
                        (fk
                          (decide
                            ([ByteArray.mk (List.take (i.toNat - fr.toNat) (List.drop fr.toNat b)).toArray].length ≤
                              maxEls))
                          (some
                            (Ex.normal,
                              [KV.lst Ty.byte false b, KV.nils, KV.sc (Value.int IntKind.i64 e),
                                KV.sc (Value.int IntKind.i64 f), KV.sc (Value.int IntKind.i64 i1),
                                KV.mref (0 : Nat)
                                  [ByteArray.mk (Array.mk (List.take (i.toNat - fr.toNat) (List.drop fr.toNat b)))].length,
                                KV.sc (Value.int IntKind.i64 (IntKind.i64.wrap (i + (1 : Int)))),
                                KV.sc (Value.int IntKind.i64 (IntKind.i64.wrap (i + (1 : Int))))],
                              KSt.mk []
                                [KRow.mk Ty.str
                                    [ByteArray.mk (Array.mk (List.take (i.toNat - fr.toNat) (List.drop fr.toNat b)))]
                                    (9 : Nat) (1 : Nat) true]
                                []))
                          none))
                      none)
                    none)
                  none)
                none)
              none))
          none)
        none)
      (some
        (Ex.exit (2 : Nat),
          [KV.lst Ty.byte false b, KV.nils, KV.sc (Value.int IntKind.i64 e), KV.sc (Value.int IntKind.i64 f),
            KV.sc (Value.int IntKind.i64 i1), KV.nils, KV.sc (Value.int IntKind.i64 fr), KV.sc (Value.int IntKind.i64 i)],
          KSt.mk [] [] [])) := by kernel_rfl
theorem j14n (b : List UInt8) (e f i1 fr i : Int)  : iterK Try.prog th (S10 condF) 1000 14 (some 14) [.lst .byte false b, .nils, .sc (.int .i64 e), .sc (.int .i64 f), .sc (.int .i64 i1), .nils, .sc (.int .i64 fr), .sc (.int .i64 i)] {} =
    condF (decide (i < (↑b.length : Int)))
      (condF (decide ((0 : Int) ≤ i))
        (condF (decide (i < (↑b.length : Int)))
          (condF ((↑(b.getD i.toNat (0 : UInt8)).toNat : Int) != (10 : Int))
            (some
              (Ex.normal,
                [KV.lst Ty.byte false b, KV.nils, KV.sc (Value.int IntKind.i64 e), KV.sc (Value.int IntKind.i64 f),
                  KV.sc (Value.int IntKind.i64 i1), KV.nils, KV.sc (Value.int IntKind.i64 fr),
                  KV.sc (Value.int IntKind.i64 (IntKind.i64.wrap (i + (1 : Int))))],
                KSt.mk [] [] []))
            (condF (decide ((0 : Int) ≤ i))
              (condF (decide (i ≤ (↑b.length : Int)))
                (condF (decide ((0 : Int) ≤ fr))
                  (condF (decide (fr ≤ (↑i.toNat : Int)))
                    (condF (fit (ByteArray.mk (Array.mk (List.take (i.toNat - fr.toNat) (List.drop fr.toNat b)))).size)
                      (condF (!mayK (ByteArray.mk (Array.mk (List.take (i.toNat - fr.toNat) (List.drop fr.toNat b)))))
                        (some
                          (Ex.ret,
                            [KV.lst Ty.byte false b, KV.nils, KV.sc (Value.int IntKind.i64 (2 : Int)),
                              KV.sc (Value.int IntKind.i64 f), KV.sc (Value.int IntKind.i64 i1), KV.nils,
                              KV.sc (Value.int IntKind.i64 fr), KV.sc (Value.int IntKind.i64 i)],
                            KSt.mk [] [] []))
                        (condF
                          (decide
                            ([ByteArray.mk (List.take (i.toNat - fr.toNat) (List.drop fr.toNat b)).toArray].length ≤
                              maxEls))
                          (some
                            (Ex.normal,
                              [KV.lst Ty.byte false b, KV.nils, KV.sc (Value.int IntKind.i64 e),
                                KV.sc (Value.int IntKind.i64 f), KV.sc (Value.int IntKind.i64 i1),
                                KV.mref (0 : Nat)
                                  [ByteArray.mk (Array.mk (List.take (i.toNat - fr.toNat) (List.drop fr.toNat b)))].length,
                                KV.sc (Value.int IntKind.i64 (IntKind.i64.wrap (i + (1 : Int)))),
                                KV.sc (Value.int IntKind.i64 (IntKind.i64.wrap (i + (1 : Int))))],
                              KSt.mk []
                                [KRow.mk Ty.str
                                    [ByteArray.mk (Array.mk (List.take (i.toNat - fr.toNat) (List.drop fr.toNat b)))]
                                    (9 : Nat) (1 : Nat) true]
                                []))
                          none))
                      none)
                    none)
                  none)
                none)
              none))
          none)
        none)
      (some
        (Ex.exit (2 : Nat),
          [KV.lst Ty.byte false b, KV.nils, KV.sc (Value.int IntKind.i64 e), KV.sc (Value.int IntKind.i64 f),
            KV.sc (Value.int IntKind.i64 i1), KV.nils, KV.sc (Value.int IntKind.i64 fr), KV.sc (Value.int IntKind.i64 i)],
          KSt.mk [] [] [])) := j14n_ condF b e f i1 fr i
theorem j14m_ (fk : Fk) (b : List UInt8) (acc : List ByteArray) (e f i1 fr i : Int)  : iterK Try.prog th (S10 fk) 1000 14 (some 14) [.lst .byte false b, .nils, .sc (.int .i64 e), .sc (.int .i64 f), .sc (.int .i64 i1), .mref 0 acc.length, .sc (.int .i64 fr), .sc (.int .i64 i)] ⟨[], [⟨.str, acc, 9, 1, true⟩], []⟩ =
    fk (decide (i < (↑b.length : Int)))
      (fk (decide ((0 : Int) ≤ i))
        (fk (decide (i < (↑b.length : Int)))
          (fk ((↑(b.getD i.toNat (0 : UInt8)).toNat : Int) != (10 : Int))
            (some
              (Ex.normal,
                [KV.lst Ty.byte false b, KV.nils, KV.sc (Value.int IntKind.i64 e), KV.sc (Value.int IntKind.i64 f),
                  KV.sc (Value.int IntKind.i64 i1), KV.mref (0 : Nat) acc.length, KV.sc (Value.int IntKind.i64 fr),
                  KV.sc (Value.int IntKind.i64 (IntKind.i64.wrap (i + (1 : Int))))],
                KSt.mk [] [KRow.mk Ty.str acc (9 : TypeId) (1 : Nat) true] []))
            (fk (decide ((0 : Int) ≤ i))
              (fk (decide (i ≤ (↑b.length : Int)))
                (fk (decide ((0 : Int) ≤ fr))
                  (fk (decide (fr ≤ (↑i.toNat : Int)))
                    (fk (fit (ByteArray.mk (Array.mk (List.take (i.toNat - fr.toNat) (List.drop fr.toNat b)))).size)
                      (fk (!mayK (ByteArray.mk (Array.mk (List.take (i.toNat - fr.toNat) (List.drop fr.toNat b)))))
                        (some
                          (Ex.ret,
                            [KV.lst Ty.byte false b, KV.nils, KV.sc (Value.int IntKind.i64 (2 : Int)),
                              KV.sc (Value.int IntKind.i64 f), KV.sc (Value.int IntKind.i64 i1),
                              KV.mref (0 : Nat) acc.length, KV.sc (Value.int IntKind.i64 fr),
                              KV.sc (Value.int IntKind.i64 i)],
                            KSt.mk [] [KRow.mk Ty.str acc (9 : TypeId) (1 : Nat) true] []))
                        (fk (decide (acc.length = acc.length))
                          (fk
                            (decide
                              (acc.length +
                                  [ByteArray.mk (List.take (i.toNat - fr.toNat) (List.drop fr.toNat b)).toArray].length ≤
                                maxEls))
                            (some
                              (Ex.normal,
                                [KV.lst Ty.byte false b, KV.nils, KV.sc (Value.int IntKind.i64 e),
                                  KV.sc (Value.int IntKind.i64 f), KV.sc (Value.int IntKind.i64 i1),
                                  KV.mref (0 : Nat)
                                    (acc.length +
                                      [ByteArray.mk
                                            (Array.mk (List.take (i.toNat - fr.toNat) (List.drop fr.toNat b)))].length),
                                  KV.sc (Value.int IntKind.i64 (IntKind.i64.wrap (i + (1 : Int)))),
                                  KV.sc (Value.int IntKind.i64 (IntKind.i64.wrap (i + (1 : Int))))],
                                KSt.mk []
                                  [KRow.mk Ty.str
                                      (acc ++
                                        [ByteArray.mk (Array.mk (List.take (i.toNat - fr.toNat) (List.drop fr.toNat b)))])
                                      (9 : TypeId) (1 : Nat) true]
                                  []))
                            none)
                          none))
                      none)
                    none)
                  none)
                none)
              none))
          none)
        none)
      (some
        (Ex.exit (2 : Nat),
          [KV.lst Ty.byte false b, KV.nils, KV.sc (Value.int IntKind.i64 e), KV.sc (Value.int IntKind.i64 f),
            KV.sc (Value.int IntKind.i64 i1), KV.mref (0 : Nat) acc.length, KV.sc (Value.int IntKind.i64 fr),
            KV.sc (Value.int IntKind.i64 i)],
          KSt.mk [] [KRow.mk Ty.str acc (9 : TypeId) (1 : Nat) true] [])) := by kernel_rfl
theorem j14m (b : List UInt8) (acc : List ByteArray) (e f i1 fr i : Int)  : iterK Try.prog th (S10 condF) 1000 14 (some 14) [.lst .byte false b, .nils, .sc (.int .i64 e), .sc (.int .i64 f), .sc (.int .i64 i1), .mref 0 acc.length, .sc (.int .i64 fr), .sc (.int .i64 i)] ⟨[], [⟨.str, acc, 9, 1, true⟩], []⟩ =
    condF (decide (i < (↑b.length : Int)))
      (condF (decide ((0 : Int) ≤ i))
        (condF (decide (i < (↑b.length : Int)))
          (condF ((↑(b.getD i.toNat (0 : UInt8)).toNat : Int) != (10 : Int))
            (some
              (Ex.normal,
                [KV.lst Ty.byte false b, KV.nils, KV.sc (Value.int IntKind.i64 e), KV.sc (Value.int IntKind.i64 f),
                  KV.sc (Value.int IntKind.i64 i1), KV.mref (0 : Nat) acc.length, KV.sc (Value.int IntKind.i64 fr),
                  KV.sc (Value.int IntKind.i64 (IntKind.i64.wrap (i + (1 : Int))))],
                KSt.mk [] [KRow.mk Ty.str acc (9 : TypeId) (1 : Nat) true] []))
            (condF (decide ((0 : Int) ≤ i))
              (condF (decide (i ≤ (↑b.length : Int)))
                (condF (decide ((0 : Int) ≤ fr))
                  (condF (decide (fr ≤ (↑i.toNat : Int)))
                    (condF (fit (ByteArray.mk (Array.mk (List.take (i.toNat - fr.toNat) (List.drop fr.toNat b)))).size)
                      (condF (!mayK (ByteArray.mk (Array.mk (List.take (i.toNat - fr.toNat) (List.drop fr.toNat b)))))
                        (some
                          (Ex.ret,
                            [KV.lst Ty.byte false b, KV.nils, KV.sc (Value.int IntKind.i64 (2 : Int)),
                              KV.sc (Value.int IntKind.i64 f), KV.sc (Value.int IntKind.i64 i1),
                              KV.mref (0 : Nat) acc.length, KV.sc (Value.int IntKind.i64 fr),
                              KV.sc (Value.int IntKind.i64 i)],
                            KSt.mk [] [KRow.mk Ty.str acc (9 : TypeId) (1 : Nat) true] []))
                        (condF (decide (acc.length = acc.length))
                          (condF
                            (decide
                              (acc.length +
                                  [ByteArray.mk (List.take (i.toNat - fr.toNat) (List.drop fr.toNat b)).toArray].length ≤
                                maxEls))
                            (some
                              (Ex.normal,
                                [KV.lst Ty.byte false b, KV.nils, KV.sc (Value.int IntKind.i64 e),
                                  KV.sc (Value.int IntKind.i64 f), KV.sc (Value.int IntKind.i64 i1),
                                  KV.mref (0 : Nat)
                                    (acc.length +
                                      [ByteArray.mk
                                            (Array.mk (List.take (i.toNat - fr.toNat) (List.drop fr.toNat b)))].length),
                                  KV.sc (Value.int IntKind.i64 (IntKind.i64.wrap (i + (1 : Int)))),
                                  KV.sc (Value.int IntKind.i64 (IntKind.i64.wrap (i + (1 : Int))))],
                                KSt.mk []
                                  [KRow.mk Ty.str
                                      (acc ++
                                        [ByteArray.mk (Array.mk (List.take (i.toNat - fr.toNat) (List.drop fr.toNat b)))])
                                      (9 : TypeId) (1 : Nat) true]
                                  []))
                            none)
                          none))
                      none)
                    none)
                  none)
                none)
              none))
          none)
        none)
      (some
        (Ex.exit (2 : Nat),
          [KV.lst Ty.byte false b, KV.nils, KV.sc (Value.int IntKind.i64 e), KV.sc (Value.int IntKind.i64 f),
            KV.sc (Value.int IntKind.i64 i1), KV.mref (0 : Nat) acc.length, KV.sc (Value.int IntKind.i64 fr),
            KV.sc (Value.int IntKind.i64 i)],
          KSt.mk [] [KRow.mk Ty.str acc (9 : TypeId) (1 : Nat) true] [])) := j14m_ condF b acc e f i1 fr i
def V14 (b : List UInt8) (e : Int) (f i : Int) : List KV := [.lst .byte false b, .nils, .sc (.int .i64 e), .sc (.int .i64 f), .sc (.int .i64 i), .undef, .undef, .undef]
theorem L14 (b : List UInt8) (e : Int) (hs : (b.length : Int) < big) : ∀ (k i f : Nat), i + k = b.length → f ≤ i →
    LoopTo Try.prog th 14 (some 3) (V14 b e f i) {} (.exit 0) (V14 b e (feedsFrom (b.drop i) f) b.length) {}
  | 0, i, f, hi, hf => by
    have hd : b.drop i = [] := List.drop_eq_nil_of_le (by omega)
    have h := i14 b e f i
    have d1 : decide ((i : Int) < b.length) = false := by rw [decide_eq_false_iff_not]; omega
    simp only [d1, condF_false] at h
    have hi' : i = b.length := by omega
    rw [hd]
    subst hi'
    exact LoopTo.stop S3_ok n14 StOK.nil h (by simp)
  | k + 1, i, f, hi, hf => by
    have hlt : i < b.length := by omega
    have hd : b.drop i = b[i] :: b.drop (i + 1) := List.drop_eq_getElem_cons hlt
    have h := i14 b e f i
    have d1 : decide ((i : Int) < b.length) = true := by rw [decide_eq_true_eq]; omega
    have d2 : decide ((0 : Int) ≤ i) = true := by rw [decide_eq_true_eq]; omega
    have d3 : IntKind.i64.wrap ((i : Int) + 1) = ((i + 1 : Nat) : Int) := wrapN (by omega)
    have d4 : IntKind.i64.wrap ((f : Int) + 1) = ((f + 1 : Nat) : Int) := wrapN (by omega)
    simp only [d1, d2, d3, d4, condF_true, Int.toNat_natCast, getD_at _ _ _ hlt] at h
    rw [hd, feedsFrom]
    cases hq : ((b[i].toNat : Int) == 10) with
    | true =>
      rw [hq, condF_true] at h
      have ih := L14 b e hs k (i + 1) (f + 1) (by omega) (by omega)
      exact LoopTo.next S3_ok n14 StOK.nil h ih
    | false =>
      rw [hq, condF_false] at h
      have ih := L14 b e hs k (i + 1) f (by omega) (by omega)
      exact LoopTo.next S3_ok n14 StOK.nil h ih
def pl14 : List KV → KSt → Option (Ck × Out)
  | [.lst .byte false b, .nils, .sc (.int .i64 e), .sc (.int .i64 f), .sc (.int .i64 i), .undef, .undef, .undef], ⟨[], [], []⟩ => some (.and (.is (decide (i = 0))) (.and (.is (decide (f = 0))) (.is (fit b.length))), .one (.exit 0) (V14 b e (List.count (α := UInt8) 10 b : Nat) (List.length (α := UInt8) b)) {})
  | _, _ => none
theorem pl14_ok (vs : List KV) (σ : KSt) (c : Ck) (o : Out) (h : pl14 vs σ = some (c, o)) (hc : c.val = true) (_ : StOK Try.prog σ) : LoopTo Try.prog th 14 (some 3) vs σ o.pick.1 o.pick.2.1 o.pick.2.2 ∧ StOK Try.prog o.pick.2.2 := by
  unfold pl14 at h
  split at h
  · rename_i b e f i _
    cases h
    simp only [val_and_t, val_is, fit_iff, decide_eq_true_eq] at hc
    obtain ⟨rfl, rfl, hs⟩ := hc
    refine ⟨?_, StOK.nil⟩
    have h := L14 b e hs (List.length (α := UInt8) b) 0 0 (by omega) (by omega)
    rw [List.drop_zero, feedsFrom_eq] at h
    simp only [Int.natCast_zero, Int.cast_ofNat_Int, Int.zero_add] at h
    exact h
  · cases h
/-- The second loop: what is told so far, the line that is begun, its beginning, the place, what is left. -/
def sp : List ByteArray → List UInt8 → Nat → Nat → List UInt8 → Bool × List ByteArray × Nat × Nat
  | acc, _, fr, i, [] => (true, acc, fr, i)
  | acc, cur, fr, i, c :: t => bif (c == 10) then (bif mayK (ByteArray.mk (Array.mk cur)) then sp (acc ++ [ByteArray.mk (Array.mk cur)]) [] (i + 1) (i + 1) t else (false, acc, fr, i)) else sp acc (cur ++ [c]) fr (i + 1) t
theorem sp_lns : ∀ (t acc : List ByteArray) (r : List UInt8) (cur : List UInt8) (fr i : Nat), t = acc → (sp acc cur fr i r).1 = (lns cur r).all mayK ∧ ((sp acc cur fr i r).1 = true → (sp acc cur fr i r).2.1 = acc ++ lns cur r) := by
  intro t acc r
  induction r generalizing acc t with
  | nil => intro cur fr i _; simp [sp, lns]
  | cons c r ih =>
    intro cur fr i _
    rw [sp, lns]
    cases hc : (c == 10) with
    | false => simp only [cond_false]; exact ih acc acc (cur ++ [c]) fr (i + 1) rfl
    | true =>
      simp only [cond_true, List.all_cons]
      cases hm : mayK (ByteArray.mk (Array.mk cur)) with
      | false => simp
      | true =>
        simp only [cond_true, Bool.true_and]
        have h := ih _ (acc ++ [ByteArray.mk (Array.mk cur)]) [] (i + 1) (i + 1) rfl
        refine ⟨h.1, fun hh => ?_⟩
        rw [h.2 hh, List.append_assoc]
        rfl
end Go.Proofs.Ytecokfbldjekiaa.LI
namespace Go.Proofs.Ytecokfbldjekiaa.LI
open Go Go.RowKit
open KV (toL)
open KV.toL (toLs)
set_option maxRecDepth 100000
def OV : List ByteArray → KV
  | [] => .nils
  | a :: tl => .mref 0 (a :: tl).length
def OS : List ByteArray → KSt
  | [] => {}
  | a :: tl => ⟨[], [⟨.str, a :: tl, 9, 1, true⟩], []⟩
theorem OS_ok (acc : List ByteArray) : StOK Try.prog (OS acc) := by
  cases acc <;> exact fun _ h => by cases h
def W14 (b : List UInt8) (e f i1 : Int) (o : KV) (fr i : Int) : List KV := [.lst .byte false b, .nils, .sc (.int .i64 e), .sc (.int .i64 f), .sc (.int .i64 i1), o, .sc (.int .i64 fr), .sc (.int .i64 i)]
theorem cut_more (b : List UInt8) (fr i : Nat) (hfr : fr ≤ i) (hi : i < b.length) : (b.drop fr).take (i + 1 - fr) = (b.drop fr).take (i - fr) ++ [b[i]] := by
  have e1 : i + 1 - fr = (i - fr) + 1 := by omega
  rw [e1, List.take_add_one]
  congr 1
  rw [List.getElem?_drop]
  have : fr + (i - fr) = i := by omega
  rw [this, List.getElem?_eq_getElem hi]
  rfl
/-- A round, whatever has been told so far. -/
theorem round14 (b : List UInt8) (e f i1 : Int) (acc : List ByteArray) (fr i : Nat) (hm : b.length ≤ 1000000) (hfr : fr ≤ i) (hi : i < b.length) (ha : acc.length ≤ i) :
    iterK Try.prog th (S10 condF) 1000 14 (some 14) (W14 b e f i1 (OV acc) fr i) (OS acc) =
      bif (b[i] == 10) then
        (bif mayK (ByteArray.mk (Array.mk ((b.drop fr).take (i - fr)))) then some (.normal, W14 b e f i1 (OV (acc ++ [ByteArray.mk (Array.mk ((b.drop fr).take (i - fr)))])) ((i + 1 : Nat) : Int) ((i + 1 : Nat) : Int), OS (acc ++ [ByteArray.mk (Array.mk ((b.drop fr).take (i - fr)))]))
          else some (.ret, W14 b 2 f i1 (OV acc) fr i, OS acc))
      else some (.normal, W14 b e f i1 (OV acc) fr ((i + 1 : Nat) : Int), OS acc) := by
  have d1 : decide ((i : Int) < b.length) = true := by rw [decide_eq_true_eq]; omega
  have d2 : decide ((0 : Int) ≤ i) = true := by rw [decide_eq_true_eq]; omega
  have d3 : IntKind.i64.wrap ((i : Int) + 1) = ((i + 1 : Nat) : Int) := wrapN (by simp only [big]; omega)
  have d4 : decide ((i : Int) ≤ b.length) = true := by rw [decide_eq_true_eq]; omega
  have d5 : decide ((0 : Int) ≤ fr) = true := by rw [decide_eq_true_eq]; omega
  have d6 : decide ((fr : Int) ≤ (i : Nat)) = true := by rw [decide_eq_true_eq]; omega
  have hlen : ((b.drop fr).take (i - fr)).length ≤ 1000000 := by rw [List.length_take, List.length_drop]; omega
  have d7 : fit (ByteArray.mk (Array.mk ((b.drop fr).take (i - fr)))).size = true := by
    have : (ByteArray.mk (Array.mk ((b.drop fr).take (i - fr)))).size = ((b.drop fr).take (i - fr)).length := rfl
    rw [this]
    exact fit_t (by simp only [big]; omega)
  have hne : ((b[i].toNat : Int) != 10) = !(b[i] == 10) := by
    have h := isFeed_eq b[i]
    unfold isFeed at h
    have h2 : ((b[i].toNat : Int) != 10) = !((b[i].toNat : Int) == 10) := rfl
    rw [h2, h]
    simp [bne]
  cases acc with
  | nil =>
    have h := j14n b e f i1 fr i
    have m1 : decide ([ByteArray.mk ((b.drop fr).take (i - fr)).toArray].length ≤ maxEls) = true := max_le (by simp only [List.length_cons, List.length_nil]; omega)
    simp only [d1, d2, d3, d4, d5, d6, d7, condF_true, Int.toNat_natCast, getD_at _ _ _ hi, hne, m1, decide_true] at h
    refine Eq.trans h ?_
    cases b[i] == 10 with
    | false => rfl
    | true =>
      simp only [Bool.not_true, condF_false, cond_true]
      cases mayK (ByteArray.mk (Array.mk ((b.drop fr).take (i - fr)))) <;> rfl
  | cons a tl =>
    have h := j14m b (a :: tl) e f i1 fr i
    have m1 : decide ((a :: tl).length + [ByteArray.mk ((b.drop fr).take (i - fr)).toArray].length ≤ maxEls) = true := max_le (by simp only [List.length_cons, List.length_nil] at ha ⊢; omega)
    simp only [d1, d2, d3, d4, d5, d6, d7, condF_true, Int.toNat_natCast, getD_at _ _ _ hi, hne, m1, decide_true] at h
    refine Eq.trans h ?_
    cases b[i] == 10 with
    | false => rfl
    | true =>
      simp only [Bool.not_true, condF_false, cond_true]
      cases mayK (ByteArray.mk (Array.mk ((b.drop fr).take (i - fr)))) with
      | false => rfl
      | true =>
        have el : (a :: tl).length + [ByteArray.mk (Array.mk ((b.drop fr).take (i - fr)))].length = ((a :: tl) ++ [ByteArray.mk (Array.mk ((b.drop fr).take (i - fr)))]).length := by rw [List.length_append]
        rw [el]
        rfl
theorem L14b (b : List UInt8) (e f i1 : Int) (hm : b.length ≤ 1000000) : ∀ (t : List UInt8) (acc : List ByteArray) (cur : List UInt8) (fr i : Nat), b.drop i = t → cur = (b.drop fr).take (i - fr) → fr ≤ i → i ≤ b.length → acc.length ≤ i →
    LoopTo Try.prog th 14 (some 14) (W14 b e f i1 (OV acc) fr i) (OS acc) (bif (sp acc cur fr i t).1 then .exit 2 else .ret) (W14 b (bif (sp acc cur fr i t).1 then e else 2) f i1 (OV (sp acc cur fr i t).2.1) ((sp acc cur fr i t).2.2.1 : Nat) ((sp acc cur fr i t).2.2.2 : Nat)) (OS (sp acc cur fr i t).2.1)
  | [], acc, cur, fr, i, hd, hcur, hfr, hi, ha => by
    have hi' : i = b.length := by
      have := congrArg List.length hd
      rw [List.length_drop, List.length_nil] at this
      omega
    have d1 : decide ((i : Int) < b.length) = false := by rw [decide_eq_false_iff_not]; omega
    simp only [sp, cond_true]
    cases acc with
    | nil =>
      have h := j14n b e f i1 fr i
      simp only [d1, condF_false] at h
      exact LoopTo.stop S10_ok n14b (OS_ok []) h (by simp)
    | cons a tl =>
      have h := j14m b (a :: tl) e f i1 fr i
      simp only [d1, condF_false] at h
      exact LoopTo.stop S10_ok n14b (OS_ok (a :: tl)) h (by simp)
  | c :: t, acc, cur, fr, i, hd, hcur, hfr, hi, ha => by
    have hlt : i < b.length := by
      have := congrArg List.length hd
      rw [List.length_drop, List.length_cons] at this
      omega
    have hd2 := List.drop_eq_getElem_cons hlt
    rw [hd] at hd2
    injection hd2 with hc ht
    have h := round14 b e f i1 acc fr i hm hfr hlt ha
    rw [← hc, ← hcur] at h
    rw [sp]
    cases hq : (c == 10) with
    | true =>
      rw [hq, cond_true] at h
      simp only [cond_true]
      cases hy : mayK (ByteArray.mk (Array.mk cur)) with
      | false =>
        rw [hy, cond_false] at h
        simp only [cond_false]
        exact LoopTo.stop S10_ok n14b (OS_ok acc) h (by simp)
      | true =>
        rw [hy, cond_true] at h
        simp only [cond_true]
        exact LoopTo.next S10_ok n14b (OS_ok acc) h (L14b b e f i1 hm t _ [] (i + 1) (i + 1) ht.symm (by simp) (by omega) (by omega) (by simp only [List.length_append, List.length_cons, List.length_nil]; omega))
    | false =>
      rw [hq, cond_false] at h
      simp only [cond_false]
      exact LoopTo.next S10_ok n14b (OS_ok acc) h (L14b b e f i1 hm t acc (cur ++ [c]) fr (i + 1) ht.symm (by rw [cut_more b fr i hfr hlt, ← hcur, ← hc]) (by omega) (by omega) (by omega))
end Go.Proofs.Ytecokfbldjekiaa.LI
namespace Go.Proofs.Ytecokfbldjekiaa.LI
open Go Go.RowKit
open KV (toL)
open KV.toL (toLs)
set_option maxRecDepth 100000
def spR (b : List UInt8) : Bool × List ByteArray × Nat × Nat := sp [] [] 0 0 b
def rowS (acc : List ByteArray) : KSt := ⟨[], [⟨.str, acc, 9, 1, true⟩], []⟩
def okR (b : List UInt8) : Bool := (spR b).1
def accR (b : List UInt8) : List ByteArray := (spR b).2.1
def frR (b : List UInt8) : Int := ((spR b).2.2.1 : Nat)
def iR (b : List UInt8) : Int := ((spR b).2.2.2 : Nat)
def o14b (b : List UInt8) (e f i1 : Int) : Out := .two (okR b)
  (.two (accR b).isEmpty (.one (.exit 2) (W14 b e f i1 .nils (frR b) (iR b)) {})
    (.one (.exit 2) (W14 b e f i1 (.mref 0 (accR b).length) (frR b) (iR b)) (rowS (accR b))))
  (.two (accR b).isEmpty (.one .ret (W14 b 2 f i1 .nils (frR b) (iR b)) {})
    (.one .ret (W14 b 2 f i1 (.mref 0 (accR b).length) (frR b) (iR b)) (rowS (accR b))))
theorem o14b_pick (b : List UInt8) (e f i1 : Int) : (o14b b e f i1).pick = (bif (spR b).1 then .exit 2 else .ret, W14 b (bif (spR b).1 then e else 2) f i1 (OV (spR b).2.1) ((spR b).2.2.1 : Nat) ((spR b).2.2.2 : Nat), OS (spR b).2.1) := by
  unfold o14b okR accR frR iR
  generalize spR b = r
  obtain ⟨g, acc, fr, i⟩ := r
  cases g <;> cases acc <;> rfl
def pl14b : List KV → KSt → Option (Ck × Out)
  | [.lst .byte false b, .nils, .sc (.int .i64 e), .sc (.int .i64 f), .sc (.int .i64 i1), .nils, .sc (.int .i64 fr), .sc (.int .i64 i)], ⟨[], [], []⟩ => some (.and (.is (decide (fr = 0))) (.and (.is (decide (i = 0))) (.is (Nat.ble b.length 1000000))), o14b b e f i1)
  | _, _ => none
theorem pl14b_ok (vs : List KV) (σ : KSt) (c : Ck) (o : Out) (h : pl14b vs σ = some (c, o)) (hc : c.val = true) (_ : StOK Try.prog σ) : LoopTo Try.prog th 14 (some 14) vs σ o.pick.1 o.pick.2.1 o.pick.2.2 ∧ StOK Try.prog o.pick.2.2 := by
  unfold pl14b at h
  split at h
  · rename_i b e f i1 fr i _
    cases h
    simp only [val_and_t, val_is, Nat.ble_eq, decide_eq_true_eq] at hc
    obtain ⟨rfl, rfl, hm⟩ := hc
    rw [o14b_pick]
    exact ⟨L14b b e f i1 hm b [] [] 0 0 rfl (by simp) (by omega) (by omega) (by simp), OS_ok _⟩
  · cases h
noncomputable def S13 (fk : Fk) : Cs := (((S11 fk).addL 14 3 pl14).addL 14 14 pl14b).addC 18 p18
instance : FkOK (S13 condF) := ⟨fun _ _ _ => rfl⟩
theorem S13_ok : CsOK Try.prog th (S13 condF) := ((S11_ok.addL n14 pl14_ok).addL n14b pl14b_ok).addC c18
theorem k14_ (fk : Fk) (b : List UInt8)  : fnK Try.prog th (S13 fk) 1000 14 [.lst .byte false b] =
    fk (decide ((0 : Int) = (0 : Int)))
      (fk (decide ((0 : Int) = (0 : Int)))
        (fk (fit b.length)
          (fk (decide ((↑b.length : Int) > (200000 : Int)))
            (some (KV.tuple [KV.nils, KV.sc (Value.int IntKind.i64 (8 : Int))]))
            (fk (decide ((↑(List.count (10 : UInt8) b) : Int) > (200 : Int)))
              (some (KV.tuple [KV.nils, KV.sc (Value.int IntKind.i64 (8 : Int))]))
              (fk (decide ((↑b.length : Int) > (0 : Int)))
                (fk (decide ((0 : Int) ≤ IntKind.i64.wrap ((↑b.length : Int) - (1 : Int))))
                  (fk (decide (IntKind.i64.wrap ((↑b.length : Int) - (1 : Int)) < (↑b.length : Int)))
                    (fk
                      ((↑(b.getD (IntKind.i64.wrap ((↑b.length : Int) - (1 : Int))).toNat (0 : UInt8)).toNat : Int) !=
                        (10 : Int))
                      (some (KV.tuple [KV.nils, KV.sc (Value.int IntKind.i64 (2 : Int))]))
                      (fk (decide ((0 : Int) = (0 : Int)))
                        (fk (decide ((0 : Int) = (0 : Int)))
                          (fk (b.length.ble (1000000 : Nat))
                            (fk (okR b)
                              (fk (accR b).isEmpty (some (KV.tuple [KV.nils, KV.sc (Value.int IntKind.i64 (0 : Int))]))
                                (fk (decide ((accR b).length = (accR b).length))
                                  (some (KV.tuple [KV.lst Ty.str false (accR b), KV.sc (Value.int IntKind.i64 (0 : Int))]))
                                  none))
                              (fk (accR b).isEmpty (some (KV.tuple [KV.nils, KV.sc (Value.int IntKind.i64 (2 : Int))]))
                                (some (KV.tuple [KV.nils, KV.sc (Value.int IntKind.i64 (2 : Int))]))))
                            none)
                          none)
                        none))
                    none)
                  none)
                (fk (decide ((0 : Int) = (0 : Int)))
                  (fk (decide ((0 : Int) = (0 : Int)))
                    (fk (b.length.ble (1000000 : Nat))
                      (fk (okR b)
                        (fk (accR b).isEmpty (some (KV.tuple [KV.nils, KV.sc (Value.int IntKind.i64 (0 : Int))]))
                          (fk (decide ((accR b).length = (accR b).length))
                            (some (KV.tuple [KV.lst Ty.str false (accR b), KV.sc (Value.int IntKind.i64 (0 : Int))])) none))
                        (fk (accR b).isEmpty (some (KV.tuple [KV.nils, KV.sc (Value.int IntKind.i64 (2 : Int))]))
                          (some (KV.tuple [KV.nils, KV.sc (Value.int IntKind.i64 (2 : Int))]))))
                      none)
                    none)
                  none))))
          none)
        none)
      none := by kernel_rfl
theorem k14 (b : List UInt8)  : fnK Try.prog th (S13 condF) 1000 14 [.lst .byte false b] =
    condF (decide ((0 : Int) = (0 : Int)))
      (condF (decide ((0 : Int) = (0 : Int)))
        (condF (fit b.length)
          (condF (decide ((↑b.length : Int) > (200000 : Int)))
            (some (KV.tuple [KV.nils, KV.sc (Value.int IntKind.i64 (8 : Int))]))
            (condF (decide ((↑(List.count (10 : UInt8) b) : Int) > (200 : Int)))
              (some (KV.tuple [KV.nils, KV.sc (Value.int IntKind.i64 (8 : Int))]))
              (condF (decide ((↑b.length : Int) > (0 : Int)))
                (condF (decide ((0 : Int) ≤ IntKind.i64.wrap ((↑b.length : Int) - (1 : Int))))
                  (condF (decide (IntKind.i64.wrap ((↑b.length : Int) - (1 : Int)) < (↑b.length : Int)))
                    (condF
                      ((↑(b.getD (IntKind.i64.wrap ((↑b.length : Int) - (1 : Int))).toNat (0 : UInt8)).toNat : Int) !=
                        (10 : Int))
                      (some (KV.tuple [KV.nils, KV.sc (Value.int IntKind.i64 (2 : Int))]))
                      (condF (decide ((0 : Int) = (0 : Int)))
                        (condF (decide ((0 : Int) = (0 : Int)))
                          (condF (b.length.ble (1000000 : Nat))
                            (condF (okR b)
                              (condF (accR b).isEmpty (some (KV.tuple [KV.nils, KV.sc (Value.int IntKind.i64 (0 : Int))]))
                                (condF (decide ((accR b).length = (accR b).length))
                                  (some (KV.tuple [KV.lst Ty.str false (accR b), KV.sc (Value.int IntKind.i64 (0 : Int))]))
                                  none))
                              (condF (accR b).isEmpty (some (KV.tuple [KV.nils, KV.sc (Value.int IntKind.i64 (2 : Int))]))
                                (some (KV.tuple [KV.nils, KV.sc (Value.int IntKind.i64 (2 : Int))]))))
                            none)
                          none)
                        none))
                    none)
                  none)
                (condF (decide ((0 : Int) = (0 : Int)))
                  (condF (decide ((0 : Int) = (0 : Int)))
                    (condF (b.length.ble (1000000 : Nat))
                      (condF (okR b)
                        (condF (accR b).isEmpty (some (KV.tuple [KV.nils, KV.sc (Value.int IntKind.i64 (0 : Int))]))
                          (condF (decide ((accR b).length = (accR b).length))
                            (some (KV.tuple [KV.lst Ty.str false (accR b), KV.sc (Value.int IntKind.i64 (0 : Int))])) none))
                        (condF (accR b).isEmpty (some (KV.tuple [KV.nils, KV.sc (Value.int IntKind.i64 (2 : Int))]))
                          (some (KV.tuple [KV.nils, KV.sc (Value.int IntKind.i64 (2 : Int))]))))
                      none)
                    none)
                  none))))
          none)
        none)
      none := k14_ condF b
theorem k16_ (fk : Fk) (n : Bool) (l : List ByteArray)  : fnK Try.prog th (S13 fk) 1000 16 [.lst .str n l] =
    fk (fit l.length)
      (fk (allFit l)
        (fk (!allK l) (some (KV.tuple [KV.nils, KV.sc (Value.int IntKind.i64 (1 : Int))]))
          (fk (decide ((0 : Int) = (0 : Int)))
            (fk (fit l.length)
              (fk ((joinB l).length.ble (1000000 : Nat))
                (fk l.isEmpty (some (KV.tuple [KV.nils, KV.sc (Value.int IntKind.i64 (0 : Int))]))
                  (fk (decide ((joinB l).length = (joinB l).length))
                    (some (KV.tuple [KV.lst Ty.byte false (joinB l), KV.sc (Value.int IntKind.i64 (0 : Int))])) none))
                none)
              none)
            none))
        none)
      none := by kernel_rfl
theorem k16 (n : Bool) (l : List ByteArray)  : fnK Try.prog th (S13 condF) 1000 16 [.lst .str n l] =
    condF (fit l.length)
      (condF (allFit l)
        (condF (!allK l) (some (KV.tuple [KV.nils, KV.sc (Value.int IntKind.i64 (1 : Int))]))
          (condF (decide ((0 : Int) = (0 : Int)))
            (condF (fit l.length)
              (condF ((joinB l).length.ble (1000000 : Nat))
                (condF l.isEmpty (some (KV.tuple [KV.nils, KV.sc (Value.int IntKind.i64 (0 : Int))]))
                  (condF (decide ((joinB l).length = (joinB l).length))
                    (some (KV.tuple [KV.lst Ty.byte false (joinB l), KV.sc (Value.int IntKind.i64 (0 : Int))])) none))
                none)
              none)
            none))
        none)
      none := k16_ condF n l
theorem okR_eq (b : List UInt8) : okR b = (linesK b).all mayK := by
  rw [linesK_lns]; exact (sp_lns [] [] b [] 0 0 rfl).1
theorem accR_eq (b : List UInt8) (h : okR b = true) : accR b = linesK b := by
  rw [linesK_lns]
  exact ((sp_lns [] [] b [] 0 0 rfl).2 h).trans (List.nil_append _)
theorem s14 (l : List UInt8) (hl : l.length ≤ 1000000) : run Try.prog th (.call 14 [(KV.lst .byte false l).toL]) = some ⟨.normal, (KV.tuple [.lst .str true (splitL l), .int (splitE l)]).toL, default, {}⟩ := by
  have key : ∀ v, fnK Try.prog th (S13 condF) 1000 14 [.lst .byte false l] = some v → v.toL = (KV.tuple [.lst .str true (splitL l), .int (splitE l)]).toL → run Try.prog th (.call 14 [(KV.lst .byte false l).toL]) = some ⟨.normal, (KV.tuple [.lst .str true (splitL l), .int (splitE l)]).toL, default, {}⟩ := by
    intro v h1 h2
    rw [← h2]
    exact fnK_sound S13_ok (args := [.lst .byte false l]) h1
  have hb : l.length.ble 1000000 = true := by rw [Nat.ble_eq]; omega
  have hfit : fit l.length = true := fit_t (by simp only [big]; omega)
  have e := k14 l
  simp only [hb, hfit, condF_true, decide_true] at e
  have nil2 : ∀ n : Int, splitE l = n → n ≠ 0 → (KV.tuple [KV.nils, KV.sc (Value.int IntKind.i64 n)]).toL = (KV.tuple [.lst .str true (splitL l), .int (splitE l)]).toL := by
    intro n h1 h2
    have : splitL l = [] := by rw [splitL, if_neg (by rw [h1]; exact h2)]
    simp only [toL, toLs, h1]
    rw [this]
    rfl
  by_cases h1 : (l.length : Int) > 200000
  · simp only [h1, decide_true, condF_true] at e
    exact key _ e (nil2 8 (by rw [splitE, if_pos (.inl (by omega))]) (by decide))
  by_cases h2 : ((List.count 10 l : Nat) : Int) > 200
  · simp only [h1, h2, decide_true, decide_false, condF_true, condF_false] at e
    exact key _ e (nil2 8 (by rw [splitE, if_pos (.inr (by omega))]) (by decide))
  simp only [h1, h2, decide_false, condF_false] at e
  have hn : ¬ (l.length > 200000 ∨ List.count 10 l > 200) := by omega
  have mid : lastOk l = true → fnK Try.prog th (S13 condF) 1000 14 [.lst .byte false l] = condF (okR l)
      (condF (accR l).isEmpty (some (KV.tuple [KV.nils, KV.sc (Value.int IntKind.i64 0)])) (some (KV.tuple [KV.lst Ty.str false (accR l), KV.sc (Value.int IntKind.i64 0)])))
      (condF (accR l).isEmpty (some (KV.tuple [KV.nils, KV.sc (Value.int IntKind.i64 2)])) (some (KV.tuple [KV.nils, KV.sc (Value.int IntKind.i64 2)]))) → run Try.prog th (.call 14 [(KV.lst .byte false l).toL]) = some ⟨.normal, (KV.tuple [.lst .str true (splitL l), .int (splitE l)]).toL, default, {}⟩ := by
    intro hlast e
    have hE : splitE l = if okR l = true then 0 else 2 := by rw [splitE, if_neg hn, if_neg (by rw [hlast]; decide), okR_eq]
    cases ho : okR l with
    | false =>
      rw [ho, condF_false] at e
      have h2 : splitE l = 2 := by rw [hE, ho]; rfl
      cases he : (accR l).isEmpty with
      | true => rw [he, condF_true] at e; exact key _ e (nil2 2 h2 (by decide))
      | false => rw [he, condF_false] at e; exact key _ e (nil2 2 h2 (by decide))
    | true =>
      rw [ho, condF_true] at e
      have h0 : splitE l = 0 := by rw [hE, ho]; rfl
      have ha := accR_eq l ho
      have hL : splitL l = linesK l := by rw [splitL, if_pos h0]
      cases he : (accR l).isEmpty with
      | true =>
        rw [he, condF_true] at e
        refine key _ e ?_
        have : splitL l = [] := by rw [hL, ← ha]; exact List.isEmpty_iff.1 he
        simp only [toL, toLs, h0]
        rw [this]; rfl
      | false =>
        rw [he, condF_false] at e
        refine key _ e ?_
        have hne : linesK l ≠ [] := by
          rw [← ha]
          intro h
          rw [h] at he
          cases he
        have := lst_cons (linesK l) hne true
        simp only [toL, toLs] at this ⊢
        rw [ha, hL, h0, this]
  by_cases h3 : (l.length : Int) > 0
  · have hw : IntKind.i64.wrap ((l.length : Int) - 1) = ((l.length - 1 : Nat) : Int) := by rw [wrap64] <;> omega
    have c1 : decide ((0 : Int) ≤ ((l.length - 1 : Nat) : Int)) = true := by simp
    have c2 : decide (((l.length - 1 : Nat) : Int) < (l.length : Int)) = true := by simp only [decide_eq_true_eq]; omega
    simp only [h3, decide_true, condF_true, hw, c1, c2, Int.toNat_natCast] at e
    have hne : l ≠ [] := by
      intro h; rw [h] at h3; simp at h3
    have hlo : (((l.getD (l.length - 1) 0).toNat : Int) != 10) = !lastOk l := by
      simp only [lastOk, hne, decide_false, Bool.false_or]
      generalize l.getD (l.length - 1) 0 = c
      have h := isFeed_eq c
      unfold isFeed at h
      have h2 : ((c.toNat : Int) != 10) = !((c.toNat : Int) == 10) := rfl
      rw [h2, h]
      simp [bne]
    rw [hlo] at e
    cases hq : lastOk l with
    | false =>
      rw [hq, Bool.not_false, condF_true] at e
      exact key _ e (nil2 2 (by rw [splitE, if_neg hn, if_pos hq]) (by decide))
    | true =>
      rw [hq, Bool.not_true, condF_false] at e
      exact mid hq e
  · have he : l = [] := by
      apply List.eq_nil_of_length_eq_zero
      omega
    simp only [h3, decide_false, condF_false] at e
    exact mid (by rw [he]; rfl) e
def p14 : List KV → Option (Ck × KV)
  | [.lst .byte false l] => some (.is (Nat.ble l.length 1000000), .tuple [.lst .str true (splitL l), .int (splitE l)])
  | _ => none
theorem c14 (args : List KV) (c : Ck) (v : KV) (h : p14 args = some (c, v)) (hc : c.val = true) : run Try.prog th (.call 14 (toLs args)) = some ⟨.normal, v.toL, default, {}⟩ := by
  unfold p14 at h
  split at h
  · cases h
    simp only [val_is, Nat.ble_eq] at hc
    exact s14 _ hc
  · cases h
theorem s16 (n : Bool) (l : List ByteArray) (g1 : fit l.length = true) (g2 : allFit l = true) : run Try.prog th (.call 16 [(KV.lst .str n l).toL]) = some ⟨.normal, (KV.tuple [.lst .byte true (joinL l), .int (joinE l)]).toL, default, {}⟩ := by
  have key : ∀ v, fnK Try.prog th (S13 condF) 1000 16 [.lst .str n l] = some v → v.toL = (KV.tuple [.lst .byte true (joinL l), .int (joinE l)]).toL → run Try.prog th (.call 16 [(KV.lst .str n l).toL]) = some ⟨.normal, (KV.tuple [.lst .byte true (joinL l), .int (joinE l)]).toL, default, {}⟩ := by
    intro v h1 h2
    rw [← h2]
    exact fnK_sound S13_ok (args := [.lst .str n l]) h1
  have e := k16 n l
  rw [g1, g2, condF_true, condF_true] at e
  cases ha : allK l with
  | false =>
    rw [ha, Bool.not_false, condF_true] at e
    refine key _ e ?_
    have h1 : joinL l = [] := by rw [joinL, ha]; rfl
    have h2 : joinE l = 1 := by rw [joinE, ha]; rfl
    simp only [toL, toLs, h1, h2]
    rfl
  | true =>
    obtain ⟨b1, b2⟩ := allK_len ha
    have f2 : (joinB l).length.ble 1000000 = true := by rw [Nat.ble_eq]; exact b2
    simp only [ha, Bool.not_true, condF_false, decide_true, condF_true, f2] at e
    have h2 : joinE l = 0 := by rw [joinE, if_pos ha]
    have h3 : joinL l = joinB l := by rw [joinL, if_pos ha]
    cases l with
    | nil =>
      refine key _ e ?_
      rw [h2, h3]; rfl
    | cons s t =>
      refine key _ e ?_
      have hne : (joinB (s :: t)).isEmpty = false := by
        have ej : joinB (s :: t) = s.data.toList ++ [ten] ++ joinB t := rfl
        rw [ej]
        cases s.data.toList <;> rfl
      simp only [toL, toLs, h2, h3, lstL, hne, Bool.and_false]
def p16 : List KV → Option (Ck × KV)
  | [.lst .str _ l] => some (.and (.is (fit l.length)) (.is (allFit l)), .tuple [.lst .byte true (joinL l), .int (joinE l)])
  | _ => none
theorem c16 (args : List KV) (c : Ck) (v : KV) (h : p16 args = some (c, v)) (hc : c.val = true) : run Try.prog th (.call 16 (toLs args)) = some ⟨.normal, v.toL, default, {}⟩ := by
  unfold p16 at h
  split at h
  · cases h
    simp only [val_and_t, val_is] at hc
    exact s16 _ _ hc.1 hc.2
  · cases h
end Go.Proofs.Ytecokfbldjekiaa.LI
namespace Go.Proofs.Ytecokfbldjekiaa.LI
open Go Go.RowKit
open KV (toL)
open KV.toL (toLs)
set_option maxRecDepth 100000
noncomputable def S14 (fk : Fk) : Cs := ((((((S12 fk).addC 14 p14).addC 16 p16).addC 17 p17).addC 18 p18).addC 19 p19)
instance : FkOK (S14 condF) := ⟨fun _ _ _ => rfl⟩
theorem S14_ok : CsOK Try.prog th (S14 condF) := ((((S12_ok.addC c14).addC c16).addC c17).addC c18).addC c19
theorem k6_ (fk : Fk) (b : List UInt8) (l : List ByteArray) (s : ByteArray)  : fnK Try.prog th (S14 fk) 1000 6 [.lst .byte false b, .lst .str false l, .sc (.string s)] =
    fk (fit l.length)
      (fk (!lightK l (300 : Int)) (some (KV.sc (Value.bool true)))
        (fk (decide ((↑b.length : Int) > (3000 : Int))) (some (KV.sc (Value.bool true)))
          (fk (decide ((↑s.size : Int) > (300 : Int))) (some (KV.sc (Value.bool true)))
            (fk (b.length.ble (1000000 : Nat))
              (fk (b.length.ble (1000000 : Nat))
                (fk (fit (splitL b).length)
                  (fk (fit l.length)
                    (fk (allFit l)
                      (fk (fit s.size)
                        (fk (fit l.length)
                          (fk (allFit l)
                            (fk (fit s.size)
                              (fk (sameK (splitL b) (splitL b))
                                (fk (splitE b == splitE b)
                                  (fk
                                    ((ByteArray.mk (Array.mk (joinL l))).toList ==
                                      (ByteArray.mk (Array.mk (joinL l))).toList)
                                    (fk (joinE l == joinE l)
                                      (fk (mayK s == mayK s)
                                        (fk (allK l == allK l)
                                          (fk (fit s.size) (some (KV.sc (Value.bool (nameK s == nameK s)))) none)
                                          (some (KV.sc (Value.bool false))))
                                        (some (KV.sc (Value.bool false))))
                                      (some (KV.sc (Value.bool false))))
                                    (some (KV.sc (Value.bool false))))
                                  (some (KV.sc (Value.bool false))))
                                (some (KV.sc (Value.bool false))))
                              none)
                            none)
                          none)
                        none)
                      none)
                    none)
                  none)
                none)
              none))))
      none := by kernel_rfl
theorem k6 (b : List UInt8) (l : List ByteArray) (s : ByteArray)  : fnK Try.prog th (S14 condF) 1000 6 [.lst .byte false b, .lst .str false l, .sc (.string s)] =
    condF (fit l.length)
      (condF (!lightK l (300 : Int)) (some (KV.sc (Value.bool true)))
        (condF (decide ((↑b.length : Int) > (3000 : Int))) (some (KV.sc (Value.bool true)))
          (condF (decide ((↑s.size : Int) > (300 : Int))) (some (KV.sc (Value.bool true)))
            (condF (b.length.ble (1000000 : Nat))
              (condF (b.length.ble (1000000 : Nat))
                (condF (fit (splitL b).length)
                  (condF (fit l.length)
                    (condF (allFit l)
                      (condF (fit s.size)
                        (condF (fit l.length)
                          (condF (allFit l)
                            (condF (fit s.size)
                              (condF (sameK (splitL b) (splitL b))
                                (condF (splitE b == splitE b)
                                  (condF
                                    ((ByteArray.mk (Array.mk (joinL l))).toList ==
                                      (ByteArray.mk (Array.mk (joinL l))).toList)
                                    (condF (joinE l == joinE l)
                                      (condF (mayK s == mayK s)
                                        (condF (allK l == allK l)
                                          (condF (fit s.size) (some (KV.sc (Value.bool (nameK s == nameK s)))) none)
                                          (some (KV.sc (Value.bool false))))
                                        (some (KV.sc (Value.bool false))))
                                      (some (KV.sc (Value.bool false))))
                                    (some (KV.sc (Value.bool false))))
                                  (some (KV.sc (Value.bool false))))
                                (some (KV.sc (Value.bool false))))
                              none)
                            none)
                          none)
                        none)
                      none)
                    none)
                  none)
                none)
              none))))
      none := k6_ condF b l s
end Go.Proofs.Ytecokfbldjekiaa.LI
namespace Go.Proofs.Ytecokfbldjekiaa.LI
open Go Go.RowKit
theorem light_fit {l : List ByteArray} (h : lightK l 300 = true) : allFit l = true := by
  unfold lightK at h
  rw [Bool.and_eq_true] at h
  have h2 := h.2
  have h3 := findIdx_len (fun s => !tooLong s) l
  simp only [Bool.not_not] at h3
  have h4 : (longAt l == l.length) = l.all fun s => !tooLong s := h3
  rw [h4] at h2
  unfold allFit
  rw [List.all_eq_true] at h2 ⊢
  intro s hs
  have := h2 s hs
  simp only [tooLong, Bool.not_eq_true', decide_eq_false_iff_not] at this
  exact fit_t (by simp only [big]; omega)
theorem split_fit (b : List UInt8) : fit (splitL b).length = true := by
  refine fit_t ?_
  by_cases h : splitE b = 0
  · obtain ⟨_, h2, _, _, h5⟩ := splitE_zero h
    rw [h5, lns_count]
    simp only [big]
    omega
  · have : splitL b = [] := by rw [splitL, if_neg h]
    rw [this]
    simp only [big, List.length_nil]
    omega
theorem tells_fn (b : List UInt8) (l : List ByteArray) (s : ByteArray) (hf : fit l.length = true) : fnK Try.prog th (S14 condF) 1000 6 [.lst .byte false b, .lst .str false l, .sc (.string s)] = some (.bool true) := by
  rw [k6, hf]
  simp only [condF_true]
  cases hl : lightK l 300 with
  | false => rw [Bool.not_false, condF_true]
  | true =>
    rw [Bool.not_true, condF_false]
    have ha := light_fit hl
    by_cases hb : (b.length : Int) > 3000
    · simp only [hb, decide_true, condF_true]
    · by_cases hs : (s.size : Int) > 300
      · simp only [hb, hs, decide_true, decide_false, condF_true, condF_false]
      · have lb : b.length.ble 1000000 = true := by rw [Nat.ble_eq]; omega
        have ls : fit s.size = true := fit_t (by simp only [big]; omega)
        have hsame : sameK (splitL b) (splitL b) = true := (sameK_iff _ _).2 rfl
        simp only [hb, hs, decide_false, condF_false, lb, condF_true, split_fit, ha, ls, hsame, beq_self_eq_true]
theorem f6 (b : List UInt8) (l : List ByteArray) (s : ByteArray) (hf : fit l.length = true) : run Try.prog th (.call 6 [.slice (b.map (encL .byte)), .slice (l.map (encL .str)), .sc (.string s)]) = some ⟨.normal, .sc (.bool true), default, {}⟩ :=
  fnK_sound S14_ok (tells_fn b l s hf)
end Go.Proofs.Ytecokfbldjekiaa.LI
namespace Go.Proofs.Ytecokfbldjekiaa.textTells
open Go Go.ChangeShapes Go.WideShapes Go.ChangeAt Go.RowKit Go.Proofs.Ytecokfbldjekiaa.LI
theorem own : ownKnob Try.prog.godebug = none := by kernel_rfl
theorem laidOut : laidOutB Try.prog = true := by kernel_rfl
set_option maxRecDepth 100000 in
theorem lifted (os : Os) (started : os.Started) (H : Type) (enc : TypeId × Value → H) :
    ReturnsInHanded {} Try.checked os 6 .any (Rows.textTellsSpec.pre6 enc Try.prog Try.f6 Rows.textTellsRow.domain false) (Rows.textTellsSpec.post enc Try.prog Try.f6 false true false false) :=
  law_lifted (C := Try.checked) th_ok own started Try.func6 (by kernel_rfl) laidOut (n := 64) (by kernel_rfl) (by kernel_rfl) rfl Try.underlying4 rfl (by first | rfl | kernel_rfl)
    (fun ds h => by
      match ds, h with
      | [d0, d1, d2], _ => rfl)
    (ChangeSpec.witness6 (enc := enc) (C := Try.checked) false ⟨#[], #[.slice none 0 0, .slice none 0 0, .string ByteArray.empty], []⟩ 8 (by kernel_rfl) (by kernel_rfl) (by kernel_rfl) (by kernel_rfl))
    (RepEach.cons (Rep.slice Try.underlying22 (Rep.byte Try.underlying5)) (RepEach.cons (Rep.slice Try.underlying24 (Rep.str Try.underlying9)) (RepEach.cons (Rep.string Try.underlying9) RepEach.nil))) (fun p h => f6 p.1 p.2.1 p.2.2.1 (fit_len h.2.1.2))
theorem over : Rows.textTellsRow.holds Try.pinned (OpenSpec.ofChange Rows.textTellsSpec) :=
  OpenClaim.holds_of_wide 6 Try.f6 rfl rfl rfl rfl rfl rfl rfl ⟨rfl, rfl, rfl, rfl, rfl⟩ rfl rfl rfl rfl rfl (by kernel_rfl) Try.func6 (by kernel_rfl)
    (of_decide_eq_true (by kernel_rfl)) (by unfold Func.isWrapper; first | (rw [if_pos (by decide +kernel)]; kernel_rfl) | (rw [if_neg (by decide +kernel)]; exact ⟨rfl, rfl⟩))
    (fun os started H enc _ => lifted os started H enc)
end Go.Proofs.Ytecokfbldjekiaa.textTells
namespace Go.Proofs.Ytecokfbldjekiaa
theorem textTells_holds : Rows.TextTellsSaid := textTells.over
#print axioms textTells_holds
end Go.Proofs.Ytecokfbldjekiaa
