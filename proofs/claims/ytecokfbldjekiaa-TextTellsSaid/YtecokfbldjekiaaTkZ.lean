/-
  Layer 1 (text): the document's May, Name, and Light answer as text's do.
-/
import Derived.Test.YtecokfbldjekiaaTkY
namespace Go.Proofs.Ytecokfbldjekiaa.LI
open Go Go.RowKit
open KV (toL)
open KV.toL (toLs)
set_option maxRecDepth 100000
theorem isFeed_eq (b : UInt8) : isFeed b = !(b != 10) := by
  unfold isFeed
  rw [Bool.eq_iff_iff]
  simp only [beq_iff_eq, Bool.not_eq_true', bne_eq_false_iff_eq]
  constructor
  · intro h
    have : b.toNat = 10 := by omega
    exact UInt8.toNat_inj.1 this
  · rintro rfl; rfl
theorem fAt_eq (s : ByteArray) : (fAt s == s.size) = s.data.toList.all (fun b => b != 10) := by
  have h := findIdx_len (fun b : UInt8 => b != 10) s.data.toList
  have e : (fun b : UInt8 => !(b != 10)) = isFeed := funext fun b => (isFeed_eq b).symm
  simp only [e] at h
  have hl : s.size = s.data.toList.length := by simp
  rw [← h, hl]
  rfl
def p17 : List KV → Option (Ck × KV)
  | [.sc (.string s)] => some (.is (fit s.size), .bool (mayK s))
  | _ => none
theorem c17 (args : List KV) (c : Ck) (v : KV) (h : p17 args = some (c, v)) (hc : c.val = true) : run Try.prog th (.call 17 (toLs args)) = some ⟨.normal, v.toL, default, {}⟩ := by
  unfold p17 at h
  split at h
  · rename_i s
    cases h
    simp only [val_fit_t] at hc
    refine fnK_sound S9_ok (n := 1000) ?_
    rw [k17]
    have e80 : decide ((s.size : Int) ≤ 80) = decide (s.size ≤ 80) := decide_eq_decide.2 (by omega)
    rw [mayK_eq, fAt_eq, fit_t hc, e80]
    cases s.data.toList.all (fun b => b != 10) <;> cases decide (s.size ≤ 80) <;> rfl
  · cases h
def p19 : List KV → Option (Ck × KV)
  | [.sc (.string s)] => some (.is (fit s.size), .bool (nameK s))
  | _ => none
theorem c19 (args : List KV) (c : Ck) (v : KV) (h : p19 args = some (c, v)) (hc : c.val = true) : run Try.prog th (.call 19 (toLs args)) = some ⟨.normal, v.toL, default, {}⟩ := by
  unfold p19 at h
  split at h
  · rename_i s
    cases h
    simp only [val_fit_t] at hc
    refine fnK_sound S9_ok (n := 1000) ?_
    rw [k19, fit_t hc]
    have e1 : decide ((s.size : Int) ≥ 1) = !(s.toList == (ByteArray.mk (Array.mk [])).toList) := by
      rw [Bool.eq_iff_iff]
      simp only [ByteArray.toList_eq, decide_eq_true_eq, Bool.not_eq_true', beq_eq_false_iff_ne, ne_eq]
      have hl : s.size = s.data.toList.length := by simp
      constructor
      · intro h h2
        have h3 : s.data.toList = [] := h2
        rw [h3] at hl
        simp only [List.length_nil] at hl
        omega
      · intro h
        have : s.data.toList ≠ [] := h
        have := List.length_pos_iff.2 this
        omega
    rw [e1]
    unfold nameK
    cases badAt s == s.size <;> cases s.toList == (ByteArray.mk (Array.mk [])).toList <;> cases decide ((s.size : Int) ≤ 16) <;> rfl
  · cases h
def lightK (l : List ByteArray) (m : Int) : Bool := decide ((l.length : Int) ≤ m) && (longAt l == l.length)
def p13 : List KV → Option (Ck × KV)
  | [.lst .str _ l, .sc (.int .i64 m)] => some (.is (fit l.length), .bool (lightK l m))
  | _ => none
theorem c13 (args : List KV) (c : Ck) (v : KV) (h : p13 args = some (c, v)) (hc : c.val = true) : run Try.prog th (.call 13 (toLs args)) = some ⟨.normal, v.toL, default, {}⟩ := by
  unfold p13 at h
  split at h
  · rename_i n l m
    cases h
    simp only [val_fit_t] at hc
    refine fnK_sound S9_ok (n := 1000) (args := [.lst .str n l, .sc (.int .i64 m)]) ?_
    rw [k13, fit_t hc]
    have e1 : decide ((l.length : Int) > m) = !decide ((l.length : Int) ≤ m) := by
      rw [Bool.eq_iff_iff]; simp
    rw [e1]
    unfold lightK
    cases decide ((List.length (α := ByteArray) l : Int) ≤ m) <;> cases longAt l == List.length (α := ByteArray) l <;> rfl
  · cases h
noncomputable def S10 (fk : Fk) : Cs := ((((S3 fk).addC 17 p17).addC 19 p19).addC 13 p13)
instance : FkOK (S10 condF) := ⟨fun _ _ _ => rfl⟩
theorem S10_ok : CsOK Try.prog th (S10 condF) := ((S3_ok.addC c17).addC c19).addC c13
theorem i18_ (fk : Fk) (l : List ByteArray) (n : Bool) (r : Bool) (i : Int)  : iterK Try.prog th (S10 fk) 1000 18 (some 2) [.lst .str n l, .sc (.bool r), .sc (.int .i64 i)] {} =
    fk (decide (i < (↑l.length : Int)))
      (fk (decide ((0 : Int) ≤ i))
        (fk (decide (i < (↑l.length : Int)))
          (fk (fit (l.getD i.toNat ByteArray.empty).size)
            (fk (!mayK (l.getD i.toNat ByteArray.empty))
              (some
                (Ex.ret, [KV.lst Ty.str n l, KV.sc (Value.bool false), KV.sc (Value.int IntKind.i64 i)], KSt.mk [] [] []))
              (some
                (Ex.normal,
                  [KV.lst Ty.str n l, KV.sc (Value.bool r),
                    KV.sc (Value.int IntKind.i64 (IntKind.i64.wrap (i + (1 : Int))))],
                  KSt.mk [] [] [])))
            none)
          none)
        none)
      (some
        (Ex.exit (0 : Nat), [KV.lst Ty.str n l, KV.sc (Value.bool r), KV.sc (Value.int IntKind.i64 i)], KSt.mk [] [] [])) := by kernel_rfl
theorem i18 (l : List ByteArray) (n : Bool) (r : Bool) (i : Int)  : iterK Try.prog th (S10 condF) 1000 18 (some 2) [.lst .str n l, .sc (.bool r), .sc (.int .i64 i)] {} =
    condF (decide (i < (↑l.length : Int)))
      (condF (decide ((0 : Int) ≤ i))
        (condF (decide (i < (↑l.length : Int)))
          (condF (fit (l.getD i.toNat ByteArray.empty).size)
            (condF (!mayK (l.getD i.toNat ByteArray.empty))
              (some
                (Ex.ret, [KV.lst Ty.str n l, KV.sc (Value.bool false), KV.sc (Value.int IntKind.i64 i)], KSt.mk [] [] []))
              (some
                (Ex.normal,
                  [KV.lst Ty.str n l, KV.sc (Value.bool r),
                    KV.sc (Value.int IntKind.i64 (IntKind.i64.wrap (i + (1 : Int))))],
                  KSt.mk [] [] [])))
            none)
          none)
        none)
      (some
        (Ex.exit (0 : Nat), [KV.lst Ty.str n l, KV.sc (Value.bool r), KV.sc (Value.int IntKind.i64 i)], KSt.mk [] [] [])) := i18_ condF l n r i
theorem i16n_ (fk : Fk) (l : List ByteArray) (n : Bool) (i : Int) (e : Int)  : iterK Try.prog th (S10 fk) 1000 16 (some 6) [.lst .str n l, .nils, .sc (.int .i64 e), .nils, .sc (.int .i64 i)] {} =
    fk (decide (i < (↑l.length : Int)))
      (fk (decide ((0 : Int) ≤ i))
        (fk (decide (i < (↑l.length : Int)))
          (fk (decide ((l.getD i.toNat ByteArray.empty).data.toList.length ≤ maxEls))
            (fk
              (decide
                ((l.getD i.toNat ByteArray.empty).data.toList.length = (l.getD i.toNat ByteArray.empty).data.toList.length))
              (fk
                (decide
                  ((l.getD i.toNat ByteArray.empty).data.toList.length + [UInt8.ofNat (Int.toNat (10 : Int))].length ≤
                    maxEls))
                (some
                  (Ex.normal,
                    [KV.lst Ty.str n l, KV.nils, KV.sc (Value.int IntKind.i64 e),
                      KV.mref (0 : Nat)
                        ((l.getD i.toNat ByteArray.empty).1.toList.length + [UInt8.ofNat (Int.toNat (10 : Int))].length),
                      KV.sc (Value.int IntKind.i64 (IntKind.i64.wrap (i + (1 : Int))))],
                    KSt.mk []
                      [KRow.mk Ty.byte ((l.getD i.toNat ByteArray.empty).1.toList ++ [UInt8.ofNat (Int.toNat (10 : Int))])
                          (5 : Nat) (1 : Nat) true]
                      []))
                none)
              none)
            none)
          none)
        none)
      (some
        (Ex.exit (0 : Nat),
          [KV.lst Ty.str n l, KV.nils, KV.sc (Value.int IntKind.i64 e), KV.nils, KV.sc (Value.int IntKind.i64 i)],
          KSt.mk [] [] [])) := by kernel_rfl
theorem i16n (l : List ByteArray) (n : Bool) (i : Int) (e : Int)  : iterK Try.prog th (S10 condF) 1000 16 (some 6) [.lst .str n l, .nils, .sc (.int .i64 e), .nils, .sc (.int .i64 i)] {} =
    condF (decide (i < (↑l.length : Int)))
      (condF (decide ((0 : Int) ≤ i))
        (condF (decide (i < (↑l.length : Int)))
          (condF (decide ((l.getD i.toNat ByteArray.empty).data.toList.length ≤ maxEls))
            (condF
              (decide
                ((l.getD i.toNat ByteArray.empty).data.toList.length = (l.getD i.toNat ByteArray.empty).data.toList.length))
              (condF
                (decide
                  ((l.getD i.toNat ByteArray.empty).data.toList.length + [UInt8.ofNat (Int.toNat (10 : Int))].length ≤
                    maxEls))
                (some
                  (Ex.normal,
                    [KV.lst Ty.str n l, KV.nils, KV.sc (Value.int IntKind.i64 e),
                      KV.mref (0 : Nat)
                        ((l.getD i.toNat ByteArray.empty).1.toList.length + [UInt8.ofNat (Int.toNat (10 : Int))].length),
                      KV.sc (Value.int IntKind.i64 (IntKind.i64.wrap (i + (1 : Int))))],
                    KSt.mk []
                      [KRow.mk Ty.byte ((l.getD i.toNat ByteArray.empty).1.toList ++ [UInt8.ofNat (Int.toNat (10 : Int))])
                          (5 : Nat) (1 : Nat) true]
                      []))
                none)
              none)
            none)
          none)
        none)
      (some
        (Ex.exit (0 : Nat),
          [KV.lst Ty.str n l, KV.nils, KV.sc (Value.int IntKind.i64 e), KV.nils, KV.sc (Value.int IntKind.i64 i)],
          KSt.mk [] [] [])) := i16n_ condF l n i e
theorem i16m_ (fk : Fk) (l : List ByteArray) (n : Bool) (i : Int) (e : Int) (acc : List UInt8)  : iterK Try.prog th (S10 fk) 1000 16 (some 6) [.lst .str n l, .nils, .sc (.int .i64 e), .mref 0 acc.length, .sc (.int .i64 i)] ⟨[], [⟨.byte, acc, 5, 1, true⟩], []⟩ =
    fk (decide (i < (↑l.length : Int)))
      (fk (decide ((0 : Int) ≤ i))
        (fk (decide (i < (↑l.length : Int)))
          (fk (decide (acc.length = acc.length))
            (fk (decide (acc.length + (l.getD i.toNat ByteArray.empty).data.toList.length ≤ maxEls))
              (fk
                (decide
                  ((acc ++ (l.getD i.toNat ByteArray.empty).data.toList).length =
                    acc.length + (l.getD i.toNat ByteArray.empty).data.toList.length))
                (fk
                  (decide
                    (acc.length + (l.getD i.toNat ByteArray.empty).data.toList.length +
                        [UInt8.ofNat (Int.toNat (10 : Int))].length ≤
                      maxEls))
                  (some
                    (Ex.normal,
                      [KV.lst Ty.str n l, KV.nils, KV.sc (Value.int IntKind.i64 e),
                        KV.mref (0 : Nat)
                          (acc.length + (l.getD i.toNat ByteArray.empty).1.toList.length +
                            [UInt8.ofNat (Int.toNat (10 : Int))].length),
                        KV.sc (Value.int IntKind.i64 (IntKind.i64.wrap (i + (1 : Int))))],
                      KSt.mk []
                        [KRow.mk Ty.byte
                            (acc ++ (l.getD i.toNat ByteArray.empty).1.toList ++ [UInt8.ofNat (Int.toNat (10 : Int))])
                            (5 : TypeId) (1 : Nat) true]
                        []))
                  none)
                none)
              none)
            none)
          none)
        none)
      (some
        (Ex.exit (0 : Nat),
          [KV.lst Ty.str n l, KV.nils, KV.sc (Value.int IntKind.i64 e), KV.mref (0 : Nat) acc.length,
            KV.sc (Value.int IntKind.i64 i)],
          KSt.mk [] [KRow.mk Ty.byte acc (5 : TypeId) (1 : Nat) true] [])) := by kernel_rfl
theorem i16m (l : List ByteArray) (n : Bool) (i : Int) (e : Int) (acc : List UInt8)  : iterK Try.prog th (S10 condF) 1000 16 (some 6) [.lst .str n l, .nils, .sc (.int .i64 e), .mref 0 acc.length, .sc (.int .i64 i)] ⟨[], [⟨.byte, acc, 5, 1, true⟩], []⟩ =
    condF (decide (i < (↑l.length : Int)))
      (condF (decide ((0 : Int) ≤ i))
        (condF (decide (i < (↑l.length : Int)))
          (condF (decide (acc.length = acc.length))
            (condF (decide (acc.length + (l.getD i.toNat ByteArray.empty).data.toList.length ≤ maxEls))
              (condF
                (decide
                  ((acc ++ (l.getD i.toNat ByteArray.empty).data.toList).length =
                    acc.length + (l.getD i.toNat ByteArray.empty).data.toList.length))
                (condF
                  (decide
                    (acc.length + (l.getD i.toNat ByteArray.empty).data.toList.length +
                        [UInt8.ofNat (Int.toNat (10 : Int))].length ≤
                      maxEls))
                  (some
                    (Ex.normal,
                      [KV.lst Ty.str n l, KV.nils, KV.sc (Value.int IntKind.i64 e),
                        KV.mref (0 : Nat)
                          (acc.length + (l.getD i.toNat ByteArray.empty).1.toList.length +
                            [UInt8.ofNat (Int.toNat (10 : Int))].length),
                        KV.sc (Value.int IntKind.i64 (IntKind.i64.wrap (i + (1 : Int))))],
                      KSt.mk []
                        [KRow.mk Ty.byte
                            (acc ++ (l.getD i.toNat ByteArray.empty).1.toList ++ [UInt8.ofNat (Int.toNat (10 : Int))])
                            (5 : TypeId) (1 : Nat) true]
                        []))
                  none)
                none)
              none)
            none)
          none)
        none)
      (some
        (Ex.exit (0 : Nat),
          [KV.lst Ty.str n l, KV.nils, KV.sc (Value.int IntKind.i64 e), KV.mref (0 : Nat) acc.length,
            KV.sc (Value.int IntKind.i64 i)],
          KSt.mk [] [KRow.mk Ty.byte acc (5 : TypeId) (1 : Nat) true] [])) := i16m_ condF l n i e acc
end Go.Proofs.Ytecokfbldjekiaa.LI
