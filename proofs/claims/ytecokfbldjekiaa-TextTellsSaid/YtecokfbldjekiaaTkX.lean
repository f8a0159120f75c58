/-
  Layer 1 (text): the document's answers, and text.Join: rounds of their loops.
-/
import Derived.Test.YtecokfbldjekiaaTkW
namespace Go.Proofs.Ytecokfbldjekiaa.LI
open Go Go.RowKit
open KV (toL)
open KV.toL (toLs)
set_option maxRecDepth 100000
theorem i15n_ (fk : Fk) (l : List ByteArray) (n : Bool) (i : Int) (e : Int)  : iterK Try.prog th (S3 fk) 1000 15 (some 5) [.nils, .sc (.int .i64 e), .nils, .lst .str n l, .sc (.int .i64 l.length), .sc (.int .i64 i)] {} =
    fk (decide (i < (↑l.length : Int)))
      (fk (decide ((0 : Int) ≤ i))
        (fk (decide (i < (↑l.length : Int)))
          (fk (decide ((l.getD i.toNat ByteArray.empty).data.toList.length ≤ maxEls))
            (fk
              (decide
                ((l.getD i.toNat ByteArray.empty).data.toList.length = (l.getD i.toNat ByteArray.empty).data.toList.length))
              (fk
                (decide
                  ((l.getD i.toNat ByteArray.empty).data.toList.length + [UInt8.ofNat (Int.toNat (10 : Int))].length ≤
                    maxEls))
                (some
                  (Ex.normal,
                    [KV.nils, KV.sc (Value.int IntKind.i64 e),
                      KV.mref (0 : Nat)
                        ((l.getD i.toNat ByteArray.empty).1.toList.length + [UInt8.ofNat (Int.toNat (10 : Int))].length),
                      KV.lst Ty.str n l, KV.sc (Value.int IntKind.i64 (↑l.length : Int)),
                      KV.sc (Value.int IntKind.i64 (IntKind.i64.wrap (i + (1 : Int))))],
                    KSt.mk []
                      [KRow.mk Ty.byte ((l.getD i.toNat ByteArray.empty).1.toList ++ [UInt8.ofNat (Int.toNat (10 : Int))])
                          (5 : Nat) (1 : Nat) true]
                      []))
                none)
              none)
            none)
          none)
        none)
      (some
        (Ex.exit (0 : Nat),
          [KV.nils, KV.sc (Value.int IntKind.i64 e), KV.nils, KV.lst Ty.str n l,
            KV.sc (Value.int IntKind.i64 (↑l.length : Int)), KV.sc (Value.int IntKind.i64 i)],
          KSt.mk [] [] [])) := by kernel_rfl
theorem i15n (l : List ByteArray) (n : Bool) (i : Int) (e : Int)  : iterK Try.prog th (S3 condF) 1000 15 (some 5) [.nils, .sc (.int .i64 e), .nils, .lst .str n l, .sc (.int .i64 l.length), .sc (.int .i64 i)] {} =
    condF (decide (i < (↑l.length : Int)))
      (condF (decide ((0 : Int) ≤ i))
        (condF (decide (i < (↑l.length : Int)))
          (condF (decide ((l.getD i.toNat ByteArray.empty).data.toList.length ≤ maxEls))
            (condF
              (decide
                ((l.getD i.toNat ByteArray.empty).data.toList.length = (l.getD i.toNat ByteArray.empty).data.toList.length))
              (condF
                (decide
                  ((l.getD i.toNat ByteArray.empty).data.toList.length + [UInt8.ofNat (Int.toNat (10 : Int))].length ≤
                    maxEls))
                (some
                  (Ex.normal,
                    [KV.nils, KV.sc (Value.int IntKind.i64 e),
                      KV.mref (0 : Nat)
                        ((l.getD i.toNat ByteArray.empty).1.toList.length + [UInt8.ofNat (Int.toNat (10 : Int))].length),
                      KV.lst Ty.str n l, KV.sc (Value.int IntKind.i64 (↑l.length : Int)),
                      KV.sc (Value.int IntKind.i64 (IntKind.i64.wrap (i + (1 : Int))))],
                    KSt.mk []
                      [KRow.mk Ty.byte ((l.getD i.toNat ByteArray.empty).1.toList ++ [UInt8.ofNat (Int.toNat (10 : Int))])
                          (5 : Nat) (1 : Nat) true]
                      []))
                none)
              none)
            none)
          none)
        none)
      (some
        (Ex.exit (0 : Nat),
          [KV.nils, KV.sc (Value.int IntKind.i64 e), KV.nils, KV.lst Ty.str n l,
            KV.sc (Value.int IntKind.i64 (↑l.length : Int)), KV.sc (Value.int IntKind.i64 i)],
          KSt.mk [] [] [])) := i15n_ condF l n i e
theorem i15m_ (fk : Fk) (l : List ByteArray) (n : Bool) (i : Int) (e : Int) (acc : List UInt8)  : iterK Try.prog th (S3 fk) 1000 15 (some 5) [.nils, .sc (.int .i64 e), .mref 0 acc.length, .lst .str n l, .sc (.int .i64 l.length), .sc (.int .i64 i)] ⟨[], [⟨.byte, acc, 5, 1, true⟩], []⟩ =
    fk (decide (i < (↑l.length : Int)))
      (fk (decide ((0 : Int) ≤ i))
        (fk (decide (i < (↑l.length : Int)))
          (fk (decide (acc.length = acc.length))
            (fk (decide (acc.length + (l.getD i.toNat ByteArray.empty).data.toList.length ≤ maxEls))
              (fk
                (decide
                  ((acc ++ (l.getD i.toNat ByteArray.empty).data.toList).length =
                    acc.length + (l.getD i.toNat ByteArray.empty).data.toList.length))
                (fk
                  (decide
                    (acc.length + (l.getD i.toNat ByteArray.empty).data.toList.length +
                        [UInt8.ofNat (Int.toNat (10 : Int))].length ≤
                      maxEls))
                  (some
                    (Ex.normal,
                      [KV.nils, KV.sc (Value.int IntKind.i64 e),
                        KV.mref (0 : Nat)
                          (acc.length + (l.getD i.toNat ByteArray.empty).1.toList.length +
                            [UInt8.ofNat (Int.toNat (10 : Int))].length),
                        KV.lst Ty.str n l, KV.sc (Value.int IntKind.i64 (↑l.length : Int)),
                        KV.sc (Value.int IntKind.i64 (IntKind.i64.wrap (i + (1 : Int))))],
                      KSt.mk []
                        [KRow.mk Ty.byte
                            (acc ++ (l.getD i.toNat ByteArray.empty).1.toList ++ [UInt8.ofNat (Int.toNat (10 : Int))])
                            (5 : TypeId) (1 : Nat) true]
                        []))
                  none)
                none)
              none)
            none)
          none)
        none)
      (some
        (Ex.exit (0 : Nat),
          [KV.nils, KV.sc (Value.int IntKind.i64 e), KV.mref (0 : Nat) acc.length, KV.lst Ty.str n l,
            KV.sc (Value.int IntKind.i64 (↑l.length : Int)), KV.sc (Value.int IntKind.i64 i)],
          KSt.mk [] [KRow.mk Ty.byte acc (5 : TypeId) (1 : Nat) true] [])) := by kernel_rfl
theorem i15m (l : List ByteArray) (n : Bool) (i : Int) (e : Int) (acc : List UInt8)  : iterK Try.prog th (S3 condF) 1000 15 (some 5) [.nils, .sc (.int .i64 e), .mref 0 acc.length, .lst .str n l, .sc (.int .i64 l.length), .sc (.int .i64 i)] ⟨[], [⟨.byte, acc, 5, 1, true⟩], []⟩ =
    condF (decide (i < (↑l.length : Int)))
      (condF (decide ((0 : Int) ≤ i))
        (condF (decide (i < (↑l.length : Int)))
          (condF (decide (acc.length = acc.length))
            (condF (decide (acc.length + (l.getD i.toNat ByteArray.empty).data.toList.length ≤ maxEls))
              (condF
                (decide
                  ((acc ++ (l.getD i.toNat ByteArray.empty).data.toList).length =
                    acc.length + (l.getD i.toNat ByteArray.empty).data.toList.length))
                (condF
                  (decide
                    (acc.length + (l.getD i.toNat ByteArray.empty).data.toList.length +
                        [UInt8.ofNat (Int.toNat (10 : Int))].length ≤
                      maxEls))
                  (some
                    (Ex.normal,
                      [KV.nils, KV.sc (Value.int IntKind.i64 e),
                        KV.mref (0 : Nat)
                          (acc.length + (l.getD i.toNat ByteArray.empty).1.toList.length +
                            [UInt8.ofNat (Int.toNat (10 : Int))].length),
                        KV.lst Ty.str n l, KV.sc (Value.int IntKind.i64 (↑l.length : Int)),
                        KV.sc (Value.int IntKind.i64 (IntKind.i64.wrap (i + (1 : Int))))],
                      KSt.mk []
                        [KRow.mk Ty.byte
                            (acc ++ (l.getD i.toNat ByteArray.empty).1.toList ++ [UInt8.ofNat (Int.toNat (10 : Int))])
                            (5 : TypeId) (1 : Nat) true]
                        []))
                  none)
                none)
              none)
            none)
          none)
        none)
      (some
        (Ex.exit (0 : Nat),
          [KV.nils, KV.sc (Value.int IntKind.i64 e), KV.mref (0 : Nat) acc.length, KV.lst Ty.str n l,
            KV.sc (Value.int IntKind.i64 (↑l.length : Int)), KV.sc (Value.int IntKind.i64 i)],
          KSt.mk [] [KRow.mk Ty.byte acc (5 : TypeId) (1 : Nat) true] [])) := i15m_ condF l n i e acc
theorem i17_ (fk : Fk) (s : ByteArray) (r : Bool) (i : Int)  : iterK Try.prog th (S3 fk) 1000 17 (some 2) [.sc (.string s), .sc (.bool r), .sc (.int .i64 i)] {} =
    fk (decide (i < (↑s.size : Int)))
      (fk (decide ((0 : Int) ≤ i))
        (fk (decide (i < (↑s.size : Int)))
          (fk ((↑(s.1.toList.getD i.toNat (0 : UInt8)).toNat : Int) == (10 : Int))
            (some
              (Ex.ret, [KV.sc (Value.string s), KV.sc (Value.bool false), KV.sc (Value.int IntKind.i64 i)],
                KSt.mk [] [] []))
            (some
              (Ex.normal,
                [KV.sc (Value.string s), KV.sc (Value.bool r),
                  KV.sc (Value.int IntKind.i64 (IntKind.i64.wrap (i + (1 : Int))))],
                KSt.mk [] [] [])))
          none)
        none)
      (some
        (Ex.exit (0 : Nat), [KV.sc (Value.string s), KV.sc (Value.bool r), KV.sc (Value.int IntKind.i64 i)],
          KSt.mk [] [] [])) := by kernel_rfl
theorem i17 (s : ByteArray) (r : Bool) (i : Int)  : iterK Try.prog th (S3 condF) 1000 17 (some 2) [.sc (.string s), .sc (.bool r), .sc (.int .i64 i)] {} =
    condF (decide (i < (↑s.size : Int)))
      (condF (decide ((0 : Int) ≤ i))
        (condF (decide (i < (↑s.size : Int)))
          (condF ((↑(s.1.toList.getD i.toNat (0 : UInt8)).toNat : Int) == (10 : Int))
            (some
              (Ex.ret, [KV.sc (Value.string s), KV.sc (Value.bool false), KV.sc (Value.int IntKind.i64 i)],
                KSt.mk [] [] []))
            (some
              (Ex.normal,
                [KV.sc (Value.string s), KV.sc (Value.bool r),
                  KV.sc (Value.int IntKind.i64 (IntKind.i64.wrap (i + (1 : Int))))],
                KSt.mk [] [] [])))
          none)
        none)
      (some
        (Ex.exit (0 : Nat), [KV.sc (Value.string s), KV.sc (Value.bool r), KV.sc (Value.int IntKind.i64 i)],
          KSt.mk [] [] [])) := i17_ condF s r i
theorem i19_ (fk : Fk) (s : ByteArray) (r : Bool) (i : Int)  : iterK Try.prog th (S3 fk) 1000 19 (some 2) [.sc (.string s), .sc (.bool r), .sc (.int .i64 i)] {} =
    fk (decide (i < (↑s.size : Int)))
      (fk (decide ((0 : Int) ≤ i))
        (fk (decide (i < (↑s.size : Int)))
          (fk (decide ((↑(s.data.toList.getD i.toNat (0 : UInt8)).toNat : Int) ≥ (97 : Int)))
            (fk (decide ((0 : Int) ≤ i))
              (fk (decide (i < (↑s.size : Int)))
                (fk (decide ((0 : Int) ≤ i))
                  (fk (decide (i < (↑s.size : Int)))
                    (fk (decide ((↑(s.data.toList.getD i.toNat (0 : UInt8)).toNat : Int) ≥ (48 : Int)))
                      (fk (decide ((0 : Int) ≤ i))
                        (fk (decide (i < (↑s.size : Int)))
                          (fk (!decide ((↑(s.data.toList.getD i.toNat (0 : UInt8)).toNat : Int) ≤ (122 : Int)))
                            (fk (!decide ((↑(s.data.toList.getD i.toNat (0 : UInt8)).toNat : Int) ≤ (57 : Int)))
                              (fk (decide ((0 : Int) ≤ i))
                                (fk (decide (i < (↑s.size : Int)))
                                  (fk ((↑(s.1.toList.getD i.toNat (0 : UInt8)).toNat : Int) != (46 : Int))
                                    (some
                                      (Ex.ret,
                                        [KV.sc (Value.string s), KV.sc (Value.bool false), KV.sc (Value.int IntKind.i64 i)],
                                        KSt.mk [] [] []))
                                    (some
                                      (Ex.normal,
                                        [KV.sc (Value.string s), KV.sc (Value.bool r),
                                          KV.sc (Value.int IntKind.i64 (IntKind.i64.wrap (i + (1 : Int))))],
                                        KSt.mk [] [] [])))
                                  none)
                                none)
                              (some
                                (Ex.normal,
                                  [KV.sc (Value.string s), KV.sc (Value.bool r),
                                    KV.sc (Value.int IntKind.i64 (IntKind.i64.wrap (i + (1 : Int))))],
                                  KSt.mk [] [] [])))
                            (some
                              (Ex.normal,
                                [KV.sc (Value.string s), KV.sc (Value.bool r),
                                  KV.sc (Value.int IntKind.i64 (IntKind.i64.wrap (i + (1 : Int))))],
                                KSt.mk [] [] [])))
                          none)
                        none)
                      (fk (!decide ((↑(s.data.toList.getD i.toNat (0 : UInt8)).toNat : Int) ≤ (122 : Int)))
                        (fk (decide ((0 : Int) ≤ i))
                          (fk (decide (i < (↑s.size : Int)))
                            (fk ((↑(s.1.toList.getD i.toNat (0 : UInt8)).toNat : Int) != (46 : Int))
                              (some
                                (Ex.ret,
                                  [KV.sc (Value.string s), KV.sc (Value.bool false), KV.sc (Value.int IntKind.i64 i)],
                                  KSt.mk [] [] []))
                              (some
                                (Ex.normal,
                                  [KV.sc (Value.string s), KV.sc (Value.bool r),
                                    KV.sc (Value.int IntKind.i64 (IntKind.i64.wrap (i + (1 : Int))))],
                                  KSt.mk [] [] [])))
                            none)
                          none)
                        (some
                          (Ex.normal,
                            [KV.sc (Value.string s), KV.sc (Value.bool r),
                              KV.sc (Value.int IntKind.i64 (IntKind.i64.wrap (i + (1 : Int))))],
                            KSt.mk [] [] []))))
                    none)
                  none)
                none)
              none)
            (fk (decide ((0 : Int) ≤ i))
              (fk (decide (i < (↑s.size : Int)))
                (fk (decide ((↑(s.data.toList.getD i.toNat (0 : UInt8)).toNat : Int) ≥ (48 : Int)))
                  (fk (decide ((0 : Int) ≤ i))
                    (fk (decide (i < (↑s.size : Int)))
                      (fk (!decide ((↑(s.data.toList.getD i.toNat (0 : UInt8)).toNat : Int) ≤ (57 : Int)))
                        (fk (decide ((0 : Int) ≤ i))
                          (fk (decide (i < (↑s.size : Int)))
                            (fk ((↑(s.1.toList.getD i.toNat (0 : UInt8)).toNat : Int) != (46 : Int))
                              (some
                                (Ex.ret,
                                  [KV.sc (Value.string s), KV.sc (Value.bool false), KV.sc (Value.int IntKind.i64 i)],
                                  KSt.mk [] [] []))
                              (some
                                (Ex.normal,
                                  [KV.sc (Value.string s), KV.sc (Value.bool r),
                                    KV.sc (Value.int IntKind.i64 (IntKind.i64.wrap (i + (1 : Int))))],
                                  KSt.mk [] [] [])))
                            none)
                          none)
                        (some
                          (Ex.normal,
                            [KV.sc (Value.string s), KV.sc (Value.bool r),
                              KV.sc (Value.int IntKind.i64 (IntKind.i64.wrap (i + (1 : Int))))],
                            KSt.mk [] [] [])))
                      none)
                    none)
                  (fk (decide ((0 : Int) ≤ i))
                    (fk (decide (i < (↑s.size : Int)))
                      (fk ((↑(s.1.toList.getD i.toNat (0 : UInt8)).toNat : Int) != (46 : Int))
                        (some
                          (Ex.ret, [KV.sc (Value.string s), KV.sc (Value.bool false), KV.sc (Value.int IntKind.i64 i)],
                            KSt.mk [] [] []))
                        (some
                          (Ex.normal,
                            [KV.sc (Value.string s), KV.sc (Value.bool r),
                              KV.sc (Value.int IntKind.i64 (IntKind.i64.wrap (i + (1 : Int))))],
                            KSt.mk [] [] [])))
                      none)
                    none))
                none)
              none))
          none)
        none)
      (some
        (Ex.exit (0 : Nat), [KV.sc (Value.string s), KV.sc (Value.bool r), KV.sc (Value.int IntKind.i64 i)],
          KSt.mk [] [] [])) := by kernel_rfl
theorem i19 (s : ByteArray) (r : Bool) (i : Int)  : iterK Try.prog th (S3 condF) 1000 19 (some 2) [.sc (.string s), .sc (.bool r), .sc (.int .i64 i)] {} =
    condF (decide (i < (↑s.size : Int)))
      (condF (decide ((0 : Int) ≤ i))
        (condF (decide (i < (↑s.size : Int)))
          (condF (decide ((↑(s.data.toList.getD i.toNat (0 : UInt8)).toNat : Int) ≥ (97 : Int)))
            (condF (decide ((0 : Int) ≤ i))
              (condF (decide (i < (↑s.size : Int)))
                (condF (decide ((0 : Int) ≤ i))
                  (condF (decide (i < (↑s.size : Int)))
                    (condF (decide ((↑(s.data.toList.getD i.toNat (0 : UInt8)).toNat : Int) ≥ (48 : Int)))
                      (condF (decide ((0 : Int) ≤ i))
                        (condF (decide (i < (↑s.size : Int)))
                          (condF (!decide ((↑(s.data.toList.getD i.toNat (0 : UInt8)).toNat : Int) ≤ (122 : Int)))
                            (condF (!decide ((↑(s.data.toList.getD i.toNat (0 : UInt8)).toNat : Int) ≤ (57 : Int)))
                              (condF (decide ((0 : Int) ≤ i))
                                (condF (decide (i < (↑s.size : Int)))
                                  (condF ((↑(s.1.toList.getD i.toNat (0 : UInt8)).toNat : Int) != (46 : Int))
                                    (some
                                      (Ex.ret,
                                        [KV.sc (Value.string s), KV.sc (Value.bool false), KV.sc (Value.int IntKind.i64 i)],
                                        KSt.mk [] [] []))
                                    (some
                                      (Ex.normal,
                                        [KV.sc (Value.string s), KV.sc (Value.bool r),
                                          KV.sc (Value.int IntKind.i64 (IntKind.i64.wrap (i + (1 : Int))))],
                                        KSt.mk [] [] [])))
                                  none)
                                none)
                              (some
                                (Ex.normal,
                                  [KV.sc (Value.string s), KV.sc (Value.bool r),
                                    KV.sc (Value.int IntKind.i64 (IntKind.i64.wrap (i + (1 : Int))))],
                                  KSt.mk [] [] [])))
                            (some
                              (Ex.normal,
                                [KV.sc (Value.string s), KV.sc (Value.bool r),
                                  KV.sc (Value.int IntKind.i64 (IntKind.i64.wrap (i + (1 : Int))))],
                                KSt.mk [] [] [])))
                          none)
                        none)
                      (condF (!decide ((↑(s.data.toList.getD i.toNat (0 : UInt8)).toNat : Int) ≤ (122 : Int)))
                        (condF (decide ((0 : Int) ≤ i))
                          (condF (decide (i < (↑s.size : Int)))
                            (condF ((↑(s.1.toList.getD i.toNat (0 : UInt8)).toNat : Int) != (46 : Int))
                              (some
                                (Ex.ret,
                                  [KV.sc (Value.string s), KV.sc (Value.bool false), KV.sc (Value.int IntKind.i64 i)],
                                  KSt.mk [] [] []))
                              (some
                                (Ex.normal,
                                  [KV.sc (Value.string s), KV.sc (Value.bool r),
                                    KV.sc (Value.int IntKind.i64 (IntKind.i64.wrap (i + (1 : Int))))],
                                  KSt.mk [] [] [])))
                            none)
                          none)
                        (some
                          (Ex.normal,
                            [KV.sc (Value.string s), KV.sc (Value.bool r),
                              KV.sc (Value.int IntKind.i64 (IntKind.i64.wrap (i + (1 : Int))))],
                            KSt.mk [] [] []))))
                    none)
                  none)
                none)
              none)
            (condF (decide ((0 : Int) ≤ i))
              (condF (decide (i < (↑s.size : Int)))
                (condF (decide ((↑(s.data.toList.getD i.toNat (0 : UInt8)).toNat : Int) ≥ (48 : Int)))
                  (condF (decide ((0 : Int) ≤ i))
                    (condF (decide (i < (↑s.size : Int)))
                      (condF (!decide ((↑(s.data.toList.getD i.toNat (0 : UInt8)).toNat : Int) ≤ (57 : Int)))
                        (condF (decide ((0 : Int) ≤ i))
                          (condF (decide (i < (↑s.size : Int)))
                            (condF ((↑(s.1.toList.getD i.toNat (0 : UInt8)).toNat : Int) != (46 : Int))
                              (some
                                (Ex.ret,
                                  [KV.sc (Value.string s), KV.sc (Value.bool false), KV.sc (Value.int IntKind.i64 i)],
                                  KSt.mk [] [] []))
                              (some
                                (Ex.normal,
                                  [KV.sc (Value.string s), KV.sc (Value.bool r),
                                    KV.sc (Value.int IntKind.i64 (IntKind.i64.wrap (i + (1 : Int))))],
                                  KSt.mk [] [] [])))
                            none)
                          none)
                        (some
                          (Ex.normal,
                            [KV.sc (Value.string s), KV.sc (Value.bool r),
                              KV.sc (Value.int IntKind.i64 (IntKind.i64.wrap (i + (1 : Int))))],
                            KSt.mk [] [] [])))
                      none)
                    none)
                  (condF (decide ((0 : Int) ≤ i))
                    (condF (decide (i < (↑s.size : Int)))
                      (condF ((↑(s.1.toList.getD i.toNat (0 : UInt8)).toNat : Int) != (46 : Int))
                        (some
                          (Ex.ret, [KV.sc (Value.string s), KV.sc (Value.bool false), KV.sc (Value.int IntKind.i64 i)],
                            KSt.mk [] [] []))
                        (some
                          (Ex.normal,
                            [KV.sc (Value.string s), KV.sc (Value.bool r),
                              KV.sc (Value.int IntKind.i64 (IntKind.i64.wrap (i + (1 : Int))))],
                            KSt.mk [] [] [])))
                      none)
                    none))
                none)
              none))
          none)
        none)
      (some
        (Ex.exit (0 : Nat), [KV.sc (Value.string s), KV.sc (Value.bool r), KV.sc (Value.int IntKind.i64 i)],
          KSt.mk [] [] [])) := i19_ condF s r i
theorem i14_ (fk : Fk) (b : List UInt8) (e f i : Int)  : iterK Try.prog th (S3 fk) 1000 14 (some 3) [.lst .byte false b, .nils, .sc (.int .i64 e), .sc (.int .i64 f), .sc (.int .i64 i), .undef, .undef, .undef] {} =
    fk (decide (i < (↑b.length : Int)))
      (fk (decide ((0 : Int) ≤ i))
        (fk (decide (i < (↑b.length : Int)))
          (fk ((↑(b.getD i.toNat (0 : UInt8)).toNat : Int) == (10 : Int))
            (some
              (Ex.normal,
                [KV.lst Ty.byte false b, KV.nils, KV.sc (Value.int IntKind.i64 e),
                  KV.sc (Value.int IntKind.i64 (IntKind.i64.wrap (f + (1 : Int)))),
                  KV.sc (Value.int IntKind.i64 (IntKind.i64.wrap (i + (1 : Int)))), KV.undef, KV.undef, KV.undef],
                KSt.mk [] [] []))
            (some
              (Ex.normal,
                [KV.lst Ty.byte false b, KV.nils, KV.sc (Value.int IntKind.i64 e), KV.sc (Value.int IntKind.i64 f),
                  KV.sc (Value.int IntKind.i64 (IntKind.i64.wrap (i + (1 : Int)))), KV.undef, KV.undef, KV.undef],
                KSt.mk [] [] [])))
          none)
        none)
      (some
        (Ex.exit (0 : Nat),
          [KV.lst Ty.byte false b, KV.nils, KV.sc (Value.int IntKind.i64 e), KV.sc (Value.int IntKind.i64 f),
            KV.sc (Value.int IntKind.i64 i), KV.undef, KV.undef, KV.undef],
          KSt.mk [] [] [])) := by kernel_rfl
theorem i14 (b : List UInt8) (e f i : Int)  : iterK Try.prog th (S3 condF) 1000 14 (some 3) [.lst .byte false b, .nils, .sc (.int .i64 e), .sc (.int .i64 f), .sc (.int .i64 i), .undef, .undef, .undef] {} =
    condF (decide (i < (↑b.length : Int)))
      (condF (decide ((0 : Int) ≤ i))
        (condF (decide (i < (↑b.length : Int)))
          (condF ((↑(b.getD i.toNat (0 : UInt8)).toNat : Int) == (10 : Int))
            (some
              (Ex.normal,
                [KV.lst Ty.byte false b, KV.nils, KV.sc (Value.int IntKind.i64 e),
                  KV.sc (Value.int IntKind.i64 (IntKind.i64.wrap (f + (1 : Int)))),
                  KV.sc (Value.int IntKind.i64 (IntKind.i64.wrap (i + (1 : Int)))), KV.undef, KV.undef, KV.undef],
                KSt.mk [] [] []))
            (some
              (Ex.normal,
                [KV.lst Ty.byte false b, KV.nils, KV.sc (Value.int IntKind.i64 e), KV.sc (Value.int IntKind.i64 f),
                  KV.sc (Value.int IntKind.i64 (IntKind.i64.wrap (i + (1 : Int)))), KV.undef, KV.undef, KV.undef],
                KSt.mk [] [] [])))
          none)
        none)
      (some
        (Ex.exit (0 : Nat),
          [KV.lst Ty.byte false b, KV.nils, KV.sc (Value.int IntKind.i64 e), KV.sc (Value.int IntKind.i64 f),
            KV.sc (Value.int IntKind.i64 i), KV.undef, KV.undef, KV.undef],
          KSt.mk [] [] [])) := i14_ condF b e f i
theorem i13_ (fk : Fk) (l : List ByteArray) (n : Bool) (r : Bool) (i : Int)  : iterK Try.prog th (S3 fk) 1000 13 (some 4) [.lst .str n l, .sc (.bool r), .sc (.int .i64 i)] {} =
    fk (decide (i < (↑l.length : Int)))
      (fk (decide ((0 : Int) ≤ i))
        (fk (decide (i < (↑l.length : Int)))
          (fk (decide ((↑(l.getD i.toNat ByteArray.empty).size : Int) > (200 : Int)))
            (some (Ex.ret, [KV.lst Ty.str n l, KV.sc (Value.bool false), KV.sc (Value.int IntKind.i64 i)], KSt.mk [] [] []))
            (some
              (Ex.normal,
                [KV.lst Ty.str n l, KV.sc (Value.bool r), KV.sc (Value.int IntKind.i64 (IntKind.i64.wrap (i + (1 : Int))))],
                KSt.mk [] [] [])))
          none)
        none)
      (some
        (Ex.exit (0 : Nat), [KV.lst Ty.str n l, KV.sc (Value.bool r), KV.sc (Value.int IntKind.i64 i)], KSt.mk [] [] [])) := by kernel_rfl
theorem i13 (l : List ByteArray) (n : Bool) (r : Bool) (i : Int)  : iterK Try.prog th (S3 condF) 1000 13 (some 4) [.lst .str n l, .sc (.bool r), .sc (.int .i64 i)] {} =
    condF (decide (i < (↑l.length : Int)))
      (condF (decide ((0 : Int) ≤ i))
        (condF (decide (i < (↑l.length : Int)))
          (condF (decide ((↑(l.getD i.toNat ByteArray.empty).size : Int) > (200 : Int)))
            (some (Ex.ret, [KV.lst Ty.str n l, KV.sc (Value.bool false), KV.sc (Value.int IntKind.i64 i)], KSt.mk [] [] []))
            (some
              (Ex.normal,
                [KV.lst Ty.str n l, KV.sc (Value.bool r), KV.sc (Value.int IntKind.i64 (IntKind.i64.wrap (i + (1 : Int))))],
                KSt.mk [] [] [])))
          none)
        none)
      (some
        (Ex.exit (0 : Nat), [KV.lst Ty.str n l, KV.sc (Value.bool r), KV.sc (Value.int IntKind.i64 i)], KSt.mk [] [] [])) := i13_ condF l n r i
end Go.Proofs.Ytecokfbldjekiaa.LI
