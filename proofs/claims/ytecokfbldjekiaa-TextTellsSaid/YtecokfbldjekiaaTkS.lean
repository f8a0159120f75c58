/-
  Layer 1 (text): bytes.Count, bytes.Cut as contracts.
-/
import Derived.Test.YtecokfbldjekiaaTkP
import Derived.Test.YtecokfbldjekiaaTxB
namespace Go.Proofs.Ytecokfbldjekiaa.LI
open Go Go.RowKit
open KV (toL)
open KV.toL (toLs)
set_option maxRecDepth 100000
theorem enc_bytes (l : List UInt8) : l.map (encL .byte) = l.map fun b => LV.sc (.int .u8 b.toNat) := rfl
theorem u8_back (c : UInt8) : (c.toNat : Int).toNat.toUInt8 = c := by simp
def p21 : List KV → Option (Ck × KV)
  | [.lst .byte false l, .lst .byte false [c]] => some (.ok, .int (List.count (α := UInt8) c l))
  | _ => none
theorem c21 (args : List KV) (c : Ck) (v : KV) (h : p21 args = some (c, v)) (hc : c.val = true) : run Try.prog th (.call 21 (toLs args)) = some ⟨.normal, v.toL, default, {}⟩ := by
  unfold p21 at h
  split at h
  · rename_i l b
    cases h
    have := f21 l ((b : UInt8).toNat : Int)
    rw [u8_back] at this
    exact this
  · cases h
/-- Where the first line feed is. -/
def feed (l : List UInt8) : Int := Lib.indexByte l 10
def cutOk (l : List UInt8) : Bool := decide (0 ≤ feed l)
def cutA (l : List UInt8) : List UInt8 := bif cutOk l then l.take (feed l).toNat else l
def cutB (l : List UInt8) : List UInt8 := bif cutOk l then l.drop ((feed l).toNat + 1) else []
def p31 : List KV → Option (Ck × KV)
  | [.lst .byte false l, .lst .byte false [c]] => some (.and (.st true (decide (c = (10 : UInt8)))) (.is (Nat.ble l.length 1000000)), .tuple [.lst .byte false (cutA l), .lst .byte (!cutOk l) (cutB l), .bool (cutOk l)])
  | _ => none
theorem c31 (args : List KV) (c : Ck) (v : KV) (h : p31 args = some (c, v)) (hc : c.val = true) : run Try.prog th (.call 31 (toLs args)) = some ⟨.normal, v.toL, default, {}⟩ := by
  unfold p31 at h
  split at h
  · rename_i l b
    cases h
    simp only [val_and_t, st_val, val_is, Nat.ble_eq, decide_eq_true_eq] at hc
    obtain ⟨rfl, hl⟩ := hc
    have := f31 l hl
    refine Eq.trans this ?_
    congr 2
    simp only [toL, toLs, lstL_false, cutA, cutB, cutOk, feed, enc_bytes]
    by_cases h0 : 0 ≤ Lib.indexByte l 10
    · simp only [h0, if_true, decide_true, cond_true, Bool.not_true, lstL_false]
      rfl
    · simp only [h0, if_false, decide_false, cond_false, Bool.not_false]
      rfl
  · cases h
noncomputable def S5 (fk : Fk) : Cs := ((S3 fk).addC 21 p21).addC 31 p31
instance : FkOK (S5 condF) := ⟨fun _ _ _ => rfl⟩
theorem S5_ok : CsOK Try.prog th (S5 condF) := (S3_ok.addC c21).addC c31
/-- The slots that Split keeps for the body of its range. -/
noncomputable abbrev r9 (p : Option Code) (s : LoopState) : KLoop := recOf Try.prog 9 (some 7) (padK [.undef, .undef, .bptr 0 0, .bptr 1 0, .bptr 2 0] 40) p s
theorem i30m_ (fk : Fk) (acc : List ByteArray) (b : List UInt8)  : iterK Try.prog th (S5 fk) 1000 30 (some 0) [.func (.yield 0) [] [], .bptr 3 0] ⟨[[.nils], [.st (.int .i64 0)], [.mref 0 acc.length], [.lst .byte false b]], [⟨.str, acc, 9, 1, true⟩], [r9 none .ready]⟩ =
    fk (b.length.ble (1000000 : Nat))
      (fk (!cutOk b)
        (some
          (Ex.ret, [KV.func (Fn.yield (0 : Nat)) [] [], KV.bptr (3 : Nat) (0 : Nat)],
            KSt.mk
              [[KV.nils], [KV.st (Value.int IntKind.i64 (0 : Int))], [KV.mref (0 : Nat) acc.length],
                [KV.lst Ty.byte false b]]
              [KRow.mk Ty.str acc (9 : TypeId) (1 : Nat) true]
              [recOf Try.prog (9 : FuncId) (some (7 : Nat))
                  (padK
                    [KV.undef, KV.undef, KV.bptr (0 : Nat) (0 : Nat), KV.bptr (1 : Nat) (0 : Nat),
                      KV.bptr (2 : Nat) (0 : Nat)]
                    (40 : Nat))
                  none LoopState.ready]))
        (fk (!mayK (ByteArray.mk (Array.mk (cutA b))))
          (some
            (Ex.ret, [KV.func (Fn.yield (0 : Nat)) [] [], KV.bptr (3 : Nat) (0 : Nat)],
              KSt.mk
                [[KV.nils], [KV.st (Value.int IntKind.i64 (2 : Int))], [KV.mref (0 : Nat) acc.length],
                  [KV.lst Ty.byte false b]]
                [KRow.mk Ty.str acc (9 : TypeId) (1 : Nat) true]
                [recOf Try.prog (9 : FuncId) (some (7 : Nat))
                    (padK
                      [KV.undef, KV.undef, KV.bptr (0 : Nat) (0 : Nat), KV.bptr (1 : Nat) (0 : Nat),
                        KV.bptr (2 : Nat) (0 : Nat)]
                      (40 : Nat))
                    (some Code.ret) LoopState.done]))
          (fk (decide (acc.length = acc.length))
            (fk (decide (acc.length + [ByteArray.mk (cutA b).toArray].length ≤ maxEls))
              (some
                (Ex.normal, [KV.func (Fn.yield (0 : Nat)) [] [], KV.bptr (3 : Nat) (0 : Nat)],
                  KSt.mk
                    [[KV.nils], [KV.st (Value.int IntKind.i64 (0 : Int))],
                      [KV.mref (0 : Nat) (acc.length + [ByteArray.mk (Array.mk (cutA b))].length)],
                      [KV.lst Ty.byte (!cutOk b) (cutB b)]]
                    [KRow.mk Ty.str (acc ++ [ByteArray.mk (Array.mk (cutA b))]) (9 : TypeId) (1 : Nat) true]
                    [recOf Try.prog (9 : FuncId) (some (7 : Nat))
                        (padK
                          [KV.undef, KV.undef, KV.bptr (0 : Nat) (0 : Nat), KV.bptr (1 : Nat) (0 : Nat),
                            KV.bptr (2 : Nat) (0 : Nat)]
                          (40 : Nat))
                        none LoopState.ready]))
              none)
            none)))
      none := by kernel_rfl
theorem i30m (acc : List ByteArray) (b : List UInt8)  : iterK Try.prog th (S5 condF) 1000 30 (some 0) [.func (.yield 0) [] [], .bptr 3 0] ⟨[[.nils], [.st (.int .i64 0)], [.mref 0 acc.length], [.lst .byte false b]], [⟨.str, acc, 9, 1, true⟩], [r9 none .ready]⟩ =
    condF (b.length.ble (1000000 : Nat))
      (condF (!cutOk b)
        (some
          (Ex.ret, [KV.func (Fn.yield (0 : Nat)) [] [], KV.bptr (3 : Nat) (0 : Nat)],
            KSt.mk
              [[KV.nils], [KV.st (Value.int IntKind.i64 (0 : Int))], [KV.mref (0 : Nat) acc.length],
                [KV.lst Ty.byte false b]]
              [KRow.mk Ty.str acc (9 : TypeId) (1 : Nat) true]
              [recOf Try.prog (9 : FuncId) (some (7 : Nat))
                  (padK
                    [KV.undef, KV.undef, KV.bptr (0 : Nat) (0 : Nat), KV.bptr (1 : Nat) (0 : Nat),
                      KV.bptr (2 : Nat) (0 : Nat)]
                    (40 : Nat))
                  none LoopState.ready]))
        (condF (!mayK (ByteArray.mk (Array.mk (cutA b))))
          (some
            (Ex.ret, [KV.func (Fn.yield (0 : Nat)) [] [], KV.bptr (3 : Nat) (0 : Nat)],
              KSt.mk
                [[KV.nils], [KV.st (Value.int IntKind.i64 (2 : Int))], [KV.mref (0 : Nat) acc.length],
                  [KV.lst Ty.byte false b]]
                [KRow.mk Ty.str acc (9 : TypeId) (1 : Nat) true]
                [recOf Try.prog (9 : FuncId) (some (7 : Nat))
                    (padK
                      [KV.undef, KV.undef, KV.bptr (0 : Nat) (0 : Nat), KV.bptr (1 : Nat) (0 : Nat),
                        KV.bptr (2 : Nat) (0 : Nat)]
                      (40 : Nat))
                    (some Code.ret) LoopState.done]))
          (condF (decide (acc.length = acc.length))
            (condF (decide (acc.length + [ByteArray.mk (cutA b).toArray].length ≤ maxEls))
              (some
                (Ex.normal, [KV.func (Fn.yield (0 : Nat)) [] [], KV.bptr (3 : Nat) (0 : Nat)],
                  KSt.mk
                    [[KV.nils], [KV.st (Value.int IntKind.i64 (0 : Int))],
                      [KV.mref (0 : Nat) (acc.length + [ByteArray.mk (Array.mk (cutA b))].length)],
                      [KV.lst Ty.byte (!cutOk b) (cutB b)]]
                    [KRow.mk Ty.str (acc ++ [ByteArray.mk (Array.mk (cutA b))]) (9 : TypeId) (1 : Nat) true]
                    [recOf Try.prog (9 : FuncId) (some (7 : Nat))
                        (padK
                          [KV.undef, KV.undef, KV.bptr (0 : Nat) (0 : Nat), KV.bptr (1 : Nat) (0 : Nat),
                            KV.bptr (2 : Nat) (0 : Nat)]
                          (40 : Nat))
                        none LoopState.ready]))
              none)
            none)))
      none := i30m_ condF acc b
theorem i30n_ (fk : Fk) (b : List UInt8)  : iterK Try.prog th (S5 fk) 1000 30 (some 0) [.func (.yield 0) [] [], .bptr 3 0] ⟨[[.nils], [.st (.int .i64 0)], [.nils], [.lst .byte false b]], [], [r9 none .ready]⟩ =
    fk (b.length.ble (1000000 : Nat))
      (fk (!cutOk b)
        (some
          (Ex.ret, [KV.func (Fn.yield (0 : Nat)) [] [], KV.bptr (3 : Nat) (0 : Nat)],
            KSt.mk [[KV.nils], [KV.st (Value.int IntKind.i64 (0 : Int))], [KV.nils], [KV.lst Ty.byte false b]] []
              [recOf Try.prog (9 : FuncId) (some (7 : Nat))
                  (padK
                    [KV.undef, KV.undef, KV.bptr (0 : Nat) (0 : Nat), KV.bptr (1 : Nat) (0 : Nat),
                      KV.bptr (2 : Nat) (0 : Nat)]
                    (40 : Nat))
                  none LoopState.ready]))
        (fk (!mayK (ByteArray.mk (Array.mk (cutA b))))
          (some
            (Ex.ret, [KV.func (Fn.yield (0 : Nat)) [] [], KV.bptr (3 : Nat) (0 : Nat)],
              KSt.mk [[KV.nils], [KV.st (Value.int IntKind.i64 (2 : Int))], [KV.nils], [KV.lst Ty.byte false b]] []
                [recOf Try.prog (9 : FuncId) (some (7 : Nat))
                    (padK
                      [KV.undef, KV.undef, KV.bptr (0 : Nat) (0 : Nat), KV.bptr (1 : Nat) (0 : Nat),
                        KV.bptr (2 : Nat) (0 : Nat)]
                      (40 : Nat))
                    (some Code.ret) LoopState.done]))
          (fk (decide ([ByteArray.mk (cutA b).toArray].length ≤ maxEls))
            (some
              (Ex.normal, [KV.func (Fn.yield (0 : Nat)) [] [], KV.bptr (3 : Nat) (0 : Nat)],
                KSt.mk
                  [[KV.nils], [KV.st (Value.int IntKind.i64 (0 : Int))],
                    [KV.mref (0 : Nat) [ByteArray.mk (Array.mk (cutA b))].length], [KV.lst Ty.byte (!cutOk b) (cutB b)]]
                  [KRow.mk Ty.str [ByteArray.mk (Array.mk (cutA b))] (9 : Nat) (1 : Nat) true]
                  [recOf Try.prog (9 : FuncId) (some (7 : Nat))
                      (padK
                        [KV.undef, KV.undef, KV.bptr (0 : Nat) (0 : Nat), KV.bptr (1 : Nat) (0 : Nat),
                          KV.bptr (2 : Nat) (0 : Nat)]
                        (40 : Nat))
                      none LoopState.ready]))
            none)))
      none := by kernel_rfl
theorem i30n (b : List UInt8)  : iterK Try.prog th (S5 condF) 1000 30 (some 0) [.func (.yield 0) [] [], .bptr 3 0] ⟨[[.nils], [.st (.int .i64 0)], [.nils], [.lst .byte false b]], [], [r9 none .ready]⟩ =
    condF (b.length.ble (1000000 : Nat))
      (condF (!cutOk b)
        (some
          (Ex.ret, [KV.func (Fn.yield (0 : Nat)) [] [], KV.bptr (3 : Nat) (0 : Nat)],
            KSt.mk [[KV.nils], [KV.st (Value.int IntKind.i64 (0 : Int))], [KV.nils], [KV.lst Ty.byte false b]] []
              [recOf Try.prog (9 : FuncId) (some (7 : Nat))
                  (padK
                    [KV.undef, KV.undef, KV.bptr (0 : Nat) (0 : Nat), KV.bptr (1 : Nat) (0 : Nat),
                      KV.bptr (2 : Nat) (0 : Nat)]
                    (40 : Nat))
                  none LoopState.ready]))
        (condF (!mayK (ByteArray.mk (Array.mk (cutA b))))
          (some
            (Ex.ret, [KV.func (Fn.yield (0 : Nat)) [] [], KV.bptr (3 : Nat) (0 : Nat)],
              KSt.mk [[KV.nils], [KV.st (Value.int IntKind.i64 (2 : Int))], [KV.nils], [KV.lst Ty.byte false b]] []
                [recOf Try.prog (9 : FuncId) (some (7 : Nat))
                    (padK
                      [KV.undef, KV.undef, KV.bptr (0 : Nat) (0 : Nat), KV.bptr (1 : Nat) (0 : Nat),
                        KV.bptr (2 : Nat) (0 : Nat)]
                      (40 : Nat))
                    (some Code.ret) LoopState.done]))
          (condF (decide ([ByteArray.mk (cutA b).toArray].length ≤ maxEls))
            (some
              (Ex.normal, [KV.func (Fn.yield (0 : Nat)) [] [], KV.bptr (3 : Nat) (0 : Nat)],
                KSt.mk
                  [[KV.nils], [KV.st (Value.int IntKind.i64 (0 : Int))],
                    [KV.mref (0 : Nat) [ByteArray.mk (Array.mk (cutA b))].length], [KV.lst Ty.byte (!cutOk b) (cutB b)]]
                  [KRow.mk Ty.str [ByteArray.mk (Array.mk (cutA b))] (9 : Nat) (1 : Nat) true]
                  [recOf Try.prog (9 : FuncId) (some (7 : Nat))
                      (padK
                        [KV.undef, KV.undef, KV.bptr (0 : Nat) (0 : Nat), KV.bptr (1 : Nat) (0 : Nat),
                          KV.bptr (2 : Nat) (0 : Nat)]
                        (40 : Nat))
                      none LoopState.ready]))
            none)))
      none := i30n_ condF b
end Go.Proofs.Ytecokfbldjekiaa.LI
