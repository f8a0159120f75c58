/-
  Layer 1 (text): text.May, text.Name, text.All, with letters.
-/
import Derived.Test.YtecokfbldjekiaaTkA
namespace Go.Proofs.Ytecokfbldjekiaa.LI
open Go Go.RowKit
open KV (toL)
open KV.toL (toLs)
set_option maxRecDepth 100000
def mayK (s : ByteArray) : Bool := decide ((s.size : Int) ≤ 80) && decide (Lib.indexByte s.data.toList (Int.toNat 10).toUInt8 < 0)
def p12 : List KV → Option (Ck × KV)
  | [.sc (.string s)] => some (.ok, .bool (mayK s))
  | _ => none
theorem c12 (args : List KV) (c : Ck) (v : KV) (h : p12 args = some (c, v)) (hc : c.val = true) : run Try.prog th (.call 12 (toLs args)) = some ⟨.normal, v.toL, default, {}⟩ := by
  unfold p12 at h
  split at h <;> cases h
  refine fnK_sound S0_ok (n := 1000) ?_
  rw [k12]
  unfold mayK
  cases decide ((_ : Int) ≤ 80) <;> rfl
def signK (c : Int) : Bool := (decide (c ≥ 97) && decide (c ≤ 122)) || (decide (c ≥ 48) && decide (c ≤ 57)) || c == 46
def p23 : List KV → Option (Ck × KV)
  | [.sc (.int .u8 c)] => some (.ok, .bool (signK c))
  | _ => none
theorem c23 (args : List KV) (c : Ck) (v : KV) (h : p23 args = some (c, v)) (hc : c.val = true) : run Try.prog th (.call 23 (toLs args)) = some ⟨.normal, v.toL, default, {}⟩ := by
  unfold p23 at h
  split at h <;> cases h
  refine fnK_sound S0_ok (n := 1000) ?_
  rw [k23]
  unfold signK
  cases decide ((_ : Int) ≥ 97) <;> cases decide ((_ : Int) ≤ 122) <;> cases decide ((_ : Int) ≥ 48) <;> cases decide ((_ : Int) ≤ 57) <;> simp [condF]
noncomputable def S1 (fk : Fk) : Cs := ((S0 fk).addC 12 p12).addC 23 p23
instance : FkOK (S1 condF) := ⟨fun _ _ _ => rfl⟩
theorem S1_ok : CsOK Try.prog th (S1 condF) := (S0_ok.addC c12).addC c23
theorem i11_ (fk : Fk) (s : ByteArray) (i : Int) (r : Bool)  : iterK Try.prog th (S1 fk) 1000 11 (some 2) [.sc (.string s), .sc (.bool r), .sc (.int .i64 s.size), .sc (.int .i64 i)] {} =
    fk (decide (i < (↑s.size : Int)))
      (fk (decide ((0 : Int) ≤ i))
        (fk (decide (i < (↑s.size : Int)))
          (fk (!signK (↑(s.1.toList.getD i.toNat (0 : UInt8)).toNat : Int))
            (some
              (Ex.ret,
                [KV.sc (Value.string s), KV.sc (Value.bool false), KV.sc (Value.int IntKind.i64 (↑s.size : Int)),
                  KV.sc (Value.int IntKind.i64 i)],
                KSt.mk [] [] []))
            (some
              (Ex.normal,
                [KV.sc (Value.string s), KV.sc (Value.bool r), KV.sc (Value.int IntKind.i64 (↑s.size : Int)),
                  KV.sc (Value.int IntKind.i64 (IntKind.i64.wrap (i + (1 : Int))))],
                KSt.mk [] [] [])))
          none)
        none)
      (some
        (Ex.exit (0 : Nat),
          [KV.sc (Value.string s), KV.sc (Value.bool r), KV.sc (Value.int IntKind.i64 (↑s.size : Int)),
            KV.sc (Value.int IntKind.i64 i)],
          KSt.mk [] [] [])) := by kernel_rfl
theorem i11 (s : ByteArray) (i : Int) (r : Bool)  : iterK Try.prog th (S1 condF) 1000 11 (some 2) [.sc (.string s), .sc (.bool r), .sc (.int .i64 s.size), .sc (.int .i64 i)] {} =
    condF (decide (i < (↑s.size : Int)))
      (condF (decide ((0 : Int) ≤ i))
        (condF (decide (i < (↑s.size : Int)))
          (condF (!signK (↑(s.1.toList.getD i.toNat (0 : UInt8)).toNat : Int))
            (some
              (Ex.ret,
                [KV.sc (Value.string s), KV.sc (Value.bool false), KV.sc (Value.int IntKind.i64 (↑s.size : Int)),
                  KV.sc (Value.int IntKind.i64 i)],
                KSt.mk [] [] []))
            (some
              (Ex.normal,
                [KV.sc (Value.string s), KV.sc (Value.bool r), KV.sc (Value.int IntKind.i64 (↑s.size : Int)),
                  KV.sc (Value.int IntKind.i64 (IntKind.i64.wrap (i + (1 : Int))))],
                KSt.mk [] [] [])))
          none)
        none)
      (some
        (Ex.exit (0 : Nat),
          [KV.sc (Value.string s), KV.sc (Value.bool r), KV.sc (Value.int IntKind.i64 (↑s.size : Int)),
            KV.sc (Value.int IntKind.i64 i)],
          KSt.mk [] [] [])) := i11_ condF s i r
theorem k26_ (fk : Fk) (s : ByteArray)  : fnK Try.prog th (S1 fk) 1000 26 [.sc (.string s)] =
    some (KV.sc (Value.bool !mayK s)) := by kernel_rfl
theorem k26 (s : ByteArray)  : fnK Try.prog th (S1 condF) 1000 26 [.sc (.string s)] =
    some (KV.sc (Value.bool !mayK s)) := k26_ condF s
theorem i33_ (fk : Fk) (l : List ByteArray) (n : Bool) (i : Int) (r : Int)  : iterK Try.prog th (S1 fk) 1000 33 (some 2) [.lst .str n l, .func (.func 26) [] [], .sc (.int .i64 r), .sc (.int .i64 l.length), .sc (.int .i64 i)] {} =
    fk (decide (i < (↑l.length : Int)))
      (fk (decide ((0 : Int) ≤ i))
        (fk (decide (i < (↑l.length : Int)))
          (fk (!mayK (l.getD i.toNat ByteArray.empty))
            (some
              (Ex.ret,
                [KV.lst Ty.str n l, KV.func (Fn.func (26 : FuncId)) [] [], KV.sc (Value.int IntKind.i64 i),
                  KV.sc (Value.int IntKind.i64 (↑l.length : Int)), KV.sc (Value.int IntKind.i64 i)],
                KSt.mk [] [] []))
            (some
              (Ex.normal,
                [KV.lst Ty.str n l, KV.func (Fn.func (26 : FuncId)) [] [], KV.sc (Value.int IntKind.i64 r),
                  KV.sc (Value.int IntKind.i64 (↑l.length : Int)),
                  KV.sc (Value.int IntKind.i64 (IntKind.i64.wrap (i + (1 : Int))))],
                KSt.mk [] [] [])))
          none)
        none)
      (some
        (Ex.exit (0 : Nat),
          [KV.lst Ty.str n l, KV.func (Fn.func (26 : FuncId)) [] [], KV.sc (Value.int IntKind.i64 r),
            KV.sc (Value.int IntKind.i64 (↑l.length : Int)), KV.sc (Value.int IntKind.i64 i)],
          KSt.mk [] [] [])) := by kernel_rfl
theorem i33 (l : List ByteArray) (n : Bool) (i : Int) (r : Int)  : iterK Try.prog th (S1 condF) 1000 33 (some 2) [.lst .str n l, .func (.func 26) [] [], .sc (.int .i64 r), .sc (.int .i64 l.length), .sc (.int .i64 i)] {} =
    condF (decide (i < (↑l.length : Int)))
      (condF (decide ((0 : Int) ≤ i))
        (condF (decide (i < (↑l.length : Int)))
          (condF (!mayK (l.getD i.toNat ByteArray.empty))
            (some
              (Ex.ret,
                [KV.lst Ty.str n l, KV.func (Fn.func (26 : FuncId)) [] [], KV.sc (Value.int IntKind.i64 i),
                  KV.sc (Value.int IntKind.i64 (↑l.length : Int)), KV.sc (Value.int IntKind.i64 i)],
                KSt.mk [] [] []))
            (some
              (Ex.normal,
                [KV.lst Ty.str n l, KV.func (Fn.func (26 : FuncId)) [] [], KV.sc (Value.int IntKind.i64 r),
                  KV.sc (Value.int IntKind.i64 (↑l.length : Int)),
                  KV.sc (Value.int IntKind.i64 (IntKind.i64.wrap (i + (1 : Int))))],
                KSt.mk [] [] [])))
          none)
        none)
      (some
        (Ex.exit (0 : Nat),
          [KV.lst Ty.str n l, KV.func (Fn.func (26 : FuncId)) [] [], KV.sc (Value.int IntKind.i64 r),
            KV.sc (Value.int IntKind.i64 (↑l.length : Int)), KV.sc (Value.int IntKind.i64 i)],
          KSt.mk [] [] [])) := i33_ condF l n i r
end Go.Proofs.Ytecokfbldjekiaa.LI
