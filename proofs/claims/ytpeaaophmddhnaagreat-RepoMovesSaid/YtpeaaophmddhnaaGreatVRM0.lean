/-
  Functions and loops of this seat.
-/
import Derived.Test.YtpeaaophmddhnaaGreatM23
namespace Go.Proofs.YtpeaaophmddhnaaGreat.LI
open Go Go.RowKit
set_option maxRecDepth 100000
set_option linter.unusedVariables false
set_option linter.unusedSimpArgs false
abbrev Y3 : Ty := (.pair (.int .i64) (.pair (.int .i64) .unit))
abbrev Y5 : Ty := (.pair (.int .i64) (.pair (.list .str) (.pair (.list .str) .unit)))
abbrev Y1 : Ty := (.pair (.int .i64) (.pair .str (.pair .str (.pair Y5 .unit))))
abbrev Y0 : Ty := (.pair Y3 (.pair (.list Y3) (.pair .str (.pair (.list Y1) .unit))))
abbrev Y6 : Ty := (.pair .str (.pair (.list .str) .unit))
abbrev Y2 : Ty := (.list Y6)
abbrev Y4 : Ty := (.pair (.int .i64) (.pair (.list Y0) (.pair Y2 (.pair Y2 (.pair (.int .i64) .unit)))))
abbrev Y7 : Ty := (.pair (.int .i64) (.pair (.int .i64) (.pair (.list .str) .unit)))
abbrev D4 : Type := (Int × List ByteArray × List ByteArray × Unit)
abbrev D0 : Type := (Int × ByteArray × ByteArray × D4 × Unit)
abbrev D3 : Type := (Int × Int × Unit)
abbrev D1 : Type := (D3 × (List D3) × ByteArray × (List D0) × Unit)
abbrev D2 : Type := (ByteArray × List ByteArray × Unit)
abbrev D5 : Type := (D3 × List D3 × ByteArray × List D0 × Unit)
abbrev D6 : Type := (Int × (List D1) × (List D2) × (List D2) × Int × Unit)
abbrev D7 : Type := (Int × Int × List ByteArray × Unit)
abbrev D8 : Type := (Int × Int × (List D3) × ByteArray × (List D0) × Int × Int × (List D3) × ByteArray × (List D0) × Int × Unit)
abbrev D9 : Type := ((List D2) × Int × Unit)
abbrev D10 : Type := (Int × Int × (List D3) × ByteArray × (List D0) × (List D3) × Int × Int × Unit)
abbrev D11 : Type := (List ByteArray × (List D2) × ByteArray × (List D2) × ByteArray × Int × Unit)
abbrev D12 : Type := (Int × (List D1) × (List D2) × (List D2) × Int × Int × Int × (List D3) × ByteArray × (List D0) × (List D3) × Int × Unit)
abbrev D13 : Type := ((List D1) × Int × (List D1) × (List D2) × (List D2) × Int × Int × (List D2) × (List D2) × Int × Int × (List D2) × (List D2) × Int × Int × Int × Int × Int × (List D3) × ByteArray × (List D0) × (List D3) × Int × Int × Unit)
abbrev D14 : Type := (List ByteArray × List ByteArray × Int × Int × Unit)
abbrev D15 : Type := (List ByteArray × Int × ByteArray × ByteArray × Int × List ByteArray × List ByteArray × Int × ByteArray × ByteArray × Int × List ByteArray × List ByteArray × List ByteArray × List ByteArray × Int × Int × Unit)
abbrev D16 : Type := ((List D0) × (List D0) × Int × ByteArray × ByteArray × Int × List ByteArray × List ByteArray × Int × Int × ByteArray × ByteArray × Int × List ByteArray × List ByteArray × (List D0) × Int × Int × Int × Unit)
abbrev D17 : Type := ((List D1) × (List D1) × Int × Int × (List D3) × ByteArray × (List D0) × (List D1) × Int × Unit)
abbrev D18 : Type := ((List D0) × (List D0) × Int × ByteArray × ByteArray × Int × List ByteArray × List ByteArray × Int × Int × ByteArray × ByteArray × Int × List ByteArray × List ByteArray × Int × ByteArray × ByteArray × Int × List ByteArray × List ByteArray × Int × ByteArray × ByteArray × Int × List ByteArray × List ByteArray × (List D0) × Int × Int × Int × Unit)
abbrev D19 : Type := (List ByteArray × Int × Unit)
abbrev D20 : Type := (Int × Int × (List D3) × ByteArray × (List D0) × Bool × Bool × Bool × Int × Unit)
abbrev D21 : Type := ((List D2) × (List D2) × Int × Int × Unit)
abbrev D22 : Type := ((List D0) × Int × Unit)
abbrev D23 : Type := (D6 × Int × Unit)
abbrev D24 : Type := ((List D0) × (List D0) × Int × Unit)
abbrev D25 : Type := (Int × (List D1) × (List D2) × (List D2) × Int × Int × Unit)
abbrev D26 : Type := ((List D0) × Int × ByteArray × ByteArray × Int × List ByteArray × List ByteArray × Int × ByteArray × ByteArray × Int × List ByteArray × List ByteArray × Int × ByteArray × ByteArray × Int × List ByteArray × List ByteArray × Int × Unit)
abbrev D27 : Type := ((List D1) × Int × (List D1) × (List D2) × (List D2) × Int × Int × (List D2) × (List D2) × Int × Int × (List D2) × (List D2) × Int × Int × Int × Int × Int × (List D3) × ByteArray × (List D0) × (List D3) × Int × Int × Int × Unit)
abbrev D28 : Type := ((List D1) × (List D1) × (List D3) × (List D1) × Int × Unit)
abbrev D29 : Type := (List ByteArray × Int × ByteArray × ByteArray × Int × List ByteArray × List ByteArray × Int × ByteArray × ByteArray × Int × List ByteArray × List ByteArray × List ByteArray × List ByteArray × Int × Int × Int × Unit)
abbrev D30 : Type := ((List D1) × (List D1) × (List D1) × (List D3) × Unit)
abbrev D31 : Type := ((List D1) × (List D1) × Int × Int × (List D3) × ByteArray × (List D0) × (List D1) × Int × Int × Unit)
abbrev D32 : Type := (List (List Int) × List Int × List Int × List ByteArray × List ByteArray × List Int × Int × Int × Unit)
abbrev D33 : Type := ((List D0) × (List D0) × Int × ByteArray × ByteArray × Int × List ByteArray × List ByteArray × Int × Int × ByteArray × ByteArray × Int × List ByteArray × List ByteArray × (List D0) × Int × Int × Unit)
abbrev D34 : Type := (List ByteArray × Int × List ByteArray × Int × Unit)
abbrev D35 : Type := ((List D0) × Unit)
abbrev D36 : Type := ((List D2) × Unit)
abbrev D37 : Type := (ByteArray × Int × Unit)
abbrev D38 : Type := (List ByteArray × Bool × Unit)
abbrev D39 : Type := ((List D0) × Int × ByteArray × ByteArray × Int × List ByteArray × List ByteArray × Int × Unit)
abbrev Bkb : List Shp := [(.ty Y3)]
noncomputable def Tca : D3 × Unit → Option (Bool × Unit) := jTa (fnT Tryz.prog th (S0 jKa lIa bFb) 105 Bkb (.ty .bool) [])
noncomputable def Bbb (x0 : Int × Int × Unit) (fk : Fk) (bd : Bd) (sm : Sm) : Option (Bool × Unit) :=
    fk (decide (x0.1 ≥ (0 : Int))) (fk (decide (x0.1 < (8 : Int))) (fk (decide (x0.2.1 ≥ (1 : Int))) (some (decide (x0.2.1 ≤ (1048576 : Int)), ())) (some (false, ()))) (some (false, ()))) (some (false, ()))
theorem Eab (x0) : Tca (x0, ()) = Bbb x0 jKa lIa bFb := eqF (S := S0) fun _ _ _ => by kernel_rfl
noncomputable def S1 : OCs := addF S0 Tryz.prog 105 Bkb (.ty .bool) [] Tca
theorem Qbb : fEb Tryz.prog th S1 := qXb.addF rfl
abbrev Gza : fCa := ⟨[], [], [[(.ty (.int .i64)), (.ty (.int .i64)), (.ty (.list Y3)), (.ty .str), (.ty (.list Y1))]], [], [(.ty (.list Y3)), (.func 104 [] [(.bptr 0 0)]), (.st (.int .i64 0)), (.ty (.int .i64)), (.ty (.int .i64))]⟩
abbrev Hfa : List sQa := [⟨.ret, ⟨[], [], [[(.ty (.int .i64)), (.ty (.int .i64)), (.ty (.list Y3)), (.ty .str), (.ty (.list Y1))]], [], [(.ty (.list Y3)), (.func 104 [] [(.bptr 0 0)]), (.ty (.int .i64)), (.ty (.int .i64)), (.ty (.int .i64))]⟩⟩, ⟨(.exit 0), ⟨[], [], [[(.ty (.int .i64)), (.ty (.int .i64)), (.ty (.list Y3)), (.ty .str), (.ty (.list Y1))]], [], [(.ty (.list Y3)), (.func 104 [] [(.bptr 0 0)]), (.st (.int .i64 0)), (.ty (.int .i64)), (.ty (.int .i64))]⟩⟩]
noncomputable def Aoa : Int × Int × (List D3) × ByteArray × (List D0) × (List D3) × Int × Int × Unit → Option ((Int × Int × (List D3) × ByteArray × (List D0) × (List D3) × Int × Int × Int × Unit) ⊕ D10) := jTa (pBa (nHa Tryz.prog th (S1 jKa lIa bFb) 125 2 Gza Hfa))
noncomputable def Aya (i0 : Int) (i1 : Int) (l2 : List D3) (s3 : ByteArray) (l4 : List D0) (l5 : List D3) (i6 : Int) (i7 : Int) (fk : Fk) (bd : Bd) (sm : Sm) : Option (D10 ⊕ ((Int × Int × (List D3) × ByteArray × (List D0) × (List D3) × Int × Int × Int × Unit) ⊕ D10)) :=
    let z0 := (List.getD l5 (Int.toNat i7) ((0 : Int), (0 : Int), ()))
    fk (decide (i7 < i6)) (fk (decide ((0 : Int) ≤ i7)) (fk (decide (i7 < (↑(List.length l5) : Int))) (bd (Tca ((z0.1, z0.2.1, ()), ())) fun y0 => fk (!y0.1) (some (Sum.inr (Sum.inl (i0, i1, l2, s3, l4, l5, i7, i6, i7, ())))) (fk (z0.1 == i0 && (z0.2.1 == i1 && true)) (some (Sum.inr (Sum.inl (i0, i1, l2, s3, l4, l5, i7, i6, i7, ())))) (some (Sum.inl (i0, i1, l2, s3, l4, l5, i6, IntKind.wrap IntKind.i64 (i7 + (1 : Int)), ()))))) none) none) (some (Sum.inr (Sum.inr (i0, i1, l2, s3, l4, l5, i6, i7, ()))))
theorem Fsa (i0 i1 l2 s3 l4 l5 i6 i7) : Aoa (i0, i1, l2, s3, l4, l5, i6, i7, ()) = (Aya i0 i1 l2 s3 l4 l5 i6 i7 jKa lIa bFb).bind (Sum.elim Aoa some) := eqL (S := S1) fun _ _ _ => by kernel_rfl
noncomputable def S2 : OCs := addL S1 Tryz.prog 125 2 Gza Hfa Aoa
theorem Qcb : fEb Tryz.prog th S2 := Qbb.addL (by kernel_rfl) (by kernel_rfl) (by kernel_rfl) rfl
abbrev Wka : List Shp := [(.ty Y3), (.ty Y3)]
noncomputable def Qca : D3 × D3 × Unit → Option (Bool × Unit) := jTa (fnT Tryz.prog th (S2 jKa lIa bFb) 107 Wka (.ty .bool) [])
noncomputable def Vua (x0 : Int × Int × Unit) (x1 : Int × Int × Unit) (fk : Fk) (bd : Bd) (sm : Sm) : Option (Bool × Unit) :=
    fk (decide (x0.1 < x1.1)) (some (true, ())) (fk (x0.1 == x1.1) (some (decide (x0.2.1 < x1.2.1), ())) (some (false, ())))
theorem Anb (x0 x1) : Qca (x0, x1, ()) = Vua x0 x1 jKa lIa bFb := eqF (S := S2) fun _ _ _ => by kernel_rfl
noncomputable def S3 : OCs := addF S2 Tryz.prog 107 Wka (.ty .bool) [] Qca
theorem Qdb : fEb Tryz.prog th S3 := Qcb.addF rfl
abbrev Oja : fCa := ⟨[], [], [[(.ty (.int .i64)), (.ty (.int .i64)), (.ty (.list Y3)), (.ty .str), (.ty (.list Y1))]], [], [(.ty (.list Y3)), (.func 107 [] []), (.st (.bool false)), (.ty (.int .i64)), (.ty (.int .i64))]⟩
abbrev Pba : List sQa := [⟨.ret, ⟨[], [], [[(.ty (.int .i64)), (.ty (.int .i64)), (.ty (.list Y3)), (.ty .str), (.ty (.list Y1))]], [], [(.ty (.list Y3)), (.func 107 [] []), (.st (.bool false)), (.ty (.int .i64)), (.ty (.int .i64))]⟩⟩, ⟨(.exit 0), ⟨[], [], [[(.ty (.int .i64)), (.ty (.int .i64)), (.ty (.list Y3)), (.ty .str), (.ty (.list Y1))]], [], [(.ty (.list Y3)), (.func 107 [] []), (.st (.bool false)), (.ty (.int .i64)), (.ty (.int .i64))]⟩⟩]
noncomputable def Cka : Int × Int × (List D3) × ByteArray × (List D0) × (List D3) × Int × Int × Unit → Option (D10 ⊕ D10) := jTa (pBa (nHa Tryz.prog th (S3 jKa lIa bFb) 106 2 Oja Pba))
noncomputable def Dsa (i0 : Int) (i1 : Int) (l2 : List D3) (s3 : ByteArray) (l4 : List D0) (l5 : List D3) (i6 : Int) (i7 : Int) (fk : Fk) (bd : Bd) (sm : Sm) : Option (D10 ⊕ (D10 ⊕ D10)) :=
    fk (decide (i7 < i6)) (fk (decide (i7 > (0 : Int))) (fk (decide ((0 : Int) ≤ IntKind.wrap IntKind.i64 (i7 - (1 : Int)))) (fk (decide (IntKind.wrap IntKind.i64 (i7 - (1 : Int)) < (↑(List.length l5) : Int))) (fk (decide ((0 : Int) ≤ i7)) (fk (decide (i7 < (↑(List.length l5) : Int))) (bd (Qca (((List.getD l5 (Int.toNat (IntKind.wrap IntKind.i64 (i7 - (1 : Int)))) ((0 : Int), (0 : Int), ())).1, (List.getD l5 (Int.toNat (IntKind.wrap IntKind.i64 (i7 - (1 : Int)))) ((0 : Int), (0 : Int), ())).2.1, ()), ((List.getD l5 (Int.toNat i7) ((0 : Int), (0 : Int), ())).1, (List.getD l5 (Int.toNat i7) ((0 : Int), (0 : Int), ())).2.1, ()), ())) fun y0 => fk (!y0.1) (some (Sum.inr (Sum.inl (i0, i1, l2, s3, l4, l5, i6, i7, ())))) (some (Sum.inl (i0, i1, l2, s3, l4, l5, i6, IntKind.wrap IntKind.i64 (i7 + (1 : Int)), ())))) none) none) none) none) (some (Sum.inl (i0, i1, l2, s3, l4, l5, i6, IntKind.wrap IntKind.i64 (i7 + (1 : Int)), ())))) (some (Sum.inr (Sum.inr (i0, i1, l2, s3, l4, l5, i6, i7, ()))))
theorem Lwa (i0 i1 l2 s3 l4 l5 i6 i7) : Cka (i0, i1, l2, s3, l4, l5, i6, i7, ()) = (Dsa i0 i1 l2 s3 l4 l5 i6 i7 jKa lIa bFb).bind (Sum.elim Cka some) := eqL (S := S3) fun _ _ _ => by kernel_rfl
noncomputable def S4 : OCs := addL S3 Tryz.prog 106 2 Oja Pba Cka
theorem Qeb : fEb Tryz.prog th S4 := Qdb.addL (by kernel_rfl) (by kernel_rfl) (by kernel_rfl) rfl
abbrev Cra : List Shp := [(.ty .str), (.ty .byte)]
noncomputable def Bna : ByteArray × UInt8 × Unit → Option (Int × Unit) := jTa (fnT Tryz.prog th (S4 jKa lIa bFb) 192 Cra (.ty (.int .i64)) [])
noncomputable def Coa (s0 : ByteArray) (c1 : UInt8) (fk : Fk) (bd : Bd) (sm : Sm) : Option (Int × Unit) :=
    some (Lib.indexByte s0.data.toList (Nat.toUInt8 (Int.toNat (↑(UInt8.toNat c1) : Int))), ())
theorem Haa (s0 c1) : Bna (s0, c1, ()) = Coa s0 c1 jKa lIa bFb := eqF (S := S4) fun _ _ _ => by kernel_rfl
noncomputable def S5 : OCs := addF S4 Tryz.prog 192 Cra (.ty (.int .i64)) [] Bna
theorem Qfb : fEb Tryz.prog th S5 := Qeb.addF rfl
abbrev Kva : List Shp := [(.ty .str), (.ty .byte)]
noncomputable def Ema : ByteArray × UInt8 × Unit → Option (Int × Unit) := jTa (fnT Tryz.prog th (S5 jKa lIa bFb) 150 Kva (.ty (.int .i64)) [])
noncomputable def Ksa (s0 : ByteArray) (c1 : UInt8) (fk : Fk) (bd : Bd) (sm : Sm) : Option (Int × Unit) :=
    fk (decide ((0 : Int) ≤ (↑(UInt8.toNat c1) : Int)) && decide ((↑(UInt8.toNat c1) : Int) < (256 : Int))) (bd (Bna (s0, UInt8.ofNat (Int.toNat (↑(UInt8.toNat c1) : Int)), ())) fun y0 => some (y0.1, ())) none
theorem Qla (s0 c1) : Ema (s0, c1, ()) = Ksa s0 c1 jKa lIa bFb := eqF (S := S5) fun _ _ _ => by kernel_rfl
noncomputable def S6 : OCs := addF S5 Tryz.prog 150 Kva (.ty (.int .i64)) [] Ema
theorem Qgb : fEb Tryz.prog th S6 := Qfb.addF rfl
abbrev Brb : List Shp := [(.ty .str)]
noncomputable def Qga : ByteArray × Unit → Option (Bool × Unit) := jTa (fnT Tryz.prog th (S6 jKa lIa bFb) 108 Brb (.ty .bool) [])
noncomputable def Vya (s0 : ByteArray) (fk : Fk) (bd : Bd) (sm : Sm) : Option (Bool × Unit) :=
    fk (decide ((↑(ByteArray.size s0) : Int) ≤ (80 : Int))) (bd (Ema (s0, UInt8.ofNat (Int.toNat (10 : Int)), ())) fun y0 => some (decide (y0.1 < (0 : Int)), ())) (some (false, ()))
theorem Ejb (s0) : Qga (s0, ()) = Vya s0 jKa lIa bFb := eqF (S := S6) fun _ _ _ => by kernel_rfl
noncomputable def S7 : OCs := addF S6 Tryz.prog 108 Brb (.ty .bool) [] Qga
theorem Qhb : fEb Tryz.prog th S7 := Qgb.addF rfl
abbrev Zea : List Shp := [(.ty .byte)]
noncomputable def Tma : UInt8 × Unit → Option (Bool × Unit) := jTa (fnT Tryz.prog th (S7 jKa lIa bFb) 151 Zea (.ty .bool) [])
noncomputable def Ysa (c0 : UInt8) (fk : Fk) (bd : Bd) (sm : Sm) : Option (Bool × Unit) :=
    let z0 := (fk (decide ((↑(UInt8.toNat c0) : Int) ≥ (48 : Int))) (fk (decide ((↑(UInt8.toNat c0) : Int) ≤ (57 : Int))) (some (true, ())) (some ((↑(UInt8.toNat c0) : Int) == (46 : Int), ()))) (some ((↑(UInt8.toNat c0) : Int) == (46 : Int), ())))
    fk (decide ((↑(UInt8.toNat c0) : Int) ≥ (97 : Int))) (fk (decide ((↑(UInt8.toNat c0) : Int) ≤ (122 : Int))) (some (true, ())) z0) z0
theorem Djb (c0) : Tma (c0, ()) = Ysa c0 jKa lIa bFb := eqF (S := S7) fun _ _ _ => by kernel_rfl
noncomputable def S8 : OCs := addF S7 Tryz.prog 151 Zea (.ty .bool) [] Tma
theorem Qib : fEb Tryz.prog th S8 := Qhb.addF rfl
abbrev Sia : fCa := ⟨[], [], [], [], [(.ty .str), (.st (.bool false)), (.ty (.int .i64)), (.ty (.int .i64))]⟩
abbrev Sya : List sQa := [⟨.ret, ⟨[], [], [], [], [(.ty .str), (.st (.bool false)), (.ty (.int .i64)), (.ty (.int .i64))]⟩⟩, ⟨(.exit 0), ⟨[], [], [], [], [(.ty .str), (.st (.bool false)), (.ty (.int .i64)), (.ty (.int .i64))]⟩⟩]
noncomputable def Iqa : ByteArray × Int × Int × Unit → Option ((ByteArray × Int × Int × Unit) ⊕ (ByteArray × Int × Int × Unit)) := jTa (pBa (nHa Tryz.prog th (S8 jKa lIa bFb) 111 2 Sia Sya))
noncomputable def Jea (s0 : ByteArray) (i1 : Int) (i2 : Int) (fk : Fk) (bd : Bd) (sm : Sm) : Option ((ByteArray × Int × Int × Unit) ⊕ ((ByteArray × Int × Int × Unit) ⊕ (ByteArray × Int × Int × Unit))) :=
    let z0 := (↑(UInt8.toNat (List.getD s0.data.toList (Int.toNat i2) (0 : UInt8))) : Int)
    fk (decide (i2 < i1)) (fk (decide ((0 : Int) ≤ i2)) (fk (decide (i2 < (↑(ByteArray.size s0) : Int))) (fk (decide ((0 : Int) ≤ z0) && decide (z0 < (256 : Int))) (bd (Tma (UInt8.ofNat (Int.toNat z0), ())) fun y0 => fk (!y0.1) (some (Sum.inr (Sum.inl (s0, i1, i2, ())))) (some (Sum.inl (s0, i1, IntKind.wrap IntKind.i64 (i2 + (1 : Int)), ())))) none) none) none) (some (Sum.inr (Sum.inr (s0, i1, i2, ()))))
theorem Pma (s0 i1 i2) : Iqa (s0, i1, i2, ()) = (Jea s0 i1 i2 jKa lIa bFb).bind (Sum.elim Iqa some) := eqL (S := S8) fun _ _ _ => by kernel_rfl
noncomputable def S9 : OCs := addL S8 Tryz.prog 111 2 Sia Sya Iqa
theorem Qjb : fEb Tryz.prog th S9 := Qib.addL (by kernel_rfl) (by kernel_rfl) (by kernel_rfl) rfl
abbrev Zda : List Shp := [(.ty .str)]
noncomputable def Kfa : ByteArray × Unit → Option (Bool × Unit) := jTa (fnT Tryz.prog th (S9 jKa lIa bFb) 111 Zda (.ty .bool) [])
noncomputable def Psa (s0 : ByteArray) (fk : Fk) (bd : Bd) (sm : Sm) : Option (Bool × Unit) :=
    bd (Iqa (s0, (↑(ByteArray.size s0) : Int), (0 : Int), ())) fun y0 => sm y0 (fun y1 => some (false, ())) fun y2 => fk (!ByteArray.toList y2.1 == ByteArray.toList ByteArray.empty) (some (decide ((↑(ByteArray.size y2.1) : Int) ≤ (16 : Int)), ())) (some (false, ()))
theorem Dib (s0) : Kfa (s0, ()) = Psa s0 jKa lIa bFb := eqF (S := S9) fun _ _ _ => by kernel_rfl
noncomputable def S10 : OCs := addF S9 Tryz.prog 111 Zda (.ty .bool) [] Kfa
theorem Lfb : fEb Tryz.prog th S10 := Qjb.addF rfl
abbrev Jqa : List Shp := [(.ty Y1)]
noncomputable def Cda : D0 × Unit → Option (Bool × Unit) := jTa (fnT Tryz.prog th (S10 jKa lIa bFb) 197 Jqa (.ty .bool) [])
noncomputable def Fwa (x0 : Int × ByteArray × ByteArray × D4 × Unit) (fk : Fk) (bd : Bd) (sm : Sm) : Option (Bool × Unit) :=
    bd (Kfa (x0.2.1, ())) fun y0 => fk y0.1 (some (ByteArray.toList x0.2.2.1 == ByteArray.toList ByteArray.empty, ())) (some (false, ()))
theorem Pga (x0) : Cda (x0, ()) = Fwa x0 jKa lIa bFb := eqF (S := S10) fun _ _ _ => by kernel_rfl
noncomputable def S11 : OCs := addF S10 Tryz.prog 197 Jqa (.ty .bool) [] Cda
theorem Lgb : fEb Tryz.prog th S11 := Lfb.addF rfl
abbrev Lea : List Shp := [(.ty Y1)]
noncomputable def Dda : D0 × Unit → Option (Bool × Unit) := jTa (fnT Tryz.prog th (S11 jKa lIa bFb) 198 Lea (.ty .bool) [])
noncomputable def Hsa (x0 : Int × ByteArray × ByteArray × D4 × Unit) (fk : Fk) (bd : Bd) (sm : Sm) : Option (Bool × Unit) :=
    fk (x0.2.2.2.1.1 == (0 : Int)) (some (IntKind.wrap IntKind.i64 ((↑(List.length x0.2.2.2.1.2.1) : Int) + (↑(List.length x0.2.2.2.1.2.2.1) : Int)) == (0 : Int), ())) (some (false, ()))
theorem Rqa (x0) : Dda (x0, ()) = Hsa x0 jKa lIa bFb := eqF (S := S11) fun _ _ _ => by kernel_rfl
noncomputable def S12 : OCs := addF S11 Tryz.prog 198 Lea (.ty .bool) [] Dda
theorem Lhb : fEb Tryz.prog th S12 := Lgb.addF rfl
abbrev Iya : List Shp := [(.ty Y1)]
noncomputable def Bxa : D0 × Unit → Option (Bool × Unit) := jTa (fnT Tryz.prog th (S12 jKa lIa bFb) 157 Iya (.ty .bool) [])
noncomputable def Iwa (x0 : Int × ByteArray × ByteArray × D4 × Unit) (fk : Fk) (bd : Bd) (sm : Sm) : Option (Bool × Unit) :=
    bd (Cda ((x0.1, x0.2.1, x0.2.2.1, (x0.2.2.2.1.1, x0.2.2.2.1.2.1, x0.2.2.2.1.2.2.1, ()), ()), ())) fun y0 => fk y0.1 (bd (Dda ((x0.1, x0.2.1, x0.2.2.1, (x0.2.2.2.1.1, x0.2.2.2.1.2.1, x0.2.2.2.1.2.2.1, ()), ()), ())) fun y1 => some (y1.1, ())) (some (false, ()))
theorem Nla (x0) : Bxa (x0, ()) = Iwa x0 jKa lIa bFb := eqF (S := S12) fun _ _ _ => by kernel_rfl
noncomputable def S13 : OCs := addF S12 Tryz.prog 157 Iya (.ty .bool) [] Bxa
theorem Ljb : fEb Tryz.prog th S13 := Lhb.addF rfl
abbrev Iza : List Shp := [(.ty Y1)]
noncomputable def Cya : D0 × Unit → Option (Bool × Unit) := jTa (fnT Tryz.prog th (S13 jKa lIa bFb) 160 Iza (.ty .bool) [])
noncomputable def Ixa (x0 : Int × ByteArray × ByteArray × D4 × Unit) (fk : Fk) (bd : Bd) (sm : Sm) : Option (Bool × Unit) :=
    bd (Kfa (x0.2.1, ())) fun y0 => fk y0.1 (bd (Kfa (x0.2.2.1, ())) fun y1 => fk y1.1 (fk (!ByteArray.toList x0.2.1 == ByteArray.toList x0.2.2.1) (bd (Dda ((x0.1, x0.2.1, x0.2.2.1, (x0.2.2.2.1.1, x0.2.2.2.1.2.1, x0.2.2.2.1.2.2.1, ()), ()), ())) fun y2 => some (y2.1, ())) (some (false, ()))) (some (false, ()))) (some (false, ()))
theorem Nma (x0) : Cya (x0, ()) = Ixa x0 jKa lIa bFb := eqF (S := S13) fun _ _ _ => by kernel_rfl
noncomputable def S14 : OCs := addF S13 Tryz.prog 160 Iza (.ty .bool) [] Cya
theorem Lkb : fEb Tryz.prog th S14 := Ljb.addF rfl
abbrev Wna : List Shp := [(.ty .str)]
noncomputable def Qfa : ByteArray × Unit → Option (Bool × Unit) := jTa (fnT Tryz.prog th (S14 jKa lIa bFb) 153 Wna (.ty .bool) [])
noncomputable def Vxa (s0 : ByteArray) (fk : Fk) (bd : Bd) (sm : Sm) : Option (Bool × Unit) :=
    bd (Qga (s0, ())) fun y0 => some (!y0.1, ())
theorem Atb (s0) : Qfa (s0, ()) = Vxa s0 jKa lIa bFb := eqF (S := S14) fun _ _ _ => by kernel_rfl
noncomputable def S15 : OCs := addF S14 Tryz.prog 153 Wna (.ty .bool) [] Qfa
theorem Llb : fEb Tryz.prog th S15 := Lkb.addF rfl
abbrev Dya : fCa := ⟨[], [], [], [], [(.ty (.list .str)), (.func 153 [] []), (.st (.int .i64 0)), (.ty (.int .i64)), (.ty (.int .i64))]⟩
abbrev Eba : List sQa := [⟨.ret, ⟨[], [], [], [], [(.ty (.list .str)), (.func 153 [] []), (.ty (.int .i64)), (.ty (.int .i64)), (.ty (.int .i64))]⟩⟩, ⟨(.exit 0), ⟨[], [], [], [], [(.ty (.list .str)), (.func 153 [] []), (.st (.int .i64 0)), (.ty (.int .i64)), (.ty (.int .i64))]⟩⟩]
noncomputable def Ama : List ByteArray × Int × Int × Unit → Option ((List ByteArray × Int × Int × Int × Unit) ⊕ (List ByteArray × Int × Int × Unit)) := jTa (pBa (nHa Tryz.prog th (S15 jKa lIa bFb) 193 2 Dya Eba))
noncomputable def Aza (l0 : List ByteArray) (i1 : Int) (i2 : Int) (fk : Fk) (bd : Bd) (sm : Sm) : Option ((List ByteArray × Int × Int × Unit) ⊕ ((List ByteArray × Int × Int × Int × Unit) ⊕ (List ByteArray × Int × Int × Unit))) :=
    fk (decide (i2 < i1)) (fk (decide ((0 : Int) ≤ i2)) (fk (decide (i2 < (↑(List.length l0) : Int))) (bd (Qfa (List.getD l0 (Int.toNat i2) ByteArray.empty, ())) fun y0 => fk y0.1 (some (Sum.inr (Sum.inl (l0, i2, i1, i2, ())))) (some (Sum.inl (l0, i1, IntKind.wrap IntKind.i64 (i2 + (1 : Int)), ())))) none) none) (some (Sum.inr (Sum.inr (l0, i1, i2, ()))))
theorem Dea (l0 i1 i2) : Ama (l0, i1, i2, ()) = (Aza l0 i1 i2 jKa lIa bFb).bind (Sum.elim Ama some) := eqL (S := S15) fun _ _ _ => by kernel_rfl
noncomputable def S16 : OCs := addL S15 Tryz.prog 193 2 Dya Eba Ama
theorem Lmb : fEb Tryz.prog th S16 := Llb.addL (by kernel_rfl) (by kernel_rfl) (by kernel_rfl) rfl
abbrev Bqb : List Shp := [(.ty (.list .str))]
noncomputable def Qea : List ByteArray × Unit → Option (Bool × Unit) := jTa (fnT Tryz.prog th (S16 jKa lIa bFb) 112 Bqb (.ty .bool) [])
noncomputable def Saa (l0 : List ByteArray) (fk : Fk) (bd : Bd) (sm : Sm) : Option (Bool × Unit) :=
    fk (decide ((↑(List.length l0) : Int) ≤ (200 : Int))) (bd (Ama (l0, (↑(List.length l0) : Int), (0 : Int), ())) fun y0 => sm y0 (fun y1 => some (!decide (y1.2.1 ≥ (0 : Int)), ())) fun y2 => some (true, ())) (some (false, ()))
theorem Eib (l0) : Qea (l0, ()) = Saa l0 jKa lIa bFb := eqF (S := S16) fun _ _ _ => by kernel_rfl
noncomputable def S17 : OCs := addF S16 Tryz.prog 112 Bqb (.ty .bool) [] Qea
theorem Lnb : fEb Tryz.prog th S17 := Lmb.addF rfl
abbrev Bib : List Shp := [(.ty Y5)]
noncomputable def Sja : D4 × Unit → Option (Bool × Unit) := jTa (fnT Tryz.prog th (S17 jKa lIa bFb) 199 Bib (.ty .bool) [])
noncomputable def Npa (x0 : Int × List ByteArray × List ByteArray × Unit) (fk : Fk) (bd : Bd) (sm : Sm) : Option (Bool × Unit) :=
    fk (decide (x0.1 ≥ (0 : Int))) (fk (decide (x0.1 ≤ (1048576 : Int))) (bd (Qea (x0.2.1, ())) fun y0 => fk y0.1 (bd (Qea (x0.2.2.1, ())) fun y1 => some (y1.1, ())) (some (false, ()))) (some (false, ()))) (some (false, ()))
theorem Dtb (x0) : Sja (x0, ()) = Npa x0 jKa lIa bFb := eqF (S := S17) fun _ _ _ => by kernel_rfl
noncomputable def S18 : OCs := addF S17 Tryz.prog 199 Bib (.ty .bool) [] Sja
theorem Lob : fEb Tryz.prog th S18 := Lnb.addF rfl
abbrev Iia : List Shp := [(.ty Y1)]
noncomputable def Bta : D0 × Unit → Option (Bool × Unit) := jTa (fnT Tryz.prog th (S18 jKa lIa bFb) 162 Iia (.ty .bool) [])
noncomputable def Iga (x0 : Int × ByteArray × ByteArray × D4 × Unit) (fk : Fk) (bd : Bd) (sm : Sm) : Option (Bool × Unit) :=
    bd (Cda ((x0.1, x0.2.1, x0.2.2.1, (x0.2.2.2.1.1, x0.2.2.2.1.2.1, x0.2.2.2.1.2.2.1, ()), ()), ())) fun y0 => fk y0.1 (bd (Sja ((x0.2.2.2.1.1, x0.2.2.2.1.2.1, x0.2.2.2.1.2.2.1, ()), ())) fun y1 => some (y1.1, ())) (some (false, ()))
theorem Mea (x0) : Bta (x0, ()) = Iga x0 jKa lIa bFb := eqF (S := S18) fun _ _ _ => by kernel_rfl
noncomputable def S19 : OCs := addF S18 Tryz.prog 162 Iia (.ty .bool) [] Bta
theorem Lpb : fEb Tryz.prog th S19 := Lob.addF rfl
abbrev Jpa : List Shp := [(.ty Y1)]
noncomputable def Dka : D0 × Unit → Option (Bool × Unit) := jTa (fnT Tryz.prog th (S19 jKa lIa bFb) 164 Jpa (.ty .bool) [])
noncomputable def Jna (x0 : Int × ByteArray × ByteArray × D4 × Unit) (fk : Fk) (bd : Bd) (sm : Sm) : Option (Bool × Unit) :=
    bd (Bta ((x0.1, x0.2.1, x0.2.2.1, (x0.2.2.2.1.1, x0.2.2.2.1.2.1, x0.2.2.2.1.2.2.1, ()), ()), ())) fun y0 => fk y0.1 (some (x0.2.2.2.1.1 == (0 : Int), ())) (some (false, ()))
theorem Pfa (x0) : Dka (x0, ()) = Jna x0 jKa lIa bFb := eqF (S := S19) fun _ _ _ => by kernel_rfl
noncomputable def S20 : OCs := addF S19 Tryz.prog 164 Jpa (.ty .bool) [] Dka
theorem Lqb : fEb Tryz.prog th S20 := Lpb.addF rfl
abbrev Bmb : List Shp := [(.ty Y1)]
noncomputable def Tea : D0 × Unit → Option (Bool × Unit) := jTa (fnT Tryz.prog th (S20 jKa lIa bFb) 77 Bmb (.ty .bool) [])
noncomputable def Bcb (x0 : Int × ByteArray × ByteArray × D4 × Unit) (fk : Fk) (bd : Bd) (sm : Sm) : Option (Bool × Unit) :=
    let z0 := ((x0.1, x0.2.1, x0.2.2.1, (x0.2.2.2.1.1, x0.2.2.2.1.2.1, x0.2.2.2.1.2.2.1, ()), ()), ())
    fk (decide (x0.1 ≥ (0 : Int))) (fk (decide (x0.1 < (5 : Int))) (fk (decide (x0.1 = (↑(0 : Nat) : Int))) (bd (Bxa z0) fun y0 => some (y0.1, ())) (fk (decide (x0.1 = (↑((0 : Nat) + (1 : Nat)) : Int))) (bd (Bxa z0) fun y1 => some (y1.1, ())) (fk (decide (x0.1 = (↑((0 : Nat) + (1 : Nat) + (1 : Nat)) : Int))) (bd (Cya z0) fun y2 => some (y2.1, ())) (fk (decide (x0.1 = (↑((0 : Nat) + (1 : Nat) + (1 : Nat) + (1 : Nat)) : Int))) (bd (Bta z0) fun y3 => some (y3.1, ())) (fk (decide (x0.1 = (↑((0 : Nat) + (1 : Nat) + (1 : Nat) + (1 : Nat) + (1 : Nat)) : Int))) (bd (Dka z0) fun y4 => some (y4.1, ())) none))))) (some (false, ()))) (some (false, ()))
theorem Ebb (x0) : Tea (x0, ()) = Bcb x0 jKa lIa bFb := eqF (S := S20) fun _ _ _ => by kernel_rfl
noncomputable def S21 : OCs := addF S20 Tryz.prog 77 Bmb (.ty .bool) [] Tea
theorem Lrb : fEb Tryz.prog th S21 := Lqb.addF rfl
abbrev Wha : List Shp := [(.ty Y1)]
noncomputable def Pya : D0 × Unit → Option (Bool × Unit) := jTa (fnT Tryz.prog th (S21 jKa lIa bFb) 76 Wha (.ty .bool) [])
noncomputable def Vra (x0 : Int × ByteArray × ByteArray × D4 × Unit) (fk : Fk) (bd : Bd) (sm : Sm) : Option (Bool × Unit) :=
    bd (Tea ((x0.1, x0.2.1, x0.2.2.1, (x0.2.2.2.1.1, x0.2.2.2.1.2.1, x0.2.2.2.1.2.2.1, ()), ()), ())) fun y0 => some (!y0.1, ())
theorem Abb (x0) : Pya (x0, ()) = Vra x0 jKa lIa bFb := eqF (S := S21) fun _ _ _ => by kernel_rfl
noncomputable def S22 : OCs := addF S21 Tryz.prog 76 Wha (.ty .bool) [] Pya
theorem Lsb : fEb Tryz.prog th S22 := Lrb.addF rfl
abbrev Ffa : fCa := ⟨[], [], [], [], [(.ty (.list Y1)), (.func 76 [] []), (.st (.int .i64 0)), (.ty (.int .i64)), (.ty (.int .i64))]⟩
abbrev Foa : List sQa := [⟨.ret, ⟨[], [], [], [], [(.ty (.list Y1)), (.func 76 [] []), (.ty (.int .i64)), (.ty (.int .i64)), (.ty (.int .i64))]⟩⟩, ⟨(.exit 0), ⟨[], [], [], [], [(.ty (.list Y1)), (.func 76 [] []), (.st (.int .i64 0)), (.ty (.int .i64)), (.ty (.int .i64))]⟩⟩]
noncomputable def Awa : (List D0) × Int × Int × Unit → Option (((List D0) × Int × Int × Int × Unit) ⊕ ((List D0) × Int × Int × Unit)) := jTa (pBa (nHa Tryz.prog th (S22 jKa lIa bFb) 124 2 Ffa Foa))
noncomputable def Bma (l0 : List D0) (i1 : Int) (i2 : Int) (fk : Fk) (bd : Bd) (sm : Sm) : Option (((List D0) × Int × Int × Unit) ⊕ (((List D0) × Int × Int × Int × Unit) ⊕ ((List D0) × Int × Int × Unit))) :=
    let z0 := (List.getD l0 (Int.toNat i2) ((0 : Int), ByteArray.empty, ByteArray.empty, ((0 : Int), @List.nil ByteArray, @List.nil ByteArray, ()), ()))
    fk (decide (i2 < i1)) (fk (decide ((0 : Int) ≤ i2)) (fk (decide (i2 < (↑(List.length l0) : Int))) (bd (Pya ((z0.1, z0.2.1, z0.2.2.1, (z0.2.2.2.1.1, z0.2.2.2.1.2.1, z0.2.2.2.1.2.2.1, ()), ()), ())) fun y0 => fk y0.1 (some (Sum.inr (Sum.inl (l0, i2, i1, i2, ())))) (some (Sum.inl (l0, i1, IntKind.wrap IntKind.i64 (i2 + (1 : Int)), ())))) none) none) (some (Sum.inr (Sum.inr (l0, i1, i2, ()))))
theorem Eha (l0 i1 i2) : Awa (l0, i1, i2, ()) = (Bma l0 i1 i2 jKa lIa bFb).bind (Sum.elim Awa some) := eqL (S := S22) fun _ _ _ => by kernel_rfl
noncomputable def S23 : OCs := addL S22 Tryz.prog 124 2 Ffa Foa Awa
theorem Ltb : fEb Tryz.prog th S23 := Lsb.addL (by kernel_rfl) (by kernel_rfl) (by kernel_rfl) rfl
abbrev Bhb : List Shp := [(.ty (.list Y1))]
noncomputable def Kwa : (List D0) × Unit → Option (Bool × Unit) := jTa (fnT Tryz.prog th (S23 jKa lIa bFb) 29 Bhb (.ty .bool) [])
noncomputable def Vqa (l0 : List D0) (fk : Fk) (bd : Bd) (sm : Sm) : Option (Bool × Unit) :=
    bd (Awa (l0, (↑(List.length l0) : Int), (0 : Int), ())) fun y0 => sm y0 (fun y1 => some (!decide (y1.2.1 ≥ (0 : Int)), ())) fun y2 => some (true, ())
theorem Dsb (l0) : Kwa (l0, ()) = Vqa l0 jKa lIa bFb := eqF (S := S23) fun _ _ _ => by kernel_rfl
noncomputable def S24 : OCs := addF S23 Tryz.prog 29 Bhb (.ty .bool) [] Kwa
theorem Lub : fEb Tryz.prog th S24 := Ltb.addF rfl
abbrev Yya : List Shp := [(.ty Y0)]
noncomputable def Tba : D1 × Unit → Option (Bool × Unit) := jTa (fnT Tryz.prog th (S24 jKa lIa bFb) 54 Yya (.ty .bool) [])
noncomputable def Ypa (x0 : D3 × (List D3) × ByteArray × (List D0) × Unit) (fk : Fk) (bd : Bd) (sm : Sm) : Option (Bool × Unit) :=
    bd (Tca ((x0.1.1, x0.1.2.1, ()), ())) fun y0 => fk y0.1 (fk (decide ((↑(List.length x0.2.1) : Int) ≤ (60 : Int))) (bd (Aoa (x0.1.1, x0.1.2.1, x0.2.1, x0.2.2.1, x0.2.2.2.1, x0.2.1, (↑(List.length x0.2.1) : Int), (0 : Int), ())) fun y1 => sm y1 (fun y2 => fk (!decide (y2.2.2.2.2.2.2.1 ≥ (0 : Int))) (bd (Cka (y2.1, y2.2.1, y2.2.2.1, y2.2.2.2.1, y2.2.2.2.2.1, y2.2.2.1, (↑(List.length y2.2.2.1) : Int), (0 : Int), ())) fun y3 => sm y3 (fun y4 => some (false, ())) fun y5 => bd (Qga (y5.2.2.2.1, ())) fun y6 => fk y6.1 (fk (decide ((↑(List.length y5.2.2.2.2.1) : Int) ≤ (200 : Int))) (bd (Kwa (y5.2.2.2.2.1, ())) fun y7 => some (y7.1, ())) (some (false, ()))) (some (false, ()))) (some (false, ()))) fun y8 => bd (Cka (y8.1, y8.2.1, y8.2.2.1, y8.2.2.2.1, y8.2.2.2.2.1, y8.2.2.1, (↑(List.length y8.2.2.1) : Int), (0 : Int), ())) fun y9 => sm y9 (fun y10 => some (false, ())) fun y11 => bd (Qga (y11.2.2.2.1, ())) fun y12 => fk y12.1 (fk (decide ((↑(List.length y11.2.2.2.2.1) : Int) ≤ (200 : Int))) (bd (Kwa (y11.2.2.2.2.1, ())) fun y13 => some (y13.1, ())) (some (false, ()))) (some (false, ()))) (some (false, ()))) (some (false, ()))
theorem Ctb (x0) : Tba (x0, ()) = Ypa x0 jKa lIa bFb := eqF (S := S24) fun _ _ _ => by kernel_rfl
noncomputable def S25 : OCs := addF S24 Tryz.prog 54 Yya (.ty .bool) [] Tba
theorem Lvb : fEb Tryz.prog th S25 := Lub.addF rfl
abbrev Era : fCa := ⟨[], [], [[(.ty (.int .i64)), (.ty (.int .i64))]], [], [(.ty (.list Y0)), (.func 110 [] [(.bptr 0 0)]), (.st (.int .i64 0)), (.ty (.int .i64)), (.ty (.int .i64))]⟩
abbrev Eva : List sQa := [⟨.ret, ⟨[], [], [[(.ty (.int .i64)), (.ty (.int .i64))]], [], [(.ty (.list Y0)), (.func 110 [] [(.bptr 0 0)]), (.ty (.int .i64)), (.ty (.int .i64)), (.ty (.int .i64))]⟩⟩, ⟨(.exit 0), ⟨[], [], [[(.ty (.int .i64)), (.ty (.int .i64))]], [], [(.ty (.list Y0)), (.func 110 [] [(.bptr 0 0)]), (.st (.int .i64 0)), (.ty (.int .i64)), (.ty (.int .i64))]⟩⟩]
noncomputable def Asa : Int × Int × (List D1) × Int × Int × Unit → Option ((Int × Int × (List D1) × Int × Int × Int × Unit) ⊕ (Int × Int × (List D1) × Int × Int × Unit)) := jTa (pBa (nHa Tryz.prog th (S25 jKa lIa bFb) 109 2 Era Eva))
noncomputable def Bha (i0 : Int) (i1 : Int) (l2 : List D1) (i3 : Int) (i4 : Int) (fk : Fk) (bd : Bd) (sm : Sm) : Option ((Int × Int × (List D1) × Int × Int × Unit) ⊕ ((Int × Int × (List D1) × Int × Int × Int × Unit) ⊕ (Int × Int × (List D1) × Int × Int × Unit))) :=
    let z0 := (List.getD l2 (Int.toNat i4) (((0 : Int), (0 : Int), ()), @List.nil D3, ByteArray.empty, @List.nil D0, ()))
    fk (decide (i4 < i3)) (fk (decide ((0 : Int) ≤ i4)) (fk (decide (i4 < (↑(List.length l2) : Int))) (fk (z0.1.1 == i0 && (z0.1.2.1 == i1 && true)) (some (Sum.inr (Sum.inl (i0, i1, l2, i4, i3, i4, ())))) (some (Sum.inl (i0, i1, l2, i3, IntKind.wrap IntKind.i64 (i4 + (1 : Int)), ())))) none) none) (some (Sum.inr (Sum.inr (i0, i1, l2, i3, i4, ()))))
theorem Doa (i0 i1 l2 i3 i4) : Asa (i0, i1, l2, i3, i4, ()) = (Bha i0 i1 l2 i3 i4 jKa lIa bFb).bind (Sum.elim Asa some) := eqL (S := S25) fun _ _ _ => by kernel_rfl
noncomputable def S26 : OCs := addL S25 Tryz.prog 109 2 Era Eva Asa
theorem Lwb : fEb Tryz.prog th S26 := Lvb.addL (by kernel_rfl) (by kernel_rfl) (by kernel_rfl) rfl
abbrev Wja : List Shp := [(.ty (.list Y0)), (.ty Y3)]
noncomputable def Qba : (List D1) × D3 × Unit → Option (Int × Unit) := jTa (fnT Tryz.prog th (S26 jKa lIa bFb) 55 Wja (.ty (.int .i64)) [])
noncomputable def Vta (l0 : List D1) (x1 : Int × Int × Unit) (fk : Fk) (bd : Bd) (sm : Sm) : Option (Int × Unit) :=
    bd (Asa (x1.1, x1.2.1, l0, (↑(List.length l0) : Int), (0 : Int), ())) fun y0 => sm y0 (fun y1 => some (y1.2.2.2.1, ())) fun y2 => some ((-1 : Int), ())
theorem Alb (l0 x1) : Qba (l0, x1, ()) = Vta l0 x1 jKa lIa bFb := eqF (S := S26) fun _ _ _ => by kernel_rfl
noncomputable def S27 : OCs := addF S26 Tryz.prog 55 Wja (.ty (.int .i64)) [] Qba
theorem Lxb : fEb Tryz.prog th S27 := Lwb.addF rfl
abbrev Usa : fCa := ⟨[], [], [[(.ty (.int .i64)), (.ty (.list Y0)), (.ty Y2), (.ty Y2), (.ty (.int .i64))]], [], [(.bptr 0 0), (.st (.bool false)), (.ty (.list Y0)), (.ty (.int .i64)), (.ty (.int .i64))]⟩
abbrev Uya : List sQa := [⟨.ret, ⟨[], [], [[(.ty (.int .i64)), (.ty (.list Y0)), (.ty Y2), (.ty Y2), (.ty (.int .i64))], [(.ty (.int .i64)), (.ty (.int .i64)), (.ty (.list Y3)), (.ty .str), (.ty (.list Y1))]], [], [(.bptr 0 0), (.st (.bool false)), (.ty (.list Y0)), (.ty (.int .i64)), (.ty (.int .i64))]⟩⟩, ⟨(.exit 0), ⟨[], [], [[(.ty (.int .i64)), (.ty (.list Y0)), (.ty Y2), (.ty Y2), (.ty (.int .i64))]], [], [(.bptr 0 0), (.st (.bool false)), (.ty (.list Y0)), (.ty (.int .i64)), (.ty (.int .i64))]⟩⟩]
noncomputable def Hxa : Int × (List D1) × (List D2) × (List D2) × Int × (List D1) × Int × Int × Unit → Option ((Int × (List D1) × (List D2) × (List D2) × Int × Int × Int × (List D3) × ByteArray × (List D0) × (List D1) × Int × Int × Unit) ⊕ (Int × (List D1) × (List D2) × (List D2) × Int × (List D1) × Int × Int × Unit)) := jTa (pBa (nHa Tryz.prog th (S27 jKa lIa bFb) 20 4 Usa Uya))
noncomputable def Dta (i0 : Int) (l1 : List D1) (l2 : List D2) (l3 : List D2) (i4 : Int) (l5 : List D1) (i6 : Int) (i7 : Int) (fk : Fk) (bd : Bd) (sm : Sm) : Option ((Int × (List D1) × (List D2) × (List D2) × Int × (List D1) × Int × Int × Unit) ⊕ ((Int × (List D1) × (List D2) × (List D2) × Int × Int × Int × (List D3) × ByteArray × (List D0) × (List D1) × Int × Int × Unit) ⊕ (Int × (List D1) × (List D2) × (List D2) × Int × (List D1) × Int × Int × Unit))) :=
    let z0 := (List.getD l5 (Int.toNat i7) (((0 : Int), (0 : Int), ()), @List.nil D3, ByteArray.empty, @List.nil D0, ()))
    let z1 := (some (Sum.inr (Sum.inl (i0, l1, l2, l3, i4, z0.1.1, z0.1.2.1, z0.2.1, z0.2.2.1, z0.2.2.2.1, l5, i6, i7, ()))))
    fk (decide (i7 < i6)) (fk (decide ((0 : Int) ≤ i7)) (fk (decide (i7 < (↑(List.length l5) : Int))) (bd (Tba (((z0.1.1, z0.1.2.1, ()), z0.2.1, z0.2.2.1, z0.2.2.2.1, ()), ())) fun y0 => fk (!y0.1) z1 (bd (Qba (l1, (z0.1.1, z0.1.2.1, ()), ())) fun y1 => fk (decide (y1.1 < i7)) z1 (fk (z0.1.1 == i0) (fk (decide (z0.1.2.1 > i4)) z1 (some (Sum.inl (i0, l1, l2, l3, i4, l5, i6, IntKind.wrap IntKind.i64 (i7 + (1 : Int)), ())))) (some (Sum.inl (i0, l1, l2, l3, i4, l5, i6, IntKind.wrap IntKind.i64 (i7 + (1 : Int)), ())))))) none) none) (some (Sum.inr (Sum.inr (i0, l1, l2, l3, i4, l5, i6, i7, ()))))
theorem Rca (i0 l1 l2 l3 i4 l5 i6 i7) : Hxa (i0, l1, l2, l3, i4, l5, i6, i7, ()) = (Dta i0 l1 l2 l3 i4 l5 i6 i7 jKa lIa bFb).bind (Sum.elim Hxa some) := eqL (S := S27) fun _ _ _ => by kernel_rfl
noncomputable def S28 : OCs := addL S27 Tryz.prog 20 4 Usa Uya Hxa
theorem Lyb : fEb Tryz.prog th S28 := Lxb.addL (by kernel_rfl) (by kernel_rfl) (by kernel_rfl) rfl
abbrev Sha : fCa := ⟨[⟨Y1, 72, 6, true⟩], [], [], [], [.nils, (.mref 0), (.ty (.list Y0)), (.ty (.int .i64)), (.ty (.int .i64))]⟩
abbrev Sxa : List sQa := [⟨(.exit 0), ⟨[⟨Y1, 72, 6, true⟩], [], [], [], [.nils, (.mref 0), (.ty (.list Y0)), (.ty (.int .i64)), (.ty (.int .i64))]⟩⟩]
noncomputable def Ina : (List D0) × (List D1) × Int × Int × Unit → Option ((List D0) × (List D1) × Int × Int × Unit) := jTa (pBa (nHa Tryz.prog th (S28 jKa lIa bFb) 91 3 Sha Sxa))
noncomputable def Lza (l0 : List D0) (l1 : List D1) (i2 : Int) (i3 : Int) (fk : Fk) (bd : Bd) (sm : Sm) : Option (((List D0) × (List D1) × Int × Int × Unit) ⊕ ((List D0) × (List D1) × Int × Int × Unit)) :=
    let z0 := (List.getD l1 (Int.toNat i3) (((0 : Int), (0 : Int), ()), @List.nil D3, ByteArray.empty, @List.nil D0, ()))
    fk (decide (i3 < i2)) (fk (decide ((0 : Int) ≤ i3)) (fk (decide (i3 < (↑(List.length l1) : Int))) (fk (decide (List.length l0 = List.length l0)) (fk (decide (List.length (l0 ++ z0.2.2.2.1) ≤ bBa)) (fk (decide (List.length (l0 ++ z0.2.2.2.1) = List.length (l0 ++ z0.2.2.2.1))) (some (Sum.inl (l0 ++ z0.2.2.2.1, l1, i2, IntKind.wrap IntKind.i64 (i3 + (1 : Int)), ()))) none) none) none) none) none) (fk (decide (List.length l0 = List.length l0)) (some (Sum.inr (l0, l1, i2, i3, ()))) none)
theorem Pca (l0 l1 i2 i3) : Ina (l0, l1, i2, i3, ()) = (Lza l0 l1 i2 i3 jKa lIa bFb).bind (Sum.elim Ina some) := eqL (S := S28) fun _ _ _ => by kernel_rfl
noncomputable def S29 : OCs := addL S28 Tryz.prog 91 3 Sha Sxa Ina
theorem Lzb : fEb Tryz.prog th S29 := Lyb.addL (by kernel_rfl) (by kernel_rfl) (by kernel_rfl) rfl
abbrev Yxa : List Shp := [(.ty (.list Y0))]
noncomputable def Taa : (List D1) × Unit → Option D35 := jTa (fnT Tryz.prog th (S29 jKa lIa bFb) 91 Yxa (.ty (.list Y1)) [])
noncomputable def Yoa (l0 : List D1) (fk : Fk) (bd : Bd) (sm : Sm) : Option D35 :=
    fk (decide (List.length (@List.nil D0) = (0 : Nat))) (bd (Ina (@List.nil D0, l0, (↑(List.length l0) : Int), (0 : Int), ())) fun y0 => fk (decide (List.length y0.1 = List.length y0.1)) (some (y0.1, ())) none) none
theorem Crb (l0) : Taa (l0, ()) = Yoa l0 jKa lIa bFb := eqF (S := S29) fun _ _ _ => by kernel_rfl
noncomputable def S30 : OCs := addF S29 Tryz.prog 91 Yxa (.ty (.list Y1)) [] Taa
theorem Mab : fEb Tryz.prog th S30 := Lzb.addF rfl
abbrev Fea : fCa := ⟨[], [], [[(.ty .str)]], [], [(.ty Y2), (.func 120 [] [(.bptr 0 0)]), (.st (.int .i64 0)), (.ty (.int .i64)), (.ty (.int .i64))]⟩
abbrev Fna : List sQa := [⟨.ret, ⟨[], [], [[(.ty .str)]], [], [(.ty Y2), (.func 120 [] [(.bptr 0 0)]), (.ty (.int .i64)), (.ty (.int .i64)), (.ty (.int .i64))]⟩⟩, ⟨(.exit 0), ⟨[], [], [[(.ty .str)]], [], [(.ty Y2), (.func 120 [] [(.bptr 0 0)]), (.st (.int .i64 0)), (.ty (.int .i64)), (.ty (.int .i64))]⟩⟩]
noncomputable def Ava : ByteArray × (List D2) × Int × Int × Unit → Option ((ByteArray × (List D2) × Int × Int × Int × Unit) ⊕ (ByteArray × (List D2) × Int × Int × Unit)) := jTa (pBa (nHa Tryz.prog th (S30 jKa lIa bFb) 123 2 Fea Fna))
noncomputable def Bla (s0 : ByteArray) (l1 : List D2) (i2 : Int) (i3 : Int) (fk : Fk) (bd : Bd) (sm : Sm) : Option ((ByteArray × (List D2) × Int × Int × Unit) ⊕ ((ByteArray × (List D2) × Int × Int × Int × Unit) ⊕ (ByteArray × (List D2) × Int × Int × Unit))) :=
    fk (decide (i3 < i2)) (fk (decide ((0 : Int) ≤ i3)) (fk (decide (i3 < (↑(List.length l1) : Int))) (fk (ByteArray.toList (List.getD l1 (Int.toNat i3) (ByteArray.empty, @List.nil ByteArray, ())).1 == ByteArray.toList s0) (some (Sum.inr (Sum.inl (s0, l1, i3, i2, i3, ())))) (some (Sum.inl (s0, l1, i2, IntKind.wrap IntKind.i64 (i3 + (1 : Int)), ())))) none) none) (some (Sum.inr (Sum.inr (s0, l1, i2, i3, ()))))
theorem Ega (s0 l1 i2 i3) : Ava (s0, l1, i2, i3, ()) = (Bla s0 l1 i2 i3 jKa lIa bFb).bind (Sum.elim Ava some) := eqL (S := S30) fun _ _ _ => by kernel_rfl
noncomputable def S31 : OCs := addL S30 Tryz.prog 123 2 Fea Fna Ava
theorem Mbb : fEb Tryz.prog th S31 := Mab.addL (by kernel_rfl) (by kernel_rfl) (by kernel_rfl) rfl
abbrev Wra : List Shp := [(.ty Y2), (.ty .str)]
noncomputable def Jma : (List D2) × ByteArray × Unit → Option (Int × Unit) := jTa (fnT Tryz.prog th (S31 jKa lIa bFb) 68 Wra (.ty (.int .i64)) [])
noncomputable def Rla (l0 : List D2) (s1 : ByteArray) (fk : Fk) (bd : Bd) (sm : Sm) : Option (Int × Unit) :=
    bd (Ava (s1, l0, (↑(List.length l0) : Int), (0 : Int), ())) fun y0 => sm y0 (fun y1 => fk (decide (y1.2.2.1 ≥ (0 : Int))) (some (y1.2.2.1, ())) (some ((↑(List.length l0) : Int), ()))) fun y2 => some ((↑(List.length l0) : Int), ())
theorem Ayb (l0 s1) : Jma (l0, s1, ()) = Rla l0 s1 jKa lIa bFb := eqF (S := S31) fun _ _ _ => by kernel_rfl
noncomputable def S32 : OCs := addF S31 Tryz.prog 68 Wra (.ty (.int .i64)) [] Jma
theorem Mcb : fEb Tryz.prog th S32 := Mbb.addF rfl
abbrev Btb : List Shp := [(.ty Y2), (.ty .str)]
noncomputable def Dpa : (List D2) × ByteArray × Unit → Option D38 := jTa (fnT Tryz.prog th (S32 jKa lIa bFb) 27 Btb (.tuple [(.ty (.list .str)), (.ty .bool)]) [])
noncomputable def Wba (l0 : List D2) (s1 : ByteArray) (fk : Fk) (bd : Bd) (sm : Sm) : Option D38 :=
    bd (Jma (l0, s1, ())) fun y0 => fk (decide (y0.1 < (↑(List.length l0) : Int))) (fk (decide ((0 : Int) ≤ y0.1)) (fk (decide (y0.1 < (↑(List.length l0) : Int))) (fk (decide (List.length (List.getD l0 (Int.toNat y0.1) (ByteArray.empty, @List.nil ByteArray, ())).2.1 ≤ bBa)) (fk (decide (List.length (List.getD l0 (Int.toNat y0.1) (ByteArray.empty, @List.nil ByteArray, ())).2.1 = List.length (List.getD l0 (Int.toNat y0.1) (ByteArray.empty, @List.nil ByteArray, ())).2.1)) (some ((List.getD l0 (Int.toNat y0.1) (ByteArray.empty, @List.nil ByteArray, ())).2.1, true, ())) none) none) none) none) (some (@List.nil ByteArray, false, ()))
theorem Elb (l0 s1) : Dpa (l0, s1, ()) = Wba l0 s1 jKa lIa bFb := eqF (S := S32) fun _ _ _ => by kernel_rfl
noncomputable def S33 : OCs := addF S32 Tryz.prog 27 Btb (.tuple [(.ty (.list .str)), (.ty .bool)]) [] Dpa
theorem Mdb : fEb Tryz.prog th S33 := Mcb.addF rfl
abbrev Bxb : List Shp := [(.ty .str), (.ty (.list .str))]
noncomputable def Kxa : ByteArray × List ByteArray × Unit → Option (D2 × Unit) := jTa (fnT Tryz.prog th (S33 jKa lIa bFb) 71 Bxb (.ty Y6) [])
noncomputable def Bgb (s0 : ByteArray) (l1 : List ByteArray) (fk : Fk) (bd : Bd) (sm : Sm) : Option (D2 × Unit) :=
    fk (decide (List.length l1 ≤ bBa)) (fk (decide (List.length l1 = List.length l1)) (some ((s0, l1, ()), ())) none) none
theorem Epb (s0 l1) : Kxa (s0, l1, ()) = Bgb s0 l1 jKa lIa bFb := eqF (S := S33) fun _ _ _ => by kernel_rfl
noncomputable def S34 : OCs := addF S33 Tryz.prog 71 Bxb (.ty Y6) [] Kxa
theorem Meb : fEb Tryz.prog th S34 := Mdb.addF rfl
abbrev Uua : fCa := ⟨[⟨Y6, 98, 2, true⟩, ⟨Y6, 98, 2, true⟩], [], [], [], [(.mref 0), (.mref 1), (.ty Y2), (.ty (.int .i64)), (.ty (.int .i64))]⟩
abbrev Vaa : List sQa := [⟨(.exit 0), ⟨[⟨Y6, 98, 2, true⟩, ⟨Y6, 98, 2, true⟩], [], [], [], [(.mref 0), (.mref 1), (.ty Y2), (.ty (.int .i64)), (.ty (.int .i64))]⟩⟩]
noncomputable def Kia : (List D2) × (List D2) × (List D2) × Int × Int × Unit → Option ((List D2) × (List D2) × (List D2) × Int × Int × Unit) := jTa (pBa (nHa Tryz.prog th (S34 jKa lIa bFb) 70 3 Uua Vaa))
noncomputable def Nta (l0 : List D2) (l1 : List D2) (l2 : List D2) (i3 : Int) (i4 : Int) (fk : Fk) (bd : Bd) (sm : Sm) : Option (((List D2) × (List D2) × (List D2) × Int × Int × Unit) ⊕ ((List D2) × (List D2) × (List D2) × Int × Int × Unit)) :=
    fk (decide (i4 < i3)) (fk (decide ((0 : Int) ≤ i4)) (fk (decide (i4 < (↑(List.length l2) : Int))) (bd (Kxa ((List.getD l2 (Int.toNat i4) (ByteArray.empty, @List.nil ByteArray, ())).1, (List.getD l2 (Int.toNat i4) (ByteArray.empty, @List.nil ByteArray, ())).2.1, ())) fun y0 => fk (decide (List.length l1 = List.length l1)) (fk (decide (List.length (l1 ++ (y0.1.1, y0.1.2.1, ()) :: @List.nil D2) ≤ bBa)) (fk (decide (List.length l0 = List.length l0)) (fk (decide (List.length (l1 ++ (y0.1.1, y0.1.2.1, ()) :: @List.nil D2) = List.length (l1 ++ (y0.1.1, y0.1.2.1, ()) :: @List.nil D2))) (some (Sum.inl (l0, l1 ++ (y0.1.1, y0.1.2.1, ()) :: @List.nil D2, l2, i3, IntKind.wrap IntKind.i64 (i4 + (1 : Int)), ()))) none) none) none) none) none) none) (fk (decide (List.length l0 = List.length l0)) (fk (decide (List.length l1 = List.length l1)) (some (Sum.inr (l0, l1, l2, i3, i4, ()))) none) none)
theorem Rha (l0 l1 l2 i3 i4) : Kia (l0, l1, l2, i3, i4, ()) = (Nta l0 l1 l2 i3 i4 jKa lIa bFb).bind (Sum.elim Kia some) := eqL (S := S34) fun _ _ _ => by kernel_rfl
noncomputable def S35 : OCs := addL S34 Tryz.prog 70 3 Uua Vaa Kia
theorem Mfb : fEb Tryz.prog th S35 := Meb.addL (by kernel_rfl) (by kernel_rfl) (by kernel_rfl) rfl
abbrev Bwb : List Shp := [(.ty Y2)]
noncomputable def Tna : (List D2) × Unit → Option D36 := jTa (fnT Tryz.prog th (S35 jKa lIa bFb) 70 Bwb (.mref 0) [⟨Y6, 98, 2, true⟩])
noncomputable def Bfb (l0 : List D2) (fk : Fk) (bd : Bd) (sm : Sm) : Option D36 :=
    fk (decide (List.length (@List.nil D2) = (0 : Nat))) (fk (decide (List.length (@List.nil D2) = (0 : Nat))) (bd (Kia (@List.nil D2, @List.nil D2, l0, (↑(List.length l0) : Int), (0 : Int), ())) fun y0 => fk (decide (List.length y0.2.1 = List.length y0.2.1)) (fk (decide (List.length y0.2.1 = List.length y0.2.1)) (some (y0.2.1, ())) none) none) none) none
theorem Eob (l0) : Tna (l0, ()) = Bfb l0 jKa lIa bFb := eqF (S := S35) fun _ _ _ => by kernel_rfl
noncomputable def S36 : OCs := addF S35 Tryz.prog 70 Bwb (.mref 0) [⟨Y6, 98, 2, true⟩] Tna
theorem Mgb : fEb Tryz.prog th S36 := Mfb.addF rfl
abbrev Eqa : fCa := ⟨[⟨Y6, 98, 2, true⟩], [], [[(.ty .str)]], [], [(.mref 0), (.func 74 [] [(.bptr 0 0)]), (.st (.int .i64 0)), (.ty (.int .i64)), (.ty (.int .i64))]⟩
abbrev Eua : List sQa := [⟨.ret, ⟨[⟨Y6, 98, 2, true⟩], [], [[(.ty .str)]], [], [(.mref 0), (.func 74 [] [(.bptr 0 0)]), (.ty (.int .i64)), (.ty (.int .i64)), (.ty (.int .i64))]⟩⟩, ⟨(.exit 0), ⟨[⟨Y6, 98, 2, true⟩], [], [[(.ty .str)]], [], [(.mref 0), (.func 74 [] [(.bptr 0 0)]), (.st (.int .i64 0)), (.ty (.int .i64)), (.ty (.int .i64))]⟩⟩]
noncomputable def Ara : (List D2) × ByteArray × Int × Int × Unit → Option (((List D2) × ByteArray × Int × Int × Int × Unit) ⊕ ((List D2) × ByteArray × Int × Int × Unit)) := jTa (pBa (nHa Tryz.prog th (S36 jKa lIa bFb) 123 2 Eqa Eua))
noncomputable def Bga (l0 : List D2) (s1 : ByteArray) (i2 : Int) (i3 : Int) (fk : Fk) (bd : Bd) (sm : Sm) : Option (((List D2) × ByteArray × Int × Int × Unit) ⊕ (((List D2) × ByteArray × Int × Int × Int × Unit) ⊕ ((List D2) × ByteArray × Int × Int × Unit))) :=
    let z0 := (decide (List.length l0 = List.length l0))
    fk (decide (i3 < i2)) (fk (decide ((0 : Int) ≤ i3)) (fk z0 (fk (decide (i3 < (↑(List.length l0) : Int))) (fk z0 (fk (decide (Int.toNat i3 < List.length l0)) (fk (!(Op.bytesLess (ByteArray.toList (List.getD l0 (Int.toNat i3) (Ty.dfl (Ty.pair Ty.str (Ty.pair (Ty.list Ty.str) Ty.unit)))).1) (ByteArray.toList s1) || ByteArray.toList (List.getD l0 (Int.toNat i3) (Ty.dfl (Ty.pair Ty.str (Ty.pair (Ty.list Ty.str) Ty.unit)))).1 == ByteArray.toList s1)) (fk z0 (some (Sum.inr (Sum.inl (l0, s1, i3, i2, i3, ())))) none) (fk z0 (some (Sum.inl (l0, s1, i2, IntKind.wrap IntKind.i64 (i3 + (1 : Int)), ()))) none)) none) none) none) none) none) (fk z0 (some (Sum.inr (Sum.inr (l0, s1, i2, i3, ())))) none)
theorem Dna (l0 s1 i2 i3) : Ara (l0, s1, i2, i3, ()) = (Bga l0 s1 i2 i3 jKa lIa bFb).bind (Sum.elim Ara some) := eqL (S := S36) fun _ _ _ => by kernel_rfl
noncomputable def S37 : OCs := addL S36 Tryz.prog 123 2 Eqa Eua Ara
theorem Mhb : fEb Tryz.prog th S37 := Mgb.addL (by kernel_rfl) (by kernel_rfl) (by kernel_rfl) rfl
abbrev Bvb : List Shp := [(.ty Y2), (.ty .str), (.ty (.list .str))]
noncomputable def Iea : (List D2) × ByteArray × List ByteArray × Unit → Option D36 := jTa (fnT Tryz.prog th (S37 jKa lIa bFb) 28 Bvb (.ty Y2) [])
noncomputable def Sba (l0 : List D2) (s1 : ByteArray) (l2 : List ByteArray) (fk : Fk) (bd : Bd) (sm : Sm) : Option D36 :=
    let z0 := (Ty.pair Ty.str (Ty.pair (Ty.list Ty.str) Ty.unit))
    bd (Tna (l0, ())) fun y0 => fk (decide (List.length y0.1 = List.length y0.1)) (bd (Jma (y0.1, s1, ())) fun y1 => fk (decide (List.length y0.1 = List.length y0.1)) (fk (decide (y1.1 < (↑(List.length y0.1) : Int))) (bd (Kxa (s1, l2, ())) fun y2 => fk (decide ((0 : Int) ≤ y1.1)) (fk (decide (List.length y0.1 = List.length y0.1)) (fk (decide (y1.1 < (↑(List.length y0.1) : Int))) (fk (decide (List.length y0.1 = List.length y0.1)) (fk (decide (Int.toNat y1.1 < List.length y0.1)) (fk (decide (List.length (List.set y0.1 (Int.toNat y1.1) (y2.1.1, y2.1.2.1, ())) = List.length y0.1)) (some (List.set y0.1 (Int.toNat y1.1) (y2.1.1, y2.1.2.1, ()), ())) none) none) none) none) none) none) (fk (decide (List.length y0.1 = List.length y0.1)) (fk (decide (List.length y0.1 = List.length y0.1)) (bd (Ara (y0.1, s1, (↑(List.length y0.1) : Int), (0 : Int), ())) fun y3 => sm y3 (fun y4 => fk (decide (y4.2.2.1 ≥ (0 : Int))) (fk (eqT (Ty.list z0) y0.1 y4.1) (fk (eqT Ty.str s1 y4.2.1) (bd (Kxa (y4.2.1, l2, ())) fun y5 => fk (decide (List.length y4.1 = List.length y0.1)) (fk (decide ((0 : Int) ≤ y4.2.2.1)) (fk (decide (y4.2.2.1 ≤ (↑(List.length y0.1) : Int))) (fk (decide (List.length y0.1 + (1 : Nat) ≤ bBa)) (fk (decide (List.length (oPb y4.1 y4.2.2.1 ((y5.1.1, y5.1.2.1, ()) :: @List.nil (Ty.den z0))) = List.length (oPb y4.1 y4.2.2.1 ((y5.1.1, y5.1.2.1, ()) :: @List.nil (Ty.den z0))))) (some (oPb y4.1 y4.2.2.1 ((y5.1.1, y5.1.2.1, ()) :: @List.nil (Ty.den z0)), ())) none) none) none) none) none) none) none) (fk (decide (List.length y4.1 = List.length y0.1)) (fk (eqT (Ty.list z0) y0.1 y4.1) (fk (eqT Ty.str s1 y4.2.1) (bd (Kxa (y4.2.1, l2, ())) fun y6 => fk (decide (List.length y4.1 = List.length y0.1)) (fk (decide ((0 : Int) ≤ (↑(List.length y4.1) : Int))) (fk (decide ((↑(List.length y4.1) : Int) ≤ (↑(List.length y0.1) : Int))) (fk (decide (List.length y0.1 + (1 : Nat) ≤ bBa)) (fk (decide (List.length (oPb y4.1 (↑(List.length y4.1) : Int) ((y6.1.1, y6.1.2.1, ()) :: @List.nil (Ty.den z0))) = List.length (oPb y4.1 (↑(List.length y4.1) : Int) ((y6.1.1, y6.1.2.1, ()) :: @List.nil (Ty.den z0))))) (some (oPb y4.1 (↑(List.length y4.1) : Int) ((y6.1.1, y6.1.2.1, ()) :: @List.nil (Ty.den z0)), ())) none) none) none) none) none) none) none) none)) fun y7 => fk (decide (List.length y7.1 = List.length y0.1)) (fk (eqT (Ty.list z0) y0.1 y7.1) (fk (eqT Ty.str s1 y7.2.1) (bd (Kxa (y7.2.1, l2, ())) fun y8 => fk (decide (List.length y7.1 = List.length y0.1)) (fk (decide ((0 : Int) ≤ (↑(List.length y7.1) : Int))) (fk (decide ((↑(List.length y7.1) : Int) ≤ (↑(List.length y0.1) : Int))) (fk (decide (List.length y0.1 + (1 : Nat) ≤ bBa)) (fk (decide (List.length (oPb y7.1 (↑(List.length y7.1) : Int) ((y8.1.1, y8.1.2.1, ()) :: @List.nil (Ty.den z0))) = List.length (oPb y7.1 (↑(List.length y7.1) : Int) ((y8.1.1, y8.1.2.1, ()) :: @List.nil (Ty.den z0))))) (some (oPb y7.1 (↑(List.length y7.1) : Int) ((y8.1.1, y8.1.2.1, ()) :: @List.nil (Ty.den z0)), ())) none) none) none) none) none) none) none) none) none) none)) none) none
theorem Enb (l0 s1 l2) : Iea (l0, s1, l2, ()) = Sba l0 s1 l2 jKa lIa bFb := eqF (S := S37) fun _ _ _ => by kernel_rfl
noncomputable def S38 : OCs := addF S37 Tryz.prog 28 Bvb (.ty Y2) [] Iea
theorem Mib : fEb Tryz.prog th S38 := Mhb.addF rfl
abbrev Mua : List Shp := [(.ty Y1), (.ty Y2)]
noncomputable def Hha : D0 × (List D2) × Unit → Option D9 := jTa (fnT Tryz.prog th (S38 jKa lIa bFb) 158 Mua (.tuple [(.ty Y2), (.ty (.int .i64))]) [])
noncomputable def Mqa (x0 : Int × ByteArray × ByteArray × D4 × Unit) (l1 : List D2) (fk : Fk) (bd : Bd) (sm : Sm) : Option D9 :=
    bd (Dpa (l1, x0.2.1, ())) fun y0 => fk y0.2.1 (some (@List.nil D2, (5 : Int), ())) (bd (Iea (l1, x0.2.1, @List.nil ByteArray, ())) fun y1 => some (y1.1, (0 : Int), ()))
theorem Tga (x0 l1) : Hha (x0, l1, ()) = Mqa x0 l1 jKa lIa bFb := eqF (S := S38) fun _ _ _ => by kernel_rfl
noncomputable def S39 : OCs := addF S38 Tryz.prog 158 Mua (.tuple [(.ty Y2), (.ty (.int .i64))]) [] Hha
theorem Mjb : fEb Tryz.prog th S39 := Mib.addF rfl
abbrev Bsb : List Shp := [(.ty Y2), (.ty .str)]
noncomputable def Qha : (List D2) × ByteArray × Unit → Option D36 := jTa (fnT Tryz.prog th (S39 jKa lIa bFb) 113 Bsb (.ty Y2) [])
noncomputable def Waa (l0 : List D2) (s1 : ByteArray) (fk : Fk) (bd : Bd) (sm : Sm) : Option D36 :=
    let z0 := ((0 : Nat) + (0 : Nat))
    bd (Tna (l0, ())) fun y0 => fk (decide (List.length y0.1 = List.length y0.1)) (bd (Jma (y0.1, s1, ())) fun y1 => fk (decide (List.length y0.1 = List.length y0.1)) (fk (decide (y1.1 < (↑(List.length y0.1) : Int))) (fk (decide (List.length y0.1 = List.length y0.1)) (fk (decide (List.length y0.1 = List.length y0.1)) (fk (decide ((0 : Int) ≤ (↑(List.length y0.1) : Int))) (fk (decide ((↑(List.length y0.1) : Int) ≤ (↑(List.length y0.1 - (0 : Nat)) : Int))) (fk (decide ((0 : Int) ≤ IntKind.wrap IntKind.i64 (y1.1 + (1 : Int)))) (fk (decide (IntKind.wrap IntKind.i64 (y1.1 + (1 : Int)) ≤ (↑(Int.toNat (↑(List.length y0.1) : Int)) : Int))) (fk (decide ((0 : Int) ≤ y1.1)) (fk (decide (y1.1 ≤ (↑(Int.toNat (IntKind.wrap IntKind.i64 (y1.1 + (1 : Int)))) : Int))) (fk (y1.1 == IntKind.wrap IntKind.i64 (y1.1 + (1 : Int))) (fk (decide (List.length y0.1 = List.length y0.1)) (some (y0.1, ())) none) (fk (decide (List.length y0.1 = List.length y0.1)) (fk (decide (List.length y0.1 = List.length y0.1)) (fk (decide ((0 : Int) ≤ y1.1)) (fk (decide (y1.1 ≤ (↑(List.length y0.1 - (0 : Nat)) : Int))) (fk (decide (List.length y0.1 = List.length y0.1)) (fk (decide ((0 : Int) ≤ IntKind.wrap IntKind.i64 (y1.1 + (1 : Int)))) (fk (decide (IntKind.wrap IntKind.i64 (y1.1 + (1 : Int)) ≤ (↑(List.length y0.1 - (0 : Nat)) : Int))) (fk (decide (List.length y0.1 = List.length y0.1)) (fk (decide ((0 : Nat) + Int.toNat (IntKind.wrap IntKind.i64 (y1.1 + (1 : Int))) ≤ (0 : Nat) + (List.length y0.1 - (0 : Nat)))) (fk (decide ((0 : Nat) + (List.length y0.1 - (0 : Nat)) ≤ List.length y0.1)) (fk (decide (List.length y0.1 = List.length y0.1)) (fk (decide ((0 : Nat) + (0 : Nat) ≤ (0 : Nat) + Int.toNat y1.1)) (fk (decide ((0 : Nat) + Int.toNat y1.1 + List.length (List.take ((0 : Nat) + (List.length y0.1 - (0 : Nat)) - ((0 : Nat) + Int.toNat (IntKind.wrap IntKind.i64 (y1.1 + (1 : Int))))) (List.drop ((0 : Nat) + Int.toNat (IntKind.wrap IntKind.i64 (y1.1 + (1 : Int)))) y0.1)) ≤ List.length y0.1)) (fk (decide (List.length (hYb y0.1 ((0 : Nat) + Int.toNat y1.1) (List.take ((0 : Nat) + (List.length y0.1 - (0 : Nat)) - ((0 : Nat) + Int.toNat (IntKind.wrap IntKind.i64 (y1.1 + (1 : Int))))) (List.drop ((0 : Nat) + Int.toNat (IntKind.wrap IntKind.i64 (y1.1 + (1 : Int)))) y0.1))) = List.length y0.1)) (fk (decide ((0 : Nat) + (0 : Nat) ≤ (0 : Nat) + Int.toNat y1.1 + List.length (List.take ((0 : Nat) + (List.length y0.1 - (0 : Nat)) - ((0 : Nat) + Int.toNat (IntKind.wrap IntKind.i64 (y1.1 + (1 : Int))))) (List.drop ((0 : Nat) + Int.toNat (IntKind.wrap IntKind.i64 (y1.1 + (1 : Int)))) y0.1)))) (fk (decide ((0 : Nat) + Int.toNat y1.1 + List.length (List.take ((0 : Nat) + (List.length y0.1 - (0 : Nat)) - ((0 : Nat) + Int.toNat (IntKind.wrap IntKind.i64 (y1.1 + (1 : Int))))) (List.drop ((0 : Nat) + Int.toNat (IntKind.wrap IntKind.i64 (y1.1 + (1 : Int)))) y0.1)) ≤ List.length y0.1)) (fk (decide (List.length (hYb y0.1 ((0 : Nat) + Int.toNat y1.1) (List.take ((0 : Nat) + (List.length y0.1 - (0 : Nat)) - ((0 : Nat) + Int.toNat (IntKind.wrap IntKind.i64 (y1.1 + (1 : Int))))) (List.drop ((0 : Nat) + Int.toNat (IntKind.wrap IntKind.i64 (y1.1 + (1 : Int)))) y0.1))) = List.length y0.1)) (fk (decide ((0 : Nat) + (0 : Nat) ≤ (0 : Nat) + Int.toNat y1.1 + List.length (List.take ((0 : Nat) + (List.length y0.1 - (0 : Nat)) - ((0 : Nat) + Int.toNat (IntKind.wrap IntKind.i64 (y1.1 + (1 : Int))))) (List.drop ((0 : Nat) + Int.toNat (IntKind.wrap IntKind.i64 (y1.1 + (1 : Int)))) y0.1)))) (fk (decide ((0 : Nat) + Int.toNat y1.1 + List.length (List.take ((0 : Nat) + (List.length y0.1 - (0 : Nat)) - ((0 : Nat) + Int.toNat (IntKind.wrap IntKind.i64 (y1.1 + (1 : Int))))) (List.drop ((0 : Nat) + Int.toNat (IntKind.wrap IntKind.i64 (y1.1 + (1 : Int)))) y0.1)) ≤ List.length y0.1)) (fk (decide ((0 : Int) ≤ (↑(List.length y0.1) : Int))) (fk (decide ((↑(List.length y0.1) : Int) ≤ (↑(List.length (hYb y0.1 ((0 : Nat) + Int.toNat y1.1) (List.take ((0 : Nat) + (List.length y0.1 - (0 : Nat)) - ((0 : Nat) + Int.toNat (IntKind.wrap IntKind.i64 (y1.1 + (1 : Int))))) (List.drop ((0 : Nat) + Int.toNat (IntKind.wrap IntKind.i64 (y1.1 + (1 : Int)))) y0.1))) - z0) : Int))) (fk (decide ((0 : Int) ≤ (↑((0 : Nat) + Int.toNat y1.1 + List.length (List.take ((0 : Nat) + (List.length y0.1 - (0 : Nat)) - ((0 : Nat) + Int.toNat (IntKind.wrap IntKind.i64 (y1.1 + (1 : Int))))) (List.drop ((0 : Nat) + Int.toNat (IntKind.wrap IntKind.i64 (y1.1 + (1 : Int)))) y0.1)) - z0) : Int))) (fk (decide ((↑((0 : Nat) + Int.toNat y1.1 + List.length (List.take ((0 : Nat) + (List.length y0.1 - (0 : Nat)) - ((0 : Nat) + Int.toNat (IntKind.wrap IntKind.i64 (y1.1 + (1 : Int))))) (List.drop ((0 : Nat) + Int.toNat (IntKind.wrap IntKind.i64 (y1.1 + (1 : Int)))) y0.1)) - z0) : Int) ≤ (↑(Int.toNat (↑(List.length y0.1) : Int)) : Int))) (fk (decide (List.length (hYb y0.1 ((0 : Nat) + Int.toNat y1.1) (List.take ((0 : Nat) + (List.length y0.1 - (0 : Nat)) - ((0 : Nat) + Int.toNat (IntKind.wrap IntKind.i64 (y1.1 + (1 : Int))))) (List.drop ((0 : Nat) + Int.toNat (IntKind.wrap IntKind.i64 (y1.1 + (1 : Int)))) y0.1))) = List.length (hYb y0.1 ((0 : Nat) + Int.toNat y1.1) (List.take ((0 : Nat) + (List.length y0.1 - (0 : Nat)) - ((0 : Nat) + Int.toNat (IntKind.wrap IntKind.i64 (y1.1 + (1 : Int))))) (List.drop ((0 : Nat) + Int.toNat (IntKind.wrap IntKind.i64 (y1.1 + (1 : Int)))) y0.1))))) (fk (decide ((0 : Nat) + (0 : Nat) + Int.toNat (↑((0 : Nat) + Int.toNat y1.1 + List.length (List.take ((0 : Nat) + (List.length y0.1 - (0 : Nat)) - ((0 : Nat) + Int.toNat (IntKind.wrap IntKind.i64 (y1.1 + (1 : Int))))) (List.drop ((0 : Nat) + Int.toNat (IntKind.wrap IntKind.i64 (y1.1 + (1 : Int)))) y0.1)) - z0) : Int) ≤ (0 : Nat) + (0 : Nat) + Int.toNat (↑(List.length y0.1) : Int))) (fk (decide ((0 : Nat) + (0 : Nat) + Int.toNat (↑(List.length y0.1) : Int) ≤ List.length (hYb y0.1 ((0 : Nat) + Int.toNat y1.1) (List.take ((0 : Nat) + (List.length y0.1 - (0 : Nat)) - ((0 : Nat) + Int.toNat (IntKind.wrap IntKind.i64 (y1.1 + (1 : Int))))) (List.drop ((0 : Nat) + Int.toNat (IntKind.wrap IntKind.i64 (y1.1 + (1 : Int)))) y0.1))))) (fk (decide (List.length (hYb (hYb y0.1 ((0 : Nat) + Int.toNat y1.1) (List.take ((0 : Nat) + (List.length y0.1 - (0 : Nat)) - ((0 : Nat) + Int.toNat (IntKind.wrap IntKind.i64 (y1.1 + (1 : Int))))) (List.drop ((0 : Nat) + Int.toNat (IntKind.wrap IntKind.i64 (y1.1 + (1 : Int)))) y0.1))) ((0 : Nat) + (0 : Nat) + Int.toNat (↑((0 : Nat) + Int.toNat y1.1 + List.length (List.take ((0 : Nat) + (List.length y0.1 - (0 : Nat)) - ((0 : Nat) + Int.toNat (IntKind.wrap IntKind.i64 (y1.1 + (1 : Int))))) (List.drop ((0 : Nat) + Int.toNat (IntKind.wrap IntKind.i64 (y1.1 + (1 : Int)))) y0.1)) - z0) : Int)) (List.replicate ((0 : Nat) + (0 : Nat) + Int.toNat (↑(List.length y0.1) : Int) - ((0 : Nat) + (0 : Nat) + Int.toNat (↑((0 : Nat) + Int.toNat y1.1 + List.length (List.take ((0 : Nat) + (List.length y0.1 - (0 : Nat)) - ((0 : Nat) + Int.toNat (IntKind.wrap IntKind.i64 (y1.1 + (1 : Int))))) (List.drop ((0 : Nat) + Int.toNat (IntKind.wrap IntKind.i64 (y1.1 + (1 : Int)))) y0.1)) - z0) : Int))) (ByteArray.empty, @List.nil ByteArray, ()))) = List.length y0.1)) (fk (decide ((0 : Nat) + (0 : Nat) ≤ (0 : Nat) + Int.toNat y1.1 + List.length (List.take ((0 : Nat) + (List.length y0.1 - (0 : Nat)) - ((0 : Nat) + Int.toNat (IntKind.wrap IntKind.i64 (y1.1 + (1 : Int))))) (List.drop ((0 : Nat) + Int.toNat (IntKind.wrap IntKind.i64 (y1.1 + (1 : Int)))) y0.1)))) (fk (decide ((0 : Nat) + Int.toNat y1.1 + List.length (List.take ((0 : Nat) + (List.length y0.1 - (0 : Nat)) - ((0 : Nat) + Int.toNat (IntKind.wrap IntKind.i64 (y1.1 + (1 : Int))))) (List.drop ((0 : Nat) + Int.toNat (IntKind.wrap IntKind.i64 (y1.1 + (1 : Int)))) y0.1)) ≤ List.length y0.1)) (some (List.take ((0 : Nat) + Int.toNat y1.1 + List.length (List.take ((0 : Nat) + (List.length y0.1 - (0 : Nat)) - ((0 : Nat) + Int.toNat (IntKind.wrap IntKind.i64 (y1.1 + (1 : Int))))) (List.drop ((0 : Nat) + Int.toNat (IntKind.wrap IntKind.i64 (y1.1 + (1 : Int)))) y0.1)) - z0) (List.drop z0 (hYb (hYb y0.1 ((0 : Nat) + Int.toNat y1.1) (List.take ((0 : Nat) + (List.length y0.1 - (0 : Nat)) - ((0 : Nat) + Int.toNat (IntKind.wrap IntKind.i64 (y1.1 + (1 : Int))))) (List.drop ((0 : Nat) + Int.toNat (IntKind.wrap IntKind.i64 (y1.1 + (1 : Int)))) y0.1))) ((0 : Nat) + (0 : Nat) + Int.toNat (↑((0 : Nat) + Int.toNat y1.1 + List.length (List.take ((0 : Nat) + (List.length y0.1 - (0 : Nat)) - ((0 : Nat) + Int.toNat (IntKind.wrap IntKind.i64 (y1.1 + (1 : Int))))) (List.drop ((0 : Nat) + Int.toNat (IntKind.wrap IntKind.i64 (y1.1 + (1 : Int)))) y0.1)) - z0) : Int)) (List.replicate ((0 : Nat) + (0 : Nat) + Int.toNat (↑(List.length y0.1) : Int) - ((0 : Nat) + (0 : Nat) + Int.toNat (↑((0 : Nat) + Int.toNat y1.1 + List.length (List.take ((0 : Nat) + (List.length y0.1 - (0 : Nat)) - ((0 : Nat) + Int.toNat (IntKind.wrap IntKind.i64 (y1.1 + (1 : Int))))) (List.drop ((0 : Nat) + Int.toNat (IntKind.wrap IntKind.i64 (y1.1 + (1 : Int)))) y0.1)) - z0) : Int))) (ByteArray.empty, @List.nil ByteArray, ())))), ())) none) none) none) none) none) none) none) none) none) none) none) none) none) none) none) none) none) none) none) none) none) none) none) none) none) none) none) none) none)) none) none) none) none) none) none) none) none) (fk (decide (List.length y0.1 = List.length y0.1)) (some (y0.1, ())) none)) none) none
theorem Ekb (l0 s1) : Qha (l0, s1, ()) = Waa l0 s1 jKa lIa bFb := eqF (S := S39) fun _ _ _ => by kernel_rfl
noncomputable def S40 : OCs := addF S39 Tryz.prog 113 Bsb (.ty Y2) [] Qha
theorem Mkb : fEb Tryz.prog th S40 := Mjb.addF rfl
abbrev Oaa : List Shp := [(.ty Y1), (.ty Y2)]
noncomputable def Ica : D0 × (List D2) × Unit → Option D9 := jTa (fnT Tryz.prog th (S40 jKa lIa bFb) 159 Oaa (.tuple [(.ty Y2), (.ty (.int .i64))]) [])
noncomputable def Nra (x0 : Int × ByteArray × ByteArray × D4 × Unit) (l1 : List D2) (fk : Fk) (bd : Bd) (sm : Sm) : Option D9 :=
    bd (Dpa (l1, x0.2.1, ())) fun y0 => fk (!y0.2.1) (some (@List.nil D2, (5 : Int), ())) (fk (decide ((↑(List.length y0.1) : Int) > (0 : Int))) (some (@List.nil D2, (5 : Int), ())) (bd (Qha (l1, x0.2.1, ())) fun y1 => some (y1.1, (0 : Int), ())))
theorem Uaa (x0 l1) : Ica (x0, l1, ()) = Nra x0 l1 jKa lIa bFb := eqF (S := S40) fun _ _ _ => by kernel_rfl
noncomputable def S41 : OCs := addF S40 Tryz.prog 159 Oaa (.tuple [(.ty Y2), (.ty (.int .i64))]) [] Ica
theorem Mlb : fEb Tryz.prog th S41 := Mkb.addF rfl
abbrev Lfa : List Shp := [(.ty Y1), (.ty Y2)]
noncomputable def Fua : D0 × (List D2) × Unit → Option D9 := jTa (fnT Tryz.prog th (S41 jKa lIa bFb) 161 Lfa (.tuple [(.ty Y2), (.ty (.int .i64))]) [])
noncomputable def Lca (x0 : Int × ByteArray × ByteArray × D4 × Unit) (l1 : List D2) (fk : Fk) (bd : Bd) (sm : Sm) : Option D9 :=
    bd (Dpa (l1, x0.2.1, ())) fun y0 => bd (Dpa (l1, x0.2.2.1, ())) fun y1 => fk (!y0.2.1) (some (@List.nil D2, (5 : Int), ())) (fk y1.2.1 (some (@List.nil D2, (5 : Int), ())) (bd (Qha (l1, x0.2.1, ())) fun y2 => bd (Iea (y2.1, x0.2.2.1, y0.1, ())) fun y3 => some (y3.1, (0 : Int), ())))
theorem Rra (x0 l1) : Fua (x0, l1, ()) = Lca x0 l1 jKa lIa bFb := eqF (S := S41) fun _ _ _ => by kernel_rfl
noncomputable def S42 : OCs := addF S41 Tryz.prog 161 Lfa (.tuple [(.ty Y2), (.ty (.int .i64))]) [] Fua
theorem Mmb : fEb Tryz.prog th S42 := Mlb.addF rfl
abbrev Gea : fCa := ⟨[], [], [], [], [(.ty (.list .str)), (.ty (.list .str)), (.st (.bool false)), (.ty (.int .i64)), (.ty (.int .i64))]⟩
abbrev Gja : List sQa := [⟨.ret, ⟨[], [], [], [], [(.ty (.list .str)), (.ty (.list .str)), (.st (.bool false)), (.ty (.int .i64)), (.ty (.int .i64))]⟩⟩, ⟨(.exit 0), ⟨[], [], [], [], [(.ty (.list .str)), (.ty (.list .str)), (.st (.bool false)), (.ty (.int .i64)), (.ty (.int .i64))]⟩⟩]
noncomputable def Bda : List ByteArray × List ByteArray × Int × Int × Unit → Option (D14 ⊕ D14) := jTa (pBa (nHa Tryz.prog th (S42 jKa lIa bFb) 248 4 Gea Gja))
noncomputable def Bpa (l0 : List ByteArray) (l1 : List ByteArray) (i2 : Int) (i3 : Int) (fk : Fk) (bd : Bd) (sm : Sm) : Option (D14 ⊕ (D14 ⊕ D14)) :=
    fk (decide (i3 < i2)) (fk (decide ((0 : Int) ≤ i3)) (fk (decide (i3 < (↑(List.length l0) : Int))) (fk (decide ((0 : Int) ≤ i3)) (fk (decide (i3 < (↑(List.length l1) : Int))) (fk (!ByteArray.toList (List.getD l0 (Int.toNat i3) ByteArray.empty) == ByteArray.toList (List.getD l1 (Int.toNat i3) ByteArray.empty)) (some (Sum.inr (Sum.inl (l0, l1, i2, i3, ())))) (some (Sum.inl (l0, l1, i2, IntKind.wrap IntKind.i64 (i3 + (1 : Int)), ())))) none) none) none) none) (some (Sum.inr (Sum.inr (l0, l1, i2, i3, ()))))
theorem Eya (l0 l1 i2 i3) : Bda (l0, l1, i2, i3, ()) = (Bpa l0 l1 i2 i3 jKa lIa bFb).bind (Sum.elim Bda some) := eqL (S := S42) fun _ _ _ => by kernel_rfl
noncomputable def S43 : OCs := addL S42 Tryz.prog 248 4 Gea Gja Bda
theorem Mnb : fEb Tryz.prog th S43 := Mmb.addL (by kernel_rfl) (by kernel_rfl) (by kernel_rfl) rfl
abbrev Ika : List Shp := [(.ty (.list .str)), (.ty (.list .str))]
noncomputable def Cna : List ByteArray × List ByteArray × Unit → Option (Bool × Unit) := jTa (fnT Tryz.prog th (S43 jKa lIa bFb) 248 Ika (.ty .bool) [])
noncomputable def Cca (l0 : List ByteArray) (l1 : List ByteArray) (fk : Fk) (bd : Bd) (sm : Sm) : Option (Bool × Unit) :=
    fk ((↑(List.length l0) : Int) != (↑(List.length l1) : Int)) (some (false, ())) (bd (Bda (l0, l1, (↑(List.length l0) : Int), (0 : Int), ())) fun y0 => sm y0 (fun y1 => some (false, ())) fun y2 => some (true, ()))
theorem Mia (l0 l1) : Cna (l0, l1, ()) = Cca l0 l1 jKa lIa bFb := eqF (S := S43) fun _ _ _ => by kernel_rfl
noncomputable def S44 : OCs := addF S43 Tryz.prog 248 Ika (.ty .bool) [] Cna
theorem Mob : fEb Tryz.prog th S44 := Mnb.addF rfl
abbrev Uma : List Shp := [(.ty (.list .str)), (.ty (.int .i64)), (.ty (.list .str))]
noncomputable def Mga : List ByteArray × Int × List ByteArray × Unit → Option (Bool × Unit) := jTa (fnT Tryz.prog th (S44 jKa lIa bFb) 243 Uma (.ty .bool) [])
noncomputable def Iha (l0 : List ByteArray) (i1 : Int) (l2 : List ByteArray) (fk : Fk) (bd : Bd) (sm : Sm) : Option (Bool × Unit) :=
    fk (decide (i1 ≥ (0 : Int))) (fk (decide (i1 ≤ (↑(List.length l0) : Int))) (fk (decide ((↑(List.length l2) : Int) ≤ IntKind.wrap IntKind.i64 ((↑(List.length l0) : Int) - i1))) (fk (decide ((0 : Int) ≤ IntKind.wrap IntKind.i64 (i1 + (↑(List.length l2) : Int)))) (fk (decide (IntKind.wrap IntKind.i64 (i1 + (↑(List.length l2) : Int)) ≤ (↑(List.length l0) : Int))) (fk (decide ((0 : Int) ≤ i1)) (fk (decide (i1 ≤ (↑(Int.toNat (IntKind.wrap IntKind.i64 (i1 + (↑(List.length l2) : Int)))) : Int))) (bd (Cna (List.take (Int.toNat (IntKind.wrap IntKind.i64 (i1 + (↑(List.length l2) : Int))) - Int.toNat i1) (List.drop (Int.toNat i1) l0), l2, ())) fun y0 => some (y0.1, ())) none) none) none) none) (some (false, ()))) (some (false, ()))) (some (false, ()))
theorem Yha (l0 i1 l2) : Mga (l0, i1, l2, ()) = Iha l0 i1 l2 jKa lIa bFb := eqF (S := S44) fun _ _ _ => by kernel_rfl
noncomputable def S45 : OCs := addF S44 Tryz.prog 243 Uma (.ty .bool) [] Mga
theorem Mpb : fEb Tryz.prog th S45 := Mob.addF rfl
abbrev Gqb : List Shp := [(.ty (.list .str)), (.ty (.int .i64)), (.ty (.list .str))]
noncomputable def Fkb : List ByteArray × Int × List ByteArray × Unit → Option (Bool × Unit) := jTa (fnT Tryz.prog th (S45 jKa lIa bFb) 236 Gqb (.ty .bool) [])
noncomputable def Gob (l0 : List ByteArray) (i1 : Int) (l2 : List ByteArray) (fk : Fk) (bd : Bd) (sm : Sm) : Option (Bool × Unit) :=
    bd (Mga (l0, i1, l2, ())) fun y0 => some (y0.1, ())
theorem Iab (l0 i1 l2) : Fkb (l0, i1, l2, ()) = Gob l0 i1 l2 jKa lIa bFb := eqF (S := S45) fun _ _ _ => by kernel_rfl
noncomputable def S46 : OCs := addF S45 Tryz.prog 236 Gqb (.ty .bool) [] Fkb
theorem Mqb : fEb Tryz.prog th S46 := Mpb.addF rfl
abbrev Gda : fCa := ⟨[], [], [], [], [(.ty (.list (.list .str))), .nils, (.ty (.int .i64)), (.ty (.list (.list .str))), (.ty (.int .i64)), (.ty (.int .i64))]⟩
abbrev Gia : List sQa := [⟨(.exit 0), ⟨[], [], [], [], [(.ty (.list (.list .str))), .nils, (.ty (.int .i64)), (.ty (.list (.list .str))), (.ty (.int .i64)), (.ty (.int .i64))]⟩⟩]
noncomputable def Bca : List (List ByteArray) × Int × List (List ByteArray) × Int × Int × Unit → Option (List (List ByteArray) × Int × List (List ByteArray) × Int × Int × Unit) := jTa (pBa (nHa Tryz.prog th (S46 jKa lIa bFb) 237 3 Gda Gia))
noncomputable def Cqa (l0 : List (List ByteArray)) (i1 : Int) (l2 : List (List ByteArray)) (i3 : Int) (i4 : Int) (fk : Fk) (bd : Bd) (sm : Sm) : Option ((List (List ByteArray) × Int × List (List ByteArray) × Int × Int × Unit) ⊕ (List (List ByteArray) × Int × List (List ByteArray) × Int × Int × Unit)) :=
    fk (decide (i4 < i3)) (fk (decide ((0 : Int) ≤ i4)) (fk (decide (i4 < (↑(List.length l2) : Int))) (fk (decide (IntKind.wrap IntKind.i64 (i1 + (↑(List.length (List.getD l2 (Int.toNat i4) (@List.nil ByteArray))) : Int)) < (0 : Int))) none (some (Sum.inl (l0, IntKind.wrap IntKind.i64 (i1 + (↑(List.length (List.getD l2 (Int.toNat i4) (@List.nil ByteArray))) : Int)), l2, i3, IntKind.wrap IntKind.i64 (i4 + (1 : Int)), ())))) none) none) (some (Sum.inr (l0, i1, l2, i3, i4, ())))
theorem Exa (l0 i1 l2 i3 i4) : Bca (l0, i1, l2, i3, i4, ()) = (Cqa l0 i1 l2 i3 i4 jKa lIa bFb).bind (Sum.elim Bca some) := eqL (S := S46) fun _ _ _ => by kernel_rfl
noncomputable def S47 : OCs := addL S46 Tryz.prog 237 3 Gda Gia Bca
theorem Mrb : fEb Tryz.prog th S47 := Mqb.addL (by kernel_rfl) (by kernel_rfl) (by kernel_rfl) rfl
abbrev Fca : fCa := ⟨[⟨.str, 9, 1, true⟩, ⟨.str, 9, 1, true⟩], [], [], [], [.nils, (.mview 1 1), (.ty (.list (.list .str))), (.ty (.int .i64)), (.ty (.int .i64))]⟩
abbrev Fla : List sQa := [⟨(.exit 2), ⟨[⟨.str, 9, 1, true⟩, ⟨.str, 9, 1, true⟩], [], [], [], [.nils, (.mview 1 1), (.ty (.list (.list .str))), (.ty (.int .i64)), (.ty (.int .i64))]⟩⟩]
noncomputable def Ata : List ByteArray × List ByteArray × Nat × Nat × List (List ByteArray) × Int × Int × Unit → Option (List ByteArray × List ByteArray × Nat × Nat × List (List ByteArray) × Int × Int × Unit) := jTa (pBa (nHa Tryz.prog th (S47 jKa lIa bFb) 237 11 Fca Fla))
noncomputable def Cia (l0 : List ByteArray) (l1 : List ByteArray) (n2 : Nat) (n3 : Nat) (l4 : List (List ByteArray)) (i5 : Int) (i6 : Int) (fk : Fk) (bd : Bd) (sm : Sm) : Option ((List ByteArray × List ByteArray × Nat × Nat × List (List ByteArray) × Int × Int × Unit) ⊕ (List ByteArray × List ByteArray × Nat × Nat × List (List ByteArray) × Int × Int × Unit)) :=
    let z0 := (List.getD l4 (Int.toNat i6) (@List.nil ByteArray))
    fk (decide (i6 < i5)) (fk (decide ((0 : Int) ≤ i6)) (fk (decide (i6 < (↑(List.length l4) : Int))) (fk (decide (List.length l1 = List.length l1)) (fk (decide (n2 ≤ n3)) (fk (decide (n3 + List.length z0 ≤ List.length l1)) (fk (decide (List.length (hYb l1 n3 z0) = List.length l1)) (some (Sum.inl (l0, hYb l1 n3 z0, n2, n3 + List.length z0, l4, i5, IntKind.wrap IntKind.i64 (i6 + (1 : Int)), ()))) none) none) none) none) none) none) (fk (decide (List.length l1 = List.length l1)) (some (Sum.inr (l0, l1, n2, n3, l4, i5, i6, ()))) none)
theorem Eca (l0 l1 n2 n3 l4 i5 i6) : Ata (l0, l1, n2, n3, l4, i5, i6, ()) = (Cia l0 l1 n2 n3 l4 i5 i6 jKa lIa bFb).bind (Sum.elim Ata some) := eqL (S := S47) fun _ _ _ => by kernel_rfl
noncomputable def S48 : OCs := addL S47 Tryz.prog 237 11 Fca Fla Ata
theorem Msb : fEb Tryz.prog th S48 := Mrb.addL (by kernel_rfl) (by kernel_rfl) (by kernel_rfl) rfl
abbrev Epa : fCa := ⟨[⟨.str, 9, 1, true⟩, ⟨.str, 9, 1, true⟩], [], [], [], [.nils, (.mref 1), (.ty (.list (.list .str))), (.ty (.int .i64)), (.ty (.int .i64))]⟩
abbrev Eta : List sQa := [⟨(.exit 2), ⟨[⟨.str, 9, 1, true⟩, ⟨.str, 9, 1, true⟩], [], [], [], [.nils, (.mref 1), (.ty (.list (.list .str))), (.ty (.int .i64)), (.ty (.int .i64))]⟩⟩]
noncomputable def Aqa : List ByteArray × List ByteArray × List (List ByteArray) × Int × Int × Unit → Option (List ByteArray × List ByteArray × List (List ByteArray) × Int × Int × Unit) := jTa (pBa (nHa Tryz.prog th (S48 jKa lIa bFb) 237 11 Epa Eta))
noncomputable def Cba (l0 : List ByteArray) (l1 : List ByteArray) (l2 : List (List ByteArray)) (i3 : Int) (i4 : Int) (fk : Fk) (bd : Bd) (sm : Sm) : Option ((List ByteArray × List ByteArray × List (List ByteArray) × Int × Int × Unit) ⊕ (List ByteArray × List ByteArray × List (List ByteArray) × Int × Int × Unit)) :=
    fk (decide (i4 < i3)) (fk (decide ((0 : Int) ≤ i4)) (fk (decide (i4 < (↑(List.length l2) : Int))) (fk (decide (List.length l1 = List.length l1)) (fk (decide (List.length (l1 ++ List.getD l2 (Int.toNat i4) (@List.nil ByteArray)) ≤ bBa)) (fk (decide (List.length (l1 ++ List.getD l2 (Int.toNat i4) (@List.nil ByteArray)) = List.length (l1 ++ List.getD l2 (Int.toNat i4) (@List.nil ByteArray)))) (some (Sum.inl (l0, l1 ++ List.getD l2 (Int.toNat i4) (@List.nil ByteArray), l2, i3, IntKind.wrap IntKind.i64 (i4 + (1 : Int)), ()))) none) none) none) none) none) (fk (decide (List.length l1 = List.length l1)) (some (Sum.inr (l0, l1, l2, i3, i4, ()))) none)
theorem Dma (l0 l1 l2 i3 i4) : Aqa (l0, l1, l2, i3, i4, ()) = (Cba l0 l1 l2 i3 i4 jKa lIa bFb).bind (Sum.elim Aqa some) := eqL (S := S48) fun _ _ _ => by kernel_rfl
noncomputable def S49 : OCs := addL S48 Tryz.prog 237 11 Epa Eta Aqa
theorem Mtb : fEb Tryz.prog th S49 := Msb.addL (by kernel_rfl) (by kernel_rfl) (by kernel_rfl) rfl
abbrev Ija : List Shp := [(.ty (.list (.list .str)))]
noncomputable def Cma : List (List ByteArray) × Unit → Option (List ByteArray × Unit) := jTa (fnT Tryz.prog th (S49 jKa lIa bFb) 237 Ija (.ty (.list .str)) [])
noncomputable def Dva (l0 : List (List ByteArray)) (fk : Fk) (bd : Bd) (sm : Sm) : Option (List ByteArray × Unit) :=
    let z0 := ((0 : Int) - (↑(0 : Nat) : Int))
    bd (Bca (l0, (0 : Int), l0, (↑(List.length l0) : Int), (0 : Int), ())) fun y0 => fk (decide (y0.2.1 < (0 : Int))) none (fk (decide (IntKind.wrap IntKind.i64 (y0.2.1 - IntKind.wrap IntKind.i64 z0) > (0 : Int))) (fk (decide ((0 : Int) ≤ (↑(0 : Nat) : Int))) (fk (decide ((0 : Int) < IntKind.wrap IntKind.i64 (y0.2.1 - IntKind.wrap IntKind.i64 z0))) (fk (decide (IntKind.wrap IntKind.i64 (y0.2.1 - IntKind.wrap IntKind.i64 z0) ≤ (↑bBa : Int))) (fk (decide (List.length (List.replicate (Int.toNat (IntKind.wrap IntKind.i64 (y0.2.1 - IntKind.wrap IntKind.i64 z0))) ByteArray.empty) = List.length (List.replicate (Int.toNat (IntKind.wrap IntKind.i64 (y0.2.1 - IntKind.wrap IntKind.i64 z0))) ByteArray.empty))) (fk (decide ((↑(0 : Nat) : Int) ≤ (↑(List.length (List.replicate (Int.toNat (IntKind.wrap IntKind.i64 (y0.2.1 - IntKind.wrap IntKind.i64 z0))) ByteArray.empty) - (0 : Nat)) : Int))) (fk (decide (List.length (List.replicate (Int.toNat (IntKind.wrap IntKind.i64 (y0.2.1 - IntKind.wrap IntKind.i64 z0))) ByteArray.empty) = List.length (List.replicate (Int.toNat (IntKind.wrap IntKind.i64 (y0.2.1 - IntKind.wrap IntKind.i64 z0))) ByteArray.empty))) (bd (Ata (@List.nil ByteArray, List.replicate (Int.toNat (IntKind.wrap IntKind.i64 (y0.2.1 - IntKind.wrap IntKind.i64 z0))) ByteArray.empty, (0 : Nat) + (0 : Nat), (0 : Nat) + Int.toNat (↑(0 : Nat) : Int), y0.1, (↑(List.length y0.1) : Int), (0 : Int), ())) fun y1 => fk (decide (List.length y1.2.1 = List.length y1.2.1)) (fk (decide (y1.2.2.1 ≤ y1.2.2.2.1)) (fk (decide (y1.2.2.2.1 ≤ List.length y1.2.1)) (some (List.take (y1.2.2.2.1 - y1.2.2.1) (List.drop y1.2.2.1 y1.2.1), ())) none) none) none) none) none) none) none) none) none) (fk (decide (List.length (@List.nil ByteArray) = (0 : Nat))) (bd (Aqa (@List.nil ByteArray, @List.nil ByteArray, y0.1, (↑(List.length y0.1) : Int), (0 : Int), ())) fun y2 => fk (decide (List.length y2.2.1 = List.length y2.2.1)) (some (y2.2.1, ())) none) none))
theorem Mha (l0) : Cma (l0, ()) = Dva l0 jKa lIa bFb := eqF (S := S49) fun _ _ _ => by kernel_rfl
noncomputable def S50 : OCs := addF S49 Tryz.prog 237 Ija (.ty (.list .str)) [] Cma
theorem Mub : fEb Tryz.prog th S50 := Mtb.addF rfl
abbrev Bpb : List Shp := [(.ty (.list .str)), (.ty (.int .i64)), (.ty (.list .str)), (.ty (.list .str))]
noncomputable def Vma : List ByteArray × Int × List ByteArray × List ByteArray × Unit → Option D38 := jTa (fnT Tryz.prog th (S50 jKa lIa bFb) 224 Bpb (.tuple [(.ty (.list .str)), (.ty .bool)]) [])
noncomputable def Vwa (l0 : List ByteArray) (i1 : Int) (l2 : List ByteArray) (l3 : List ByteArray) (fk : Fk) (bd : Bd) (sm : Sm) : Option D38 :=
    bd (Fkb (l0, i1, l2, ())) fun y0 => fk (!y0.1) (some (@List.nil ByteArray, false, ())) (fk (decide ((0 : Int) ≤ i1)) (fk (decide (i1 ≤ (↑(List.length l0) : Int))) (fk (decide ((0 : Int) ≤ i1)) (fk (decide (i1 ≤ (↑(Int.toNat i1) : Int))) (fk (decide ((0 : Int) ≤ IntKind.wrap IntKind.i64 (i1 + (↑(List.length l2) : Int)))) (fk (decide (IntKind.wrap IntKind.i64 (i1 + (↑(List.length l2) : Int)) ≤ (↑(List.length l0) : Int))) (bd (Cma (List.take (Int.toNat i1 - (0 : Nat)) (List.drop (0 : Nat) l0) :: l3 :: List.take (List.length l0 - Int.toNat (IntKind.wrap IntKind.i64 (i1 + (↑(List.length l2) : Int)))) (List.drop (Int.toNat (IntKind.wrap IntKind.i64 (i1 + (↑(List.length l2) : Int)))) l0) :: @List.nil (List ByteArray), ())) fun y1 => some (y1.1, true, ())) none) none) none) none) none) none)
theorem Egb (l0 i1 l2 l3) : Vma (l0, i1, l2, l3, ()) = Vwa l0 i1 l2 l3 jKa lIa bFb := eqF (S := S50) fun _ _ _ => by kernel_rfl
noncomputable def S51 : OCs := addF S50 Tryz.prog 224 Bpb (.tuple [(.ty (.list .str)), (.ty .bool)]) [] Vma
theorem Mvb : fEb Tryz.prog th S51 := Mub.addF rfl
abbrev Wia : List Shp := [(.ty (.list .str)), (.ty Y5)]
noncomputable def Pza : List ByteArray × D4 × Unit → Option D19 := jTa (fnT Tryz.prog th (S51 jKa lIa bFb) 200 Wia (.tuple [(.ty (.list .str)), (.ty (.int .i64))]) [])
noncomputable def Vsa (l0 : List ByteArray) (x1 : Int × List ByteArray × List ByteArray × Unit) (fk : Fk) (bd : Bd) (sm : Sm) : Option D19 :=
    bd (Sja ((x1.1, x1.2.1, x1.2.2.1, ()), ())) fun y0 => fk (!y0.1) (some (@List.nil ByteArray, (1 : Int), ())) (bd (Vma (l0, x1.1, x1.2.1, x1.2.2.1, ())) fun y1 => fk (!y1.2.1) (some (@List.nil ByteArray, (5 : Int), ())) (some (y1.1, (0 : Int), ())))
theorem Agb (l0 x1) : Pza (l0, x1, ()) = Vsa l0 x1 jKa lIa bFb := eqF (S := S51) fun _ _ _ => by kernel_rfl
noncomputable def S52 : OCs := addF S51 Tryz.prog 200 Wia (.tuple [(.ty (.list .str)), (.ty (.int .i64))]) [] Pza
theorem Mwb : fEb Tryz.prog th S52 := Mvb.addF rfl
abbrev Kua : List Shp := [(.ty Y1), (.ty Y2)]
noncomputable def Ela : D0 × (List D2) × Unit → Option D9 := jTa (fnT Tryz.prog th (S52 jKa lIa bFb) 163 Kua (.tuple [(.ty Y2), (.ty (.int .i64))]) [])
noncomputable def Kra (x0 : Int × ByteArray × ByteArray × D4 × Unit) (l1 : List D2) (fk : Fk) (bd : Bd) (sm : Sm) : Option D9 :=
    bd (Dpa (l1, x0.2.1, ())) fun y0 => fk (!y0.2.1) (some (@List.nil D2, (5 : Int), ())) (bd (Pza (y0.1, (x0.2.2.2.1.1, x0.2.2.2.1.2.1, x0.2.2.2.1.2.2.1, ()), ())) fun y1 => fk (y1.2.1 != (0 : Int)) (some (@List.nil D2, y1.2.1, ())) (bd (Iea (l1, x0.2.1, y1.1, ())) fun y2 => some (y2.1, (0 : Int), ())))
theorem Qka (x0 l1) : Ela (x0, l1, ()) = Kra x0 l1 jKa lIa bFb := eqF (S := S52) fun _ _ _ => by kernel_rfl
noncomputable def S53 : OCs := addF S52 Tryz.prog 163 Kua (.tuple [(.ty Y2), (.ty (.int .i64))]) [] Ela
theorem Mxb : fEb Tryz.prog th S53 := Mwb.addF rfl
abbrev Gya : fCa := ⟨[], [], [], [], [(.ty (.list .str)), (.ty (.list .str)), (.st (.bool false)), (.ty (.int .i64)), (.ty (.int .i64))]⟩
abbrev Hea : List sQa := [⟨.ret, ⟨[], [], [], [], [(.ty (.list .str)), (.ty (.list .str)), (.st (.bool false)), (.ty (.int .i64)), (.ty (.int .i64))]⟩⟩, ⟨(.exit 0), ⟨[], [], [], [], [(.ty (.list .str)), (.ty (.list .str)), (.st (.bool false)), (.ty (.int .i64)), (.ty (.int .i64))]⟩⟩]
noncomputable def Bja : List ByteArray × List ByteArray × Int × Int × Unit → Option (D14 ⊕ D14) := jTa (pBa (nHa Tryz.prog th (S53 jKa lIa bFb) 64 4 Gya Hea))
noncomputable def Bva (l0 : List ByteArray) (l1 : List ByteArray) (i2 : Int) (i3 : Int) (fk : Fk) (bd : Bd) (sm : Sm) : Option (D14 ⊕ (D14 ⊕ D14)) :=
    fk (decide (i3 < i2)) (fk (decide ((0 : Int) ≤ i3)) (fk (decide (i3 < (↑(List.length l0) : Int))) (fk (decide ((0 : Int) ≤ i3)) (fk (decide (i3 < (↑(List.length l1) : Int))) (fk (!ByteArray.toList (List.getD l0 (Int.toNat i3) ByteArray.empty) == ByteArray.toList (List.getD l1 (Int.toNat i3) ByteArray.empty)) (some (Sum.inr (Sum.inl (l0, l1, i2, i3, ())))) (some (Sum.inl (l0, l1, i2, IntKind.wrap IntKind.i64 (i3 + (1 : Int)), ())))) none) none) none) none) (some (Sum.inr (Sum.inr (l0, l1, i2, i3, ()))))
theorem Fqa (l0 l1 i2 i3) : Bja (l0, l1, i2, i3, ()) = (Bva l0 l1 i2 i3 jKa lIa bFb).bind (Sum.elim Bja some) := eqL (S := S53) fun _ _ _ => by kernel_rfl
noncomputable def S54 : OCs := addL S53 Tryz.prog 64 4 Gya Hea Bja
theorem Myb : fEb Tryz.prog th S54 := Mxb.addL (by kernel_rfl) (by kernel_rfl) (by kernel_rfl) rfl
abbrev Jaa : List Shp := [(.ty (.list .str)), (.ty (.list .str))]
noncomputable def Bya : List ByteArray × List ByteArray × Unit → Option (Bool × Unit) := jTa (fnT Tryz.prog th (S54 jKa lIa bFb) 64 Jaa (.ty .bool) [])
noncomputable def Cla (l0 : List ByteArray) (l1 : List ByteArray) (fk : Fk) (bd : Bd) (sm : Sm) : Option (Bool × Unit) :=
    fk ((↑(List.length l0) : Int) != (↑(List.length l1) : Int)) (some (false, ())) (bd (Bja (l0, l1, (↑(List.length l0) : Int), (0 : Int), ())) fun y0 => sm y0 (fun y1 => some (false, ())) fun y2 => some (true, ()))
theorem Nna (l0 l1) : Bya (l0, l1, ()) = Cla l0 l1 jKa lIa bFb := eqF (S := S54) fun _ _ _ => by kernel_rfl
noncomputable def S55 : OCs := addF S54 Tryz.prog 64 Jaa (.ty .bool) [] Bya
theorem Mzb : fEb Tryz.prog th S55 := Myb.addF rfl
abbrev Mva : List Shp := [(.ty Y1), (.ty Y2)]
noncomputable def Hia : D0 × (List D2) × Unit → Option D9 := jTa (fnT Tryz.prog th (S55 jKa lIa bFb) 165 Mva (.tuple [(.ty Y2), (.ty (.int .i64))]) [])
noncomputable def Mra (x0 : Int × ByteArray × ByteArray × D4 × Unit) (l1 : List D2) (fk : Fk) (bd : Bd) (sm : Sm) : Option D9 :=
    bd (Dpa (l1, x0.2.1, ())) fun y0 => fk (!y0.2.1) (some (@List.nil D2, (5 : Int), ())) (bd (Bya (y0.1, x0.2.2.2.1.2.1, ())) fun y1 => fk (!y1.1) (some (@List.nil D2, (5 : Int), ())) (bd (Iea (l1, x0.2.1, x0.2.2.2.1.2.2.1, ())) fun y2 => some (y2.1, (0 : Int), ())))
theorem Tha (x0 l1) : Hia (x0, l1, ()) = Mra x0 l1 jKa lIa bFb := eqF (S := S55) fun _ _ _ => by kernel_rfl
noncomputable def S56 : OCs := addF S55 Tryz.prog 165 Mva (.tuple [(.ty Y2), (.ty (.int .i64))]) [] Hia
theorem Nab : fEb Tryz.prog th S56 := Mzb.addF rfl
abbrev Wla : List Shp := [(.ty Y2), (.ty Y1)]
noncomputable def Jka : (List D2) × D0 × Unit → Option D9 := jTa (fnT Tryz.prog th (S56 jKa lIa bFb) 66 Wla (.tuple [(.ty Y2), (.ty (.int .i64))]) [])
noncomputable def Vva (l0 : List D2) (x1 : Int × ByteArray × ByteArray × D4 × Unit) (fk : Fk) (bd : Bd) (sm : Sm) : Option D9 :=
    let z0 := (x1.1, x1.2.1, x1.2.2.1, (x1.2.2.2.1.1, x1.2.2.2.1.2.1, x1.2.2.2.1.2.2.1, ()), ())
    bd (Tea (z0, ())) fun y0 => fk (!y0.1) (some (@List.nil D2, (1 : Int), ())) (fk (decide (x1.1 = x1.1)) (fk (eqT Ty.str x1.2.1 x1.2.1) (fk (eqT Ty.str x1.2.2.1 x1.2.2.1) (fk (decide (x1.2.2.2.1.1 = x1.2.2.2.1.1)) (fk (eqT (Ty.list Ty.str) x1.2.2.2.1.2.1 x1.2.2.2.1.2.1) (fk (eqT (Ty.list Ty.str) x1.2.2.2.1.2.2.1 x1.2.2.2.1.2.2.1) (fk (decide (x1.1 = (↑(0 : Nat) : Int))) (bd (Hha (z0, l0, ())) fun y1 => some (y1.1, y1.2.1, ())) (fk (decide (x1.1 = (↑((0 : Nat) + (1 : Nat)) : Int))) (bd (Ica (z0, l0, ())) fun y2 => some (y2.1, y2.2.1, ())) (fk (decide (x1.1 = (↑((0 : Nat) + (1 : Nat) + (1 : Nat)) : Int))) (bd (Fua (z0, l0, ())) fun y3 => some (y3.1, y3.2.1, ())) (fk (decide (x1.1 = (↑((0 : Nat) + (1 : Nat) + (1 : Nat) + (1 : Nat)) : Int))) (bd (Ela (z0, l0, ())) fun y4 => some (y4.1, y4.2.1, ())) (fk (decide (x1.1 = (↑((0 : Nat) + (1 : Nat) + (1 : Nat) + (1 : Nat) + (1 : Nat)) : Int))) (bd (Hia (z0, l0, ())) fun y5 => some (y5.1, y5.2.1, ())) none))))) none) none) none) none) none) none)
theorem Apb (l0 x1) : Jka (l0, x1, ()) = Vva l0 x1 jKa lIa bFb := eqF (S := S56) fun _ _ _ => by kernel_rfl
noncomputable def S57 : OCs := addF S56 Tryz.prog 66 Wla (.tuple [(.ty Y2), (.ty (.int .i64))]) [] Jka
theorem Nbb : fEb Tryz.prog th S57 := Nab.addF rfl
abbrev Qra : fCa := ⟨[], [], [], [], [(.ty Y2), .nils, (.st (.int .i64 0)), (.ty (.list Y1)), (.ty (.int .i64)), (.ty (.int .i64))]⟩
abbrev Qza : List sQa := [⟨.ret, ⟨[], [], [[(.ty (.int .i64)), (.ty .str), (.ty .str), (.ty (.int .i64)), (.ty (.list .str)), (.ty (.list .str))]], [], [(.ty Y2), .nils, (.ty (.int .i64)), (.ty (.list Y1)), (.ty (.int .i64)), (.ty (.int .i64))]⟩⟩, ⟨(.exit 0), ⟨[], [], [], [], [(.ty Y2), .nils, (.st (.int .i64 0)), (.ty (.list Y1)), (.ty (.int .i64)), (.ty (.int .i64))]⟩⟩]
noncomputable def Gva : (List D2) × (List D0) × Int × Int × Unit → Option ((Int × ByteArray × ByteArray × Int × List ByteArray × List ByteArray × (List D2) × Int × (List D0) × Int × Int × Unit) ⊕ ((List D2) × (List D0) × Int × Int × Unit)) := jTa (pBa (nHa Tryz.prog th (S57 jKa lIa bFb) 90 2 Qra Qza))
noncomputable def Hza (l0 : List D2) (l1 : List D0) (i2 : Int) (i3 : Int) (fk : Fk) (bd : Bd) (sm : Sm) : Option (((List D2) × (List D0) × Int × Int × Unit) ⊕ ((Int × ByteArray × ByteArray × Int × List ByteArray × List ByteArray × (List D2) × Int × (List D0) × Int × Int × Unit) ⊕ ((List D2) × (List D0) × Int × Int × Unit))) :=
    let z0 := (List.getD l1 (Int.toNat i3) ((0 : Int), ByteArray.empty, ByteArray.empty, ((0 : Int), @List.nil ByteArray, @List.nil ByteArray, ()), ()))
    fk (decide (i3 < i2)) (fk (decide ((0 : Int) ≤ i3)) (fk (decide (i3 < (↑(List.length l1) : Int))) (bd (Jka (l0, (z0.1, z0.2.1, z0.2.2.1, (z0.2.2.2.1.1, z0.2.2.2.1.2.1, z0.2.2.2.1.2.2.1, ()), ()), ())) fun y0 => fk (y0.2.1 != (0 : Int)) (some (Sum.inr (Sum.inl (z0.1, z0.2.1, z0.2.2.1, z0.2.2.2.1.1, z0.2.2.2.1.2.1, z0.2.2.2.1.2.2.1, l0, y0.2.1, l1, i2, i3, ())))) (some (Sum.inl (y0.1, l1, i2, IntKind.wrap IntKind.i64 (i3 + (1 : Int)), ())))) none) none) (some (Sum.inr (Sum.inr (l0, l1, i2, i3, ()))))
theorem Naa (l0 l1 i2 i3) : Gva (l0, l1, i2, i3, ()) = (Hza l0 l1 i2 i3 jKa lIa bFb).bind (Sum.elim Gva some) := eqL (S := S57) fun _ _ _ => by kernel_rfl
noncomputable def S58 : OCs := addL S57 Tryz.prog 90 2 Qra Qza Gva
theorem Ncb : fEb Tryz.prog th S58 := Nbb.addL (by kernel_rfl) (by kernel_rfl) (by kernel_rfl) rfl
abbrev Wga : List Shp := [(.ty Y2), (.ty (.list Y1))]
noncomputable def Pxa : (List D2) × (List D0) × Unit → Option D9 := jTa (fnT Tryz.prog th (S58 jKa lIa bFb) 90 Wga (.tuple [(.ty Y2), (.ty (.int .i64))]) [])
noncomputable def Rja (l0 : List D2) (l1 : List D0) (fk : Fk) (bd : Bd) (sm : Sm) : Option D9 :=
    bd (Gva (l0, l1, (↑(List.length l1) : Int), (0 : Int), ())) fun y0 => sm y0 (fun y1 => some (@List.nil D2, y1.2.2.2.2.2.2.2.1, ())) fun y2 => some (y2.1, (0 : Int), ())
theorem Zza (l0 l1) : Pxa (l0, l1, ()) = Rja l0 l1 jKa lIa bFb := eqF (S := S58) fun _ _ _ => by kernel_rfl
noncomputable def S59 : OCs := addF S58 Tryz.prog 90 Wga (.tuple [(.ty Y2), (.ty (.int .i64))]) [] Pxa
theorem Ndb : fEb Tryz.prog th S59 := Ncb.addF rfl
abbrev Ula : List Shp := [(.ty Y2), (.ty (.list Y0))]
noncomputable def Mda : (List D2) × (List D1) × Unit → Option D9 := jTa (fnT Tryz.prog th (S59 jKa lIa bFb) 40 Ula (.tuple [(.ty Y2), (.ty (.int .i64))]) [])
noncomputable def Uha (l0 : List D2) (l1 : List D1) (fk : Fk) (bd : Bd) (sm : Sm) : Option D9 :=
    bd (Taa (l1, ())) fun y0 => bd (Pxa (l0, y0.1, ())) fun y1 => some (y1.1, y1.2.1, ())
theorem Yfa (l0 l1) : Mda (l0, l1, ()) = Uha l0 l1 jKa lIa bFb := eqF (S := S59) fun _ _ _ => by kernel_rfl
noncomputable def S60 : OCs := addF S59 Tryz.prog 40 Ula (.tuple [(.ty Y2), (.ty (.int .i64))]) [] Mda
theorem Neb : fEb Tryz.prog th S60 := Ndb.addF rfl
abbrev Una : List Shp := [(.ty Y6), (.ty Y6)]
noncomputable def Mla : D2 × D2 × Unit → Option (Bool × Unit) := jTa (fnT Tryz.prog th (S60 jKa lIa bFb) 63 Una (.ty .bool) [])
noncomputable def Kta (x0 : ByteArray × List ByteArray × Unit) (x1 : ByteArray × List ByteArray × Unit) (fk : Fk) (bd : Bd) (sm : Sm) : Option (Bool × Unit) :=
    fk (ByteArray.toList x0.1 == ByteArray.toList x1.1) (bd (Bya (x0.2.1, x1.2.1, ())) fun y0 => some (y0.1, ())) (some (false, ()))
theorem Yja (x0 x1) : Mla (x0, x1, ()) = Kta x0 x1 jKa lIa bFb := eqF (S := S60) fun _ _ _ => by kernel_rfl
noncomputable def S61 : OCs := addF S60 Tryz.prog 63 Una (.ty .bool) [] Mla
theorem Nfb : fEb Tryz.prog th S61 := Neb.addF rfl
abbrev Fda : fCa := ⟨[], [], [], [], [(.ty Y2), (.func 63 [] []), (.st (.bool false)), (.ty Y2), (.ty (.int .i64)), (.ty (.int .i64))]⟩
abbrev Fma : List sQa := [⟨.ret, ⟨[], [], [[(.ty .str), (.ty (.list .str))], [(.ty .str), (.ty (.list .str))]], [], [(.ty Y2), (.func 63 [] []), (.st (.bool false)), (.ty Y2), (.ty (.int .i64)), (.ty (.int .i64))]⟩⟩, ⟨(.exit 0), ⟨[], [], [], [], [(.ty Y2), (.func 63 [] []), (.st (.bool false)), (.ty Y2), (.ty (.int .i64)), (.ty (.int .i64))]⟩⟩]
noncomputable def Aua : (List D2) × (List D2) × Int × Int × Unit → Option ((ByteArray × List ByteArray × ByteArray × List ByteArray × (List D2) × (List D2) × Int × Int × Unit) ⊕ D21) := jTa (pBa (nHa Tryz.prog th (S61 jKa lIa bFb) 62 4 Fda Fma))
noncomputable def Bka (l0 : List D2) (l1 : List D2) (i2 : Int) (i3 : Int) (fk : Fk) (bd : Bd) (sm : Sm) : Option (D21 ⊕ ((ByteArray × List ByteArray × ByteArray × List ByteArray × (List D2) × (List D2) × Int × Int × Unit) ⊕ D21)) :=
    let z0 := (ByteArray.empty, @List.nil ByteArray, ())
    fk (decide (i3 < i2)) (fk (decide ((0 : Int) ≤ i3)) (fk (decide (i3 < (↑(List.length l1) : Int))) (fk (decide ((0 : Int) ≤ i3)) (fk (decide (i3 < (↑(List.length l0) : Int))) (bd (Mla (((List.getD l1 (Int.toNat i3) z0).1, (List.getD l1 (Int.toNat i3) z0).2.1, ()), ((List.getD l0 (Int.toNat i3) z0).1, (List.getD l0 (Int.toNat i3) z0).2.1, ()), ())) fun y0 => fk (!y0.1) (some (Sum.inr (Sum.inl ((List.getD l1 (Int.toNat i3) z0).1, (List.getD l1 (Int.toNat i3) z0).2.1, (List.getD l0 (Int.toNat i3) z0).1, (List.getD l0 (Int.toNat i3) z0).2.1, l0, l1, i2, i3, ())))) (some (Sum.inl (l0, l1, i2, IntKind.wrap IntKind.i64 (i3 + (1 : Int)), ())))) none) none) none) none) (some (Sum.inr (Sum.inr (l0, l1, i2, i3, ()))))
theorem Eea (l0 l1 i2 i3) : Aua (l0, l1, i2, i3, ()) = (Bka l0 l1 i2 i3 jKa lIa bFb).bind (Sum.elim Aua some) := eqL (S := S61) fun _ _ _ => by kernel_rfl
noncomputable def S62 : OCs := addL S61 Tryz.prog 62 4 Fda Fma Aua
theorem Ngb : fEb Tryz.prog th S62 := Nfb.addL (by kernel_rfl) (by kernel_rfl) (by kernel_rfl) rfl
abbrev Zfa : List Shp := [(.ty Y2), (.ty Y2)]
noncomputable def Ira : (List D2) × (List D2) × Unit → Option (Bool × Unit) := jTa (fnT Tryz.prog th (S62 jKa lIa bFb) 25 Zfa (.ty .bool) [])
noncomputable def Pta (l0 : List D2) (l1 : List D2) (fk : Fk) (bd : Bd) (sm : Sm) : Option (Bool × Unit) :=
    fk ((↑(List.length l0) : Int) != (↑(List.length l1) : Int)) (some (false, ())) (bd (Aua (l1, l0, (↑(List.length l0) : Int), (0 : Int), ())) fun y0 => sm y0 (fun y1 => some (false, ())) fun y2 => some (true, ()))
theorem Dkb (l0 l1) : Ira (l0, l1, ()) = Pta l0 l1 jKa lIa bFb := eqF (S := S62) fun _ _ _ => by kernel_rfl
noncomputable def S63 : OCs := addF S62 Tryz.prog 25 Zfa (.ty .bool) [] Ira
theorem Nhb : fEb Tryz.prog th S63 := Ngb.addF rfl
abbrev Uta : fCa := ⟨[], [], [], [], [(.ty Y2), (.st (.bool false)), (.ty Y2), (.ty (.int .i64)), (.ty (.int .i64))]⟩
abbrev Uza : List sQa := [⟨.ret, ⟨[], [], [[(.ty .str), (.ty (.list .str))]], [], [(.ty Y2), (.st (.bool false)), (.ty Y2), (.ty (.int .i64)), (.ty (.int .i64))]⟩⟩, ⟨(.exit 0), ⟨[], [], [], [], [(.ty Y2), (.st (.bool false)), (.ty Y2), (.ty (.int .i64)), (.ty (.int .i64))]⟩⟩]
noncomputable def Kga : (List D2) × (List D2) × Int × Int × Unit → Option ((ByteArray × List ByteArray × (List D2) × (List D2) × Int × Int × Unit) ⊕ D21) := jTa (pBa (nHa Tryz.prog th (S63 jKa lIa bFb) 56 2 Uta Uza))
noncomputable def Dwa (l0 : List D2) (l1 : List D2) (i2 : Int) (i3 : Int) (fk : Fk) (bd : Bd) (sm : Sm) : Option (D21 ⊕ ((ByteArray × List ByteArray × (List D2) × (List D2) × Int × Int × Unit) ⊕ D21)) :=
    let z0 := (List.getD l1 (Int.toNat i3) (ByteArray.empty, @List.nil ByteArray, ()))
    fk (decide (i3 < i2)) (fk (decide ((0 : Int) ≤ i3)) (fk (decide (i3 < (↑(List.length l1) : Int))) (bd (Kfa (z0.1, ())) fun y0 => fk (!y0.1) (some (Sum.inr (Sum.inl (z0.1, z0.2.1, l0, l1, i2, i3, ())))) (bd (Qea (z0.2.1, ())) fun y1 => fk (!y1.1) (some (Sum.inr (Sum.inl (z0.1, z0.2.1, l0, l1, i2, i3, ())))) (fk (decide (i3 > (0 : Int))) (fk (decide ((0 : Int) ≤ IntKind.wrap IntKind.i64 (i3 - (1 : Int)))) (fk (decide (IntKind.wrap IntKind.i64 (i3 - (1 : Int)) < (↑(List.length l0) : Int))) (fk (Op.bytesLess (ByteArray.toList z0.1) (ByteArray.toList (List.getD l0 (Int.toNat (IntKind.wrap IntKind.i64 (i3 - (1 : Int)))) (ByteArray.empty, @List.nil ByteArray, ())).1) || ByteArray.toList z0.1 == ByteArray.toList (List.getD l0 (Int.toNat (IntKind.wrap IntKind.i64 (i3 - (1 : Int)))) (ByteArray.empty, @List.nil ByteArray, ())).1) (some (Sum.inr (Sum.inl (z0.1, z0.2.1, l0, l1, i2, i3, ())))) (some (Sum.inl (l0, l1, i2, IntKind.wrap IntKind.i64 (i3 + (1 : Int)), ())))) none) none) (some (Sum.inl (l0, l1, i2, IntKind.wrap IntKind.i64 (i3 + (1 : Int)), ())))))) none) none) (some (Sum.inr (Sum.inr (l0, l1, i2, i3, ()))))
theorem Rea (l0 l1 i2 i3) : Kga (l0, l1, i2, i3, ()) = (Dwa l0 l1 i2 i3 jKa lIa bFb).bind (Sum.elim Kga some) := eqL (S := S63) fun _ _ _ => by kernel_rfl
noncomputable def S64 : OCs := addL S63 Tryz.prog 56 2 Uta Uza Kga
theorem Nib : fEb Tryz.prog th S64 := Nhb.addL (by kernel_rfl) (by kernel_rfl) (by kernel_rfl) rfl
abbrev Bub : List Shp := [(.ty Y2)]
noncomputable def Mka : (List D2) × Unit → Option (Bool × Unit) := jTa (fnT Tryz.prog th (S64 jKa lIa bFb) 56 Bub (.ty .bool) [])
noncomputable def Wca (l0 : List D2) (fk : Fk) (bd : Bd) (sm : Sm) : Option (Bool × Unit) :=
    bd (Kga (l0, l0, (↑(List.length l0) : Int), (0 : Int), ())) fun y0 => sm y0 (fun y1 => some (false, ())) fun y2 => some (decide ((↑(List.length y2.1) : Int) ≤ (30 : Int)), ())
theorem Emb (l0) : Mka (l0, ()) = Wca l0 jKa lIa bFb := eqF (S := S64) fun _ _ _ => by kernel_rfl
noncomputable def S65 : OCs := addF S64 Tryz.prog 56 Bub (.ty .bool) [] Mka
theorem Njb : fEb Tryz.prog th S65 := Nib.addF rfl
abbrev Bnb : List Shp := [(.ty Y4)]
noncomputable def Qda : D6 × Unit → Option (Bool × Unit) := jTa (fnT Tryz.prog th (S65 jKa lIa bFb) 20 Bnb (.ty .bool) [])
noncomputable def Bdb (x0 : Int × (List D1) × (List D2) × (List D2) × Int × Unit) (fk : Fk) (bd : Bd) (sm : Sm) : Option (Bool × Unit) :=
    fk (decide (x0.1 < (0 : Int))) (some (false, ())) (fk (decide (x0.1 ≥ (8 : Int))) (some (false, ())) (fk (decide ((↑(List.length x0.2.1) : Int) > (60 : Int))) (some (false, ())) (fk (decide (x0.2.2.2.2.1 < (0 : Int))) (some (false, ())) (fk (decide (x0.2.2.2.2.1 > (1048576 : Int))) (some (false, ())) (bd (Hxa (x0.1, x0.2.1, x0.2.2.1, x0.2.2.2.1, x0.2.2.2.2.1, x0.2.1, (↑(List.length x0.2.1) : Int), (0 : Int), ())) fun y0 => sm y0 (fun y1 => some (false, ())) fun y2 => bd (Mda (@List.nil D2, y2.2.1, ())) fun y3 => fk (y3.2.1 == (0 : Int)) (bd (Ira (y3.1, y2.2.2.1, ())) fun y4 => fk y4.1 (bd (Mka (y2.2.2.1, ())) fun y5 => fk y5.1 (bd (Mka (y2.2.2.2.1, ())) fun y6 => some (y6.1, ())) (some (false, ()))) (some (false, ()))) (some (false, ())))))))
theorem Eeb (x0) : Qda (x0, ()) = Bdb x0 jKa lIa bFb := eqF (S := S65) fun _ _ _ => by kernel_rfl
noncomputable def S66 : OCs := addF S65 Tryz.prog 20 Bnb (.ty .bool) [] Qda
theorem Nkb : fEb Tryz.prog th S66 := Njb.addF rfl
abbrev Yua : List Shp := [(.ty Y5)]
noncomputable def Sla : D4 × Unit → Option (D4 × Unit) := jTa (fnT Tryz.prog th (S66 jKa lIa bFb) 187 Yua (.ty Y5) [])
noncomputable def Yma (x0 : Int × List ByteArray × List ByteArray × Unit) (fk : Fk) (bd : Bd) (sm : Sm) : Option (D4 × Unit) :=
    fk (decide (List.length x0.2.2.1 ≤ bBa)) (fk (decide (List.length x0.2.2.1 = List.length x0.2.2.1)) (fk (decide (List.length x0.2.1 ≤ bBa)) (fk (decide (List.length x0.2.1 = List.length x0.2.1)) (some ((x0.1, x0.2.2.1, x0.2.1, ()), ())) none) none) none) none
theorem Ccb (x0) : Sla (x0, ()) = Yma x0 jKa lIa bFb := eqF (S := S66) fun _ _ _ => by kernel_rfl
noncomputable def S67 : OCs := addF S66 Tryz.prog 187 Yua (.ty Y5) [] Sla
theorem Nlb : fEb Tryz.prog th S67 := Nkb.addF rfl
abbrev Zaa : List Shp := [(.ty Y1)]
noncomputable def Tfa : D0 × Unit → Option (D0 × Unit) := jTa (fnT Tryz.prog th (S67 jKa lIa bFb) 147 Zaa (.ty Y1) [])
noncomputable def Lba (x0 : Int × ByteArray × ByteArray × D4 × Unit) (fk : Fk) (bd : Bd) (sm : Sm) : Option (D0 × Unit) :=
    let z0 := (x0.2.2.2.1.1, x0.2.2.2.1.2.1, x0.2.2.2.1.2.2.1, ())
    fk (x0.1 == (0 : Int)) (some (((1 : Int), x0.2.1, x0.2.2.1, z0, ()), ())) (fk (x0.1 == (1 : Int)) (some (((0 : Int), x0.2.1, x0.2.2.1, z0, ()), ())) (fk (x0.1 == (2 : Int)) (some ((x0.1, x0.2.2.1, x0.2.1, z0, ()), ())) (bd (Sla (z0, ())) fun y0 => some ((x0.1, x0.2.1, x0.2.2.1, (y0.1.1, y0.1.2.1, y0.1.2.2.1, ()), ()), ()))))
theorem Cwb (x0) : Tfa (x0, ()) = Lba x0 jKa lIa bFb := eqF (S := S67) fun _ _ _ => by kernel_rfl
noncomputable def S68 : OCs := addF S67 Tryz.prog 147 Zaa (.ty Y1) [] Tfa
theorem Nmb : fEb Tryz.prog th S68 := Nlb.addF rfl
abbrev Eoa : fCa := ⟨[⟨Y1, 72, 6, true⟩], [], [[(.mref 0)], [(.ty (.list Y1))]], [⟨202, 3, [.undef, .undef, .nils, (.bptr 0 0)], .normal, .ready⟩], [(.yield 0), (.bptr 1 0), (.ty (.int .i64))]⟩
abbrev Esa : List sQa := [⟨(.exit 0), ⟨[⟨Y1, 72, 6, true⟩], [], [[(.mref 0)], [(.ty (.list Y1))]], [⟨202, 3, [.undef, .undef, .nils, (.bptr 0 0)], .normal, .ready⟩], [(.yield 0), (.bptr 1 0), (.ty (.int .i64))]⟩⟩]
noncomputable def Apa : (List D0) × (List D0) × Int × Unit → Option D24 := jTa (pBa (nHa Tryz.prog th (S68 jKa lIa bFb) 238 1 Eoa Esa))
noncomputable def Caa (l0 : List D0) (l1 : List D0) (i2 : Int) (fk : Fk) (bd : Bd) (sm : Sm) : Option (D24 ⊕ D24) :=
    let z0 := (List.getD l1 (Int.toNat i2) ((0 : Int), ByteArray.empty, ByteArray.empty, ((0 : Int), @List.nil ByteArray, @List.nil ByteArray, ()), ()))
    fk (decide (i2 ≥ (0 : Int))) (fk (decide ((0 : Int) ≤ i2)) (fk (decide (i2 < (↑(List.length l1) : Int))) (bd (Tfa ((z0.1, z0.2.1, z0.2.2.1, (z0.2.2.2.1.1, z0.2.2.2.1.2.1, z0.2.2.2.1.2.2.1, ()), ()), ())) fun y0 => fk (decide (List.length l0 = List.length l0)) (fk (decide (List.length (l0 ++ (y0.1.1, y0.1.2.1, y0.1.2.2.1, (y0.1.2.2.2.1.1, y0.1.2.2.2.1.2.1, y0.1.2.2.2.1.2.2.1, ()), ()) :: @List.nil D0) ≤ bBa)) (fk (decide (List.length (l0 ++ (y0.1.1, y0.1.2.1, y0.1.2.2.1, (y0.1.2.2.2.1.1, y0.1.2.2.2.1.2.1, y0.1.2.2.2.1.2.2.1, ()), ()) :: @List.nil D0) = List.length (l0 ++ (y0.1.1, y0.1.2.1, y0.1.2.2.1, (y0.1.2.2.2.1.1, y0.1.2.2.2.1.2.1, y0.1.2.2.2.1.2.2.1, ()), ()) :: @List.nil D0))) (some (Sum.inl (l0 ++ (y0.1.1, y0.1.2.1, y0.1.2.2.1, (y0.1.2.2.2.1.1, y0.1.2.2.2.1.2.1, y0.1.2.2.2.1.2.2.1, ()), ()) :: @List.nil D0, l1, IntKind.wrap IntKind.i64 (i2 - (1 : Int)), ()))) none) none) none) none) none) (fk (decide (List.length l0 = List.length l0)) (some (Sum.inr (l0, l1, i2, ()))) none)
theorem Dla (l0 l1 i2) : Apa (l0, l1, i2, ()) = (Caa l0 l1 i2 jKa lIa bFb).bind (Sum.elim Apa some) := eqL (S := S68) fun _ _ _ => by kernel_rfl
noncomputable def S69 : OCs := addL S68 Tryz.prog 238 1 Eoa Esa Apa
theorem Nnb : fEb Tryz.prog th S69 := Nmb.addL (by kernel_rfl) (by kernel_rfl) (by kernel_rfl) rfl
abbrev Yta : List Shp := [(.ty (.list Y1))]
noncomputable def Oca : (List D0) × Unit → Option D35 := jTa (fnT Tryz.prog th (S69 jKa lIa bFb) 202 Yta (.ty (.list Y1)) [])
noncomputable def Yla (l0 : List D0) (fk : Fk) (bd : Bd) (sm : Sm) : Option D35 :=
    fk (decide (List.length (@List.nil D0) = (0 : Nat))) (bd (Apa (@List.nil D0, l0, IntKind.wrap IntKind.i64 ((↑(List.length l0) : Int) - (1 : Int)), ())) fun y0 => fk (decide (List.length y0.1 = List.length y0.1)) (some (y0.1, ())) none) none
theorem Bzb (l0) : Oca (l0, ()) = Yla l0 jKa lIa bFb := eqF (S := S69) fun _ _ _ => by kernel_rfl
noncomputable def S70 : OCs := addF S69 Tryz.prog 202 Yta (.ty (.list Y1)) [] Oca
theorem Nob : fEb Tryz.prog th S70 := Nnb.addF rfl
abbrev Lga : List Shp := [(.ty Y0), (.ty (.list Y1))]
noncomputable def Fva : D1 × (List D0) × Unit → Option (D1 × Unit) := jTa (fnT Tryz.prog th (S70 jKa lIa bFb) 52 Lga (.ty Y0) [])
noncomputable def Lda (x0 : D3 × (List D3) × ByteArray × (List D0) × Unit) (l1 : List D0) (fk : Fk) (bd : Bd) (sm : Sm) : Option (D1 × Unit) :=
    fk (decide (List.length x0.2.1 ≤ bBa)) (fk (decide (List.length x0.2.1 = List.length x0.2.1)) (some (((x0.1.1, x0.1.2.1, ()), x0.2.1, x0.2.2.1, l1, ()), ())) none) none
theorem Rva (x0 l1) : Fva (x0, l1, ()) = Lda x0 l1 jKa lIa bFb := eqF (S := S70) fun _ _ _ => by kernel_rfl
noncomputable def S71 : OCs := addF S70 Tryz.prog 52 Lga (.ty Y0) [] Fva
theorem Npb : fEb Tryz.prog th S71 := Nob.addF rfl
abbrev Jua : fCa := ⟨[], [], [[(.ty (.int .i64)), (.ty (.int .i64))]], [], [(.ty (.list Y3)), (.bptr 0 0), (.st (.int .i64 0)), (.ty (.int .i64)), (.ty (.int .i64))]⟩
abbrev Kea : List sQa := [⟨.ret, ⟨[], [], [[(.ty (.int .i64)), (.ty (.int .i64))]], [], [(.ty (.list Y3)), (.bptr 0 0), (.ty (.int .i64)), (.ty (.int .i64)), (.ty (.int .i64))]⟩⟩, ⟨(.exit 0), ⟨[], [], [[(.ty (.int .i64)), (.ty (.int .i64))]], [], [(.ty (.list Y3)), (.bptr 0 0), (.st (.int .i64 0)), (.ty (.int .i64)), (.ty (.int .i64))]⟩⟩]
noncomputable def Cga : Int × Int × (List D3) × Int × Int × Unit → Option ((Int × Int × (List D3) × Int × Int × Int × Unit) ⊕ (Int × Int × (List D3) × Int × Int × Unit)) := jTa (pBa (nHa Tryz.prog th (S71 jKa lIa bFb) 103 2 Jua Kea))
noncomputable def Cwa (i0 : Int) (i1 : Int) (l2 : List D3) (i3 : Int) (i4 : Int) (fk : Fk) (bd : Bd) (sm : Sm) : Option ((Int × Int × (List D3) × Int × Int × Unit) ⊕ ((Int × Int × (List D3) × Int × Int × Int × Unit) ⊕ (Int × Int × (List D3) × Int × Int × Unit))) :=
    fk (decide (i4 < i3)) (fk (decide ((0 : Int) ≤ i4)) (fk (decide (i4 < (↑(List.length l2) : Int))) (fk (i0 == (List.getD l2 (Int.toNat i4) ((0 : Int), (0 : Int), ())).1 && (i1 == (List.getD l2 (Int.toNat i4) ((0 : Int), (0 : Int), ())).2.1 && true)) (some (Sum.inr (Sum.inl (i0, i1, l2, i4, i3, i4, ())))) (some (Sum.inl (i0, i1, l2, i3, IntKind.wrap IntKind.i64 (i4 + (1 : Int)), ())))) none) none) (some (Sum.inr (Sum.inr (i0, i1, l2, i3, i4, ()))))
theorem Ioa (i0 i1 l2 i3 i4) : Cga (i0, i1, l2, i3, i4, ()) = (Cwa i0 i1 l2 i3 i4 jKa lIa bFb).bind (Sum.elim Cga some) := eqL (S := S71) fun _ _ _ => by kernel_rfl
noncomputable def S72 : OCs := addL S71 Tryz.prog 103 2 Jua Kea Cga
theorem Nqb : fEb Tryz.prog th S72 := Npb.addL (by kernel_rfl) (by kernel_rfl) (by kernel_rfl) rfl
abbrev Mwa : List Shp := [(.ty (.list Y3)), (.ty Y3)]
noncomputable def Hka : (List D3) × D3 × Unit → Option (Int × Unit) := jTa (fnT Tryz.prog th (S72 jKa lIa bFb) 103 Mwa (.ty (.int .i64)) [])
noncomputable def Msa (l0 : List D3) (x1 : Int × Int × Unit) (fk : Fk) (bd : Bd) (sm : Sm) : Option (Int × Unit) :=
    bd (Cga (x1.1, x1.2.1, l0, (↑(List.length l0) : Int), (0 : Int), ())) fun y0 => sm y0 (fun y1 => some (y1.2.2.2.1, ())) fun y2 => some ((-1 : Int), ())
theorem Tka (l0 x1) : Hka (l0, x1, ()) = Msa l0 x1 jKa lIa bFb := eqF (S := S72) fun _ _ _ => by kernel_rfl
noncomputable def S73 : OCs := addF S72 Tryz.prog 103 Mwa (.ty (.int .i64)) [] Hka
theorem Nrb : fEb Tryz.prog th S73 := Nqb.addF rfl
abbrev Jsa : List Shp := [(.ty (.list Y3)), (.ty Y3)]
noncomputable def Cfa : (List D3) × D3 × Unit → Option (Bool × Unit) := jTa (fnT Tryz.prog th (S73 jKa lIa bFb) 51 Jsa (.ty .bool) [])
noncomputable def Joa (l0 : List D3) (x1 : Int × Int × Unit) (fk : Fk) (bd : Bd) (sm : Sm) : Option (Bool × Unit) :=
    bd (Hka (l0, (x1.1, x1.2.1, ()), ())) fun y0 => some (decide (y0.1 ≥ (0 : Int)), ())
theorem Pla (l0 x1) : Cfa (l0, x1, ()) = Joa l0 x1 jKa lIa bFb := eqF (S := S73) fun _ _ _ => by kernel_rfl
noncomputable def S74 : OCs := addF S73 Tryz.prog 51 Jsa (.ty .bool) [] Cfa
theorem Nsb : fEb Tryz.prog th S74 := Nrb.addF rfl
abbrev Wpa : List Shp := [(.ty Y0), (.ty Y0)]
noncomputable def Zoa : D1 × D1 × Unit → Option (D1 × D1 × Bool × Unit) := jTa (fnT Tryz.prog th (S74 jKa lIa bFb) 17 Wpa (.tuple [(.ty Y0), (.ty Y0), (.ty .bool)]) [])
noncomputable def S75 : OCs := addF S74 Tryz.prog 17 Wpa (.tuple [(.ty Y0), (.ty Y0), (.ty .bool)]) [] Zoa
theorem Ntb : fEb Tryz.prog th S75 := Nsb.addF rfl
abbrev Dxa : fCa := ⟨[⟨Y0, 40, 5, true⟩, ⟨Y0, 40, 5, true⟩], [], [[(.ty (.int .i64)), (.ty (.int .i64)), (.ty (.list Y3)), (.ty .str), (.ty (.list Y1))], [(.st (.int .i64 0)), (.st (.int .i64 0)), .nils, (.st (.string ⟨#[]⟩)), .nils], [(.mref 0)], [(.st (.bool false))], [(.mref 1)], [(.ty (.list Y0))]], [⟨167, 5, [.undef, .undef, .undef, (.bptr 0 0), (.bptr 1 0), (.bptr 2 0), (.bptr 3 0), .undef, (.bptr 4 0)], .normal, .ready⟩], [(.yield 0), (.bptr 5 0), (.ty (.int .i64))]⟩
abbrev Eaa : List sQa := [⟨.ret, ⟨[⟨Y0, 40, 5, true⟩, ⟨Y0, 40, 5, true⟩], [], [[(.ty (.int .i64)), (.ty (.int .i64)), (.ty (.list Y3)), (.ty .str), (.ty (.list Y1))], [(.st (.int .i64 0)), (.st (.int .i64 0)), .nils, (.st (.string ⟨#[]⟩)), .nils], [.nils], [(.st (.bool false))], [(.mref 1)], [(.ty (.list Y0))]], [⟨167, 5, [.undef, .undef, .undef, (.bptr 0 0), (.bptr 1 0), (.bptr 2 0), (.bptr 3 0), .undef, (.bptr 4 0)], .ret, .done⟩], [(.yield 0), (.bptr 5 0), (.ty (.int .i64))]⟩⟩, ⟨(.exit 0), ⟨[⟨Y0, 40, 5, true⟩, ⟨Y0, 40, 5, true⟩], [], [[(.ty (.int .i64)), (.ty (.int .i64)), (.ty (.list Y3)), (.ty .str), (.ty (.list Y1))], [(.st (.int .i64 0)), (.st (.int .i64 0)), .nils, (.st (.string ⟨#[]⟩)), .nils], [(.mref 0)], [(.st (.bool false))], [(.mref 1)], [(.ty (.list Y0))]], [⟨167, 5, [.undef, .undef, .undef, (.bptr 0 0), (.bptr 1 0), (.bptr 2 0), (.bptr 3 0), .undef, (.bptr 4 0)], .normal, .ready⟩], [(.yield 0), (.bptr 5 0), (.ty (.int .i64))]⟩⟩]
noncomputable def Ala : (List D1) × (List D1) × Int × Int × (List D3) × ByteArray × (List D0) × (List D1) × Int × Unit → Option (D17 ⊕ D17) := jTa (pBa (nHa Tryz.prog th (S75 jKa lIa bFb) 226 1 Dxa Eaa))
noncomputable def Dua (l0 : List D1) (l1 : List D1) (i2 : Int) (i3 : Int) (l4 : List D3) (s5 : ByteArray) (l6 : List D0) (l7 : List D1) (i8 : Int) (fk : Fk) (bd : Bd) (sm : Sm) : Option (D17 ⊕ (D17 ⊕ D17)) :=
    let z0 := (List.getD l7 (Int.toNat i8) (((0 : Int), (0 : Int), ()), @List.nil D3, ByteArray.empty, @List.nil D0, ()))
    fk (decide (i8 ≥ (0 : Int))) (fk (decide ((0 : Int) ≤ i8)) (fk (decide (i8 < (↑(List.length l7) : Int))) (bd (Zoa (((z0.1.1, z0.1.2.1, ()), z0.2.1, z0.2.2.1, z0.2.2.2.1, ()), ((i2, i3, ()), l4, s5, l6, ()), ())) fun y0 => fk (!y0.2.2.1) (fk (decide (List.length l1 = List.length l1)) (some (Sum.inr (Sum.inl (l0, l1, i2, i3, l4, s5, l6, l7, i8, ())))) none) (fk (decide (List.length l1 = List.length l1)) (fk (decide (List.length (l1 ++ ((y0.2.1.1.1, y0.2.1.1.2.1, ()), y0.2.1.2.1, y0.2.1.2.2.1, y0.2.1.2.2.2.1, ()) :: @List.nil D5) ≤ bBa)) (fk (decide (List.length l0 = List.length l0)) (fk (decide (List.length (l1 ++ ((y0.2.1.1.1, y0.2.1.1.2.1, ()), y0.2.1.2.1, y0.2.1.2.2.1, y0.2.1.2.2.2.1, ()) :: @List.nil D5) = List.length (l1 ++ ((y0.2.1.1.1, y0.2.1.1.2.1, ()), y0.2.1.2.1, y0.2.1.2.2.1, y0.2.1.2.2.2.1, ()) :: @List.nil D5))) (some (Sum.inl (l0, l1 ++ ((y0.2.1.1.1, y0.2.1.1.2.1, ()), y0.2.1.2.1, y0.2.1.2.2.1, y0.2.1.2.2.2.1, ()) :: @List.nil D5, y0.1.1.1, y0.1.1.2.1, y0.1.2.1, y0.1.2.2.1, y0.1.2.2.2.1, l7, IntKind.wrap IntKind.i64 (i8 - (1 : Int)), ()))) none) none) none) none)) none) none) (fk (decide (List.length l0 = List.length l0)) (fk (decide (List.length l1 = List.length l1)) (some (Sum.inr (Sum.inr (l0, l1, i2, i3, l4, s5, l6, l7, i8, ())))) none) none)
theorem Iua (l0 l1 i2 i3 l4 s5 l6 l7 i8) : Ala (l0, l1, i2, i3, l4, s5, l6, l7, i8, ()) = (Dua l0 l1 i2 i3 l4 s5 l6 l7 i8 jKa lIa bFb).bind (Sum.elim Ala some) := eqL (S := S75) fun _ _ _ => by kernel_rfl
noncomputable def S76 : OCs := addL S75 Tryz.prog 226 1 Dxa Eaa Ala
theorem Nub : fEb Tryz.prog th S76 := Ntb.addL (by kernel_rfl) (by kernel_rfl) (by kernel_rfl) rfl
abbrev Gfa : fCa := ⟨[⟨Y0, 40, 5, true⟩, ⟨Y0, 40, 5, true⟩], [], [[(.ty (.int .i64)), (.ty (.int .i64)), (.ty (.list Y3)), (.ty .str), (.ty (.list Y1))], [(.st (.int .i64 0)), (.st (.int .i64 0)), .nils, (.st (.string ⟨#[]⟩)), .nils], [(.mref 0)], [(.st (.bool false))], [(.mref 1)], [(.ty (.list Y0))]], [], [(.mref 1), (.ty (.int .i64)), (.ty (.int .i64))]⟩
abbrev Gka : List sQa := [⟨(.exit 0), ⟨[⟨Y0, 40, 5, true⟩, ⟨Y0, 40, 5, true⟩], [], [[(.ty (.int .i64)), (.ty (.int .i64)), (.ty (.list Y3)), (.ty .str), (.ty (.list Y1))], [(.st (.int .i64 0)), (.st (.int .i64 0)), .nils, (.st (.string ⟨#[]⟩)), .nils], [(.mref 0)], [(.st (.bool false))], [(.mref 1)], [(.ty (.list Y0))]], [], [(.mref 1), (.ty (.int .i64)), (.ty (.int .i64))]⟩⟩]
noncomputable def Bea : (List D1) × (List D1) × Int × Int × (List D3) × ByteArray × (List D0) × (List D1) × Int × Int × Unit → Option D31 := jTa (pBa (nHa Tryz.prog th (S76 jKa lIa bFb) 204 1 Gfa Gka))
noncomputable def Gba (l0 : List D1) (l1 : List D1) (i2 : Int) (i3 : Int) (l4 : List D3) (s5 : ByteArray) (l6 : List D0) (l7 : List D1) (i8 : Int) (i9 : Int) (fk : Fk) (bd : Bd) (sm : Sm) : Option (D31 ⊕ D31) :=
    let z0 := (Ty.dfl (Ty.pair (Ty.pair (Ty.int IntKind.i64) (Ty.pair (Ty.int IntKind.i64) Ty.unit)) (Ty.pair (Ty.list (Ty.pair (Ty.int IntKind.i64) (Ty.pair (Ty.int IntKind.i64) Ty.unit))) (Ty.pair Ty.str (Ty.pair (Ty.list (Ty.pair (Ty.int IntKind.i64) (Ty.pair Ty.str (Ty.pair Ty.str (Ty.pair (Ty.pair (Ty.int IntKind.i64) (Ty.pair (Ty.list Ty.str) (Ty.pair (Ty.list Ty.str) Ty.unit))) Ty.unit))))) Ty.unit)))))
    let z1 := (List.set l1 (Int.toNat i8) (((List.getD l1 (Int.toNat i9) z0).1.1, (List.getD l1 (Int.toNat i9) z0).1.2.1, ()), (List.getD l1 (Int.toNat i9) z0).2.1, (List.getD l1 (Int.toNat i9) z0).2.2.1, (List.getD l1 (Int.toNat i9) z0).2.2.2.1, ()))
    let z2 := (((List.getD l1 (Int.toNat i8) z0).1.1, (List.getD l1 (Int.toNat i8) z0).1.2.1, ()), (List.getD l1 (Int.toNat i8) z0).2.1, (List.getD l1 (Int.toNat i8) z0).2.2.1, (List.getD l1 (Int.toNat i8) z0).2.2.2.1, ())
    let z3 := (decide (List.length l1 = List.length l1))
    fk (decide (i8 < i9)) (fk (decide ((0 : Int) ≤ i9)) (fk z3 (fk (decide (i9 < (↑(List.length l1) : Int))) (fk z3 (fk (decide (Int.toNat i9 < List.length l1)) (fk (decide ((0 : Int) ≤ i8)) (fk z3 (fk (decide (i8 < (↑(List.length l1) : Int))) (fk z3 (fk (decide (Int.toNat i8 < List.length l1)) (fk (decide ((0 : Int) ≤ i8)) (fk z3 (fk (decide (i8 < (↑(List.length l1) : Int))) (fk z3 (fk (decide (Int.toNat i8 < List.length l1)) (fk (decide ((0 : Int) ≤ i9)) (fk (decide (List.length z1 = List.length l1)) (fk (decide (i9 < (↑(List.length l1) : Int))) (fk (decide (List.length z1 = List.length l1)) (fk (decide (Int.toNat i9 < List.length l1)) (fk (decide (List.length (List.set z1 (Int.toNat i9) z2) = List.length l1)) (fk (decide (List.length l0 = List.length l0)) (fk (decide (List.length (List.set z1 (Int.toNat i9) z2) = List.length l1)) (some (Sum.inl (l0, List.set z1 (Int.toNat i9) z2, i2, i3, l4, s5, l6, l7, IntKind.wrap IntKind.i64 (i8 + (1 : Int)), IntKind.wrap IntKind.i64 (i9 - (1 : Int)), ()))) none) none) none) none) none) none) none) none) none) none) none) none) none) none) none) none) none) none) none) none) none) none) none) (fk z3 (fk (decide (List.length l0 = List.length l0)) (fk z3 (some (Sum.inr (l0, l1, i2, i3, l4, s5, l6, l7, i8, i9, ()))) none) none) none)
theorem Kla (l0 l1 i2 i3 l4 s5 l6 l7 i8 i9) : Bea (l0, l1, i2, i3, l4, s5, l6, l7, i8, i9, ()) = (Gba l0 l1 i2 i3 l4 s5 l6 l7 i8 i9 jKa lIa bFb).bind (Sum.elim Bea some) := eqL (S := S76) fun _ _ _ => by kernel_rfl
noncomputable def S77 : OCs := addL S76 Tryz.prog 204 1 Gfa Gka Bea
theorem Nvb : fEb Tryz.prog th S77 := Nub.addL (by kernel_rfl) (by kernel_rfl) (by kernel_rfl) rfl
abbrev Woa : List Shp := [(.ty (.list Y0)), (.ty Y0)]
noncomputable def Jla : (List D1) × D1 × Unit → Option ((List D1) × D1 × Bool × Unit) := jTa (fnT Tryz.prog th (S77 jKa lIa bFb) 167 Woa (.tuple [(.ty Y0), (.mref 0), (.ty .bool)]) [⟨Y0, 40, 5, true⟩])
noncomputable def Vza (l0 : List D1) (x1 : D3 × (List D3) × ByteArray × (List D0) × Unit) (fk : Fk) (bd : Bd) (sm : Sm) : Option ((List D1) × D1 × Bool × Unit) :=
    let z0 := (decide (List.length (@List.nil D5) = (0 : Nat)))
    bd (Oca (x1.2.2.2.1, ())) fun y0 => bd (Oca (y0.1, ())) fun y1 => bd (Fva (((x1.1.1, x1.1.2.1, ()), x1.2.1, x1.2.2.1, x1.2.2.2.1, ()), y1.1, ())) fun y2 => fk z0 (fk z0 (bd (Ala (@List.nil D5, @List.nil D5, y2.1.1.1, y2.1.1.2.1, y2.1.2.1, y2.1.2.2.1, y2.1.2.2.2.1, l0, IntKind.wrap IntKind.i64 ((↑(List.length l0) : Int) - (1 : Int)), ())) fun y3 => sm y3 (fun y4 => fk z0 (some (@List.nil D5, (((0 : Int), (0 : Int), ()), @List.nil D3, ByteArray.empty, @List.nil D0, ()), false, ())) none) fun y5 => fk (decide (List.length y5.2.1 = List.length y5.2.1)) (fk (decide (List.length y5.2.1 = List.length y5.2.1)) (fk (decide (List.length y5.1 = List.length y5.1)) (fk (decide (List.length y5.2.1 = List.length y5.2.1)) (bd (Bea (y5.1, y5.2.1, y5.2.2.1, y5.2.2.2.1, y5.2.2.2.2.1, y5.2.2.2.2.2.1, y5.2.2.2.2.2.2.1, y5.2.2.2.2.2.2.2.1, (0 : Int), IntKind.wrap IntKind.i64 ((↑(List.length y5.2.1) : Int) - (1 : Int)), ())) fun y6 => fk (decide (List.length y6.2.1 = List.length y6.2.1)) (fk (decide (List.length y6.2.1 = List.length y6.2.1)) (some (y6.2.1, ((y6.2.2.1, y6.2.2.2.1, ()), y6.2.2.2.2.1, y6.2.2.2.2.2.1, y6.2.2.2.2.2.2.1, ()), true, ())) none) none) none) none) none) none) none) none
theorem Aub (l0 x1) : Jla (l0, x1, ()) = Vza l0 x1 jKa lIa bFb := eqF (S := S77) fun _ _ _ => by kernel_rfl
noncomputable def S78 : OCs := addF S77 Tryz.prog 167 Woa (.tuple [(.ty Y0), (.mref 0), (.ty .bool)]) [⟨Y0, 40, 5, true⟩] Jla
theorem Nwb : fEb Tryz.prog th S78 := Nvb.addF rfl
abbrev Qpa : fCa := ⟨[⟨Y0, 40, 5, true⟩], [], [], [], [.nils, (.mref 0), (.ty (.list Y0)), (.ty (.int .i64)), (.ty (.int .i64))]⟩
abbrev Qxa : List sQa := [⟨(.exit 0), ⟨[⟨Y0, 40, 5, true⟩], [], [], [], [.nils, (.mref 0), (.ty (.list Y0)), (.ty (.int .i64)), (.ty (.int .i64))]⟩⟩]
noncomputable def Gta : (List D1) × (List D1) × Int × Int × Unit → Option ((List D1) × (List D1) × Int × Int × Unit) := jTa (pBa (nHa Tryz.prog th (S78 jKa lIa bFb) 127 3 Qpa Qxa))
noncomputable def Kya (l0 : List D1) (l1 : List D1) (i2 : Int) (i3 : Int) (fk : Fk) (bd : Bd) (sm : Sm) : Option (((List D1) × (List D1) × Int × Int × Unit) ⊕ ((List D1) × (List D1) × Int × Int × Unit)) :=
    let z0 := (List.getD l1 (Int.toNat i3) (((0 : Int), (0 : Int), ()), @List.nil D3, ByteArray.empty, @List.nil D0, ()))
    fk (decide (i3 < i2)) (fk (decide ((0 : Int) ≤ i3)) (fk (decide (i3 < (↑(List.length l1) : Int))) (bd (Jla (@List.nil D5, ((z0.1.1, z0.1.2.1, ()), z0.2.1, z0.2.2.1, z0.2.2.2.1, ()), ())) fun y0 => fk (decide (List.length y0.1 = List.length y0.1)) (fk (decide (List.length l0 = List.length l0)) (fk (decide (List.length (l0 ++ ((y0.2.1.1.1, y0.2.1.1.2.1, ()), y0.2.1.2.1, y0.2.1.2.2.1, y0.2.1.2.2.2.1, ()) :: @List.nil D5) ≤ bBa)) (fk (decide (List.length (l0 ++ ((y0.2.1.1.1, y0.2.1.1.2.1, ()), y0.2.1.2.1, y0.2.1.2.2.1, y0.2.1.2.2.2.1, ()) :: @List.nil D5) = List.length (l0 ++ ((y0.2.1.1.1, y0.2.1.1.2.1, ()), y0.2.1.2.1, y0.2.1.2.2.1, y0.2.1.2.2.2.1, ()) :: @List.nil D5))) (some (Sum.inl (l0 ++ ((y0.2.1.1.1, y0.2.1.1.2.1, ()), y0.2.1.2.1, y0.2.1.2.2.1, y0.2.1.2.2.2.1, ()) :: @List.nil D5, l1, i2, IntKind.wrap IntKind.i64 (i3 + (1 : Int)), ()))) none) none) none) none) none) none) (fk (decide (List.length l0 = List.length l0)) (some (Sum.inr (l0, l1, i2, i3, ()))) none)
theorem Mxa (l0 l1 i2 i3) : Gta (l0, l1, i2, i3, ()) = (Kya l0 l1 i2 i3 jKa lIa bFb).bind (Sum.elim Gta some) := eqL (S := S78) fun _ _ _ => by kernel_rfl
noncomputable def S79 : OCs := addL S78 Tryz.prog 127 3 Qpa Qxa Gta
theorem Nxb : fEb Tryz.prog th S79 := Nwb.addL (by kernel_rfl) (by kernel_rfl) (by kernel_rfl) rfl
abbrev Wea : List Shp := [(.ty (.list Y0))]
noncomputable def Pua : (List D1) × Unit → Option ((List D1) × Unit) := jTa (fnT Tryz.prog th (S79 jKa lIa bFb) 127 Wea (.ty (.list Y0)) [])
noncomputable def Vpa (l0 : List D1) (fk : Fk) (bd : Bd) (sm : Sm) : Option ((List D1) × Unit) :=
    fk (decide (List.length (@List.nil D5) = (0 : Nat))) (bd (Gta (@List.nil D5, l0, (↑(List.length l0) : Int), (0 : Int), ())) fun y0 => fk (decide (List.length y0.1 = List.length y0.1)) (some (y0.1, ())) none) none
theorem Zsa (l0) : Pua (l0, ()) = Vpa l0 jKa lIa bFb := eqF (S := S79) fun _ _ _ => by kernel_rfl
noncomputable def S80 : OCs := addF S79 Tryz.prog 127 Wea (.ty (.list Y0)) [] Pua
theorem Nyb : fEb Tryz.prog th S80 := Nxb.addF rfl
abbrev Oea : fCa := ⟨[⟨Y0, 40, 5, true⟩, ⟨Y0, 40, 5, true⟩], [], [[(.mref 0), (.mref 1)]], [], [(.ty (.list Y3)), .nils, .nils, (.bptr 0 0), (.func 126 [(.bptr 0 0)] []), (.ty (.list Y0)), (.ty (.int .i64)), (.st (.int .i64 0))]⟩
abbrev Owa : List sQa := [⟨.normal, ⟨[⟨Y0, 40, 5, true⟩, ⟨Y0, 40, 5, false⟩], [], [[(.mref 0), (.mref 1)]], [], [(.ty (.list Y3)), .nils, .nils, (.bptr 0 0), (.func 126 [(.bptr 0 0)] []), (.ty (.list Y0)), (.ty (.int .i64)), (.st (.int .i64 1))]⟩⟩, ⟨(.exit 0), ⟨[⟨Y0, 40, 5, true⟩, ⟨Y0, 40, 5, true⟩], [], [[(.mref 0), (.mref 1)]], [], [(.ty (.list Y3)), .nils, .nils, (.bptr 0 0), (.func 126 [(.bptr 0 0)] []), (.ty (.list Y0)), (.ty (.int .i64)), (.st (.int .i64 0))]⟩⟩]
noncomputable def Cja : (List D1) × (List D1) × (List D3) × (List D1) × Int × Unit → Option (D28 ⊕ D28) := jTa (pBa (nHa Tryz.prog th (S80 jKa lIa bFb) 81 4 Oea Owa))
noncomputable def Gna (l0 : List D1) (l1 : List D1) (l2 : List D3) (l3 : List D1) (i4 : Int) (fk : Fk) (bd : Bd) (sm : Sm) : Option (D28 ⊕ (D28 ⊕ D28)) :=
    let z0 := (List.getD l3 (Int.toNat (0 : Int)) (((0 : Int), (0 : Int), ()), @List.nil D3, ByteArray.empty, @List.nil D0, ()))
    let z3 := ((z0.1.1, z0.1.2.1, ()), z0.2.1, z0.2.2.1, z0.2.2.2.1, ())
    let z1 := (l1 ++ z3 :: @List.nil D5)
    let z2 := (fk (decide (List.length l1 = List.length l1)) (fk (decide (List.length z1 ≤ bBa)) (fk (decide (List.length l0 = List.length l0)) (fk (decide (List.length z1 = List.length z1)) (some (Sum.inr (Sum.inl (l0, l1 ++ z3 :: @List.nil D5, l2, l3, i4, ())))) none) none) none) none)
    fk (decide ((0 : Int) < i4)) (fk (decide ((0 : Int) < (↑(List.length l3) : Int))) (bd (Cfa (l2, (z0.1.1, z0.1.2.1, ()), ())) fun y0 => fk (decide (List.length l1 = List.length l1)) (bd (Jla (l1, z3, ())) fun y1 => fk y0.1 z2 (fk (!y1.2.2.1) z2 (fk (decide (List.length l0 = List.length l0)) (fk (decide (List.length (l0 ++ ((y1.2.1.1.1, y1.2.1.1.2.1, ()), y1.2.1.2.1, y1.2.1.2.2.1, y1.2.1.2.2.2.1, ()) :: @List.nil D5) ≤ bBa)) (fk (decide (List.length (l0 ++ ((y1.2.1.1.1, y1.2.1.1.2.1, ()), y1.2.1.2.1, y1.2.1.2.2.1, y1.2.1.2.2.2.1, ()) :: @List.nil D5) = List.length (l0 ++ ((y1.2.1.1.1, y1.2.1.1.2.1, ()), y1.2.1.2.1, y1.2.1.2.2.1, y1.2.1.2.2.2.1, ()) :: @List.nil D5))) (fk (decide (List.length y1.1 = List.length y1.1)) (some (Sum.inr (Sum.inl (l0 ++ ((y1.2.1.1.1, y1.2.1.1.2.1, ()), y1.2.1.2.1, y1.2.1.2.2.1, y1.2.1.2.2.2.1, ()) :: @List.nil D5, y1.1, l2, l3, i4, ())))) none) none) none) none))) none) none) (fk (decide (List.length l0 = List.length l0)) (fk (decide (List.length l1 = List.length l1)) (some (Sum.inr (Sum.inr (l0, l1, l2, l3, i4, ())))) none) none)
theorem Hta (l0 l1 l2 l3 i4) : Cja (l0, l1, l2, l3, i4, ()) = (Gna l0 l1 l2 l3 i4 jKa lIa bFb).bind (Sum.elim Cja some) := eqL (S := S80) fun _ _ _ => by kernel_rfl
noncomputable def S81 : OCs := addL S80 Tryz.prog 81 4 Oea Owa Cja
theorem Nzb : fEb Tryz.prog th S81 := Nyb.addL (by kernel_rfl) (by kernel_rfl) (by kernel_rfl) rfl
abbrev Nca : fCa := ⟨[⟨Y0, 40, 5, true⟩, ⟨Y0, 40, 5, false⟩], [], [[(.mref 0), (.mref 1)]], [], [(.ty (.list Y3)), .nils, .nils, (.bptr 0 0), (.func 126 [(.bptr 0 0)] []), (.ty (.list Y0)), (.ty (.int .i64)), (.ty (.int .i64))]⟩
abbrev Nga : List sQa := [⟨(.exit 0), ⟨[⟨Y0, 40, 5, true⟩, ⟨Y0, 40, 5, false⟩], [], [[(.mref 0), (.mref 1)]], [], [(.ty (.list Y3)), .nils, .nils, (.bptr 0 0), (.func 126 [(.bptr 0 0)] []), (.ty (.list Y0)), (.ty (.int .i64)), (.ty (.int .i64))]⟩⟩]
noncomputable def Csa : (List D1) × (List D1) × (List D3) × (List D1) × Int × Int × Unit → Option ((List D1) × (List D1) × (List D3) × (List D1) × Int × Int × Unit) := jTa (pBa (nHa Tryz.prog th (S81 jKa lIa bFb) 81 4 Nca Nga))
noncomputable def Fta (l0 : List D1) (l1 : List D1) (l2 : List D3) (l3 : List D1) (i4 : Int) (i5 : Int) (fk : Fk) (bd : Bd) (sm : Sm) : Option (((List D1) × (List D1) × (List D3) × (List D1) × Int × Int × Unit) ⊕ ((List D1) × (List D1) × (List D3) × (List D1) × Int × Int × Unit)) :=
    let z0 := (List.getD l3 (Int.toNat i5) (((0 : Int), (0 : Int), ()), @List.nil D3, ByteArray.empty, @List.nil D0, ()))
    let z3 := ((z0.1.1, z0.1.2.1, ()), z0.2.1, z0.2.2.1, z0.2.2.2.1, ())
    let z2 := (l1 ++ z3 :: @List.nil D5)
    let z1 := (fk (decide (List.length l1 = List.length l1)) (fk (decide (List.length z2 ≤ bBa)) (fk (decide (List.length l0 = List.length l0)) (fk (decide (List.length z2 = List.length z2)) (some (Sum.inl (l0, l1 ++ z3 :: @List.nil D5, l2, l3, i4, IntKind.wrap IntKind.i64 (i5 + (1 : Int)), ()))) none) none) none) none)
    fk (decide (i5 < i4)) (fk (decide ((0 : Int) ≤ i5)) (fk (decide (i5 < (↑(List.length l3) : Int))) (bd (Cfa (l2, (z0.1.1, z0.1.2.1, ()), ())) fun y0 => fk (decide (List.length l1 = List.length l1)) (bd (Jla (l1, z3, ())) fun y1 => fk y0.1 z1 (fk (!y1.2.2.1) z1 (fk (decide (List.length l0 = List.length l0)) (fk (decide (List.length (l0 ++ ((y1.2.1.1.1, y1.2.1.1.2.1, ()), y1.2.1.2.1, y1.2.1.2.2.1, y1.2.1.2.2.2.1, ()) :: @List.nil D5) ≤ bBa)) (fk (decide (List.length (l0 ++ ((y1.2.1.1.1, y1.2.1.1.2.1, ()), y1.2.1.2.1, y1.2.1.2.2.1, y1.2.1.2.2.2.1, ()) :: @List.nil D5) = List.length (l0 ++ ((y1.2.1.1.1, y1.2.1.1.2.1, ()), y1.2.1.2.1, y1.2.1.2.2.1, y1.2.1.2.2.2.1, ()) :: @List.nil D5))) (fk (decide (List.length y1.1 = List.length y1.1)) (some (Sum.inl (l0 ++ ((y1.2.1.1.1, y1.2.1.1.2.1, ()), y1.2.1.2.1, y1.2.1.2.2.1, y1.2.1.2.2.2.1, ()) :: @List.nil D5, y1.1, l2, l3, i4, IntKind.wrap IntKind.i64 (i5 + (1 : Int)), ()))) none) none) none) none))) none) none) none) (fk (decide (List.length l0 = List.length l0)) (fk (decide (List.length l1 = List.length l1)) (some (Sum.inr (l0, l1, l2, l3, i4, i5, ()))) none) none)
theorem Gsa (l0 l1 l2 l3 i4 i5) : Csa (l0, l1, l2, l3, i4, i5, ()) = (Fta l0 l1 l2 l3 i4 i5 jKa lIa bFb).bind (Sum.elim Csa some) := eqL (S := S81) fun _ _ _ => by kernel_rfl
noncomputable def S82 : OCs := addL S81 Tryz.prog 81 4 Nca Nga Csa
theorem Oab : fEb Tryz.prog th S82 := Nzb.addL (by kernel_rfl) (by kernel_rfl) (by kernel_rfl) rfl
abbrev Uia : List Shp := [(.ty (.list Y0)), (.ty (.list Y3))]
noncomputable def Jta : (List D1) × (List D3) × Unit → Option ((List D1) × (List D1) × Unit) := jTa (fnT Tryz.prog th (S82 jKa lIa bFb) 81 Uia (.tuple [(.mref 0), (.ty (.list Y0))]) [⟨Y0, 40, 5, true⟩])
noncomputable def Koa (l0 : List D1) (l1 : List D3) (fk : Fk) (bd : Bd) (sm : Sm) : Option ((List D1) × (List D1) × Unit) :=
    let z0 := (decide (List.length (@List.nil D5) = (0 : Nat)))
    bd (Pua (l0, ())) fun y0 => fk z0 (fk z0 (bd (Cja (@List.nil D5, @List.nil D5, l1, y0.1, (↑(List.length y0.1) : Int), ())) fun y1 => sm y1 (fun y2 => fk (decide (List.length y2.1 = List.length y2.1)) (fk (decide (List.length y2.2.1 = List.length y2.2.1)) (bd (Csa (y2.1, y2.2.1, y2.2.2.1, y2.2.2.2.1, y2.2.2.2.2.1, (1 : Int), ())) fun y3 => fk (decide (List.length y3.1 = List.length y3.1)) (fk (decide (List.length y3.2.1 = List.length y3.2.1)) (fk (decide (List.length y3.1 = List.length y3.1)) (some (y3.1, y3.2.1, ())) none) none) none) none) none) fun y4 => fk (decide (List.length y4.1 = List.length y4.1)) (fk (decide (List.length y4.2.1 = List.length y4.2.1)) (fk (decide (List.length y4.1 = List.length y4.1)) (some (y4.1, y4.2.1, ())) none) none) none) none) none
theorem Xra (l0 l1) : Jta (l0, l1, ()) = Koa l0 l1 jKa lIa bFb := eqF (S := S82) fun _ _ _ => by kernel_rfl
noncomputable def S83 : OCs := addF S82 Tryz.prog 81 Uia (.tuple [(.mref 0), (.ty (.list Y0))]) [⟨Y0, 40, 5, true⟩] Jta
theorem Obb : fEb Tryz.prog th S83 := Oab.addF rfl
abbrev Bob : List Shp := [(.ty Y2)]
noncomputable def Mfa : (List D2) × Unit → Option D36 := jTa (fnT Tryz.prog th (S83 jKa lIa bFb) 58 Bob (.ty Y2) [])
noncomputable def Beb (l0 : List D2) (fk : Fk) (bd : Bd) (sm : Sm) : Option D36 :=
    bd (Qha (l0, ByteArray.empty, ())) fun y0 => some (y0.1, ())
theorem Efb (l0) : Mfa (l0, ()) = Beb l0 jKa lIa bFb := eqF (S := S83) fun _ _ _ => by kernel_rfl
noncomputable def S84 : OCs := addF S83 Tryz.prog 58 Bob (.ty Y2) [] Mfa
theorem Ocb : fEb Tryz.prog th S84 := Obb.addF rfl
abbrev Hpa : fCa := ⟨[], [], [], [], [(.ty (.list Y2)), .nils, (.ty (.int .i64)), (.ty (.list Y2)), (.ty (.int .i64)), (.ty (.int .i64))]⟩
abbrev Hqa : List sQa := [⟨(.exit 0), ⟨[], [], [], [], [(.ty (.list Y2)), .nils, (.ty (.int .i64)), (.ty (.list Y2)), (.ty (.int .i64)), (.ty (.int .i64))]⟩⟩]
noncomputable def Boa : (List (List D2)) × Int × (List (List D2)) × Int × Int × Unit → Option ((List (List D2)) × Int × (List (List D2)) × Int × Int × Unit) := jTa (pBa (nHa Tryz.prog th (S84 jKa lIa bFb) 155 3 Hpa Hqa))
noncomputable def Dha (l0 : List (List D2)) (i1 : Int) (l2 : List (List D2)) (i3 : Int) (i4 : Int) (fk : Fk) (bd : Bd) (sm : Sm) : Option (((List (List D2)) × Int × (List (List D2)) × Int × Int × Unit) ⊕ ((List (List D2)) × Int × (List (List D2)) × Int × Int × Unit)) :=
    fk (decide (i4 < i3)) (fk (decide ((0 : Int) ≤ i4)) (fk (decide (i4 < (↑(List.length l2) : Int))) (fk (decide (IntKind.wrap IntKind.i64 (i1 + (↑(List.length (List.getD l2 (Int.toNat i4) (@List.nil D2))) : Int)) < (0 : Int))) none (some (Sum.inl (l0, IntKind.wrap IntKind.i64 (i1 + (↑(List.length (List.getD l2 (Int.toNat i4) (@List.nil D2))) : Int)), l2, i3, IntKind.wrap IntKind.i64 (i4 + (1 : Int)), ())))) none) none) (some (Sum.inr (l0, i1, l2, i3, i4, ())))
theorem Gla (l0 i1 l2 i3 i4) : Boa (l0, i1, l2, i3, i4, ()) = (Dha l0 i1 l2 i3 i4 jKa lIa bFb).bind (Sum.elim Boa some) := eqL (S := S84) fun _ _ _ => by kernel_rfl
noncomputable def S85 : OCs := addL S84 Tryz.prog 155 3 Hpa Hqa Boa
theorem Odb : fEb Tryz.prog th S85 := Ocb.addL (by kernel_rfl) (by kernel_rfl) (by kernel_rfl) rfl
abbrev Gxa : fCa := ⟨[⟨Y6, 98, 2, true⟩, ⟨Y6, 98, 2, true⟩], [], [], [], [.nils, (.mview 1 2), (.ty (.list Y2)), (.ty (.int .i64)), (.ty (.int .i64))]⟩
abbrev Hda : List sQa := [⟨(.exit 2), ⟨[⟨Y6, 98, 2, true⟩, ⟨Y6, 98, 2, true⟩], [], [], [], [.nils, (.mview 1 2), (.ty (.list Y2)), (.ty (.int .i64)), (.ty (.int .i64))]⟩⟩]
noncomputable def Bia : (List D2) × (List D2) × Nat × Nat × (List (List D2)) × Int × Int × Unit → Option ((List D2) × (List D2) × Nat × Nat × (List (List D2)) × Int × Int × Unit) := jTa (pBa (nHa Tryz.prog th (S85 jKa lIa bFb) 155 11 Gxa Hda))
noncomputable def Cva (l0 : List D2) (l1 : List D2) (n2 : Nat) (n3 : Nat) (l4 : List (List D2)) (i5 : Int) (i6 : Int) (fk : Fk) (bd : Bd) (sm : Sm) : Option (((List D2) × (List D2) × Nat × Nat × (List (List D2)) × Int × Int × Unit) ⊕ ((List D2) × (List D2) × Nat × Nat × (List (List D2)) × Int × Int × Unit)) :=
    let z0 := (List.getD l4 (Int.toNat i6) (@List.nil D2))
    fk (decide (i6 < i5)) (fk (decide ((0 : Int) ≤ i6)) (fk (decide (i6 < (↑(List.length l4) : Int))) (fk (decide (List.length l1 = List.length l1)) (fk (decide (n2 ≤ n3)) (fk (decide (n3 + List.length z0 ≤ List.length l1)) (fk (decide (List.length (hYb l1 n3 z0) = List.length l1)) (some (Sum.inl (l0, hYb l1 n3 z0, n2, n3 + List.length z0, l4, i5, IntKind.wrap IntKind.i64 (i6 + (1 : Int)), ()))) none) none) none) none) none) none) (fk (decide (List.length l1 = List.length l1)) (some (Sum.inr (l0, l1, n2, n3, l4, i5, i6, ()))) none)
theorem Fpa (l0 l1 n2 n3 l4 i5 i6) : Bia (l0, l1, n2, n3, l4, i5, i6, ()) = (Cva l0 l1 n2 n3 l4 i5 i6 jKa lIa bFb).bind (Sum.elim Bia some) := eqL (S := S85) fun _ _ _ => by kernel_rfl
noncomputable def S86 : OCs := addL S85 Tryz.prog 155 11 Gxa Hda Bia
theorem Oeb : fEb Tryz.prog th S86 := Odb.addL (by kernel_rfl) (by kernel_rfl) (by kernel_rfl) rfl
abbrev Gca : fCa := ⟨[⟨Y6, 98, 2, true⟩, ⟨Y6, 98, 2, true⟩], [], [], [], [.nils, (.mref 1), (.ty (.list Y2)), (.ty (.int .i64)), (.ty (.int .i64))]⟩
abbrev Gha : List sQa := [⟨(.exit 2), ⟨[⟨Y6, 98, 2, true⟩, ⟨Y6, 98, 2, true⟩], [], [], [], [.nils, (.mref 1), (.ty (.list Y2)), (.ty (.int .i64)), (.ty (.int .i64))]⟩⟩]
noncomputable def Bba : (List D2) × (List D2) × (List (List D2)) × Int × Int × Unit → Option ((List D2) × (List D2) × (List (List D2)) × Int × Int × Unit) := jTa (pBa (nHa Tryz.prog th (S86 jKa lIa bFb) 155 11 Gca Gha))
noncomputable def Cpa (l0 : List D2) (l1 : List D2) (l2 : List (List D2)) (i3 : Int) (i4 : Int) (fk : Fk) (bd : Bd) (sm : Sm) : Option (((List D2) × (List D2) × (List (List D2)) × Int × Int × Unit) ⊕ ((List D2) × (List D2) × (List (List D2)) × Int × Int × Unit)) :=
    let z0 := (l1 ++ List.getD l2 (Int.toNat i4) (@List.nil D2))
    fk (decide (i4 < i3)) (fk (decide ((0 : Int) ≤ i4)) (fk (decide (i4 < (↑(List.length l2) : Int))) (fk (decide (List.length l1 = List.length l1)) (fk (decide (List.length z0 ≤ bBa)) (fk (decide (List.length z0 = List.length z0)) (some (Sum.inl (l0, l1 ++ List.getD l2 (Int.toNat i4) (@List.nil D2), l2, i3, IntKind.wrap IntKind.i64 (i4 + (1 : Int)), ()))) none) none) none) none) none) (fk (decide (List.length l1 = List.length l1)) (some (Sum.inr (l0, l1, l2, i3, i4, ()))) none)
theorem Ewa (l0 l1 l2 i3 i4) : Bba (l0, l1, l2, i3, i4, ()) = (Cpa l0 l1 l2 i3 i4 jKa lIa bFb).bind (Sum.elim Bba some) := eqL (S := S86) fun _ _ _ => by kernel_rfl
noncomputable def S87 : OCs := addL S86 Tryz.prog 155 11 Gca Gha Bba
theorem Ofb : fEb Tryz.prog th S87 := Oeb.addL (by kernel_rfl) (by kernel_rfl) (by kernel_rfl) rfl
abbrev Jra : List Shp := [(.ty (.list Y2))]
noncomputable def Cea : (List (List D2)) × Unit → Option D36 := jTa (fnT Tryz.prog th (S87 jKa lIa bFb) 155 Jra (.ty Y2) [])
noncomputable def Fxa (l0 : List (List D2)) (fk : Fk) (bd : Bd) (sm : Sm) : Option D36 :=
    let z0 := ((0 : Int) - (↑(0 : Nat) : Int))
    let z1 := (ByteArray.empty, @List.nil ByteArray, ())
    bd (Boa (l0, (0 : Int), l0, (↑(List.length l0) : Int), (0 : Int), ())) fun y0 => fk (decide (y0.2.1 < (0 : Int))) none (fk (decide (IntKind.wrap IntKind.i64 (y0.2.1 - IntKind.wrap IntKind.i64 z0) > (0 : Int))) (fk (decide ((0 : Int) ≤ (↑(0 : Nat) : Int))) (fk (decide ((0 : Int) < IntKind.wrap IntKind.i64 (y0.2.1 - IntKind.wrap IntKind.i64 z0))) (fk (decide (IntKind.wrap IntKind.i64 (y0.2.1 - IntKind.wrap IntKind.i64 z0) ≤ (↑bBa : Int))) (fk (decide (List.length (List.replicate (Int.toNat (IntKind.wrap IntKind.i64 (y0.2.1 - IntKind.wrap IntKind.i64 z0))) z1) = List.length (List.replicate (Int.toNat (IntKind.wrap IntKind.i64 (y0.2.1 - IntKind.wrap IntKind.i64 z0))) z1))) (fk (decide ((↑(0 : Nat) : Int) ≤ (↑(List.length (List.replicate (Int.toNat (IntKind.wrap IntKind.i64 (y0.2.1 - IntKind.wrap IntKind.i64 z0))) z1) - (0 : Nat)) : Int))) (fk (decide (List.length (List.replicate (Int.toNat (IntKind.wrap IntKind.i64 (y0.2.1 - IntKind.wrap IntKind.i64 z0))) z1) = List.length (List.replicate (Int.toNat (IntKind.wrap IntKind.i64 (y0.2.1 - IntKind.wrap IntKind.i64 z0))) z1))) (bd (Bia (@List.nil D2, List.replicate (Int.toNat (IntKind.wrap IntKind.i64 (y0.2.1 - IntKind.wrap IntKind.i64 z0))) z1, (0 : Nat) + (0 : Nat), (0 : Nat) + Int.toNat (↑(0 : Nat) : Int), y0.1, (↑(List.length y0.1) : Int), (0 : Int), ())) fun y1 => fk (decide (List.length y1.2.1 = List.length y1.2.1)) (fk (decide (y1.2.2.1 ≤ y1.2.2.2.1)) (fk (decide (y1.2.2.2.1 ≤ List.length y1.2.1)) (some (List.take (y1.2.2.2.1 - y1.2.2.1) (List.drop y1.2.2.1 y1.2.1), ())) none) none) none) none) none) none) none) none) none) (fk (decide (List.length (@List.nil D2) = (0 : Nat))) (bd (Bba (@List.nil D2, @List.nil D2, y0.1, (↑(List.length y0.1) : Int), (0 : Int), ())) fun y2 => fk (decide (List.length y2.2.1 = List.length y2.2.1)) (some (y2.2.1, ())) none) none))
theorem Pka (l0) : Cea (l0, ()) = Fxa l0 jKa lIa bFb := eqF (S := S87) fun _ _ _ => by kernel_rfl
noncomputable def S88 : OCs := addF S87 Tryz.prog 155 Jra (.ty Y2) [] Cea
theorem Ogb : fEb Tryz.prog th S88 := Ofb.addF rfl
abbrev Qsa : fCa := ⟨[⟨.str, 9, 1, true⟩], [(.str, .bool)], [], [], [.nils, (.mapr 0), (.mref 0), (.ty Y2), (.ty (.int .i64)), (.ty (.int .i64))]⟩
abbrev Raa : List sQa := [⟨(.exit 0), ⟨[⟨.str, 9, 1, true⟩], [(.str, .bool)], [], [], [.nils, (.mapr 0), (.mref 0), (.ty Y2), (.ty (.int .i64)), (.ty (.int .i64))]⟩⟩]
noncomputable def Hma : List ByteArray × (List (ByteArray × Bool)) × (List D2) × Int × Int × Unit → Option (List ByteArray × (List (ByteArray × Bool)) × (List D2) × Int × Int × Unit) := jTa (pBa (nHa Tryz.prog th (S88 jKa lIa bFb) 117 4 Qsa Raa))
noncomputable def Iaa (l0 : List ByteArray) (m1 : List (ByteArray × Bool)) (l2 : List D2) (i3 : Int) (i4 : Int) (fk : Fk) (bd : Bd) (sm : Sm) : Option ((List ByteArray × (List (ByteArray × Bool)) × (List D2) × Int × Int × Unit) ⊕ (List ByteArray × (List (ByteArray × Bool)) × (List D2) × Int × Int × Unit)) :=
    let z0 := (List.getD l2 (Int.toNat i4) (ByteArray.empty, @List.nil ByteArray, ()))
    fk (decide (i4 < i3)) (fk (decide ((0 : Int) ≤ i4)) (fk (decide (i4 < (↑(List.length l2) : Int))) (fk (!nMb Ty.str Ty.bool z0.1 false m1) (fk (decide (List.length m1 < bBa)) (fk (decide (List.length l0 = List.length l0)) (fk (decide (List.length (l0 ++ z0.1 :: @List.nil ByteArray) ≤ bBa)) (fk (decide (List.length (l0 ++ z0.1 :: @List.nil ByteArray) = List.length (l0 ++ z0.1 :: @List.nil ByteArray))) (some (Sum.inl (l0 ++ z0.1 :: @List.nil ByteArray, qLb Ty.str Ty.bool z0.1 true m1, l2, i3, IntKind.wrap IntKind.i64 (i4 + (1 : Int)), ()))) none) none) none) none) (fk (decide (List.length l0 = List.length l0)) (some (Sum.inl (l0, m1, l2, i3, IntKind.wrap IntKind.i64 (i4 + (1 : Int)), ()))) none)) none) none) (fk (decide (List.length l0 = List.length l0)) (some (Sum.inr (l0, m1, l2, i3, i4, ()))) none)
theorem Nha (l0 m1 l2 i3 i4) : Hma (l0, m1, l2, i3, i4, ()) = (Iaa l0 m1 l2 i3 i4 jKa lIa bFb).bind (Sum.elim Hma some) := eqL (S := S88) fun _ _ _ => by kernel_rfl
noncomputable def S89 : OCs := addL S88 Tryz.prog 117 4 Qsa Raa Hma
theorem Ohb : fEb Tryz.prog th S89 := Ogb.addL (by kernel_rfl) (by kernel_rfl) (by kernel_rfl) rfl
abbrev Wqa : List Shp := [(.ty Y2), (.ty Y2)]
noncomputable def Qia : (List D2) × (List D2) × Unit → Option (List ByteArray × Unit) := jTa (fnT Tryz.prog th (S89 jKa lIa bFb) 117 Wqa (.ty (.list .str)) [])
noncomputable def Wda (l0 : List D2) (l1 : List D2) (fk : Fk) (bd : Bd) (sm : Sm) : Option (List ByteArray × Unit) :=
    bd (Cea (l0 :: l1 :: @List.nil (List D2), ())) fun y0 => fk (decide (List.length (@List.nil ByteArray) = (0 : Nat))) (bd (Hma (@List.nil ByteArray, @List.nil (ByteArray × Bool), y0.1, (↑(List.length y0.1) : Int), (0 : Int), ())) fun y1 => fk (decide (List.length y1.1 = List.length y1.1)) (fk (decide (List.length y1.1 ≤ bBa)) (fk (decide (List.length (lSa y1.1) = List.length y1.1)) (some (lSa y1.1, ())) none) none) none) none
theorem Awb (l0 l1) : Qia (l0, l1, ()) = Wda l0 l1 jKa lIa bFb := eqF (S := S89) fun _ _ _ => by kernel_rfl
noncomputable def S90 : OCs := addF S89 Tryz.prog 117 Wqa (.ty (.list .str)) [] Qia
theorem Oib : fEb Tryz.prog th S90 := Ohb.addF rfl
abbrev Ura : fCa := ⟨[⟨(.list (.int .i64)), 265, 1, true⟩, ⟨(.int .i64), 3, 1, false⟩, ⟨(.int .i64), 3, 1, true⟩], [], [], [], [(.ty (.list .str)), (.ty (.list .str)), .nils, (.mref 0), (.ty (.list (.int .i64))), (.ty (.int .i64)), (.mref 2), (.ty (.int .i64))]⟩
abbrev Uxa : List sQa := [⟨(.exit 2), ⟨[⟨(.list (.int .i64)), 265, 1, true⟩, ⟨(.int .i64), 3, 1, false⟩, ⟨(.int .i64), 3, 1, true⟩], [], [], [], [(.ty (.list .str)), (.ty (.list .str)), .nils, (.mref 0), (.ty (.list (.int .i64))), (.ty (.int .i64)), (.mref 2), (.ty (.int .i64))]⟩⟩]
noncomputable def Hua : List (List Int) × List Int × List Int × List ByteArray × List ByteArray × List Int × Int × Int × Unit → Option D32 := jTa (pBa (nHa Tryz.prog th (S90 jKa lIa bFb) 242 9 Ura Uxa))
noncomputable def Gaa (l0 : List (List Int)) (l1 : List Int) (l2 : List Int) (l3 : List ByteArray) (l4 : List ByteArray) (l5 : List Int) (i6 : Int) (i7 : Int) (fk : Fk) (bd : Bd) (sm : Sm) : Option (D32 ⊕ D32) :=
    let z2 := (IntKind.wrap IntKind.i64 (i7 + (1 : Int)))
    let z0 := (bif decide (List.getD l5 (Int.toNat i7) (0 : Int) < List.getD l2 (Int.toNat z2) (Ty.dfl (Ty.int IntKind.i64))) then List.getD l2 (Int.toNat z2) (Ty.dfl (Ty.int IntKind.i64)) else List.getD l5 (Int.toNat i7) (0 : Int))
    let z1 := (decide (List.length l2 = List.length l2))
    fk (decide (i7 ≥ (0 : Int))) (fk (decide (i6 < (↑(List.length l3) : Int))) (fk (decide ((0 : Int) ≤ i7)) (fk (decide (i7 < (↑(List.length l5) : Int))) (fk (decide ((0 : Int) ≤ IntKind.wrap IntKind.i64 (i7 + (1 : Int)))) (fk z1 (fk (decide (IntKind.wrap IntKind.i64 (i7 + (1 : Int)) < (↑(List.length l2) : Int))) (fk z1 (fk (decide (Int.toNat z2 < List.length l2)) (fk (decide ((0 : Int) ≤ i7)) (fk z1 (fk (decide (i7 < (↑(List.length l2) : Int))) (fk z1 (fk (decide (Int.toNat i7 < List.length l2)) (fk (decide ((0 : Int) ≤ i6)) (fk (decide (i6 < (↑(List.length l3) : Int))) (fk (decide ((0 : Int) ≤ i7)) (fk (decide (i7 < (↑(List.length l4) : Int))) (fk (ByteArray.toList (List.getD l3 (Int.toNat i6) ByteArray.empty) == ByteArray.toList (List.getD l4 (Int.toNat i7) ByteArray.empty)) (fk (decide ((0 : Int) ≤ IntKind.wrap IntKind.i64 (i7 + (1 : Int)))) (fk (decide (IntKind.wrap IntKind.i64 (i7 + (1 : Int)) < (↑(List.length l5) : Int))) (fk (decide ((0 : Int) ≤ i7)) (fk (decide (List.length (List.set l2 (Int.toNat i7) z0) = List.length l2)) (fk (decide (i7 < (↑(List.length l2) : Int))) (fk (decide (List.length (List.set l2 (Int.toNat i7) z0) = List.length l2)) (fk (decide (Int.toNat i7 < List.length l2)) (fk (decide (List.length l0 = List.length l0)) (fk (decide (List.length (List.set (List.set l2 (Int.toNat i7) z0) (Int.toNat i7) (IntKind.wrap IntKind.i64 (List.getD l5 (Int.toNat z2) (0 : Int) + (1 : Int)))) = List.length l2)) (some (Sum.inl (l0, l1, List.set (List.set l2 (Int.toNat i7) z0) (Int.toNat i7) (IntKind.wrap IntKind.i64 (List.getD l5 (Int.toNat z2) (0 : Int) + (1 : Int))), l3, l4, l5, i6, IntKind.wrap IntKind.i64 (i7 - (1 : Int)), ()))) none) none) none) none) none) none) none) none) none) (fk (decide (List.length l0 = List.length l0)) (fk (decide (List.length (List.set l2 (Int.toNat i7) z0) = List.length l2)) (some (Sum.inl (l0, l1, List.set l2 (Int.toNat i7) z0, l3, l4, l5, i6, IntKind.wrap IntKind.i64 (i7 - (1 : Int)), ()))) none) none)) none) none) none) none) none) none) none) none) none) none) none) none) none) none) none) none) (fk (decide (List.length l0 = List.length l0)) (fk z1 (some (Sum.inr (l0, l1, l2, l3, l4, l5, i6, i7, ()))) none) none)) (fk (decide (List.length l0 = List.length l0)) (fk z1 (some (Sum.inr (l0, l1, l2, l3, l4, l5, i6, i7, ()))) none) none)
theorem Kza (l0 l1 l2 l3 l4 l5 i6 i7) : Hua (l0, l1, l2, l3, l4, l5, i6, i7, ()) = (Gaa l0 l1 l2 l3 l4 l5 i6 i7 jKa lIa bFb).bind (Sum.elim Hua some) := eqL (S := S90) fun _ _ _ => by kernel_rfl
noncomputable def S91 : OCs := addL S90 Tryz.prog 242 9 Ura Uxa Hua
theorem Ojb : fEb Tryz.prog th S91 := Oib.addL (by kernel_rfl) (by kernel_rfl) (by kernel_rfl) rfl
abbrev Uqa : fCa := ⟨[⟨(.list (.int .i64)), 265, 1, true⟩, ⟨(.int .i64), 3, 1, false⟩], [], [], [], [(.ty (.list .str)), (.ty (.list .str)), .nils, (.mref 0), (.ty (.list (.int .i64))), (.ty (.int .i64))]⟩
abbrev Uwa : List sQa := [⟨(.exit 0), ⟨[⟨(.list (.int .i64)), 265, 1, true⟩, ⟨(.int .i64), 3, 1, false⟩], [], [], [], [(.ty (.list .str)), (.ty (.list .str)), .nils, (.mref 0), (.ty (.list (.int .i64))), (.ty (.int .i64))]⟩⟩]
noncomputable def Kca : List (List Int) × List Int × List ByteArray × List ByteArray × List Int × Int × Unit → Option (List (List Int) × List Int × List ByteArray × List ByteArray × List Int × Int × Unit) := jTa (pBa (nHa Tryz.prog th (S91 jKa lIa bFb) 242 4 Uqa Uwa))
noncomputable def Nqa (l0 : List (List Int)) (l1 : List Int) (l2 : List ByteArray) (l3 : List ByteArray) (l4 : List Int) (i5 : Int) (fk : Fk) (bd : Bd) (sm : Sm) : Option ((List (List Int) × List Int × List ByteArray × List ByteArray × List Int × Int × Unit) ⊕ (List (List Int) × List Int × List ByteArray × List ByteArray × List Int × Int × Unit)) :=
    let z1 := ((↑(List.length l3) : Int) + (1 : Int))
    let z0 := (List.replicate (Int.toNat (IntKind.wrap IntKind.i64 z1)) (0 : Int))
    fk (decide (i5 ≥ (0 : Int))) (fk (decide (IntKind.wrap IntKind.i64 z1 = IntKind.wrap IntKind.i64 z1)) (fk (decide ((0 : Int) ≤ IntKind.wrap IntKind.i64 z1)) (fk (decide (IntKind.wrap IntKind.i64 z1 ≤ (↑bBa : Int))) (fk (decide (List.length z0 = List.length z0)) (fk (decide (List.length l0 = List.length l0)) (fk (decide (List.length (hYb z0 (0 : Nat) (List.take (List.length z0 - (0 : Nat)) l4)) = List.length z0)) (bd (Hua (l0, l1, hYb z0 (0 : Nat) (List.take (List.length z0 - (0 : Nat)) l4), l2, l3, l4, i5, IntKind.wrap IntKind.i64 ((↑(List.length l3) : Int) - (1 : Int)), ())) fun y0 => fk (decide ((0 : Int) ≤ y0.2.2.2.2.2.2.1)) (fk (decide (List.length y0.1 = List.length y0.1)) (fk (decide (y0.2.2.2.2.2.2.1 < (↑(List.length y0.1) : Int))) (fk (decide (List.length y0.2.2.1 = List.length y0.2.2.1)) (fk (decide (List.length y0.1 = List.length y0.1)) (fk (decide (Int.toNat y0.2.2.2.2.2.2.1 < List.length y0.1)) (fk (decide (List.length y0.2.2.1 = List.length y0.2.2.1)) (fk (decide (List.length (List.set y0.1 (Int.toNat y0.2.2.2.2.2.2.1) y0.2.2.1) = List.length y0.1)) (some (Sum.inl (List.set y0.1 (Int.toNat y0.2.2.2.2.2.2.1) y0.2.2.1, y0.2.1, y0.2.2.2.1, y0.2.2.2.2.1, y0.2.2.1, IntKind.wrap IntKind.i64 (y0.2.2.2.2.2.2.1 - (1 : Int)), ()))) none) none) none) none) none) none) none) none) none) none) none) none) none) none) (fk (decide (List.length l0 = List.length l0)) (some (Sum.inr (l0, l1, l2, l3, l4, i5, ()))) none)
theorem Qua (l0 l1 l2 l3 l4 i5) : Kca (l0, l1, l2, l3, l4, i5, ()) = (Nqa l0 l1 l2 l3 l4 i5 jKa lIa bFb).bind (Sum.elim Kca some) := eqL (S := S91) fun _ _ _ => by kernel_rfl
noncomputable def S92 : OCs := addL S91 Tryz.prog 242 4 Uqa Uwa Kca
theorem Okb : fEb Tryz.prog th S92 := Ojb.addL (by kernel_rfl) (by kernel_rfl) (by kernel_rfl) rfl
abbrev Bjb : List Shp := [(.ty (.list .str)), (.ty (.list .str))]
noncomputable def Via : List ByteArray × List ByteArray × Unit → Option (List (List Int) × Unit) := jTa (fnT Tryz.prog th (S92 jKa lIa bFb) 242 Bjb (.ty (.list (.list (.int .i64)))) [])
noncomputable def Bab (l0 : List ByteArray) (l1 : List ByteArray) (fk : Fk) (bd : Bd) (sm : Sm) : Option (List (List Int) × Unit) :=
    let z0 := ((↑(List.length l1) : Int) + (1 : Int))
    let z1 := ((↑(List.length l0) : Int) + (1 : Int))
    fk (decide (IntKind.wrap IntKind.i64 z1 = IntKind.wrap IntKind.i64 z1)) (fk (decide ((0 : Int) ≤ IntKind.wrap IntKind.i64 z1)) (fk (decide (IntKind.wrap IntKind.i64 z1 ≤ (↑bBa : Int))) (fk (decide (IntKind.wrap IntKind.i64 z0 = IntKind.wrap IntKind.i64 z0)) (fk (decide ((0 : Int) ≤ IntKind.wrap IntKind.i64 z0)) (fk (decide (IntKind.wrap IntKind.i64 z0 ≤ (↑bBa : Int))) (fk (decide (List.length (List.replicate (Int.toNat (IntKind.wrap IntKind.i64 z0)) (0 : Int)) = List.length (List.replicate (Int.toNat (IntKind.wrap IntKind.i64 z0)) (0 : Int)))) (fk (decide (List.length (List.replicate (Int.toNat (IntKind.wrap IntKind.i64 z1)) (@List.nil Int)) = List.length (List.replicate (Int.toNat (IntKind.wrap IntKind.i64 z1)) (@List.nil Int)))) (bd (Kca (List.replicate (Int.toNat (IntKind.wrap IntKind.i64 z1)) (@List.nil Int), List.replicate (Int.toNat (IntKind.wrap IntKind.i64 z0)) (0 : Int), l0, l1, List.replicate (Int.toNat (IntKind.wrap IntKind.i64 z0)) (0 : Int), (↑(List.length l0) : Int), ())) fun y0 => fk (decide (List.length y0.1 = List.length y0.1)) (some (y0.1, ())) none) none) none) none) none) none) none) none) none
theorem Dvb (l0 l1) : Via (l0, l1, ()) = Bab l0 l1 jKa lIa bFb := eqF (S := S92) fun _ _ _ => by kernel_rfl
noncomputable def S93 : OCs := addF S92 Tryz.prog 242 Bjb (.ty (.list (.list (.int .i64)))) [] Via
theorem Olb : fEb Tryz.prog th S93 := Okb.addF rfl
abbrev Oia : fCa := ⟨[⟨Y3, 248, 2, true⟩], [], [[(.mref 0)], [(.ty (.list .str))], [(.ty (.list .str))]], [⟨223, 3, [.undef, .undef, .undef, .undef, .nils, (.bptr 0 0)], .normal, .ready⟩], [(.yield 0), (.bptr 1 0), (.bptr 2 0), (.ty (.list (.list (.int .i64)))), (.ty (.int .i64)), (.ty (.int .i64))]⟩
abbrev Paa : List sQa := [⟨(.exit 0), ⟨[⟨Y3, 248, 2, true⟩], [], [[(.mref 0)], [(.ty (.list .str))], [(.ty (.list .str))]], [⟨223, 3, [.undef, .undef, .undef, .undef, .nils, (.bptr 0 0)], .normal, .ready⟩], [(.yield 0), (.bptr 1 0), (.bptr 2 0), (.ty (.list (.list (.int .i64)))), (.ty (.int .i64)), (.ty (.int .i64))]⟩⟩]
noncomputable def Fka : (List D3) × List ByteArray × List ByteArray × List (List Int) × Int × Int × Unit → Option ((List D3) × List ByteArray × List ByteArray × List (List Int) × Int × Int × Unit) := jTa (pBa (nHa Tryz.prog th (S93 jKa lIa bFb) 241 2 Oia Paa))
noncomputable def Bwa (l0 : List D3) (l1 : List ByteArray) (l2 : List ByteArray) (l3 : List (List Int)) (i4 : Int) (i5 : Int) (fk : Fk) (bd : Bd) (sm : Sm) : Option (((List D3) × List ByteArray × List ByteArray × List (List Int) × Int × Int × Unit) ⊕ ((List D3) × List ByteArray × List ByteArray × List (List Int) × Int × Int × Unit)) :=
    let z0 := (decide (List.length l0 = List.length l0))
    fk (decide (i4 < (↑(List.length l1) : Int))) (fk (decide (i5 < (↑(List.length l2) : Int))) (fk (decide ((0 : Int) ≤ i4)) (fk (decide (i4 < (↑(List.length l1) : Int))) (fk (decide ((0 : Int) ≤ i5)) (fk (decide (i5 < (↑(List.length l2) : Int))) (fk (ByteArray.toList (List.getD l1 (Int.toNat i4) ByteArray.empty) == ByteArray.toList (List.getD l2 (Int.toNat i5) ByteArray.empty)) (fk z0 (fk (decide (List.length (l0 ++ (i4, i5, ()) :: @List.nil D3) ≤ bBa)) (fk (decide (List.length (l0 ++ (i4, i5, ()) :: @List.nil D3) = List.length (l0 ++ (i4, i5, ()) :: @List.nil D3))) (some (Sum.inl (l0 ++ (i4, i5, ()) :: @List.nil D3, l1, l2, l3, IntKind.wrap IntKind.i64 (i4 + (1 : Int)), IntKind.wrap IntKind.i64 (i5 + (1 : Int)), ()))) none) none) none) (fk (decide ((0 : Int) ≤ IntKind.wrap IntKind.i64 (i4 + (1 : Int)))) (fk (decide (IntKind.wrap IntKind.i64 (i4 + (1 : Int)) < (↑(List.length l3) : Int))) (fk (decide ((0 : Int) ≤ i5)) (fk (decide (i5 < (↑(List.length (List.getD l3 (Int.toNat (IntKind.wrap IntKind.i64 (i4 + (1 : Int)))) (@List.nil Int))) : Int))) (fk (decide ((0 : Int) ≤ i4)) (fk (decide (i4 < (↑(List.length l3) : Int))) (fk (decide ((0 : Int) ≤ IntKind.wrap IntKind.i64 (i5 + (1 : Int)))) (fk (decide (IntKind.wrap IntKind.i64 (i5 + (1 : Int)) < (↑(List.length (List.getD l3 (Int.toNat i4) (@List.nil Int))) : Int))) (fk (decide (List.getD (List.getD l3 (Int.toNat (IntKind.wrap IntKind.i64 (i4 + (1 : Int)))) (@List.nil Int)) (Int.toNat i5) (0 : Int) ≥ List.getD (List.getD l3 (Int.toNat i4) (@List.nil Int)) (Int.toNat (IntKind.wrap IntKind.i64 (i5 + (1 : Int)))) (0 : Int))) (fk z0 (some (Sum.inl (l0, l1, l2, l3, IntKind.wrap IntKind.i64 (i4 + (1 : Int)), i5, ()))) none) (fk z0 (some (Sum.inl (l0, l1, l2, l3, i4, IntKind.wrap IntKind.i64 (i5 + (1 : Int)), ()))) none)) none) none) none) none) none) none) none) none)) none) none) none) none) (fk z0 (some (Sum.inr (l0, l1, l2, l3, i4, i5, ()))) none)) (fk z0 (some (Sum.inr (l0, l1, l2, l3, i4, i5, ()))) none)
theorem Eja (l0 l1 l2 l3 i4 i5) : Fka (l0, l1, l2, l3, i4, i5, ()) = (Bwa l0 l1 l2 l3 i4 i5 jKa lIa bFb).bind (Sum.elim Fka some) := eqL (S := S93) fun _ _ _ => by kernel_rfl
noncomputable def S94 : OCs := addL S93 Tryz.prog 241 2 Oia Paa Fka
theorem Omb : fEb Tryz.prog th S94 := Olb.addL (by kernel_rfl) (by kernel_rfl) (by kernel_rfl) rfl
abbrev Yva : List Shp := [(.ty (.list .str)), (.ty (.list .str))]
noncomputable def Sqa : List ByteArray × List ByteArray × Unit → Option ((List D3) × Unit) := jTa (fnT Tryz.prog th (S94 jKa lIa bFb) 223 Yva (.ty (.list Y3)) [])
noncomputable def Yna (l0 : List ByteArray) (l1 : List ByteArray) (fk : Fk) (bd : Bd) (sm : Sm) : Option ((List D3) × Unit) :=
    bd (Via (l0, l1, ())) fun y0 => fk (decide (List.length (@List.nil D3) = (0 : Nat))) (bd (Fka (@List.nil D3, l0, l1, y0.1, (0 : Int), (0 : Int), ())) fun y1 => fk (decide (List.length y1.1 = List.length y1.1)) (some (y1.1, ())) none) none
theorem Cib (l0 l1) : Sqa (l0, l1, ()) = Yna l0 l1 jKa lIa bFb := eqF (S := S94) fun _ _ _ => by kernel_rfl
noncomputable def S95 : OCs := addF S94 Tryz.prog 223 Yva (.ty (.list Y3)) [] Sqa
theorem Onb : fEb Tryz.prog th S95 := Omb.addF rfl
abbrev Qqa : fCa := ⟨[⟨Y7, 225, 3, true⟩], [], [[(.ty (.list .str))], [(.mref 0)], [(.ty (.int .i64))], [(.ty (.int .i64))]], [], [(.ty (.list .str)), (.bptr 0 0), .nils, (.bptr 1 0), (.func 222 [] [(.bptr 2 0), (.bptr 3 0), (.bptr 1 0), (.bptr 0 0)]), (.ty (.list Y3)), (.ty (.int .i64)), (.ty (.int .i64))]⟩
abbrev Qya : List sQa := [⟨(.exit 0), ⟨[⟨Y7, 225, 3, true⟩], [], [[(.ty (.list .str))], [(.mref 0)], [(.ty (.int .i64))], [(.ty (.int .i64))]], [], [(.ty (.list .str)), (.bptr 0 0), .nils, (.bptr 1 0), (.func 222 [] [(.bptr 2 0), (.bptr 3 0), (.bptr 1 0), (.bptr 0 0)]), (.ty (.list Y3)), (.ty (.int .i64)), (.ty (.int .i64))]⟩⟩]
noncomputable def Gua : (List D7) × List ByteArray × Int × Int × List ByteArray × (List D3) × Int × Int × Unit → Option ((List D7) × List ByteArray × Int × Int × List ByteArray × (List D3) × Int × Int × Unit) := jTa (pBa (nHa Tryz.prog th (S95 jKa lIa bFb) 196 5 Qqa Qya))
noncomputable def Faa (l0 : List D7) (l1 : List ByteArray) (i2 : Int) (i3 : Int) (l4 : List ByteArray) (l5 : List D3) (i6 : Int) (i7 : Int) (fk : Fk) (bd : Bd) (sm : Sm) : Option (((List D7) × List ByteArray × Int × Int × List ByteArray × (List D3) × Int × Int × Unit) ⊕ ((List D7) × List ByteArray × Int × Int × List ByteArray × (List D3) × Int × Int × Unit)) :=
    let z1 := (List.getD l5 (Int.toNat i7) ((0 : Int), (0 : Int), ()))
    let z3 := (List.take (Int.toNat z1.2.1 - Int.toNat i3) (List.drop (Int.toNat i3) l1))
    let z2 := (i2, IntKind.wrap IntKind.i64 (z1.1 - i2), List.take (Int.toNat z1.2.1 - Int.toNat i3) (List.drop (Int.toNat i3) l1), ())
    let z0 := (fk (decide ((0 : Int) ≤ z1.2.1)) (fk (decide (z1.2.1 ≤ (↑(List.length l1) : Int))) (fk (decide ((0 : Int) ≤ i3)) (fk (decide (i3 ≤ (↑(Int.toNat z1.2.1) : Int))) (fk (decide (List.length z3 ≤ bBa)) (fk (decide (List.length z3 = List.length z3)) (fk (decide (List.length l0 = List.length l0)) (fk (decide (List.length (l0 ++ z2 :: @List.nil D7) ≤ bBa)) (fk (decide (List.length (l0 ++ z2 :: @List.nil D7) = List.length (l0 ++ z2 :: @List.nil D7))) (some (Sum.inl (l0 ++ z2 :: @List.nil D7, l1, IntKind.wrap IntKind.i64 (z1.1 + (1 : Int)), IntKind.wrap IntKind.i64 (z1.2.1 + (1 : Int)), l4, l5, i6, IntKind.wrap IntKind.i64 (i7 + (1 : Int)), ()))) none) none) none) none) none) none) none) none) none)
    fk (decide (i7 < i6)) (fk (decide ((0 : Int) ≤ i7)) (fk (decide (i7 < (↑(List.length l5) : Int))) (fk (decide (z1.1 > i2)) z0 (fk (decide (z1.2.1 > i3)) z0 (fk (decide (List.length l0 = List.length l0)) (some (Sum.inl (l0, l1, IntKind.wrap IntKind.i64 (z1.1 + (1 : Int)), IntKind.wrap IntKind.i64 (z1.2.1 + (1 : Int)), l4, l5, i6, IntKind.wrap IntKind.i64 (i7 + (1 : Int)), ()))) none))) none) none) (fk (decide (List.length l0 = List.length l0)) (some (Sum.inr (l0, l1, i2, i3, l4, l5, i6, i7, ()))) none)
theorem Mza (l0 l1 i2 i3 l4 l5 i6 i7) : Gua (l0, l1, i2, i3, l4, l5, i6, i7, ()) = (Faa l0 l1 i2 i3 l4 l5 i6 i7 jKa lIa bFb).bind (Sum.elim Gua some) := eqL (S := S95) fun _ _ _ => by kernel_rfl
noncomputable def S96 : OCs := addL S95 Tryz.prog 196 5 Qqa Qya Gua
theorem Oob : fEb Tryz.prog th S96 := Onb.addL (by kernel_rfl) (by kernel_rfl) (by kernel_rfl) rfl
abbrev Wfa : List Shp := [(.ty (.list .str)), (.ty (.list .str))]
noncomputable def Pva : List ByteArray × List ByteArray × Unit → Option ((List D7) × Unit) := jTa (fnT Tryz.prog th (S96 jKa lIa bFb) 196 Wfa (.ty (.list Y7)) [])
noncomputable def Lxa (l0 : List ByteArray) (l1 : List ByteArray) (fk : Fk) (bd : Bd) (sm : Sm) : Option ((List D7) × Unit) :=
    bd (Sqa (l0, l1, ())) fun y0 => fk (decide (List.length (@List.nil D7) = (0 : Nat))) (bd (Gua (@List.nil D7, l1, (0 : Int), (0 : Int), l0, y0.1, (↑(List.length y0.1) : Int), (0 : Int), ())) fun y1 => fk (decide ((↑(List.length y1.2.2.2.2.1) : Int) > y1.2.2.1)) (fk (decide ((0 : Int) ≤ (↑(List.length y1.2.1) : Int))) (fk (decide ((↑(List.length y1.2.1) : Int) ≤ (↑(List.length y1.2.1) : Int))) (fk (decide ((0 : Int) ≤ y1.2.2.2.1)) (fk (decide (y1.2.2.2.1 ≤ (↑(Int.toNat (↑(List.length y1.2.1) : Int)) : Int))) (fk (decide (List.length (List.take (Int.toNat (↑(List.length y1.2.1) : Int) - Int.toNat y1.2.2.2.1) (List.drop (Int.toNat y1.2.2.2.1) y1.2.1)) ≤ bBa)) (fk (decide (List.length (List.take (Int.toNat (↑(List.length y1.2.1) : Int) - Int.toNat y1.2.2.2.1) (List.drop (Int.toNat y1.2.2.2.1) y1.2.1)) = List.length (List.take (Int.toNat (↑(List.length y1.2.1) : Int) - Int.toNat y1.2.2.2.1) (List.drop (Int.toNat y1.2.2.2.1) y1.2.1)))) (fk (decide (List.length y1.1 = List.length y1.1)) (fk (decide (List.length (y1.1 ++ (y1.2.2.1, IntKind.wrap IntKind.i64 ((↑(List.length y1.2.2.2.2.1) : Int) - y1.2.2.1), List.take (Int.toNat (↑(List.length y1.2.1) : Int) - Int.toNat y1.2.2.2.1) (List.drop (Int.toNat y1.2.2.2.1) y1.2.1), ()) :: @List.nil D7) ≤ bBa)) (fk (decide (List.length (y1.1 ++ (y1.2.2.1, IntKind.wrap IntKind.i64 ((↑(List.length y1.2.2.2.2.1) : Int) - y1.2.2.1), List.take (Int.toNat (↑(List.length y1.2.1) : Int) - Int.toNat y1.2.2.2.1) (List.drop (Int.toNat y1.2.2.2.1) y1.2.1), ()) :: @List.nil D7) = List.length (y1.1 ++ (y1.2.2.1, IntKind.wrap IntKind.i64 ((↑(List.length y1.2.2.2.2.1) : Int) - y1.2.2.1), List.take (Int.toNat (↑(List.length y1.2.1) : Int) - Int.toNat y1.2.2.2.1) (List.drop (Int.toNat y1.2.2.2.1) y1.2.1), ()) :: @List.nil D7))) (some (y1.1 ++ (y1.2.2.1, IntKind.wrap IntKind.i64 ((↑(List.length y1.2.2.2.2.1) : Int) - y1.2.2.1), List.take (Int.toNat (↑(List.length y1.2.1) : Int) - Int.toNat y1.2.2.2.1) (List.drop (Int.toNat y1.2.2.2.1) y1.2.1), ()) :: @List.nil D7, ())) none) none) none) none) none) none) none) none) none) (fk (decide ((↑(List.length y1.2.1) : Int) > y1.2.2.2.1)) (fk (decide ((0 : Int) ≤ (↑(List.length y1.2.1) : Int))) (fk (decide ((↑(List.length y1.2.1) : Int) ≤ (↑(List.length y1.2.1) : Int))) (fk (decide ((0 : Int) ≤ y1.2.2.2.1)) (fk (decide (y1.2.2.2.1 ≤ (↑(Int.toNat (↑(List.length y1.2.1) : Int)) : Int))) (fk (decide (List.length (List.take (Int.toNat (↑(List.length y1.2.1) : Int) - Int.toNat y1.2.2.2.1) (List.drop (Int.toNat y1.2.2.2.1) y1.2.1)) ≤ bBa)) (fk (decide (List.length (List.take (Int.toNat (↑(List.length y1.2.1) : Int) - Int.toNat y1.2.2.2.1) (List.drop (Int.toNat y1.2.2.2.1) y1.2.1)) = List.length (List.take (Int.toNat (↑(List.length y1.2.1) : Int) - Int.toNat y1.2.2.2.1) (List.drop (Int.toNat y1.2.2.2.1) y1.2.1)))) (fk (decide (List.length y1.1 = List.length y1.1)) (fk (decide (List.length (y1.1 ++ (y1.2.2.1, IntKind.wrap IntKind.i64 ((↑(List.length y1.2.2.2.2.1) : Int) - y1.2.2.1), List.take (Int.toNat (↑(List.length y1.2.1) : Int) - Int.toNat y1.2.2.2.1) (List.drop (Int.toNat y1.2.2.2.1) y1.2.1), ()) :: @List.nil D7) ≤ bBa)) (fk (decide (List.length (y1.1 ++ (y1.2.2.1, IntKind.wrap IntKind.i64 ((↑(List.length y1.2.2.2.2.1) : Int) - y1.2.2.1), List.take (Int.toNat (↑(List.length y1.2.1) : Int) - Int.toNat y1.2.2.2.1) (List.drop (Int.toNat y1.2.2.2.1) y1.2.1), ()) :: @List.nil D7) = List.length (y1.1 ++ (y1.2.2.1, IntKind.wrap IntKind.i64 ((↑(List.length y1.2.2.2.2.1) : Int) - y1.2.2.1), List.take (Int.toNat (↑(List.length y1.2.1) : Int) - Int.toNat y1.2.2.2.1) (List.drop (Int.toNat y1.2.2.2.1) y1.2.1), ()) :: @List.nil D7))) (some (y1.1 ++ (y1.2.2.1, IntKind.wrap IntKind.i64 ((↑(List.length y1.2.2.2.2.1) : Int) - y1.2.2.1), List.take (Int.toNat (↑(List.length y1.2.1) : Int) - Int.toNat y1.2.2.2.1) (List.drop (Int.toNat y1.2.2.2.1) y1.2.1), ()) :: @List.nil D7, ())) none) none) none) none) none) none) none) none) none) (fk (decide (List.length y1.1 = List.length y1.1)) (some (y1.1, ())) none))) none
theorem Zwa (l0 l1) : Pva (l0, l1, ()) = Lxa l0 l1 jKa lIa bFb := eqF (S := S96) fun _ _ _ => by kernel_rfl
noncomputable def S97 : OCs := addF S96 Tryz.prog 196 Wfa (.ty (.list Y7)) [] Pva
theorem Opb : fEb Tryz.prog th S97 := Oob.addF rfl
abbrev Wwa : fCa := ⟨[⟨Y5, 70, 3, true⟩], [], [[(.ty (.list .str)), (.ty (.int .i64))]], [], [.nils, (.func 195 [(.bptr 0 0)] []), (.mref 0), (.ty (.list Y7)), (.ty (.int .i64)), (.ty (.int .i64))]⟩
abbrev Xha : List sQa := [⟨(.exit 0), ⟨[⟨Y5, 70, 3, true⟩], [], [[(.ty (.list .str)), (.ty (.int .i64))]], [], [.nils, (.func 195 [(.bptr 0 0)] []), (.mref 0), (.ty (.list Y7)), (.ty (.int .i64)), (.ty (.int .i64))]⟩⟩]
noncomputable def Lja : (List D4) × List ByteArray × Int × (List D7) × Int × Int × Unit → Option ((List D4) × List ByteArray × Int × (List D7) × Int × Int × Unit) := jTa (pBa (nHa Tryz.prog th (S97 jKa lIa bFb) 156 4 Wwa Xha))
noncomputable def Rka (l0 : List D4) (l1 : List ByteArray) (i2 : Int) (l3 : List D7) (i4 : Int) (i5 : Int) (fk : Fk) (bd : Bd) (sm : Sm) : Option (((List D4) × List ByteArray × Int × (List D7) × Int × Int × Unit) ⊕ ((List D4) × List ByteArray × Int × (List D7) × Int × Int × Unit)) :=
    let z0 := (List.getD l3 (Int.toNat i5) ((0 : Int), (0 : Int), @List.nil ByteArray, ()))
    let z1 := (IntKind.wrap IntKind.i64 (z0.1 + i2), List.take (Int.toNat (IntKind.wrap IntKind.i64 (z0.1 + z0.2.1)) - Int.toNat z0.1) (List.drop (Int.toNat z0.1) l1), z0.2.2.1, ())
    let z2 := (List.take (Int.toNat (IntKind.wrap IntKind.i64 (z0.1 + z0.2.1)) - Int.toNat z0.1) (List.drop (Int.toNat z0.1) l1))
    let z3 := (l0 ++ z1 :: @List.nil D4)
    fk (decide (i5 < i4)) (fk (decide ((0 : Int) ≤ i5)) (fk (decide (i5 < (↑(List.length l3) : Int))) (fk (decide ((0 : Int) ≤ IntKind.wrap IntKind.i64 (z0.1 + z0.2.1))) (fk (decide (IntKind.wrap IntKind.i64 (z0.1 + z0.2.1) ≤ (↑(List.length l1) : Int))) (fk (decide ((0 : Int) ≤ z0.1)) (fk (decide (z0.1 ≤ (↑(Int.toNat (IntKind.wrap IntKind.i64 (z0.1 + z0.2.1))) : Int))) (fk (decide (List.length z2 ≤ bBa)) (fk (decide (List.length z2 = List.length z2)) (fk (decide (List.length z0.2.2.1 ≤ bBa)) (fk (decide (List.length z0.2.2.1 = List.length z0.2.2.1)) (fk (decide (List.length l0 = List.length l0)) (fk (decide (List.length z3 ≤ bBa)) (fk (decide (List.length z3 = List.length z3)) (some (Sum.inl (l0 ++ z1 :: @List.nil D4, l1, IntKind.wrap IntKind.i64 (i2 + IntKind.wrap IntKind.i64 ((↑(List.length z0.2.2.1) : Int) - z0.2.1)), l3, i4, IntKind.wrap IntKind.i64 (i5 + (1 : Int)), ()))) none) none) none) none) none) none) none) none) none) none) none) none) none) (fk (decide (List.length l0 = List.length l0)) (some (Sum.inr (l0, l1, i2, l3, i4, i5, ()))) none)
theorem Ska (l0 l1 i2 l3 i4 i5) : Lja (l0, l1, i2, l3, i4, i5, ()) = (Rka l0 l1 i2 l3 i4 i5 jKa lIa bFb).bind (Sum.elim Lja some) := eqL (S := S97) fun _ _ _ => by kernel_rfl
noncomputable def S98 : OCs := addL S97 Tryz.prog 156 4 Wwa Xha Lja
theorem Oqb : fEb Tryz.prog th S98 := Opb.addL (by kernel_rfl) (by kernel_rfl) (by kernel_rfl) rfl
abbrev Etb : List Shp := [(.ty (.list .str)), (.ty (.list .str))]
noncomputable def Wza : List ByteArray × List ByteArray × Unit → Option ((List D4) × Unit) := jTa (fnT Tryz.prog th (S98 jKa lIa bFb) 156 Etb (.ty (.list Y5)) [])
noncomputable def Erb (l0 : List ByteArray) (l1 : List ByteArray) (fk : Fk) (bd : Bd) (sm : Sm) : Option ((List D4) × Unit) :=
    bd (Pva (l0, l1, ())) fun y0 => fk (decide (List.length (@List.nil D4) = (0 : Nat))) (bd (Lja (@List.nil D4, l0, (0 : Int), y0.1, (↑(List.length y0.1) : Int), (0 : Int), ())) fun y1 => fk (decide (List.length y1.1 = List.length y1.1)) (some (y1.1, ())) none) none
theorem Fpb (l0 l1) : Wza (l0, l1, ()) = Erb l0 l1 jKa lIa bFb := eqF (S := S98) fun _ _ _ => by kernel_rfl
noncomputable def S99 : OCs := addF S98 Tryz.prog 156 Etb (.ty (.list Y5)) [] Wza
theorem Orb : fEb Tryz.prog th S99 := Oqb.addF rfl
abbrev Sga : fCa := ⟨[⟨Y1, 72, 6, true⟩], [], [[(.mref 0)]], [], [(.func 116 [(.bptr 0 0)] []), (.ty .str), (.ty .bool), (.ty (.list Y5)), (.ty (.int .i64)), (.ty (.int .i64))]⟩
abbrev Swa : List sQa := [⟨(.exit 0), ⟨[⟨Y1, 72, 6, true⟩], [], [[(.mref 0)]], [], [(.func 116 [(.bptr 0 0)] []), (.ty .str), (.ty .bool), (.ty (.list Y5)), (.ty (.int .i64)), (.ty (.int .i64))]⟩⟩]
noncomputable def Gga : (List D0) × ByteArray × Bool × (List D4) × Int × Int × Unit → Option ((List D0) × ByteArray × Bool × (List D4) × Int × Int × Unit) := jTa (pBa (nHa Tryz.prog th (S99 jKa lIa bFb) 118 5 Sga Swa))
noncomputable def Lya (l0 : List D0) (s1 : ByteArray) (b2 : Bool) (l3 : List D4) (i4 : Int) (i5 : Int) (fk : Fk) (bd : Bd) (sm : Sm) : Option (((List D0) × ByteArray × Bool × (List D4) × Int × Int × Unit) ⊕ ((List D0) × ByteArray × Bool × (List D4) × Int × Int × Unit)) :=
    let z2 := (List.getD l3 (Int.toNat i5) ((0 : Int), @List.nil ByteArray, @List.nil ByteArray, ()))
    let z0 := ((3 : Int), s1, ByteArray.empty, (z2.1, z2.2.1, z2.2.2.1, ()), ())
    let z1 := (l0 ++ z0 :: @List.nil D0)
    fk (decide (i5 < i4)) (fk (decide ((0 : Int) ≤ i5)) (fk (decide (i5 < (↑(List.length l3) : Int))) (fk (decide (List.length l0 = List.length l0)) (fk (decide (List.length z1 ≤ bBa)) (fk (decide (List.length z1 = List.length z1)) (some (Sum.inl (l0 ++ z0 :: @List.nil D0, s1, b2, l3, i4, IntKind.wrap IntKind.i64 (i5 + (1 : Int)), ()))) none) none) none) none) none) (fk (decide (List.length l0 = List.length l0)) (some (Sum.inr (l0, s1, b2, l3, i4, i5, ()))) none)
theorem Ota (l0 s1 b2 l3 i4 i5) : Gga (l0, s1, b2, l3, i4, i5, ()) = (Lya l0 s1 b2 l3 i4 i5 jKa lIa bFb).bind (Sum.elim Gga some) := eqL (S := S99) fun _ _ _ => by kernel_rfl
noncomputable def Pfb : OCs := addL S99 Tryz.prog 118 5 Sga Swa Gga
theorem Jqb : fEb Tryz.prog th Pfb := Orb.addL (by kernel_rfl) (by kernel_rfl) (by kernel_rfl) rfl
abbrev Wxa : fCa := ⟨[⟨Y1, 72, 6, true⟩], [], [[(.mref 0)]], [], [(.ty Y2), (.ty Y2), .nils, (.st (.int .i64 0)), (.bptr 0 0), (.func 116 [(.bptr 0 0)] []), (.ty (.list .str)), (.ty (.int .i64)), (.ty (.int .i64))]⟩
abbrev Xia : List sQa := [⟨(.exit 0), ⟨[⟨Y1, 72, 6, true⟩], [], [[(.mref 0)]], [], [(.ty Y2), (.ty Y2), .nils, (.st (.int .i64 0)), (.bptr 0 0), (.func 116 [(.bptr 0 0)] []), (.ty (.list .str)), (.ty (.int .i64)), (.ty (.int .i64))]⟩⟩]
noncomputable def Jja : (List D0) × (List D2) × (List D2) × List ByteArray × Int × Int × Unit → Option ((List D0) × (List D2) × (List D2) × List ByteArray × Int × Int × Unit) := jTa (pBa (nHa Tryz.prog th (Pfb jKa lIa bFb) 61 6 Wxa Xia))
noncomputable def Hra (l0 : List D0) (l1 : List D2) (l2 : List D2) (l3 : List ByteArray) (i4 : Int) (i5 : Int) (fk : Fk) (bd : Bd) (sm : Sm) : Option (((List D0) × (List D2) × (List D2) × List ByteArray × Int × Int × Unit) ⊕ ((List D0) × (List D2) × (List D2) × List ByteArray × Int × Int × Unit)) :=
    let z0 := ((0 : Int), @List.nil ByteArray, @List.nil ByteArray, ())
    let z1 := (l0 ++ ((0 : Int), List.getD l3 (Int.toNat i5) ByteArray.empty, ByteArray.empty, z0, ()) :: @List.nil D0)
    fk (decide (i5 < i4)) (fk (decide ((0 : Int) ≤ i5)) (fk (decide (i5 < (↑(List.length l3) : Int))) (bd (Dpa (l1, List.getD l3 (Int.toNat i5) ByteArray.empty, ())) fun y0 => bd (Dpa (l2, List.getD l3 (Int.toNat i5) ByteArray.empty, ())) fun y1 => fk (!y0.2.1) (fk (decide (List.length l0 = List.length l0)) (fk (decide (List.length z1 ≤ bBa)) (bd (Wza (y0.1, y1.1, ())) fun y2 => fk (decide (List.length z1 = List.length z1)) (bd (Gga (l0 ++ ((0 : Int), List.getD l3 (Int.toNat i5) ByteArray.empty, ByteArray.empty, z0, ()) :: @List.nil D0, List.getD l3 (Int.toNat i5) ByteArray.empty, y1.2.1, y2.1, (↑(List.length y2.1) : Int), (0 : Int), ())) fun y3 => fk (!y3.2.2.1) (fk (decide (List.length y3.1 = List.length y3.1)) (fk (decide (List.length (y3.1 ++ ((1 : Int), y3.2.1, ByteArray.empty, z0, ()) :: @List.nil D0) ≤ bBa)) (fk (decide (List.length (y3.1 ++ ((1 : Int), y3.2.1, ByteArray.empty, z0, ()) :: @List.nil D0) = List.length (y3.1 ++ ((1 : Int), y3.2.1, ByteArray.empty, z0, ()) :: @List.nil D0))) (some (Sum.inl (y3.1 ++ ((1 : Int), y3.2.1, ByteArray.empty, z0, ()) :: @List.nil D0, l1, l2, l3, i4, IntKind.wrap IntKind.i64 (i5 + (1 : Int)), ()))) none) none) none) (fk (decide (List.length y3.1 = List.length y3.1)) (some (Sum.inl (y3.1, l1, l2, l3, i4, IntKind.wrap IntKind.i64 (i5 + (1 : Int)), ()))) none)) none) none) none) (bd (Wza (y0.1, y1.1, ())) fun y4 => fk (decide (List.length l0 = List.length l0)) (bd (Gga (l0, List.getD l3 (Int.toNat i5) ByteArray.empty, y1.2.1, y4.1, (↑(List.length y4.1) : Int), (0 : Int), ())) fun y5 => fk (!y5.2.2.1) (fk (decide (List.length y5.1 = List.length y5.1)) (fk (decide (List.length (y5.1 ++ ((1 : Int), y5.2.1, ByteArray.empty, z0, ()) :: @List.nil D0) ≤ bBa)) (fk (decide (List.length (y5.1 ++ ((1 : Int), y5.2.1, ByteArray.empty, z0, ()) :: @List.nil D0) = List.length (y5.1 ++ ((1 : Int), y5.2.1, ByteArray.empty, z0, ()) :: @List.nil D0))) (some (Sum.inl (y5.1 ++ ((1 : Int), y5.2.1, ByteArray.empty, z0, ()) :: @List.nil D0, l1, l2, l3, i4, IntKind.wrap IntKind.i64 (i5 + (1 : Int)), ()))) none) none) none) (fk (decide (List.length y5.1 = List.length y5.1)) (some (Sum.inl (y5.1, l1, l2, l3, i4, IntKind.wrap IntKind.i64 (i5 + (1 : Int)), ()))) none)) none)) none) none) (fk (decide (List.length l0 = List.length l0)) (some (Sum.inr (l0, l1, l2, l3, i4, i5, ()))) none)
theorem Ssa (l0 l1 l2 l3 i4 i5) : Jja (l0, l1, l2, l3, i4, i5, ()) = (Hra l0 l1 l2 l3 i4 i5 jKa lIa bFb).bind (Sum.elim Jja some) := eqL (S := Pfb) fun _ _ _ => by kernel_rfl
noncomputable def Pgb : OCs := addL Pfb Tryz.prog 61 6 Wxa Xia Jja
theorem Jrb : fEb Tryz.prog th Pgb := Jqb.addL (by kernel_rfl) (by kernel_rfl) (by kernel_rfl) rfl
abbrev Exb : List Shp := [(.ty Y2), (.ty Y2)]
noncomputable def Akb : (List D2) × (List D2) × Unit → Option D22 := jTa (fnT Tryz.prog th (Pgb jKa lIa bFb) 61 Exb (.tuple [(.ty (.list Y1)), (.ty (.int .i64))]) [])
noncomputable def Vha (l0 : List D2) (l1 : List D2) (fk : Fk) (bd : Bd) (sm : Sm) : Option D22 :=
    bd (Mka (l0, ())) fun y0 => fk (!y0.1) (some (@List.nil D0, (1 : Int), ())) (bd (Mka (l1, ())) fun y1 => fk (!y1.1) (some (@List.nil D0, (1 : Int), ())) (bd (Qia (l0, l1, ())) fun y2 => fk (decide (List.length (@List.nil D0) = (0 : Nat))) (bd (Jja (@List.nil D0, l0, l1, y2.1, (↑(List.length y2.1) : Int), (0 : Int), ())) fun y3 => fk (decide (List.length y3.1 = List.length y3.1)) (some (y3.1, (0 : Int), ())) none) none))
theorem Fyb (l0 l1) : Akb (l0, l1, ()) = Vha l0 l1 jKa lIa bFb := eqF (S := Pgb) fun _ _ _ => by kernel_rfl
noncomputable def Phb : OCs := addF Pgb Tryz.prog 61 Exb (.tuple [(.ty (.list Y1)), (.ty (.int .i64))]) [] Akb
theorem Jsb : fEb Tryz.prog th Phb := Jrb.addF rfl
abbrev Zca : List Shp := [(.ty Y4)]
noncomputable def Pja : D6 × Unit → Option D35 := jTa (fnT Tryz.prog th (Phb jKa lIa bFb) 24 Zca (.ty (.list Y1)) [])
noncomputable def Yra (x0 : Int × (List D1) × (List D2) × (List D2) × Int × Unit) (fk : Fk) (bd : Bd) (sm : Sm) : Option D35 :=
    bd (Qda ((x0.1, x0.2.1, x0.2.2.1, x0.2.2.2.1, x0.2.2.2.2.1, ()), ())) fun y0 => fk (!y0.1) (some (@List.nil D0, ())) (bd (Akb (x0.2.2.1, x0.2.2.2.1, ())) fun y1 => some (y1.1, ()))
theorem Czb (x0) : Pja (x0, ()) = Yra x0 jKa lIa bFb := eqF (S := Phb) fun _ _ _ => by kernel_rfl
noncomputable def Qmb : OCs := addF Phb Tryz.prog 24 Zca (.ty (.list Y1)) [] Pja
theorem Jtb : fEb Tryz.prog th Qmb := Jsb.addF rfl
noncomputable def Rpa : Unit → Option (Bool × Unit) := fun _ => some (true, ())
theorem Yca : Rpa () = some (true, ()) := rfl
noncomputable def Pib : OCs := addF Qmb Tryz.prog 18 [] (.ty .bool) [] Rpa
theorem Jub : fEb Tryz.prog th Pib := Jtb.addC (nXb (kIb 100000 _ _ (by kernel_rfl)))
abbrev Ofa : fCa := ⟨[], [], [], [], [(.ty (.list .str)), (.st (.bool false)), (.ty (.int .i64))]⟩
abbrev Oxa : List sQa := [⟨.ret, ⟨[], [], [], [], [(.ty (.list .str)), (.st (.bool false)), (.ty (.int .i64))]⟩⟩, ⟨(.exit 0), ⟨[], [], [], [], [(.ty (.list .str)), (.st (.bool false)), (.ty (.int .i64))]⟩⟩]
noncomputable def Fga : List ByteArray × Int × Unit → Option (D19 ⊕ D19) := jTa (pBa (nHa Tryz.prog th (Pib jKa lIa bFb) 140 4 Ofa Oxa))
noncomputable def Goa (l0 : List ByteArray) (i1 : Int) (fk : Fk) (bd : Bd) (sm : Sm) : Option (D19 ⊕ (D19 ⊕ D19)) :=
    fk (decide (i1 < (↑(List.length l0) : Int))) (fk (decide ((0 : Int) ≤ i1)) (fk (decide (i1 < (↑(List.length l0) : Int))) (fk (decide ((↑(ByteArray.size (List.getD l0 (Int.toNat i1) ByteArray.empty)) : Int) > (200 : Int))) (some (Sum.inr (Sum.inl (l0, i1, ())))) (some (Sum.inl (l0, IntKind.wrap IntKind.i64 (i1 + (1 : Int)), ())))) none) none) (some (Sum.inr (Sum.inr (l0, i1, ()))))
theorem Lka (l0 i1) : Fga (l0, i1, ()) = (Goa l0 i1 jKa lIa bFb).bind (Sum.elim Fga some) := eqL (S := Pib) fun _ _ _ => by kernel_rfl
noncomputable def Pjb : OCs := addL Pib Tryz.prog 140 4 Ofa Oxa Fga
theorem Gfb : fEb Tryz.prog th Pjb := Jub.addL (by kernel_rfl) (by kernel_rfl) (by kernel_rfl) rfl
abbrev Nua : List Shp := [(.ty (.list .str)), (.ty (.int .i64))]
noncomputable def Fya : List ByteArray × Int × Unit → Option (Bool × Unit) := jTa (fnT Tryz.prog th (Pjb jKa lIa bFb) 140 Nua (.ty .bool) [])
noncomputable def Kpa (l0 : List ByteArray) (i1 : Int) (fk : Fk) (bd : Bd) (sm : Sm) : Option (Bool × Unit) :=
    fk (decide ((↑(List.length l0) : Int) > i1)) (some (false, ())) (bd (Fga (l0, (0 : Int), ())) fun y0 => sm y0 (fun y1 => some (false, ())) fun y2 => some (true, ()))
theorem Xsa (l0 i1) : Fya (l0, i1, ()) = Kpa l0 i1 jKa lIa bFb := eqF (S := Pjb) fun _ _ _ => by kernel_rfl
noncomputable def Pkb : OCs := addF Pjb Tryz.prog 140 Nua (.ty .bool) [] Fya
theorem Ggb : fEb Tryz.prog th Pkb := Gfb.addF rfl
theorem Jbb : nJb Tryz.prog th 140 Nua (.ty .bool) [] Fya := Gfb.fn rfl
abbrev Nva : List Shp := [(.ty Y5)]
noncomputable def Jwa : D4 × Unit → Option (Bool × Unit) := jTa (fnT Tryz.prog th (Pkb jKa lIa bFb) 172 Nva (.ty .bool) [])
noncomputable def Uda (x0 : Int × List ByteArray × List ByteArray × Unit) (fk : Fk) (bd : Bd) (sm : Sm) : Option (Bool × Unit) :=
    bd (Fya (x0.2.1, (300 : Int), ())) fun y0 => bd (Fya (x0.2.2.1, (300 : Int), ())) fun y1 => fk y0.1 (some (y1.1, ())) (some (false, ()))
theorem Xta (x0) : Jwa (x0, ()) = Uda x0 jKa lIa bFb := eqF (S := Pkb) fun _ _ _ => by kernel_rfl
noncomputable def Plb : OCs := addF Pkb Tryz.prog 172 Nva (.ty .bool) [] Jwa
theorem Ghb : fEb Tryz.prog th Plb := Ggb.addF rfl
theorem Jcb : nJb Tryz.prog th 172 Nva (.ty .bool) [] Jwa := Ggb.fn rfl
abbrev Nxa : List Shp := [(.ty Y1)]
noncomputable def Jya : D0 × Unit → Option (Bool × Unit) := jTa (fnT Tryz.prog th (Plb jKa lIa bFb) 141 Nxa (.ty .bool) [])
noncomputable def Uea (x0 : Int × ByteArray × ByteArray × D4 × Unit) (fk : Fk) (bd : Bd) (sm : Sm) : Option (Bool × Unit) :=
    bd (Jwa ((x0.2.2.2.1.1, x0.2.2.2.1.2.1, x0.2.2.2.1.2.2.1, ()), ())) fun y0 => fk y0.1 (fk (decide ((↑(ByteArray.size x0.2.1) : Int) ≤ (100 : Int))) (some (decide ((↑(ByteArray.size x0.2.2.1) : Int) ≤ (100 : Int)), ())) (some (false, ()))) (some (false, ()))
theorem Xwa (x0) : Jya (x0, ()) = Uea x0 jKa lIa bFb := eqF (S := Plb) fun _ _ _ => by kernel_rfl
noncomputable def Pmb : OCs := addF Plb Tryz.prog 141 Nxa (.ty .bool) [] Jya
theorem Jvb : fEb Tryz.prog th Pmb := Ghb.addF rfl
theorem Jeb : nJb Tryz.prog th 141 Nxa (.ty .bool) [] Jya := Ghb.fn rfl
abbrev Sea : fCa := ⟨[], [], [], [], [(.ty (.list Y1)), (.st (.bool false)), (.ty (.int .i64))]⟩
abbrev Sua : List sQa := [⟨.ret, ⟨[], [], [], [], [(.ty (.list Y1)), (.st (.bool false)), (.ty (.int .i64))]⟩⟩, ⟨(.exit 0), ⟨[], [], [], [], [(.ty (.list Y1)), (.st (.bool false)), (.ty (.int .i64))]⟩⟩]
noncomputable def Ila : (List D0) × Int × Unit → Option (D22 ⊕ D22) := jTa (pBa (nHa Tryz.prog th (Pmb jKa lIa bFb) 89 4 Sea Sua))
noncomputable def Gpa (l0 : List D0) (i1 : Int) (fk : Fk) (bd : Bd) (sm : Sm) : Option (D22 ⊕ (D22 ⊕ D22)) :=
    let z0 := (List.getD l0 (Int.toNat i1) ((0 : Int), ByteArray.empty, ByteArray.empty, ((0 : Int), @List.nil ByteArray, @List.nil ByteArray, ()), ()))
    fk (decide (i1 < (↑(List.length l0) : Int))) (fk (decide ((0 : Int) ≤ i1)) (fk (decide (i1 < (↑(List.length l0) : Int))) (bd (Jya ((z0.1, z0.2.1, z0.2.2.1, (z0.2.2.2.1.1, z0.2.2.2.1.2.1, z0.2.2.2.1.2.2.1, ()), ()), ())) fun y0 => fk (!y0.1) (some (Sum.inr (Sum.inl (l0, i1, ())))) (fk (decide ((0 : Int) ≤ i1)) (fk (decide (i1 < (↑(List.length l0) : Int))) (fk (decide (z0.2.2.2.1.1 > (524288 : Int))) (some (Sum.inr (Sum.inl (l0, i1, ())))) (some (Sum.inl (l0, IntKind.wrap IntKind.i64 (i1 + (1 : Int)), ())))) none) none)) none) none) (some (Sum.inr (Sum.inr (l0, i1, ()))))
theorem Ola (l0 i1) : Ila (l0, i1, ()) = (Gpa l0 i1 jKa lIa bFb).bind (Sum.elim Ila some) := eqL (S := Pmb) fun _ _ _ => by kernel_rfl
noncomputable def Pnb : OCs := addL Pmb Tryz.prog 89 4 Sea Sua Ila
theorem Gib : fEb Tryz.prog th Pnb := Jvb.addL (by kernel_rfl) (by kernel_rfl) (by kernel_rfl) rfl
abbrev Tpa : List Shp := [(.ty (.list Y1)), (.ty (.int .i64))]
noncomputable def Oka : (List D0) × Int × Unit → Option (Bool × Unit) := jTa (fnT Tryz.prog th (Pnb jKa lIa bFb) 89 Tpa (.ty .bool) [])
noncomputable def Pqa (l0 : List D0) (i1 : Int) (fk : Fk) (bd : Bd) (sm : Sm) : Option (Bool × Unit) :=
    fk (decide ((↑(List.length l0) : Int) > i1)) (some (false, ())) (bd (Ila (l0, (0 : Int), ())) fun y0 => sm y0 (fun y1 => some (false, ())) fun y2 => some (true, ()))
theorem Ceb (l0 i1) : Oka (l0, i1, ()) = Pqa l0 i1 jKa lIa bFb := eqF (S := Pnb) fun _ _ _ => by kernel_rfl
noncomputable def Pob : OCs := addF Pnb Tryz.prog 89 Tpa (.ty .bool) [] Oka
theorem Gjb : fEb Tryz.prog th Pob := Gib.addF rfl
theorem Kqb : nJb Tryz.prog th 89 Tpa (.ty .bool) [] Oka := Gib.fn rfl
abbrev Nya : List Shp := [(.ty Y0), (.ty (.int .i64))]
noncomputable def Jza : D1 × Int × Unit → Option (Bool × Unit) := jTa (fnT Tryz.prog th (Pob jKa lIa bFb) 39 Nya (.ty .bool) [])
noncomputable def Ufa (x0 : D3 × (List D3) × ByteArray × (List D0) × Unit) (i1 : Int) (fk : Fk) (bd : Bd) (sm : Sm) : Option (Bool × Unit) :=
    bd (Oka (x0.2.2.2.1, i1, ())) fun y0 => fk y0.1 (fk (decide ((↑(List.length x0.2.1) : Int) ≤ (100 : Int))) (some (decide ((↑(ByteArray.size x0.2.2.1) : Int) ≤ (200 : Int)), ())) (some (false, ()))) (some (false, ()))
theorem Xya (x0 i1) : Jza (x0, i1, ()) = Ufa x0 i1 jKa lIa bFb := eqF (S := Pob) fun _ _ _ => by kernel_rfl
noncomputable def Ppb : OCs := addF Pob Tryz.prog 39 Nya (.ty .bool) [] Jza
theorem Jwb : fEb Tryz.prog th Ppb := Gjb.addF rfl
theorem Jfb : nJb Tryz.prog th 39 Nya (.ty .bool) [] Jza := Gjb.fn rfl
abbrev Sfa : fCa := ⟨[], [], [], [], [(.ty (.list Y0)), (.st (.bool false)), (.ty (.int .i64))]⟩
abbrev Sva : List sQa := [⟨.ret, ⟨[], [], [], [], [(.ty (.list Y0)), (.st (.bool false)), (.ty (.int .i64))]⟩⟩, ⟨(.exit 0), ⟨[], [], [], [], [(.ty (.list Y0)), (.st (.bool false)), (.ty (.int .i64))]⟩⟩]
noncomputable def Ima : (List D1) × Int × Unit → Option (((List D1) × Int × Unit) ⊕ ((List D1) × Int × Unit)) := jTa (pBa (nHa Tryz.prog th (Ppb jKa lIa bFb) 11 4 Sfa Sva))
noncomputable def Jda (l0 : List D1) (i1 : Int) (fk : Fk) (bd : Bd) (sm : Sm) : Option (((List D1) × Int × Unit) ⊕ (((List D1) × Int × Unit) ⊕ ((List D1) × Int × Unit))) :=
    let z0 := (List.getD l0 (Int.toNat i1) (((0 : Int), (0 : Int), ()), @List.nil D3, ByteArray.empty, @List.nil D0, ()))
    fk (decide (i1 < (↑(List.length l0) : Int))) (fk (decide ((0 : Int) ≤ i1)) (fk (decide (i1 < (↑(List.length l0) : Int))) (bd (Jza (((z0.1.1, z0.1.2.1, ()), z0.2.1, z0.2.2.1, z0.2.2.2.1, ()), (10 : Int), ())) fun y0 => fk (!y0.1) (some (Sum.inr (Sum.inl (l0, i1, ())))) (some (Sum.inl (l0, IntKind.wrap IntKind.i64 (i1 + (1 : Int)), ())))) none) none) (some (Sum.inr (Sum.inr (l0, i1, ()))))
theorem Ona (l0 i1) : Ima (l0, i1, ()) = (Jda l0 i1 jKa lIa bFb).bind (Sum.elim Ima some) := eqL (S := Ppb) fun _ _ _ => by kernel_rfl
noncomputable def Pqb : OCs := addL Ppb Tryz.prog 11 4 Sfa Sva Ima
theorem Gkb : fEb Tryz.prog th Pqb := Jwb.addL (by kernel_rfl) (by kernel_rfl) (by kernel_rfl) rfl
abbrev Tqa : List Shp := [(.ty (.list Y0)), (.ty (.int .i64))]
noncomputable def Loa : (List D1) × Int × Unit → Option (Bool × Unit) := jTa (fnT Tryz.prog th (Pqb jKa lIa bFb) 11 Tqa (.ty .bool) [])
noncomputable def Pra (l0 : List D1) (i1 : Int) (fk : Fk) (bd : Bd) (sm : Sm) : Option (Bool × Unit) :=
    fk (decide ((↑(List.length l0) : Int) > i1)) (some (false, ())) (bd (Ima (l0, (0 : Int), ())) fun y0 => sm y0 (fun y1 => some (false, ())) fun y2 => some (true, ()))
theorem Cgb (l0 i1) : Loa (l0, i1, ()) = Pra l0 i1 jKa lIa bFb := eqF (S := Pqb) fun _ _ _ => by kernel_rfl
noncomputable def Prb : OCs := addF Pqb Tryz.prog 11 Tqa (.ty .bool) [] Loa
theorem Jxb : fEb Tryz.prog th Prb := Gkb.addF rfl
theorem Krb : nJb Tryz.prog th 11 Tqa (.ty .bool) [] Loa := Gkb.fn rfl
abbrev Oga : fCa := ⟨[], [], [], [], [(.ty Y2), (.st (.bool false)), (.ty (.int .i64))]⟩
abbrev Oya : List sQa := [⟨.ret, ⟨[], [], [], [], [(.ty Y2), (.st (.bool false)), (.ty (.int .i64))]⟩⟩, ⟨(.exit 0), ⟨[], [], [], [], [(.ty Y2), (.st (.bool false)), (.ty (.int .i64))]⟩⟩]
noncomputable def Fia : (List D2) × Int × Unit → Option (D9 ⊕ D9) := jTa (pBa (nHa Tryz.prog th (Prb jKa lIa bFb) 88 4 Oga Oya))
noncomputable def Dra (l0 : List D2) (i1 : Int) (fk : Fk) (bd : Bd) (sm : Sm) : Option (D9 ⊕ (D9 ⊕ D9)) :=
    fk (decide (i1 < (↑(List.length l0) : Int))) (fk (decide ((0 : Int) ≤ i1)) (fk (decide (i1 < (↑(List.length l0) : Int))) (bd (Fya ((List.getD l0 (Int.toNat i1) (ByteArray.empty, @List.nil ByteArray, ())).2.1, (300 : Int), ())) fun y0 => fk (!y0.1) (some (Sum.inr (Sum.inl (l0, i1, ())))) (fk (decide ((0 : Int) ≤ i1)) (fk (decide (i1 < (↑(List.length l0) : Int))) (fk (decide ((↑(ByteArray.size (List.getD l0 (Int.toNat i1) (ByteArray.empty, @List.nil ByteArray, ())).1) : Int) > (100 : Int))) (some (Sum.inr (Sum.inl (l0, i1, ())))) (some (Sum.inl (l0, IntKind.wrap IntKind.i64 (i1 + (1 : Int)), ())))) none) none)) none) none) (some (Sum.inr (Sum.inr (l0, i1, ()))))
theorem Lma (l0 i1) : Fia (l0, i1, ()) = (Dra l0 i1 jKa lIa bFb).bind (Sum.elim Fia some) := eqL (S := Prb) fun _ _ _ => by kernel_rfl
noncomputable def Psb : OCs := addL Prb Tryz.prog 88 4 Oga Oya Fia
theorem Glb : fEb Tryz.prog th Psb := Jxb.addL (by kernel_rfl) (by kernel_rfl) (by kernel_rfl) rfl
abbrev Nwa : List Shp := [(.ty Y2)]
noncomputable def Jxa : (List D2) × Unit → Option (Bool × Unit) := jTa (fnT Tryz.prog th (Psb jKa lIa bFb) 88 Nwa (.ty .bool) [])
noncomputable def Kqa (l0 : List D2) (fk : Fk) (bd : Bd) (sm : Sm) : Option (Bool × Unit) :=
    fk (decide ((↑(List.length l0) : Int) > (40 : Int))) (some (false, ())) (bd (Fia (l0, (0 : Int), ())) fun y0 => sm y0 (fun y1 => some (false, ())) fun y2 => some (true, ()))
theorem Xva (l0) : Jxa (l0, ()) = Kqa l0 jKa lIa bFb := eqF (S := Psb) fun _ _ _ => by kernel_rfl
noncomputable def Ptb : OCs := addF Psb Tryz.prog 88 Nwa (.ty .bool) [] Jxa
theorem Jyb : fEb Tryz.prog th Ptb := Glb.addF rfl
theorem Jdb : nJb Tryz.prog th 88 Nwa (.ty .bool) [] Jxa := Glb.fn rfl
abbrev Oha : fCa := ⟨[], [], [], [], [(.ty Y2), (.st (.bool false)), (.ty (.int .i64))]⟩
abbrev Oza : List sQa := [⟨.ret, ⟨[], [], [], [], [(.ty Y2), (.st (.bool false)), (.ty (.int .i64))]⟩⟩, ⟨(.exit 0), ⟨[], [], [], [], [(.ty Y2), (.st (.bool false)), (.ty (.int .i64))]⟩⟩]
noncomputable def Fja : (List D2) × Int × Unit → Option (D9 ⊕ D9) := jTa (pBa (nHa Tryz.prog th (Ptb jKa lIa bFb) 38 5 Oha Oza))
noncomputable def Gqa (l0 : List D2) (i1 : Int) (fk : Fk) (bd : Bd) (sm : Sm) : Option (D9 ⊕ (D9 ⊕ D9)) :=
    fk (decide (i1 < (↑(List.length l0) : Int))) (fk (decide ((0 : Int) ≤ i1)) (fk (decide (i1 < (↑(List.length l0) : Int))) (fk (decide ((↑(List.length (List.getD l0 (Int.toNat i1) (ByteArray.empty, @List.nil ByteArray, ())).2.1) : Int) > (40 : Int))) (some (Sum.inr (Sum.inl (l0, i1, ())))) (some (Sum.inl (l0, IntKind.wrap IntKind.i64 (i1 + (1 : Int)), ())))) none) none) (some (Sum.inr (Sum.inr (l0, i1, ()))))
theorem Lpa (l0 i1) : Fja (l0, i1, ()) = (Gqa l0 i1 jKa lIa bFb).bind (Sum.elim Fja some) := eqL (S := Ptb) fun _ _ _ => by kernel_rfl
noncomputable def Pub : OCs := addL Ptb Tryz.prog 38 5 Oha Oza Fja
theorem Jzb : fEb Tryz.prog th Pub := Jyb.addL (by kernel_rfl) (by kernel_rfl) (by kernel_rfl) rfl
abbrev Uja : List Shp := [(.ty Y2)]
noncomputable def Kba : (List D2) × Unit → Option (Bool × Unit) := jTa (fnT Tryz.prog th (Pub jKa lIa bFb) 38 Uja (.ty .bool) [])
noncomputable def Ifa (l0 : List D2) (fk : Fk) (bd : Bd) (sm : Sm) : Option (Bool × Unit) :=
    bd (Jxa (l0, ())) fun y0 => fk (!y0.1) (some (false, ())) (fk (decide ((↑(List.length l0) : Int) > (6 : Int))) (some (false, ())) (bd (Fja (l0, (0 : Int), ())) fun y1 => sm y1 (fun y2 => some (false, ())) fun y3 => some (true, ())))
theorem Yda (l0) : Kba (l0, ()) = Ifa l0 jKa lIa bFb := eqF (S := Pub) fun _ _ _ => by kernel_rfl
noncomputable def Pvb : OCs := addF Pub Tryz.prog 38 Uja (.ty .bool) [] Kba
theorem Gmb : fEb Tryz.prog th Pvb := Jzb.addF rfl
abbrev Nza : List Shp := [(.ty Y4)]
noncomputable def Kaa : D6 × Unit → Option (Bool × Unit) := jTa (fnT Tryz.prog th (Pvb jKa lIa bFb) 19 Nza (.ty .bool) [])
noncomputable def Uga (x0 : Int × (List D1) × (List D2) × (List D2) × Int × Unit) (fk : Fk) (bd : Bd) (sm : Sm) : Option (Bool × Unit) :=
    bd (Loa (x0.2.1, (10 : Int), ())) fun y0 => bd (Kba (x0.2.2.1, ())) fun y1 => bd (Kba (x0.2.2.2.1, ())) fun y2 => fk y0.1 (fk y1.1 (some (y2.1, ())) (some (false, ()))) (some (false, ()))
theorem Yaa (x0) : Kaa (x0, ()) = Uga x0 jKa lIa bFb := eqF (S := Pvb) fun _ _ _ => by kernel_rfl
noncomputable def Pwb : OCs := addF Pvb Tryz.prog 19 Nza (.ty .bool) [] Kaa
theorem Kab : fEb Tryz.prog th Pwb := Gmb.addF rfl
theorem Jgb : nJb Tryz.prog th 19 Nza (.ty .bool) [] Kaa := Gmb.fn rfl
abbrev Zba : List Shp := [(.ty Y4), (.ty .str), (.ty .str)]
noncomputable def Pia : D6 × ByteArray × ByteArray × Unit → Option D23 := jTa (fnT Tryz.prog th (Pwb jKa lIa bFb) 26 Zba (.tuple [(.ty Y4), (.ty (.int .i64))]) [])
noncomputable def Yqa (x0 : Int × (List D1) × (List D2) × (List D2) × Int × Unit) (s1 : ByteArray) (s2 : ByteArray) (fk : Fk) (bd : Bd) (sm : Sm) : Option D23 :=
    let z0 := ((0 : Int), @List.nil D5, @List.nil D2, @List.nil D2, (0 : Int), ())
    let z1 := ((x0.1, IntKind.wrap IntKind.i64 (x0.2.2.2.2.1 + (1 : Int)), ()), @List.nil D3, ByteArray.mk (List.toArray ((109 : UInt8) :: (111 : UInt8) :: (118 : UInt8) :: (101 : UInt8) :: @List.nil UInt8)), ((2 : Int), s1, s2, ((0 : Int), @List.nil ByteArray, @List.nil ByteArray, ()), ()) :: @List.nil D0, ())
    let z2 := ((x0.1, x0.2.1, x0.2.2.1, x0.2.2.2.1, x0.2.2.2.2.1, ()), ())
    bd (Qda z2) fun y0 => fk (!y0.1) (some (z0, (1 : Int), ())) (bd (Jta (x0.2.1, @List.nil D3, ())) fun y1 => bd (Mfa (x0.2.2.1, ())) fun y2 => bd (Mfa (x0.2.2.2.1, ())) fun y3 => fk (decide (List.length y1.1 = List.length y1.1)) (fk (decide ((↑(List.length y1.1) : Int) < (60 : Int))) (bd (Pja z2) fun y4 => fk (decide ((↑(List.length y4.1) : Int) > (0 : Int))) (some (z0, (9 : Int), ())) (fk (!decide (x0.2.2.2.2.1 < (1048576 : Int))) (some (z0, (8 : Int), ())) (bd (Jka (y2.1, ((2 : Int), s1, s2, ((0 : Int), @List.nil ByteArray, @List.nil ByteArray, ()), ()), ())) fun y5 => fk (y5.2.1 != (0 : Int)) (some (z0, y5.2.1, ())) (fk (decide (List.length y1.1 = List.length y1.1)) (fk (decide (List.length (y1.1 ++ z1 :: @List.nil D5) ≤ bBa)) (bd (Mfa (y5.1, ())) fun y6 => bd (Mfa (y5.1, ())) fun y7 => fk (decide (List.length (y1.1 ++ z1 :: @List.nil D5) = List.length (y1.1 ++ z1 :: @List.nil D5))) (some ((x0.1, y1.1 ++ z1 :: @List.nil D5, y6.1, y7.1, IntKind.wrap IntKind.i64 (x0.2.2.2.2.1 + (1 : Int)), ()), (0 : Int), ())) none) none) none)))) (bd (Pja z2) fun y8 => fk (decide ((↑(List.length y8.1) : Int) > (0 : Int))) (some (z0, (9 : Int), ())) (some (z0, (8 : Int), ())))) none)
theorem Cyb (x0 s1 s2) : Pia (x0, s1, s2, ()) = Yqa x0 s1 s2 jKa lIa bFb := eqF (S := Pwb) fun _ _ _ => by kernel_rfl
noncomputable def Pxb : OCs := addF Pwb Tryz.prog 26 Zba (.tuple [(.ty Y4), (.ty (.int .i64))]) [] Pia
theorem Gnb : fEb Tryz.prog th Pxb := Kab.addF rfl
abbrev Isa : List Shp := [(.ty Y4), (.ty .str), (.ty .str)]
noncomputable def Hba : D6 × ByteArray × ByteArray × Unit → Option (Bool × Unit) := jTa (fnT Tryz.prog th (Pxb jKa lIa bFb) 6 Isa (.ty .bool) [])
noncomputable def Mpa (x0 : Int × (List D1) × (List D2) × (List D2) × Int × Unit) (s1 : ByteArray) (s2 : ByteArray) (fk : Fk) (bd : Bd) (sm : Sm) : Option (Bool × Unit) :=
    let z0 := (((0 : Int), (0 : Int), ()), @List.nil D3, ByteArray.empty, @List.nil D0, ())
    let z1 := (↑(List.length x0.2.1) : Int)
    bd (Rpa ()) fun y0 => bd (Kaa ((x0.1, x0.2.1, x0.2.2.1, x0.2.2.2.1, x0.2.2.2.2.1, ()), ())) fun y1 => fk (!y0.1) (some (y0.1, ())) (fk (!y1.1) (some (y0.1, ())) (fk (decide ((↑(ByteArray.size s1) : Int) > (100 : Int))) (some (y0.1, ())) (fk (decide ((↑(ByteArray.size s2) : Int) > (100 : Int))) (some (y0.1, ())) (bd (Pia ((x0.1, x0.2.1, x0.2.2.1, x0.2.2.2.1, x0.2.2.2.2.1, ()), s1, s2, ())) fun y2 => fk (y2.2.1 != (0 : Int)) (some ((↑(List.length y2.1.2.1) : Int) == (0 : Int), ())) (bd (Dpa (x0.2.2.2.1, s1, ())) fun y3 => bd (Dpa (y2.1.2.2.2.1, s2, ())) fun y4 => bd (Dpa (y2.1.2.2.2.1, s1, ())) fun y5 => bd (Iea (@List.nil D2, ByteArray.mk (List.toArray ((97 : UInt8) :: @List.nil UInt8)), y3.1, ())) fun y6 => bd (Iea (@List.nil D2, ByteArray.mk (List.toArray ((97 : UInt8) :: @List.nil UInt8)), y4.1, ())) fun y7 => bd (Ira (y6.1, y7.1, ())) fun y8 => bd (Pia ((y2.1.1, y2.1.2.1, y2.1.2.2.1, y2.1.2.2.2.1, y2.1.2.2.2.2.1, ()), s2, s1, ())) fun y9 => fk y3.2.1 (fk y4.2.1 (fk (!y5.2.1) (fk y8.1 (fk (y9.2.1 == (8 : Int)) (fk (decide ((0 : Int) ≤ z1)) (fk (decide (z1 < (↑(List.length y2.1.2.1) : Int))) (bd (Kwa ((List.getD y2.1.2.1 (Int.toNat z1) z0).2.2.2.1, ())) fun y10 => some (y10.1, ())) none) none) (fk (y9.2.1 == (0 : Int)) (bd (Ira (y9.1.2.2.1, x0.2.2.1, ())) fun y11 => fk y11.1 (fk (decide ((0 : Int) ≤ z1)) (fk (decide (z1 < (↑(List.length y2.1.2.1) : Int))) (bd (Kwa ((List.getD y2.1.2.1 (Int.toNat z1) z0).2.2.2.1, ())) fun y12 => some (y12.1, ())) none) none) (some (false, ()))) (some (false, ())))) (some (false, ()))) (some (false, ()))) (some (false, ()))) (some (false, ())))))))
theorem Soa (x0 s1 s2) : Hba (x0, s1, s2, ()) = Mpa x0 s1 s2 jKa lIa bFb := eqF (S := Pxb) fun _ _ _ => by kernel_rfl
noncomputable def Qob : OCs := addF Pxb Tryz.prog 6 Isa (.ty .bool) [] Hba
theorem Qab : fEb Tryz.prog th Qob := Gnb.addF rfl
theorem Tza : nJb Tryz.prog th 6 Isa (.ty .bool) [] Hba := Gnb.fn rfl
end Go.Proofs.YtpeaaophmddhnaaGreat.LI
