/-
  Functions and loops of this seat.
-/
import Derived.Test.YtpeaaophmddhnaaGreatM23
namespace Go.Proofs.YtpeaaophmddhnaaGreat.LI
open Go Go.RowKit
set_option maxRecDepth 100000
set_option linter.unusedVariables false
set_option linter.unusedSimpArgs false
abbrev Y3 : Ty := (.pair (.int .i64) (.pair (.int .i64) .unit))
abbrev Y5 : Ty := (.pair (.int .i64) (.pair (.list .str) (.pair (.list .str) .unit)))
abbrev Y1 : Ty := (.pair (.int .i64) (.pair .str (.pair .str (.pair Y5 .unit))))
abbrev Y0 : Ty := (.pair Y3 (.pair (.list Y3) (.pair .str (.pair (.list Y1) .unit))))
abbrev Y6 : Ty := (.pair .str (.pair (.list .str) .unit))
abbrev Y2 : Ty := (.list Y6)
abbrev Y4 : Ty := (.pair (.int .i64) (.pair (.list Y0) (.pair Y2 (.pair Y2 (.pair (.int .i64) .unit)))))
abbrev Y7 : Ty := (.pair (.int .i64) (.pair (.int .i64) (.pair (.list .str) .unit)))
abbrev D4 : Type := (Int × List ByteArray × List ByteArray × Unit)
abbrev D0 : Type := (Int × ByteArray × ByteArray × D4 × Unit)
abbrev D3 : Type := (Int × Int × Unit)
abbrev D1 : Type := (D3 × (List D3) × ByteArray × (List D0) × Unit)
abbrev D2 : Type := (ByteArray × List ByteArray × Unit)
abbrev D5 : Type := (D3 × List D3 × ByteArray × List D0 × Unit)
abbrev D6 : Type := (Int × (List D1) × (List D2) × (List D2) × Int × Unit)
abbrev D7 : Type := (Int × Int × List ByteArray × Unit)
abbrev D8 : Type := (Int × Int × (List D3) × ByteArray × (List D0) × Int × Int × (List D3) × ByteArray × (List D0) × Int × Unit)
abbrev D9 : Type := ((List D2) × Int × Unit)
abbrev D10 : Type := (Int × Int × (List D3) × ByteArray × (List D0) × (List D3) × Int × Int × Unit)
abbrev D11 : Type := (List ByteArray × (List D2) × ByteArray × (List D2) × ByteArray × Int × Unit)
abbrev D12 : Type := (Int × (List D1) × (List D2) × (List D2) × Int × Int × Int × (List D3) × ByteArray × (List D0) × (List D3) × Int × Unit)
abbrev D13 : Type := ((List D1) × Int × (List D1) × (List D2) × (List D2) × Int × Int × (List D2) × (List D2) × Int × Int × (List D2) × (List D2) × Int × Int × Int × Int × Int × (List D3) × ByteArray × (List D0) × (List D3) × Int × Int × Unit)
abbrev D14 : Type := (List ByteArray × List ByteArray × Int × Int × Unit)
abbrev D15 : Type := (List ByteArray × Int × ByteArray × ByteArray × Int × List ByteArray × List ByteArray × Int × ByteArray × ByteArray × Int × List ByteArray × List ByteArray × List ByteArray × List ByteArray × Int × Int × Unit)
abbrev D16 : Type := ((List D0) × (List D0) × Int × ByteArray × ByteArray × Int × List ByteArray × List ByteArray × Int × Int × ByteArray × ByteArray × Int × List ByteArray × List ByteArray × (List D0) × Int × Int × Int × Unit)
abbrev D17 : Type := ((List D1) × (List D1) × Int × Int × (List D3) × ByteArray × (List D0) × (List D1) × Int × Unit)
abbrev D18 : Type := ((List D0) × (List D0) × Int × ByteArray × ByteArray × Int × List ByteArray × List ByteArray × Int × Int × ByteArray × ByteArray × Int × List ByteArray × List ByteArray × Int × ByteArray × ByteArray × Int × List ByteArray × List ByteArray × Int × ByteArray × ByteArray × Int × List ByteArray × List ByteArray × (List D0) × Int × Int × Int × Unit)
abbrev D19 : Type := (List ByteArray × Int × Unit)
abbrev D20 : Type := (Int × Int × (List D3) × ByteArray × (List D0) × Bool × Bool × Bool × Int × Unit)
abbrev D21 : Type := ((List D2) × (List D2) × Int × Int × Unit)
abbrev D22 : Type := ((List D0) × Int × Unit)
abbrev D23 : Type := (D6 × Int × Unit)
abbrev D24 : Type := ((List D0) × (List D0) × Int × Unit)
abbrev D25 : Type := (Int × (List D1) × (List D2) × (List D2) × Int × Int × Unit)
abbrev D26 : Type := ((List D0) × Int × ByteArray × ByteArray × Int × List ByteArray × List ByteArray × Int × ByteArray × ByteArray × Int × List ByteArray × List ByteArray × Int × ByteArray × ByteArray × Int × List ByteArray × List ByteArray × Int × Unit)
abbrev D27 : Type := ((List D1) × Int × (List D1) × (List D2) × (List D2) × Int × Int × (List D2) × (List D2) × Int × Int × (List D2) × (List D2) × Int × Int × Int × Int × Int × (List D3) × ByteArray × (List D0) × (List D3) × Int × Int × Int × Unit)
abbrev D28 : Type := ((List D1) × (List D1) × (List D3) × (List D1) × Int × Unit)
abbrev D29 : Type := (List ByteArray × Int × ByteArray × ByteArray × Int × List ByteArray × List ByteArray × Int × ByteArray × ByteArray × Int × List ByteArray × List ByteArray × List ByteArray × List ByteArray × Int × Int × Int × Unit)
abbrev D30 : Type := ((List D1) × (List D1) × (List D1) × (List D3) × Unit)
abbrev D31 : Type := ((List D1) × (List D1) × Int × Int × (List D3) × ByteArray × (List D0) × (List D1) × Int × Int × Unit)
abbrev D32 : Type := (List (List Int) × List Int × List Int × List ByteArray × List ByteArray × List Int × Int × Int × Unit)
abbrev D33 : Type := ((List D0) × (List D0) × Int × ByteArray × ByteArray × Int × List ByteArray × List ByteArray × Int × Int × ByteArray × ByteArray × Int × List ByteArray × List ByteArray × (List D0) × Int × Int × Unit)
abbrev D34 : Type := (List ByteArray × Int × List ByteArray × Int × Unit)
abbrev D35 : Type := ((List D0) × Unit)
abbrev D36 : Type := ((List D2) × Unit)
abbrev D37 : Type := (ByteArray × Int × Unit)
abbrev D38 : Type := (List ByteArray × Bool × Unit)
abbrev D39 : Type := ((List D0) × Int × ByteArray × ByteArray × Int × List ByteArray × List ByteArray × Int × Unit)
abbrev Etb : List Shp := [(.ty Y3)]
noncomputable def Uza : D3 × Unit → Option (Bool × Unit) := jTa (fnT Tryz.prog th (S0 jKa lIa bFb) 105 Etb (.ty .bool) [])
noncomputable def Ekb (x0 : Int × Int × Unit) (fk : Fk) (bd : Bd) (sm : Sm) : Option (Bool × Unit) :=
    fk (decide (x0.1 ≥ (0 : Int))) (fk (decide (x0.1 < (8 : Int))) (fk (decide (x0.2.1 ≥ (1 : Int))) (some (decide (x0.2.1 ≤ (1048576 : Int)), ())) (some (false, ()))) (some (false, ()))) (some (false, ()))
theorem Hcb (x0) : Uza (x0, ()) = Ekb x0 jKa lIa bFb := eqF (S := S0) fun _ _ _ => by kernel_rfl
noncomputable def S1 : OCs := addF S0 Tryz.prog 105 Etb (.ty .bool) [] Uza
theorem Ueb : fEb Tryz.prog th S1 := qXb.addF rfl
abbrev Hfa : fCa := ⟨[], [], [[(.ty (.int .i64)), (.ty (.int .i64)), (.ty (.list Y3)), (.ty .str), (.ty (.list Y1))]], [], [(.ty (.list Y3)), (.func 104 [] [(.bptr 0 0)]), (.st (.int .i64 0)), (.ty (.int .i64)), (.ty (.int .i64))]⟩
abbrev Hka : List sQa := [⟨.ret, ⟨[], [], [[(.ty (.int .i64)), (.ty (.int .i64)), (.ty (.list Y3)), (.ty .str), (.ty (.list Y1))]], [], [(.ty (.list Y3)), (.func 104 [] [(.bptr 0 0)]), (.ty (.int .i64)), (.ty (.int .i64)), (.ty (.int .i64))]⟩⟩, ⟨(.exit 0), ⟨[], [], [[(.ty (.int .i64)), (.ty (.int .i64)), (.ty (.list Y3)), (.ty .str), (.ty (.list Y1))]], [], [(.ty (.list Y3)), (.func 104 [] [(.bptr 0 0)]), (.st (.int .i64 0)), (.ty (.int .i64)), (.ty (.int .i64))]⟩⟩]
noncomputable def Apa : Int × Int × (List D3) × ByteArray × (List D0) × (List D3) × Int × Int × Unit → Option ((Int × Int × (List D3) × ByteArray × (List D0) × (List D3) × Int × Int × Int × Unit) ⊕ D10) := jTa (pBa (nHa Tryz.prog th (S1 jKa lIa bFb) 125 2 Hfa Hka))
noncomputable def Baa (i0 : Int) (i1 : Int) (l2 : List D3) (s3 : ByteArray) (l4 : List D0) (l5 : List D3) (i6 : Int) (i7 : Int) (fk : Fk) (bd : Bd) (sm : Sm) : Option (D10 ⊕ ((Int × Int × (List D3) × ByteArray × (List D0) × (List D3) × Int × Int × Int × Unit) ⊕ D10)) :=
    let z0 := (List.getD l5 (Int.toNat i7) ((0 : Int), (0 : Int), ()))
    fk (decide (i7 < i6)) (fk (decide ((0 : Int) ≤ i7)) (fk (decide (i7 < (↑(List.length l5) : Int))) (bd (Uza ((z0.1, z0.2.1, ()), ())) fun y0 => fk (!y0.1) (some (Sum.inr (Sum.inl (i0, i1, l2, s3, l4, l5, i7, i6, i7, ())))) (fk (z0.1 == i0 && (z0.2.1 == i1 && true)) (some (Sum.inr (Sum.inl (i0, i1, l2, s3, l4, l5, i7, i6, i7, ())))) (some (Sum.inl (i0, i1, l2, s3, l4, l5, i6, IntKind.wrap IntKind.i64 (i7 + (1 : Int)), ()))))) none) none) (some (Sum.inr (Sum.inr (i0, i1, l2, s3, l4, l5, i6, i7, ()))))
theorem Fwa (i0 i1 l2 s3 l4 l5 i6 i7) : Apa (i0, i1, l2, s3, l4, l5, i6, i7, ()) = (Baa i0 i1 l2 s3 l4 l5 i6 i7 jKa lIa bFb).bind (Sum.elim Apa some) := eqL (S := S1) fun _ _ _ => by kernel_rfl
noncomputable def S2 : OCs := addL S1 Tryz.prog 125 2 Hfa Hka Apa
theorem Ufb : fEb Tryz.prog th S2 := Ueb.addL (by kernel_rfl) (by kernel_rfl) (by kernel_rfl) rfl
abbrev Ysa : List Shp := [(.ty Y3), (.ty Y3)]
noncomputable def Rga : D3 × D3 × Unit → Option (Bool × Unit) := jTa (fnT Tryz.prog th (S2 jKa lIa bFb) 107 Ysa (.ty .bool) [])
noncomputable def Yaa (x0 : Int × Int × Unit) (x1 : Int × Int × Unit) (fk : Fk) (bd : Bd) (sm : Sm) : Option (Bool × Unit) :=
    fk (decide (x0.1 < x1.1)) (some (true, ())) (fk (x0.1 == x1.1) (some (decide (x0.2.1 < x1.2.1), ())) (some (false, ())))
theorem Djb (x0 x1) : Rga (x0, x1, ()) = Yaa x0 x1 jKa lIa bFb := eqF (S := S2) fun _ _ _ => by kernel_rfl
noncomputable def S3 : OCs := addF S2 Tryz.prog 107 Ysa (.ty .bool) [] Rga
theorem Ugb : fEb Tryz.prog th S3 := Ufb.addF rfl
abbrev Pwa : fCa := ⟨[], [], [[(.ty (.int .i64)), (.ty (.int .i64)), (.ty (.list Y3)), (.ty .str), (.ty (.list Y1))]], [], [(.ty (.list Y3)), (.func 107 [] []), (.st (.bool false)), (.ty (.int .i64)), (.ty (.int .i64))]⟩
abbrev Qla : List sQa := [⟨.ret, ⟨[], [], [[(.ty (.int .i64)), (.ty (.int .i64)), (.ty (.list Y3)), (.ty .str), (.ty (.list Y1))]], [], [(.ty (.list Y3)), (.func 107 [] []), (.st (.bool false)), (.ty (.int .i64)), (.ty (.int .i64))]⟩⟩, ⟨(.exit 0), ⟨[], [], [[(.ty (.int .i64)), (.ty (.int .i64)), (.ty (.list Y3)), (.ty .str), (.ty (.list Y1))]], [], [(.ty (.list Y3)), (.func 107 [] []), (.st (.bool false)), (.ty (.int .i64)), (.ty (.int .i64))]⟩⟩]
noncomputable def Cla : Int × Int × (List D3) × ByteArray × (List D0) × (List D3) × Int × Int × Unit → Option (D10 ⊕ D10) := jTa (pBa (nHa Tryz.prog th (S3 jKa lIa bFb) 106 2 Pwa Qla))
noncomputable def Dpa (i0 : Int) (i1 : Int) (l2 : List D3) (s3 : ByteArray) (l4 : List D0) (l5 : List D3) (i6 : Int) (i7 : Int) (fk : Fk) (bd : Bd) (sm : Sm) : Option (D10 ⊕ (D10 ⊕ D10)) :=
    fk (decide (i7 < i6)) (fk (decide (i7 > (0 : Int))) (fk (decide ((0 : Int) ≤ IntKind.wrap IntKind.i64 (i7 - (1 : Int)))) (fk (decide (IntKind.wrap IntKind.i64 (i7 - (1 : Int)) < (↑(List.length l5) : Int))) (fk (decide ((0 : Int) ≤ i7)) (fk (decide (i7 < (↑(List.length l5) : Int))) (bd (Rga (((List.getD l5 (Int.toNat (IntKind.wrap IntKind.i64 (i7 - (1 : Int)))) ((0 : Int), (0 : Int), ())).1, (List.getD l5 (Int.toNat (IntKind.wrap IntKind.i64 (i7 - (1 : Int)))) ((0 : Int), (0 : Int), ())).2.1, ()), ((List.getD l5 (Int.toNat i7) ((0 : Int), (0 : Int), ())).1, (List.getD l5 (Int.toNat i7) ((0 : Int), (0 : Int), ())).2.1, ()), ())) fun y0 => fk (!y0.1) (some (Sum.inr (Sum.inl (i0, i1, l2, s3, l4, l5, i6, i7, ())))) (some (Sum.inl (i0, i1, l2, s3, l4, l5, i6, IntKind.wrap IntKind.i64 (i7 + (1 : Int)), ())))) none) none) none) none) (some (Sum.inl (i0, i1, l2, s3, l4, l5, i6, IntKind.wrap IntKind.i64 (i7 + (1 : Int)), ())))) (some (Sum.inr (Sum.inr (i0, i1, l2, s3, l4, l5, i6, i7, ()))))
theorem Mpa (i0 i1 l2 s3 l4 l5 i6 i7) : Cla (i0, i1, l2, s3, l4, l5, i6, i7, ()) = (Dpa i0 i1 l2 s3 l4 l5 i6 i7 jKa lIa bFb).bind (Sum.elim Cla some) := eqL (S := S3) fun _ _ _ => by kernel_rfl
noncomputable def S4 : OCs := addL S3 Tryz.prog 106 2 Pwa Qla Cla
theorem Uhb : fEb Tryz.prog th S4 := Ugb.addL (by kernel_rfl) (by kernel_rfl) (by kernel_rfl) rfl
abbrev Csa : List Shp := [(.ty .str), (.ty .byte)]
noncomputable def Boa : ByteArray × UInt8 × Unit → Option (Int × Unit) := jTa (fnT Tryz.prog th (S4 jKa lIa bFb) 192 Csa (.ty (.int .i64)) [])
noncomputable def Cpa (s0 : ByteArray) (c1 : UInt8) (fk : Fk) (bd : Bd) (sm : Sm) : Option (Int × Unit) :=
    some (Lib.indexByte s0.data.toList (Nat.toUInt8 (Int.toNat (↑(UInt8.toNat c1) : Int))), ())
theorem Hga (s0 c1) : Boa (s0, c1, ()) = Cpa s0 c1 jKa lIa bFb := eqF (S := S4) fun _ _ _ => by kernel_rfl
noncomputable def S5 : OCs := addF S4 Tryz.prog 192 Csa (.ty (.int .i64)) [] Boa
theorem Uib : fEb Tryz.prog th S5 := Uhb.addF rfl
abbrev Lma : List Shp := [(.ty .str), (.ty .byte)]
noncomputable def Ela : ByteArray × UInt8 × Unit → Option (Int × Unit) := jTa (fnT Tryz.prog th (S5 jKa lIa bFb) 150 Lma (.ty (.int .i64)) [])
noncomputable def Lja (s0 : ByteArray) (c1 : UInt8) (fk : Fk) (bd : Bd) (sm : Sm) : Option (Int × Unit) :=
    fk (decide ((0 : Int) ≤ (↑(UInt8.toNat c1) : Int)) && decide ((↑(UInt8.toNat c1) : Int) < (256 : Int))) (bd (Boa (s0, UInt8.ofNat (Int.toNat (↑(UInt8.toNat c1) : Int)), ())) fun y0 => some (y0.1, ())) none
theorem Rwa (s0 c1) : Ela (s0, c1, ()) = Lja s0 c1 jKa lIa bFb := eqF (S := S5) fun _ _ _ => by kernel_rfl
noncomputable def S6 : OCs := addF S5 Tryz.prog 150 Lma (.ty (.int .i64)) [] Ela
theorem Ujb : fEb Tryz.prog th S6 := Uib.addF rfl
abbrev Ezb : List Shp := [(.ty .str)]
noncomputable def Rpa : ByteArray × Unit → Option (Bool × Unit) := jTa (fnT Tryz.prog th (S6 jKa lIa bFb) 108 Ezb (.ty .bool) [])
noncomputable def Yga (s0 : ByteArray) (fk : Fk) (bd : Bd) (sm : Sm) : Option (Bool × Unit) :=
    fk (decide ((↑(ByteArray.size s0) : Int) ≤ (80 : Int))) (bd (Ela (s0, UInt8.ofNat (Int.toNat (10 : Int)), ())) fun y0 => some (decide (y0.1 < (0 : Int)), ())) (some (false, ()))
theorem Hmb (s0) : Rpa (s0, ()) = Yga s0 jKa lIa bFb := eqF (S := S6) fun _ _ _ => by kernel_rfl
noncomputable def S7 : OCs := addF S6 Tryz.prog 108 Ezb (.ty .bool) [] Rpa
theorem Ukb : fEb Tryz.prog th S7 := Ujb.addF rfl
abbrev Cab : List Shp := [(.ty .byte)]
noncomputable def Vma : UInt8 × Unit → Option (Bool × Unit) := jTa (fnT Tryz.prog th (S7 jKa lIa bFb) 151 Cab (.ty .bool) [])
noncomputable def Bob (c0 : UInt8) (fk : Fk) (bd : Bd) (sm : Sm) : Option (Bool × Unit) :=
    let z0 := (fk (decide ((↑(UInt8.toNat c0) : Int) ≥ (48 : Int))) (fk (decide ((↑(UInt8.toNat c0) : Int) ≤ (57 : Int))) (some (true, ())) (some ((↑(UInt8.toNat c0) : Int) == (46 : Int), ()))) (some ((↑(UInt8.toNat c0) : Int) == (46 : Int), ())))
    fk (decide ((↑(UInt8.toNat c0) : Int) ≥ (97 : Int))) (fk (decide ((↑(UInt8.toNat c0) : Int) ≤ (122 : Int))) (some (true, ())) z0) z0
theorem Gmb (c0) : Vma (c0, ()) = Bob c0 jKa lIa bFb := eqF (S := S7) fun _ _ _ => by kernel_rfl
noncomputable def S8 : OCs := addF S7 Tryz.prog 151 Cab (.ty .bool) [] Vma
theorem Ulb : fEb Tryz.prog th S8 := Ukb.addF rfl
abbrev Uga : fCa := ⟨[], [], [], [], [(.ty .str), (.st (.bool false)), (.ty (.int .i64)), (.ty (.int .i64))]⟩
abbrev Uwa : List sQa := [⟨.ret, ⟨[], [], [], [], [(.ty .str), (.st (.bool false)), (.ty (.int .i64)), (.ty (.int .i64))]⟩⟩, ⟨(.exit 0), ⟨[], [], [], [], [(.ty .str), (.st (.bool false)), (.ty (.int .i64)), (.ty (.int .i64))]⟩⟩]
noncomputable def Jfa : ByteArray × Int × Int × Unit → Option ((ByteArray × Int × Int × Unit) ⊕ (ByteArray × Int × Int × Unit)) := jTa (pBa (nHa Tryz.prog th (S8 jKa lIa bFb) 111 2 Uga Uwa))
noncomputable def Jsa (s0 : ByteArray) (i1 : Int) (i2 : Int) (fk : Fk) (bd : Bd) (sm : Sm) : Option ((ByteArray × Int × Int × Unit) ⊕ ((ByteArray × Int × Int × Unit) ⊕ (ByteArray × Int × Int × Unit))) :=
    let z0 := (↑(UInt8.toNat (List.getD s0.data.toList (Int.toNat i2) (0 : UInt8))) : Int)
    fk (decide (i2 < i1)) (fk (decide ((0 : Int) ≤ i2)) (fk (decide (i2 < (↑(ByteArray.size s0) : Int))) (fk (decide ((0 : Int) ≤ z0) && decide (z0 < (256 : Int))) (bd (Vma (UInt8.ofNat (Int.toNat z0), ())) fun y0 => fk (!y0.1) (some (Sum.inr (Sum.inl (s0, i1, i2, ())))) (some (Sum.inl (s0, i1, IntKind.wrap IntKind.i64 (i2 + (1 : Int)), ())))) none) none) none) (some (Sum.inr (Sum.inr (s0, i1, i2, ()))))
theorem Qua (s0 i1 i2) : Jfa (s0, i1, i2, ()) = (Jsa s0 i1 i2 jKa lIa bFb).bind (Sum.elim Jfa some) := eqL (S := S8) fun _ _ _ => by kernel_rfl
noncomputable def S9 : OCs := addL S8 Tryz.prog 111 2 Uga Uwa Jfa
theorem Umb : fEb Tryz.prog th S9 := Ulb.addL (by kernel_rfl) (by kernel_rfl) (by kernel_rfl) rfl
abbrev Bzb : List Shp := [(.ty .str)]
noncomputable def Kwa : ByteArray × Unit → Option (Bool × Unit) := jTa (fnT Tryz.prog th (S9 jKa lIa bFb) 111 Bzb (.ty .bool) [])
noncomputable def Qya (s0 : ByteArray) (fk : Fk) (bd : Bd) (sm : Sm) : Option (Bool × Unit) :=
    bd (Jfa (s0, (↑(ByteArray.size s0) : Int), (0 : Int), ())) fun y0 => sm y0 (fun y1 => some (false, ())) fun y2 => fk (!ByteArray.toList y2.1 == ByteArray.toList ByteArray.empty) (some (decide ((↑(ByteArray.size y2.1) : Int) ≤ (16 : Int)), ())) (some (false, ()))
theorem Glb (s0) : Kwa (s0, ()) = Qya s0 jKa lIa bFb := eqF (S := S9) fun _ _ _ => by kernel_rfl
noncomputable def S10 : OCs := addF S9 Tryz.prog 111 Bzb (.ty .bool) [] Kwa
theorem Orb : fEb Tryz.prog th S10 := Umb.addF rfl
abbrev Kga : List Shp := [(.ty Y1)]
noncomputable def Cea : D0 × Unit → Option (Bool × Unit) := jTa (fnT Tryz.prog th (S10 jKa lIa bFb) 197 Kga (.ty .bool) [])
noncomputable def Gca (x0 : Int × ByteArray × ByteArray × D4 × Unit) (fk : Fk) (bd : Bd) (sm : Sm) : Option (Bool × Unit) :=
    bd (Kwa (x0.2.1, ())) fun y0 => fk y0.1 (some (ByteArray.toList x0.2.2.1 == ByteArray.toList ByteArray.empty, ())) (some (false, ()))
theorem Qqa (x0) : Cea (x0, ()) = Gca x0 jKa lIa bFb := eqF (S := S10) fun _ _ _ => by kernel_rfl
noncomputable def S11 : OCs := addF S10 Tryz.prog 197 Kga (.ty .bool) [] Cea
theorem Osb : fEb Tryz.prog th S11 := Orb.addF rfl
abbrev Lva : List Shp := [(.ty Y1)]
noncomputable def Dda : D0 × Unit → Option (Bool × Unit) := jTa (fnT Tryz.prog th (S11 jKa lIa bFb) 198 Lva (.ty .bool) [])
noncomputable def Ida (x0 : Int × ByteArray × ByteArray × D4 × Unit) (fk : Fk) (bd : Bd) (sm : Sm) : Option (Bool × Unit) :=
    fk (x0.2.2.2.1.1 == (0 : Int)) (some (IntKind.wrap IntKind.i64 ((↑(List.length x0.2.2.2.1.2.1) : Int) + (↑(List.length x0.2.2.2.1.2.2.1) : Int)) == (0 : Int), ())) (some (false, ()))
theorem Tpa (x0) : Dda (x0, ()) = Ida x0 jKa lIa bFb := eqF (S := S11) fun _ _ _ => by kernel_rfl
noncomputable def S12 : OCs := addF S11 Tryz.prog 198 Lva (.ty .bool) [] Dda
theorem Otb : fEb Tryz.prog th S12 := Osb.addF rfl
abbrev Jma : List Shp := [(.ty Y1)]
noncomputable def Bya : D0 × Unit → Option (Bool × Unit) := jTa (fnT Tryz.prog th (S12 jKa lIa bFb) 157 Jma (.ty .bool) [])
noncomputable def Jka (x0 : Int × ByteArray × ByteArray × D4 × Unit) (fk : Fk) (bd : Bd) (sm : Sm) : Option (Bool × Unit) :=
    bd (Cea ((x0.1, x0.2.1, x0.2.2.1, (x0.2.2.2.1.1, x0.2.2.2.1.2.1, x0.2.2.2.1.2.2.1, ()), ()), ())) fun y0 => fk y0.1 (bd (Dda ((x0.1, x0.2.1, x0.2.2.1, (x0.2.2.2.1.1, x0.2.2.2.1.2.1, x0.2.2.2.1.2.2.1, ()), ()), ())) fun y1 => some (y1.1, ())) (some (false, ()))
theorem Ova (x0) : Bya (x0, ()) = Jka x0 jKa lIa bFb := eqF (S := S12) fun _ _ _ => by kernel_rfl
noncomputable def S13 : OCs := addF S12 Tryz.prog 157 Jma (.ty .bool) [] Bya
theorem Oub : fEb Tryz.prog th S13 := Otb.addF rfl
abbrev Jna : List Shp := [(.ty Y1)]
noncomputable def Cya : D0 × Unit → Option (Bool × Unit) := jTa (fnT Tryz.prog th (S13 jKa lIa bFb) 160 Jna (.ty .bool) [])
noncomputable def Jla (x0 : Int × ByteArray × ByteArray × D4 × Unit) (fk : Fk) (bd : Bd) (sm : Sm) : Option (Bool × Unit) :=
    bd (Kwa (x0.2.1, ())) fun y0 => fk y0.1 (bd (Kwa (x0.2.2.1, ())) fun y1 => fk y1.1 (fk (!ByteArray.toList x0.2.1 == ByteArray.toList x0.2.2.1) (bd (Dda ((x0.1, x0.2.1, x0.2.2.1, (x0.2.2.2.1.1, x0.2.2.2.1.2.1, x0.2.2.2.1.2.2.1, ()), ()), ())) fun y2 => some (y2.1, ())) (some (false, ()))) (some (false, ()))) (some (false, ()))
theorem Owa (x0) : Cya (x0, ()) = Jla x0 jKa lIa bFb := eqF (S := S13) fun _ _ _ => by kernel_rfl
noncomputable def S14 : OCs := addF S13 Tryz.prog 160 Jna (.ty .bool) [] Cya
theorem Ovb : fEb Tryz.prog th S14 := Oub.addF rfl
abbrev Zca : List Shp := [(.ty .str)]
noncomputable def Roa : ByteArray × Unit → Option (Bool × Unit) := jTa (fnT Tryz.prog th (S14 jKa lIa bFb) 153 Zca (.ty .bool) [])
noncomputable def Yfa (s0 : ByteArray) (fk : Fk) (bd : Bd) (sm : Sm) : Option (Bool × Unit) :=
    bd (Rpa (s0, ())) fun y0 => some (!y0.1, ())
theorem Edb (s0) : Roa (s0, ()) = Yfa s0 jKa lIa bFb := eqF (S := S14) fun _ _ _ => by kernel_rfl
noncomputable def S15 : OCs := addF S14 Tryz.prog 153 Zca (.ty .bool) [] Roa
theorem Owb : fEb Tryz.prog th S15 := Ovb.addF rfl
abbrev Dwa : fCa := ⟨[], [], [], [], [(.ty (.list .str)), (.func 153 [] []), (.st (.int .i64 0)), (.ty (.int .i64)), (.ty (.int .i64))]⟩
abbrev Dya : List sQa := [⟨.ret, ⟨[], [], [], [], [(.ty (.list .str)), (.func 153 [] []), (.ty (.int .i64)), (.ty (.int .i64)), (.ty (.int .i64))]⟩⟩, ⟨(.exit 0), ⟨[], [], [], [], [(.ty (.list .str)), (.func 153 [] []), (.st (.int .i64 0)), (.ty (.int .i64)), (.ty (.int .i64))]⟩⟩]
noncomputable def Aoa : List ByteArray × Int × Int × Unit → Option ((List ByteArray × Int × Int × Int × Unit) ⊕ (List ByteArray × Int × Int × Unit)) := jTa (pBa (nHa Tryz.prog th (S15 jKa lIa bFb) 193 2 Dwa Dya))
noncomputable def Bba (l0 : List ByteArray) (i1 : Int) (i2 : Int) (fk : Fk) (bd : Bd) (sm : Sm) : Option ((List ByteArray × Int × Int × Unit) ⊕ ((List ByteArray × Int × Int × Int × Unit) ⊕ (List ByteArray × Int × Int × Unit))) :=
    fk (decide (i2 < i1)) (fk (decide ((0 : Int) ≤ i2)) (fk (decide (i2 < (↑(List.length l0) : Int))) (bd (Roa (List.getD l0 (Int.toNat i2) ByteArray.empty, ())) fun y0 => fk y0.1 (some (Sum.inr (Sum.inl (l0, i2, i1, i2, ())))) (some (Sum.inl (l0, i1, IntKind.wrap IntKind.i64 (i2 + (1 : Int)), ())))) none) none) (some (Sum.inr (Sum.inr (l0, i1, i2, ()))))
theorem Dea (l0 i1 i2) : Aoa (l0, i1, i2, ()) = (Bba l0 i1 i2 jKa lIa bFb).bind (Sum.elim Aoa some) := eqL (S := S15) fun _ _ _ => by kernel_rfl
noncomputable def S16 : OCs := addL S15 Tryz.prog 193 2 Dwa Dya Aoa
theorem Oxb : fEb Tryz.prog th S16 := Owb.addL (by kernel_rfl) (by kernel_rfl) (by kernel_rfl) rfl
abbrev Eyb : List Shp := [(.ty (.list .str))]
noncomputable def Rna : List ByteArray × Unit → Option (Bool × Unit) := jTa (fnT Tryz.prog th (S16 jKa lIa bFb) 112 Eyb (.ty .bool) [])
noncomputable def Txa (l0 : List ByteArray) (fk : Fk) (bd : Bd) (sm : Sm) : Option (Bool × Unit) :=
    fk (decide ((↑(List.length l0) : Int) ≤ (200 : Int))) (bd (Aoa (l0, (↑(List.length l0) : Int), (0 : Int), ())) fun y0 => sm y0 (fun y1 => some (!decide (y1.2.1 ≥ (0 : Int)), ())) fun y2 => some (true, ())) (some (false, ()))
theorem Hlb (l0) : Rna (l0, ()) = Txa l0 jKa lIa bFb := eqF (S := S16) fun _ _ _ => by kernel_rfl
noncomputable def S17 : OCs := addF S16 Tryz.prog 112 Eyb (.ty .bool) [] Rna
theorem Oyb : fEb Tryz.prog th S17 := Oxb.addF rfl
abbrev Erb : List Shp := [(.ty Y5)]
noncomputable def Uha : D4 × Unit → Option (Bool × Unit) := jTa (fnT Tryz.prog th (S17 jKa lIa bFb) 199 Erb (.ty .bool) [])
noncomputable def Pda (x0 : Int × List ByteArray × List ByteArray × Unit) (fk : Fk) (bd : Bd) (sm : Sm) : Option (Bool × Unit) :=
    fk (decide (x0.1 ≥ (0 : Int))) (fk (decide (x0.1 ≤ (1048576 : Int))) (bd (Rna (x0.2.1, ())) fun y0 => fk y0.1 (bd (Rna (x0.2.2.1, ())) fun y1 => some (y1.1, ())) (some (false, ()))) (some (false, ()))) (some (false, ()))
theorem Gub (x0) : Uha (x0, ()) = Pda x0 jKa lIa bFb := eqF (S := S17) fun _ _ _ => by kernel_rfl
noncomputable def S18 : OCs := addF S17 Tryz.prog 199 Erb (.ty .bool) [] Uha
theorem Ozb : fEb Tryz.prog th S18 := Oyb.addF rfl
abbrev Ixa : List Shp := [(.ty Y1)]
noncomputable def Bta : D0 × Unit → Option (Bool × Unit) := jTa (fnT Tryz.prog th (S18 jKa lIa bFb) 162 Ixa (.ty .bool) [])
noncomputable def Iva (x0 : Int × ByteArray × ByteArray × D4 × Unit) (fk : Fk) (bd : Bd) (sm : Sm) : Option (Bool × Unit) :=
    bd (Cea ((x0.1, x0.2.1, x0.2.2.1, (x0.2.2.2.1.1, x0.2.2.2.1.2.1, x0.2.2.2.1.2.2.1, ()), ()), ())) fun y0 => fk y0.1 (bd (Uha ((x0.2.2.2.1.1, x0.2.2.2.1.2.1, x0.2.2.2.1.2.2.1, ()), ())) fun y1 => some (y1.1, ())) (some (false, ()))
theorem Nfa (x0) : Bta (x0, ()) = Iva x0 jKa lIa bFb := eqF (S := S18) fun _ _ _ => by kernel_rfl
noncomputable def S19 : OCs := addF S18 Tryz.prog 162 Ixa (.ty .bool) [] Bta
theorem Pab : fEb Tryz.prog th S19 := Ozb.addF rfl
abbrev Kfa : List Shp := [(.ty Y1)]
noncomputable def Dia : D0 × Unit → Option (Bool × Unit) := jTa (fnT Tryz.prog th (S19 jKa lIa bFb) 164 Kfa (.ty .bool) [])
noncomputable def Kba (x0 : Int × ByteArray × ByteArray × D4 × Unit) (fk : Fk) (bd : Bd) (sm : Sm) : Option (Bool × Unit) :=
    bd (Bta ((x0.1, x0.2.1, x0.2.2.1, (x0.2.2.2.1.1, x0.2.2.2.1.2.1, x0.2.2.2.1.2.2.1, ()), ()), ())) fun y0 => fk y0.1 (some (x0.2.2.2.1.1 == (0 : Int), ())) (some (false, ()))
theorem Qpa (x0) : Dia (x0, ()) = Kba x0 jKa lIa bFb := eqF (S := S19) fun _ _ _ => by kernel_rfl
noncomputable def S20 : OCs := addF S19 Tryz.prog 164 Kfa (.ty .bool) [] Dia
theorem Pbb : fEb Tryz.prog th S20 := Pab.addF rfl
abbrev Eub : List Shp := [(.ty Y1)]
noncomputable def Vaa : D0 × Unit → Option (Bool × Unit) := jTa (fnT Tryz.prog th (S20 jKa lIa bFb) 77 Eub (.ty .bool) [])
noncomputable def Elb (x0 : Int × ByteArray × ByteArray × D4 × Unit) (fk : Fk) (bd : Bd) (sm : Sm) : Option (Bool × Unit) :=
    let z0 := ((x0.1, x0.2.1, x0.2.2.1, (x0.2.2.2.1.1, x0.2.2.2.1.2.1, x0.2.2.2.1.2.2.1, ()), ()), ())
    fk (decide (x0.1 ≥ (0 : Int))) (fk (decide (x0.1 < (5 : Int))) (fk (decide (x0.1 = (↑(0 : Nat) : Int))) (bd (Bya z0) fun y0 => some (y0.1, ())) (fk (decide (x0.1 = (↑((0 : Nat) + (1 : Nat)) : Int))) (bd (Bya z0) fun y1 => some (y1.1, ())) (fk (decide (x0.1 = (↑((0 : Nat) + (1 : Nat) + (1 : Nat)) : Int))) (bd (Cya z0) fun y2 => some (y2.1, ())) (fk (decide (x0.1 = (↑((0 : Nat) + (1 : Nat) + (1 : Nat) + (1 : Nat)) : Int))) (bd (Bta z0) fun y3 => some (y3.1, ())) (fk (decide (x0.1 = (↑((0 : Nat) + (1 : Nat) + (1 : Nat) + (1 : Nat) + (1 : Nat)) : Int))) (bd (Dia z0) fun y4 => some (y4.1, ())) none))))) (some (false, ()))) (some (false, ()))
theorem Hdb (x0) : Vaa (x0, ()) = Elb x0 jKa lIa bFb := eqF (S := S20) fun _ _ _ => by kernel_rfl
noncomputable def S21 : OCs := addF S20 Tryz.prog 77 Eub (.ty .bool) [] Vaa
theorem Pcb : fEb Tryz.prog th S21 := Pbb.addF rfl
abbrev Ypa : List Shp := [(.ty Y1)]
noncomputable def Rea : D0 × Unit → Option (Bool × Unit) := jTa (fnT Tryz.prog th (S21 jKa lIa bFb) 76 Ypa (.ty .bool) [])
noncomputable def Xxa (x0 : Int × ByteArray × ByteArray × D4 × Unit) (fk : Fk) (bd : Bd) (sm : Sm) : Option (Bool × Unit) :=
    bd (Vaa ((x0.1, x0.2.1, x0.2.2.1, (x0.2.2.2.1.1, x0.2.2.2.1.2.1, x0.2.2.2.1.2.2.1, ()), ()), ())) fun y0 => some (!y0.1, ())
theorem Cyb (x0) : Rea (x0, ()) = Xxa x0 jKa lIa bFb := eqF (S := S21) fun _ _ _ => by kernel_rfl
noncomputable def S22 : OCs := addF S21 Tryz.prog 76 Ypa (.ty .bool) [] Rea
theorem Pdb : fEb Tryz.prog th S22 := Pcb.addF rfl
abbrev Fha : fCa := ⟨[], [], [], [], [(.ty (.list Y1)), (.func 76 [] []), (.st (.int .i64 0)), (.ty (.int .i64)), (.ty (.int .i64))]⟩
abbrev Fsa : List sQa := [⟨.ret, ⟨[], [], [], [], [(.ty (.list Y1)), (.func 76 [] []), (.ty (.int .i64)), (.ty (.int .i64)), (.ty (.int .i64))]⟩⟩, ⟨(.exit 0), ⟨[], [], [], [], [(.ty (.list Y1)), (.func 76 [] []), (.st (.int .i64 0)), (.ty (.int .i64)), (.ty (.int .i64))]⟩⟩]
noncomputable def Aza : (List D0) × Int × Int × Unit → Option (((List D0) × Int × Int × Int × Unit) ⊕ ((List D0) × Int × Int × Unit)) := jTa (pBa (nHa Tryz.prog th (S22 jKa lIa bFb) 124 2 Fha Fsa))
noncomputable def Bna (l0 : List D0) (i1 : Int) (i2 : Int) (fk : Fk) (bd : Bd) (sm : Sm) : Option (((List D0) × Int × Int × Unit) ⊕ (((List D0) × Int × Int × Int × Unit) ⊕ ((List D0) × Int × Int × Unit))) :=
    let z0 := (List.getD l0 (Int.toNat i2) ((0 : Int), ByteArray.empty, ByteArray.empty, ((0 : Int), @List.nil ByteArray, @List.nil ByteArray, ()), ()))
    fk (decide (i2 < i1)) (fk (decide ((0 : Int) ≤ i2)) (fk (decide (i2 < (↑(List.length l0) : Int))) (bd (Rea ((z0.1, z0.2.1, z0.2.2.1, (z0.2.2.2.1.1, z0.2.2.2.1.2.1, z0.2.2.2.1.2.2.1, ()), ()), ())) fun y0 => fk y0.1 (some (Sum.inr (Sum.inl (l0, i2, i1, i2, ())))) (some (Sum.inl (l0, i1, IntKind.wrap IntKind.i64 (i2 + (1 : Int)), ())))) none) none) (some (Sum.inr (Sum.inr (l0, i1, i2, ()))))
theorem Eea (l0 i1 i2) : Aza (l0, i1, i2, ()) = (Bna l0 i1 i2 jKa lIa bFb).bind (Sum.elim Aza some) := eqL (S := S22) fun _ _ _ => by kernel_rfl
noncomputable def S23 : OCs := addL S22 Tryz.prog 124 2 Fha Fsa Aza
theorem Peb : fEb Tryz.prog th S23 := Pdb.addL (by kernel_rfl) (by kernel_rfl) (by kernel_rfl) rfl
abbrev Eqb : List Shp := [(.ty (.list Y1))]
noncomputable def Tza : (List D0) × Unit → Option (Bool × Unit) := jTa (fnT Tryz.prog th (S23 jKa lIa bFb) 29 Eqb (.ty .bool) [])
noncomputable def Xwa (l0 : List D0) (fk : Fk) (bd : Bd) (sm : Sm) : Option (Bool × Unit) :=
    bd (Aza (l0, (↑(List.length l0) : Int), (0 : Int), ())) fun y0 => sm y0 (fun y1 => some (!decide (y1.2.1 ≥ (0 : Int)), ())) fun y2 => some (true, ())
theorem Gsb (l0) : Tza (l0, ()) = Xwa l0 jKa lIa bFb := eqF (S := S23) fun _ _ _ => by kernel_rfl
noncomputable def S24 : OCs := addF S23 Tryz.prog 29 Eqb (.ty .bool) [] Tza
theorem Pfb : fEb Tryz.prog th S24 := Peb.addF rfl
abbrev Bub : List Shp := [(.ty Y0)]
noncomputable def Moa : D1 × Unit → Option (Bool × Unit) := jTa (fnT Tryz.prog th (S24 jKa lIa bFb) 54 Bub (.ty .bool) [])
noncomputable def Bmb (x0 : D3 × (List D3) × ByteArray × (List D0) × Unit) (fk : Fk) (bd : Bd) (sm : Sm) : Option (Bool × Unit) :=
    bd (Uza ((x0.1.1, x0.1.2.1, ()), ())) fun y0 => fk y0.1 (fk (decide ((↑(List.length x0.2.1) : Int) ≤ (60 : Int))) (bd (Apa (x0.1.1, x0.1.2.1, x0.2.1, x0.2.2.1, x0.2.2.2.1, x0.2.1, (↑(List.length x0.2.1) : Int), (0 : Int), ())) fun y1 => sm y1 (fun y2 => fk (!decide (y2.2.2.2.2.2.2.1 ≥ (0 : Int))) (bd (Cla (y2.1, y2.2.1, y2.2.2.1, y2.2.2.2.1, y2.2.2.2.2.1, y2.2.2.1, (↑(List.length y2.2.2.1) : Int), (0 : Int), ())) fun y3 => sm y3 (fun y4 => some (false, ())) fun y5 => bd (Rpa (y5.2.2.2.1, ())) fun y6 => fk y6.1 (fk (decide ((↑(List.length y5.2.2.2.2.1) : Int) ≤ (200 : Int))) (bd (Tza (y5.2.2.2.2.1, ())) fun y7 => some (y7.1, ())) (some (false, ()))) (some (false, ()))) (some (false, ()))) fun y8 => bd (Cla (y8.1, y8.2.1, y8.2.2.1, y8.2.2.2.1, y8.2.2.2.2.1, y8.2.2.1, (↑(List.length y8.2.2.1) : Int), (0 : Int), ())) fun y9 => sm y9 (fun y10 => some (false, ())) fun y11 => bd (Rpa (y11.2.2.2.1, ())) fun y12 => fk y12.1 (fk (decide ((↑(List.length y11.2.2.2.2.1) : Int) ≤ (200 : Int))) (bd (Tza (y11.2.2.2.2.1, ())) fun y13 => some (y13.1, ())) (some (false, ()))) (some (false, ()))) (some (false, ()))) (some (false, ()))
theorem Fzb (x0) : Moa (x0, ()) = Bmb x0 jKa lIa bFb := eqF (S := S24) fun _ _ _ => by kernel_rfl
noncomputable def S25 : OCs := addF S24 Tryz.prog 54 Bub (.ty .bool) [] Moa
theorem Pgb : fEb Tryz.prog th S25 := Pfb.addF rfl
abbrev Era : fCa := ⟨[], [], [[(.ty (.int .i64)), (.ty (.int .i64))]], [], [(.ty (.list Y0)), (.func 110 [] [(.bptr 0 0)]), (.st (.int .i64 0)), (.ty (.int .i64)), (.ty (.int .i64))]⟩
abbrev Eva : List sQa := [⟨.ret, ⟨[], [], [[(.ty (.int .i64)), (.ty (.int .i64))]], [], [(.ty (.list Y0)), (.func 110 [] [(.bptr 0 0)]), (.ty (.int .i64)), (.ty (.int .i64)), (.ty (.int .i64))]⟩⟩, ⟨(.exit 0), ⟨[], [], [[(.ty (.int .i64)), (.ty (.int .i64))]], [], [(.ty (.list Y0)), (.func 110 [] [(.bptr 0 0)]), (.st (.int .i64 0)), (.ty (.int .i64)), (.ty (.int .i64))]⟩⟩]
noncomputable def Ata : Int × Int × (List D1) × Int × Int × Unit → Option ((Int × Int × (List D1) × Int × Int × Int × Unit) ⊕ (Int × Int × (List D1) × Int × Int × Unit)) := jTa (pBa (nHa Tryz.prog th (S25 jKa lIa bFb) 109 2 Era Eva))
noncomputable def Bia (i0 : Int) (i1 : Int) (l2 : List D1) (i3 : Int) (i4 : Int) (fk : Fk) (bd : Bd) (sm : Sm) : Option ((Int × Int × (List D1) × Int × Int × Unit) ⊕ ((Int × Int × (List D1) × Int × Int × Int × Unit) ⊕ (Int × Int × (List D1) × Int × Int × Unit))) :=
    let z0 := (List.getD l2 (Int.toNat i4) (((0 : Int), (0 : Int), ()), @List.nil D3, ByteArray.empty, @List.nil D0, ()))
    fk (decide (i4 < i3)) (fk (decide ((0 : Int) ≤ i4)) (fk (decide (i4 < (↑(List.length l2) : Int))) (fk (z0.1.1 == i0 && (z0.1.2.1 == i1 && true)) (some (Sum.inr (Sum.inl (i0, i1, l2, i4, i3, i4, ())))) (some (Sum.inl (i0, i1, l2, i3, IntKind.wrap IntKind.i64 (i4 + (1 : Int)), ())))) none) none) (some (Sum.inr (Sum.inr (i0, i1, l2, i3, i4, ()))))
theorem Dma (i0 i1 l2 i3 i4) : Ata (i0, i1, l2, i3, i4, ()) = (Bia i0 i1 l2 i3 i4 jKa lIa bFb).bind (Sum.elim Ata some) := eqL (S := S25) fun _ _ _ => by kernel_rfl
noncomputable def S26 : OCs := addL S25 Tryz.prog 109 2 Era Eva Ata
theorem Phb : fEb Tryz.prog th S26 := Pgb.addL (by kernel_rfl) (by kernel_rfl) (by kernel_rfl) rfl
abbrev Yra : List Shp := [(.ty (.list Y0)), (.ty Y3)]
noncomputable def Iia : (List D1) × D3 × Unit → Option (Int × Unit) := jTa (fnT Tryz.prog th (S26 jKa lIa bFb) 55 Yra (.ty (.int .i64)) [])
noncomputable def Xza (l0 : List D1) (x1 : Int × Int × Unit) (fk : Fk) (bd : Bd) (sm : Sm) : Option (Int × Unit) :=
    bd (Ata (x1.1, x1.2.1, l0, (↑(List.length l0) : Int), (0 : Int), ())) fun y0 => sm y0 (fun y1 => some (y1.2.2.2.1, ())) fun y2 => some ((-1 : Int), ())
theorem Dib (l0 x1) : Iia (l0, x1, ()) = Xza l0 x1 jKa lIa bFb := eqF (S := S26) fun _ _ _ => by kernel_rfl
noncomputable def S27 : OCs := addF S26 Tryz.prog 55 Yra (.ty (.int .i64)) [] Iia
theorem Pib : fEb Tryz.prog th S27 := Phb.addF rfl
abbrev Wsa : fCa := ⟨[], [], [[(.ty (.int .i64)), (.ty (.list Y0)), (.ty Y2), (.ty Y2), (.ty (.int .i64))]], [], [(.bptr 0 0), (.st (.bool false)), (.ty (.list Y0)), (.ty (.int .i64)), (.ty (.int .i64))]⟩
abbrev Wya : List sQa := [⟨.ret, ⟨[], [], [[(.ty (.int .i64)), (.ty (.list Y0)), (.ty Y2), (.ty Y2), (.ty (.int .i64))], [(.ty (.int .i64)), (.ty (.int .i64)), (.ty (.list Y3)), (.ty .str), (.ty (.list Y1))]], [], [(.bptr 0 0), (.st (.bool false)), (.ty (.list Y0)), (.ty (.int .i64)), (.ty (.int .i64))]⟩⟩, ⟨(.exit 0), ⟨[], [], [[(.ty (.int .i64)), (.ty (.list Y0)), (.ty Y2), (.ty Y2), (.ty (.int .i64))]], [], [(.bptr 0 0), (.st (.bool false)), (.ty (.list Y0)), (.ty (.int .i64)), (.ty (.int .i64))]⟩⟩]
noncomputable def Ika : Int × (List D1) × (List D2) × (List D2) × Int × (List D1) × Int × Int × Unit → Option ((Int × (List D1) × (List D2) × (List D2) × Int × Int × Int × (List D3) × ByteArray × (List D0) × (List D1) × Int × Int × Unit) ⊕ (Int × (List D1) × (List D2) × (List D2) × Int × (List D1) × Int × Int × Unit)) := jTa (pBa (nHa Tryz.prog th (S27 jKa lIa bFb) 20 4 Wsa Wya))
noncomputable def Dqa (i0 : Int) (l1 : List D1) (l2 : List D2) (l3 : List D2) (i4 : Int) (l5 : List D1) (i6 : Int) (i7 : Int) (fk : Fk) (bd : Bd) (sm : Sm) : Option ((Int × (List D1) × (List D2) × (List D2) × Int × (List D1) × Int × Int × Unit) ⊕ ((Int × (List D1) × (List D2) × (List D2) × Int × Int × Int × (List D3) × ByteArray × (List D0) × (List D1) × Int × Int × Unit) ⊕ (Int × (List D1) × (List D2) × (List D2) × Int × (List D1) × Int × Int × Unit))) :=
    let z0 := (List.getD l5 (Int.toNat i7) (((0 : Int), (0 : Int), ()), @List.nil D3, ByteArray.empty, @List.nil D0, ()))
    let z1 := (some (Sum.inr (Sum.inl (i0, l1, l2, l3, i4, z0.1.1, z0.1.2.1, z0.2.1, z0.2.2.1, z0.2.2.2.1, l5, i6, i7, ()))))
    fk (decide (i7 < i6)) (fk (decide ((0 : Int) ≤ i7)) (fk (decide (i7 < (↑(List.length l5) : Int))) (bd (Moa (((z0.1.1, z0.1.2.1, ()), z0.2.1, z0.2.2.1, z0.2.2.2.1, ()), ())) fun y0 => fk (!y0.1) z1 (bd (Iia (l1, (z0.1.1, z0.1.2.1, ()), ())) fun y1 => fk (decide (y1.1 < i7)) z1 (fk (z0.1.1 == i0) (fk (decide (z0.1.2.1 > i4)) z1 (some (Sum.inl (i0, l1, l2, l3, i4, l5, i6, IntKind.wrap IntKind.i64 (i7 + (1 : Int)), ())))) (some (Sum.inl (i0, l1, l2, l3, i4, l5, i6, IntKind.wrap IntKind.i64 (i7 + (1 : Int)), ())))))) none) none) (some (Sum.inr (Sum.inr (i0, l1, l2, l3, i4, l5, i6, i7, ()))))
theorem Tba (i0 l1 l2 l3 i4 l5 i6 i7) : Ika (i0, l1, l2, l3, i4, l5, i6, i7, ()) = (Dqa i0 l1 l2 l3 i4 l5 i6 i7 jKa lIa bFb).bind (Sum.elim Ika some) := eqL (S := S27) fun _ _ _ => by kernel_rfl
noncomputable def S28 : OCs := addL S27 Tryz.prog 20 4 Wsa Wya Ika
theorem Pjb : fEb Tryz.prog th S28 := Pib.addL (by kernel_rfl) (by kernel_rfl) (by kernel_rfl) rfl
abbrev Ufa : fCa := ⟨[⟨Y1, 72, 6, true⟩], [], [], [], [.nils, (.mref 0), (.ty (.list Y0)), (.ty (.int .i64)), (.ty (.int .i64))]⟩
abbrev Uva : List sQa := [⟨(.exit 0), ⟨[⟨Y1, 72, 6, true⟩], [], [], [], [.nils, (.mref 0), (.ty (.list Y0)), (.ty (.int .i64)), (.ty (.int .i64))]⟩⟩]
noncomputable def Jca : (List D0) × (List D1) × Int × Int × Unit → Option ((List D0) × (List D1) × Int × Int × Unit) := jTa (pBa (nHa Tryz.prog th (S28 jKa lIa bFb) 91 3 Ufa Uva))
noncomputable def Mva (l0 : List D0) (l1 : List D1) (i2 : Int) (i3 : Int) (fk : Fk) (bd : Bd) (sm : Sm) : Option (((List D0) × (List D1) × Int × Int × Unit) ⊕ ((List D0) × (List D1) × Int × Int × Unit)) :=
    let z0 := (List.getD l1 (Int.toNat i3) (((0 : Int), (0 : Int), ()), @List.nil D3, ByteArray.empty, @List.nil D0, ()))
    fk (decide (i3 < i2)) (fk (decide ((0 : Int) ≤ i3)) (fk (decide (i3 < (↑(List.length l1) : Int))) (fk (decide (List.length l0 = List.length l0)) (fk (decide (List.length (l0 ++ z0.2.2.2.1) ≤ bBa)) (fk (decide (List.length (l0 ++ z0.2.2.2.1) = List.length (l0 ++ z0.2.2.2.1))) (some (Sum.inl (l0 ++ z0.2.2.2.1, l1, i2, IntKind.wrap IntKind.i64 (i3 + (1 : Int)), ()))) none) none) none) none) none) (fk (decide (List.length l0 = List.length l0)) (some (Sum.inr (l0, l1, i2, i3, ()))) none)
theorem Qma (l0 l1 i2 i3) : Jca (l0, l1, i2, i3, ()) = (Mva l0 l1 i2 i3 jKa lIa bFb).bind (Sum.elim Jca some) := eqL (S := S28) fun _ _ _ => by kernel_rfl
noncomputable def S29 : OCs := addL S28 Tryz.prog 91 3 Ufa Uva Jca
theorem Pkb : fEb Tryz.prog th S29 := Pjb.addL (by kernel_rfl) (by kernel_rfl) (by kernel_rfl) rfl
abbrev Btb : List Shp := [(.ty (.list Y0))]
noncomputable def Uya : (List D1) × Unit → Option D35 := jTa (fnT Tryz.prog th (S29 jKa lIa bFb) 91 Btb (.ty (.list Y1)) [])
noncomputable def Blb (l0 : List D1) (fk : Fk) (bd : Bd) (sm : Sm) : Option D35 :=
    fk (decide (List.length (@List.nil D0) = (0 : Nat))) (bd (Jca (@List.nil D0, l0, (↑(List.length l0) : Int), (0 : Int), ())) fun y0 => fk (decide (List.length y0.1 = List.length y0.1)) (some (y0.1, ())) none) none
theorem Fxb (l0) : Uya (l0, ()) = Blb l0 jKa lIa bFb := eqF (S := S29) fun _ _ _ => by kernel_rfl
noncomputable def S30 : OCs := addF S29 Tryz.prog 91 Btb (.ty (.list Y1)) [] Uya
theorem Plb : fEb Tryz.prog th S30 := Pkb.addF rfl
abbrev Fga : fCa := ⟨[], [], [[(.ty .str)]], [], [(.ty Y2), (.func 120 [] [(.bptr 0 0)]), (.st (.int .i64 0)), (.ty (.int .i64)), (.ty (.int .i64))]⟩
abbrev Fra : List sQa := [⟨.ret, ⟨[], [], [[(.ty .str)]], [], [(.ty Y2), (.func 120 [] [(.bptr 0 0)]), (.ty (.int .i64)), (.ty (.int .i64)), (.ty (.int .i64))]⟩⟩, ⟨(.exit 0), ⟨[], [], [[(.ty .str)]], [], [(.ty Y2), (.func 120 [] [(.bptr 0 0)]), (.st (.int .i64 0)), (.ty (.int .i64)), (.ty (.int .i64))]⟩⟩]
noncomputable def Aya : ByteArray × (List D2) × Int × Int × Unit → Option ((ByteArray × (List D2) × Int × Int × Int × Unit) ⊕ (ByteArray × (List D2) × Int × Int × Unit)) := jTa (pBa (nHa Tryz.prog th (S30 jKa lIa bFb) 123 2 Fga Fra))
noncomputable def Bma (s0 : ByteArray) (l1 : List D2) (i2 : Int) (i3 : Int) (fk : Fk) (bd : Bd) (sm : Sm) : Option ((ByteArray × (List D2) × Int × Int × Unit) ⊕ ((ByteArray × (List D2) × Int × Int × Int × Unit) ⊕ (ByteArray × (List D2) × Int × Int × Unit))) :=
    fk (decide (i3 < i2)) (fk (decide ((0 : Int) ≤ i3)) (fk (decide (i3 < (↑(List.length l1) : Int))) (fk (ByteArray.toList (List.getD l1 (Int.toNat i3) (ByteArray.empty, @List.nil ByteArray, ())).1 == ByteArray.toList s0) (some (Sum.inr (Sum.inl (s0, l1, i3, i2, i3, ())))) (some (Sum.inl (s0, l1, i2, IntKind.wrap IntKind.i64 (i3 + (1 : Int)), ())))) none) none) (some (Sum.inr (Sum.inr (s0, l1, i2, i3, ()))))
theorem Eda (s0 l1 i2 i3) : Aya (s0, l1, i2, i3, ()) = (Bma s0 l1 i2 i3 jKa lIa bFb).bind (Sum.elim Aya some) := eqL (S := S30) fun _ _ _ => by kernel_rfl
noncomputable def S31 : OCs := addL S30 Tryz.prog 123 2 Fga Fra Aya
theorem Pmb : fEb Tryz.prog th S31 := Plb.addL (by kernel_rfl) (by kernel_rfl) (by kernel_rfl) rfl
abbrev Zga : List Shp := [(.ty Y2), (.ty .str)]
noncomputable def Kaa : (List D2) × ByteArray × Unit → Option (Int × Unit) := jTa (fnT Tryz.prog th (S31 jKa lIa bFb) 68 Zga (.ty (.int .i64)) [])
noncomputable def Tka (l0 : List D2) (s1 : ByteArray) (fk : Fk) (bd : Bd) (sm : Sm) : Option (Int × Unit) :=
    bd (Aya (s1, l0, (↑(List.length l0) : Int), (0 : Int), ())) fun y0 => sm y0 (fun y1 => fk (decide (y1.2.2.1 ≥ (0 : Int))) (some (y1.2.2.1, ())) (some ((↑(List.length l0) : Int), ()))) fun y2 => some ((↑(List.length l0) : Int), ())
theorem Eib (l0 s1) : Kaa (l0, s1, ()) = Tka l0 s1 jKa lIa bFb := eqF (S := S31) fun _ _ _ => by kernel_rfl
noncomputable def S32 : OCs := addF S31 Tryz.prog 68 Zga (.ty (.int .i64)) [] Kaa
theorem Pnb : fEb Tryz.prog th S32 := Pmb.addF rfl
abbrev Fbb : List Shp := [(.ty Y2), (.ty .str)]
noncomputable def Hxa : (List D2) × ByteArray × Unit → Option D38 := jTa (fnT Tryz.prog th (S32 jKa lIa bFb) 27 Fbb (.tuple [(.ty (.list .str)), (.ty .bool)]) [])
noncomputable def Yja (l0 : List D2) (s1 : ByteArray) (fk : Fk) (bd : Bd) (sm : Sm) : Option D38 :=
    bd (Kaa (l0, s1, ())) fun y0 => fk (decide (y0.1 < (↑(List.length l0) : Int))) (fk (decide ((0 : Int) ≤ y0.1)) (fk (decide (y0.1 < (↑(List.length l0) : Int))) (fk (decide (List.length (List.getD l0 (Int.toNat y0.1) (ByteArray.empty, @List.nil ByteArray, ())).2.1 ≤ bBa)) (fk (decide (List.length (List.getD l0 (Int.toNat y0.1) (ByteArray.empty, @List.nil ByteArray, ())).2.1 = List.length (List.getD l0 (Int.toNat y0.1) (ByteArray.empty, @List.nil ByteArray, ())).2.1)) (some ((List.getD l0 (Int.toNat y0.1) (ByteArray.empty, @List.nil ByteArray, ())).2.1, true, ())) none) none) none) none) (some (@List.nil ByteArray, false, ()))
theorem Hob (l0 s1) : Hxa (l0, s1, ()) = Yja l0 s1 jKa lIa bFb := eqF (S := S32) fun _ _ _ => by kernel_rfl
noncomputable def S33 : OCs := addF S32 Tryz.prog 27 Fbb (.tuple [(.ty (.list .str)), (.ty .bool)]) [] Hxa
theorem Pob : fEb Tryz.prog th S33 := Pnb.addF rfl
abbrev Ffb : List Shp := [(.ty .str), (.ty (.list .str))]
noncomputable def Loa : ByteArray × List ByteArray × Unit → Option (D2 × Unit) := jTa (fnT Tryz.prog th (S33 jKa lIa bFb) 71 Ffb (.ty Y6) [])
noncomputable def Epb (s0 : ByteArray) (l1 : List ByteArray) (fk : Fk) (bd : Bd) (sm : Sm) : Option (D2 × Unit) :=
    fk (decide (List.length l1 ≤ bBa)) (fk (decide (List.length l1 = List.length l1)) (some ((s0, l1, ()), ())) none) none
theorem Hsb (s0 l1) : Loa (s0, l1, ()) = Epb s0 l1 jKa lIa bFb := eqF (S := S33) fun _ _ _ => by kernel_rfl
noncomputable def S34 : OCs := addF S33 Tryz.prog 71 Ffb (.ty Y6) [] Loa
theorem Ppb : fEb Tryz.prog th S34 := Pob.addF rfl
abbrev Wua : fCa := ⟨[⟨Y6, 98, 2, true⟩, ⟨Y6, 98, 2, true⟩], [], [], [], [(.mref 0), (.mref 1), (.ty Y2), (.ty (.int .i64)), (.ty (.int .i64))]⟩
abbrev Xaa : List sQa := [⟨(.exit 0), ⟨[⟨Y6, 98, 2, true⟩, ⟨Y6, 98, 2, true⟩], [], [], [], [(.mref 0), (.mref 1), (.ty Y2), (.ty (.int .i64)), (.ty (.int .i64))]⟩⟩]
noncomputable def Kza : (List D2) × (List D2) × (List D2) × Int × Int × Unit → Option ((List D2) × (List D2) × (List D2) × Int × Int × Unit) := jTa (pBa (nHa Tryz.prog th (S34 jKa lIa bFb) 70 3 Wua Xaa))
noncomputable def Pga (l0 : List D2) (l1 : List D2) (l2 : List D2) (i3 : Int) (i4 : Int) (fk : Fk) (bd : Bd) (sm : Sm) : Option (((List D2) × (List D2) × (List D2) × Int × Int × Unit) ⊕ ((List D2) × (List D2) × (List D2) × Int × Int × Unit)) :=
    fk (decide (i4 < i3)) (fk (decide ((0 : Int) ≤ i4)) (fk (decide (i4 < (↑(List.length l2) : Int))) (bd (Loa ((List.getD l2 (Int.toNat i4) (ByteArray.empty, @List.nil ByteArray, ())).1, (List.getD l2 (Int.toNat i4) (ByteArray.empty, @List.nil ByteArray, ())).2.1, ())) fun y0 => fk (decide (List.length l1 = List.length l1)) (fk (decide (List.length (l1 ++ (y0.1.1, y0.1.2.1, ()) :: @List.nil D2) ≤ bBa)) (fk (decide (List.length l0 = List.length l0)) (fk (decide (List.length (l1 ++ (y0.1.1, y0.1.2.1, ()) :: @List.nil D2) = List.length (l1 ++ (y0.1.1, y0.1.2.1, ()) :: @List.nil D2))) (some (Sum.inl (l0, l1 ++ (y0.1.1, y0.1.2.1, ()) :: @List.nil D2, l2, i3, IntKind.wrap IntKind.i64 (i4 + (1 : Int)), ()))) none) none) none) none) none) none) (fk (decide (List.length l0 = List.length l0)) (fk (decide (List.length l1 = List.length l1)) (some (Sum.inr (l0, l1, l2, i3, i4, ()))) none) none)
theorem Tga (l0 l1 l2 i3 i4) : Kza (l0, l1, l2, i3, i4, ()) = (Pga l0 l1 l2 i3 i4 jKa lIa bFb).bind (Sum.elim Kza some) := eqL (S := S34) fun _ _ _ => by kernel_rfl
noncomputable def S35 : OCs := addL S34 Tryz.prog 70 3 Wua Xaa Kza
theorem Pqb : fEb Tryz.prog th S35 := Ppb.addL (by kernel_rfl) (by kernel_rfl) (by kernel_rfl) rfl
abbrev Feb : List Shp := [(.ty Y2)]
noncomputable def Vna : (List D2) × Unit → Option D36 := jTa (fnT Tryz.prog th (S35 jKa lIa bFb) 70 Feb (.mref 0) [⟨Y6, 98, 2, true⟩])
noncomputable def Eob (l0 : List D2) (fk : Fk) (bd : Bd) (sm : Sm) : Option D36 :=
    fk (decide (List.length (@List.nil D2) = (0 : Nat))) (fk (decide (List.length (@List.nil D2) = (0 : Nat))) (bd (Kza (@List.nil D2, @List.nil D2, l0, (↑(List.length l0) : Int), (0 : Int), ())) fun y0 => fk (decide (List.length y0.2.1 = List.length y0.2.1)) (fk (decide (List.length y0.2.1 = List.length y0.2.1)) (some (y0.2.1, ())) none) none) none) none
theorem Hrb (l0) : Vna (l0, ()) = Eob l0 jKa lIa bFb := eqF (S := S35) fun _ _ _ => by kernel_rfl
noncomputable def S36 : OCs := addF S35 Tryz.prog 70 Feb (.mref 0) [⟨Y6, 98, 2, true⟩] Vna
theorem Prb : fEb Tryz.prog th S36 := Pqb.addF rfl
abbrev Eqa : fCa := ⟨[⟨Y6, 98, 2, true⟩], [], [[(.ty .str)]], [], [(.mref 0), (.func 74 [] [(.bptr 0 0)]), (.st (.int .i64 0)), (.ty (.int .i64)), (.ty (.int .i64))]⟩
abbrev Eua : List sQa := [⟨.ret, ⟨[⟨Y6, 98, 2, true⟩], [], [[(.ty .str)]], [], [(.mref 0), (.func 74 [] [(.bptr 0 0)]), (.ty (.int .i64)), (.ty (.int .i64)), (.ty (.int .i64))]⟩⟩, ⟨(.exit 0), ⟨[⟨Y6, 98, 2, true⟩], [], [[(.ty .str)]], [], [(.mref 0), (.func 74 [] [(.bptr 0 0)]), (.st (.int .i64 0)), (.ty (.int .i64)), (.ty (.int .i64))]⟩⟩]
noncomputable def Asa : (List D2) × ByteArray × Int × Int × Unit → Option (((List D2) × ByteArray × Int × Int × Int × Unit) ⊕ ((List D2) × ByteArray × Int × Int × Unit)) := jTa (pBa (nHa Tryz.prog th (S36 jKa lIa bFb) 123 2 Eqa Eua))
noncomputable def Bha (l0 : List D2) (s1 : ByteArray) (i2 : Int) (i3 : Int) (fk : Fk) (bd : Bd) (sm : Sm) : Option (((List D2) × ByteArray × Int × Int × Unit) ⊕ (((List D2) × ByteArray × Int × Int × Int × Unit) ⊕ ((List D2) × ByteArray × Int × Int × Unit))) :=
    let z0 := (decide (List.length l0 = List.length l0))
    fk (decide (i3 < i2)) (fk (decide ((0 : Int) ≤ i3)) (fk z0 (fk (decide (i3 < (↑(List.length l0) : Int))) (fk z0 (fk (decide (Int.toNat i3 < List.length l0)) (fk (!(Op.bytesLess (ByteArray.toList (List.getD l0 (Int.toNat i3) (Ty.dfl (Ty.pair Ty.str (Ty.pair (Ty.list Ty.str) Ty.unit)))).1) (ByteArray.toList s1) || ByteArray.toList (List.getD l0 (Int.toNat i3) (Ty.dfl (Ty.pair Ty.str (Ty.pair (Ty.list Ty.str) Ty.unit)))).1 == ByteArray.toList s1)) (fk z0 (some (Sum.inr (Sum.inl (l0, s1, i3, i2, i3, ())))) none) (fk z0 (some (Sum.inl (l0, s1, i2, IntKind.wrap IntKind.i64 (i3 + (1 : Int)), ()))) none)) none) none) none) none) none) (fk z0 (some (Sum.inr (Sum.inr (l0, s1, i2, i3, ())))) none)
theorem Dla (l0 s1 i2 i3) : Asa (l0, s1, i2, i3, ()) = (Bha l0 s1 i2 i3 jKa lIa bFb).bind (Sum.elim Asa some) := eqL (S := S36) fun _ _ _ => by kernel_rfl
noncomputable def S37 : OCs := addL S36 Tryz.prog 123 2 Eqa Eua Asa
theorem Psb : fEb Tryz.prog th S37 := Prb.addL (by kernel_rfl) (by kernel_rfl) (by kernel_rfl) rfl
abbrev Fdb : List Shp := [(.ty Y2), (.ty .str), (.ty (.list .str))]
noncomputable def Npa : (List D2) × ByteArray × List ByteArray × Unit → Option D36 := jTa (fnT Tryz.prog th (S37 jKa lIa bFb) 28 Fdb (.ty Y2) [])
noncomputable def Tya (l0 : List D2) (s1 : ByteArray) (l2 : List ByteArray) (fk : Fk) (bd : Bd) (sm : Sm) : Option D36 :=
    let z0 := (Ty.pair Ty.str (Ty.pair (Ty.list Ty.str) Ty.unit))
    bd (Vna (l0, ())) fun y0 => fk (decide (List.length y0.1 = List.length y0.1)) (bd (Kaa (y0.1, s1, ())) fun y1 => fk (decide (List.length y0.1 = List.length y0.1)) (fk (decide (y1.1 < (↑(List.length y0.1) : Int))) (bd (Loa (s1, l2, ())) fun y2 => fk (decide ((0 : Int) ≤ y1.1)) (fk (decide (List.length y0.1 = List.length y0.1)) (fk (decide (y1.1 < (↑(List.length y0.1) : Int))) (fk (decide (List.length y0.1 = List.length y0.1)) (fk (decide (Int.toNat y1.1 < List.length y0.1)) (fk (decide (List.length (List.set y0.1 (Int.toNat y1.1) (y2.1.1, y2.1.2.1, ())) = List.length y0.1)) (some (List.set y0.1 (Int.toNat y1.1) (y2.1.1, y2.1.2.1, ()), ())) none) none) none) none) none) none) (fk (decide (List.length y0.1 = List.length y0.1)) (fk (decide (List.length y0.1 = List.length y0.1)) (bd (Asa (y0.1, s1, (↑(List.length y0.1) : Int), (0 : Int), ())) fun y3 => sm y3 (fun y4 => fk (decide (y4.2.2.1 ≥ (0 : Int))) (fk (eqT (Ty.list z0) y0.1 y4.1) (fk (eqT Ty.str s1 y4.2.1) (bd (Loa (y4.2.1, l2, ())) fun y5 => fk (decide (List.length y4.1 = List.length y0.1)) (fk (decide ((0 : Int) ≤ y4.2.2.1)) (fk (decide (y4.2.2.1 ≤ (↑(List.length y0.1) : Int))) (fk (decide (List.length y0.1 + (1 : Nat) ≤ bBa)) (fk (decide (List.length (oPb y4.1 y4.2.2.1 ((y5.1.1, y5.1.2.1, ()) :: @List.nil (Ty.den z0))) = List.length (oPb y4.1 y4.2.2.1 ((y5.1.1, y5.1.2.1, ()) :: @List.nil (Ty.den z0))))) (some (oPb y4.1 y4.2.2.1 ((y5.1.1, y5.1.2.1, ()) :: @List.nil (Ty.den z0)), ())) none) none) none) none) none) none) none) (fk (decide (List.length y4.1 = List.length y0.1)) (fk (eqT (Ty.list z0) y0.1 y4.1) (fk (eqT Ty.str s1 y4.2.1) (bd (Loa (y4.2.1, l2, ())) fun y6 => fk (decide (List.length y4.1 = List.length y0.1)) (fk (decide ((0 : Int) ≤ (↑(List.length y4.1) : Int))) (fk (decide ((↑(List.length y4.1) : Int) ≤ (↑(List.length y0.1) : Int))) (fk (decide (List.length y0.1 + (1 : Nat) ≤ bBa)) (fk (decide (List.length (oPb y4.1 (↑(List.length y4.1) : Int) ((y6.1.1, y6.1.2.1, ()) :: @List.nil (Ty.den z0))) = List.length (oPb y4.1 (↑(List.length y4.1) : Int) ((y6.1.1, y6.1.2.1, ()) :: @List.nil (Ty.den z0))))) (some (oPb y4.1 (↑(List.length y4.1) : Int) ((y6.1.1, y6.1.2.1, ()) :: @List.nil (Ty.den z0)), ())) none) none) none) none) none) none) none) none)) fun y7 => fk (decide (List.length y7.1 = List.length y0.1)) (fk (eqT (Ty.list z0) y0.1 y7.1) (fk (eqT Ty.str s1 y7.2.1) (bd (Loa (y7.2.1, l2, ())) fun y8 => fk (decide (List.length y7.1 = List.length y0.1)) (fk (decide ((0 : Int) ≤ (↑(List.length y7.1) : Int))) (fk (decide ((↑(List.length y7.1) : Int) ≤ (↑(List.length y0.1) : Int))) (fk (decide (List.length y0.1 + (1 : Nat) ≤ bBa)) (fk (decide (List.length (oPb y7.1 (↑(List.length y7.1) : Int) ((y8.1.1, y8.1.2.1, ()) :: @List.nil (Ty.den z0))) = List.length (oPb y7.1 (↑(List.length y7.1) : Int) ((y8.1.1, y8.1.2.1, ()) :: @List.nil (Ty.den z0))))) (some (oPb y7.1 (↑(List.length y7.1) : Int) ((y8.1.1, y8.1.2.1, ()) :: @List.nil (Ty.den z0)), ())) none) none) none) none) none) none) none) none) none) none)) none) none
theorem Hqb (l0 s1 l2) : Npa (l0, s1, l2, ()) = Tya l0 s1 l2 jKa lIa bFb := eqF (S := S37) fun _ _ _ => by kernel_rfl
noncomputable def S38 : OCs := addF S37 Tryz.prog 28 Fdb (.ty Y2) [] Npa
theorem Ptb : fEb Tryz.prog th S38 := Psb.addF rfl
abbrev Nxa : List Shp := [(.ty Y1), (.ty Y2)]
noncomputable def Hma : D0 × (List D2) × Unit → Option D9 := jTa (fnT Tryz.prog th (S38 jKa lIa bFb) 158 Nxa (.tuple [(.ty Y2), (.ty (.int .i64))]) [])
noncomputable def Nta (x0 : Int × ByteArray × ByteArray × D4 × Unit) (l1 : List D2) (fk : Fk) (bd : Bd) (sm : Sm) : Option D9 :=
    bd (Hxa (l1, x0.2.1, ())) fun y0 => fk y0.2.1 (some (@List.nil D2, (5 : Int), ())) (bd (Npa (l1, x0.2.1, @List.nil ByteArray, ())) fun y1 => some (y1.1, (0 : Int), ()))
theorem Vca (x0 l1) : Hma (x0, l1, ()) = Nta x0 l1 jKa lIa bFb := eqF (S := S38) fun _ _ _ => by kernel_rfl
noncomputable def S39 : OCs := addF S38 Tryz.prog 158 Nxa (.tuple [(.ty Y2), (.ty (.int .i64))]) [] Hma
theorem Pub : fEb Tryz.prog th S39 := Ptb.addF rfl
abbrev Fab : List Shp := [(.ty Y2), (.ty .str)]
noncomputable def Rqa : (List D2) × ByteArray × Unit → Option D36 := jTa (fnT Tryz.prog th (S39 jKa lIa bFb) 113 Fab (.ty Y2) [])
noncomputable def Yia (l0 : List D2) (s1 : ByteArray) (fk : Fk) (bd : Bd) (sm : Sm) : Option D36 :=
    let z0 := ((0 : Nat) + (0 : Nat))
    bd (Vna (l0, ())) fun y0 => fk (decide (List.length y0.1 = List.length y0.1)) (bd (Kaa (y0.1, s1, ())) fun y1 => fk (decide (List.length y0.1 = List.length y0.1)) (fk (decide (y1.1 < (↑(List.length y0.1) : Int))) (fk (decide (List.length y0.1 = List.length y0.1)) (fk (decide (List.length y0.1 = List.length y0.1)) (fk (decide ((0 : Int) ≤ (↑(List.length y0.1) : Int))) (fk (decide ((↑(List.length y0.1) : Int) ≤ (↑(List.length y0.1 - (0 : Nat)) : Int))) (fk (decide ((0 : Int) ≤ IntKind.wrap IntKind.i64 (y1.1 + (1 : Int)))) (fk (decide (IntKind.wrap IntKind.i64 (y1.1 + (1 : Int)) ≤ (↑(Int.toNat (↑(List.length y0.1) : Int)) : Int))) (fk (decide ((0 : Int) ≤ y1.1)) (fk (decide (y1.1 ≤ (↑(Int.toNat (IntKind.wrap IntKind.i64 (y1.1 + (1 : Int)))) : Int))) (fk (y1.1 == IntKind.wrap IntKind.i64 (y1.1 + (1 : Int))) (fk (decide (List.length y0.1 = List.length y0.1)) (some (y0.1, ())) none) (fk (decide (List.length y0.1 = List.length y0.1)) (fk (decide (List.length y0.1 = List.length y0.1)) (fk (decide ((0 : Int) ≤ y1.1)) (fk (decide (y1.1 ≤ (↑(List.length y0.1 - (0 : Nat)) : Int))) (fk (decide (List.length y0.1 = List.length y0.1)) (fk (decide ((0 : Int) ≤ IntKind.wrap IntKind.i64 (y1.1 + (1 : Int)))) (fk (decide (IntKind.wrap IntKind.i64 (y1.1 + (1 : Int)) ≤ (↑(List.length y0.1 - (0 : Nat)) : Int))) (fk (decide (List.length y0.1 = List.length y0.1)) (fk (decide ((0 : Nat) + Int.toNat (IntKind.wrap IntKind.i64 (y1.1 + (1 : Int))) ≤ (0 : Nat) + (List.length y0.1 - (0 : Nat)))) (fk (decide ((0 : Nat) + (List.length y0.1 - (0 : Nat)) ≤ List.length y0.1)) (fk (decide (List.length y0.1 = List.length y0.1)) (fk (decide ((0 : Nat) + (0 : Nat) ≤ (0 : Nat) + Int.toNat y1.1)) (fk (decide ((0 : Nat) + Int.toNat y1.1 + List.length (List.take ((0 : Nat) + (List.length y0.1 - (0 : Nat)) - ((0 : Nat) + Int.toNat (IntKind.wrap IntKind.i64 (y1.1 + (1 : Int))))) (List.drop ((0 : Nat) + Int.toNat (IntKind.wrap IntKind.i64 (y1.1 + (1 : Int)))) y0.1)) ≤ List.length y0.1)) (fk (decide (List.length (hYb y0.1 ((0 : Nat) + Int.toNat y1.1) (List.take ((0 : Nat) + (List.length y0.1 - (0 : Nat)) - ((0 : Nat) + Int.toNat (IntKind.wrap IntKind.i64 (y1.1 + (1 : Int))))) (List.drop ((0 : Nat) + Int.toNat (IntKind.wrap IntKind.i64 (y1.1 + (1 : Int)))) y0.1))) = List.length y0.1)) (fk (decide ((0 : Nat) + (0 : Nat) ≤ (0 : Nat) + Int.toNat y1.1 + List.length (List.take ((0 : Nat) + (List.length y0.1 - (0 : Nat)) - ((0 : Nat) + Int.toNat (IntKind.wrap IntKind.i64 (y1.1 + (1 : Int))))) (List.drop ((0 : Nat) + Int.toNat (IntKind.wrap IntKind.i64 (y1.1 + (1 : Int)))) y0.1)))) (fk (decide ((0 : Nat) + Int.toNat y1.1 + List.length (List.take ((0 : Nat) + (List.length y0.1 - (0 : Nat)) - ((0 : Nat) + Int.toNat (IntKind.wrap IntKind.i64 (y1.1 + (1 : Int))))) (List.drop ((0 : Nat) + Int.toNat (IntKind.wrap IntKind.i64 (y1.1 + (1 : Int)))) y0.1)) ≤ List.length y0.1)) (fk (decide (List.length (hYb y0.1 ((0 : Nat) + Int.toNat y1.1) (List.take ((0 : Nat) + (List.length y0.1 - (0 : Nat)) - ((0 : Nat) + Int.toNat (IntKind.wrap IntKind.i64 (y1.1 + (1 : Int))))) (List.drop ((0 : Nat) + Int.toNat (IntKind.wrap IntKind.i64 (y1.1 + (1 : Int)))) y0.1))) = List.length y0.1)) (fk (decide ((0 : Nat) + (0 : Nat) ≤ (0 : Nat) + Int.toNat y1.1 + List.length (List.take ((0 : Nat) + (List.length y0.1 - (0 : Nat)) - ((0 : Nat) + Int.toNat (IntKind.wrap IntKind.i64 (y1.1 + (1 : Int))))) (List.drop ((0 : Nat) + Int.toNat (IntKind.wrap IntKind.i64 (y1.1 + (1 : Int)))) y0.1)))) (fk (decide ((0 : Nat) + Int.toNat y1.1 + List.length (List.take ((0 : Nat) + (List.length y0.1 - (0 : Nat)) - ((0 : Nat) + Int.toNat (IntKind.wrap IntKind.i64 (y1.1 + (1 : Int))))) (List.drop ((0 : Nat) + Int.toNat (IntKind.wrap IntKind.i64 (y1.1 + (1 : Int)))) y0.1)) ≤ List.length y0.1)) (fk (decide ((0 : Int) ≤ (↑(List.length y0.1) : Int))) (fk (decide ((↑(List.length y0.1) : Int) ≤ (↑(List.length (hYb y0.1 ((0 : Nat) + Int.toNat y1.1) (List.take ((0 : Nat) + (List.length y0.1 - (0 : Nat)) - ((0 : Nat) + Int.toNat (IntKind.wrap IntKind.i64 (y1.1 + (1 : Int))))) (List.drop ((0 : Nat) + Int.toNat (IntKind.wrap IntKind.i64 (y1.1 + (1 : Int)))) y0.1))) - z0) : Int))) (fk (decide ((0 : Int) ≤ (↑((0 : Nat) + Int.toNat y1.1 + List.length (List.take ((0 : Nat) + (List.length y0.1 - (0 : Nat)) - ((0 : Nat) + Int.toNat (IntKind.wrap IntKind.i64 (y1.1 + (1 : Int))))) (List.drop ((0 : Nat) + Int.toNat (IntKind.wrap IntKind.i64 (y1.1 + (1 : Int)))) y0.1)) - z0) : Int))) (fk (decide ((↑((0 : Nat) + Int.toNat y1.1 + List.length (List.take ((0 : Nat) + (List.length y0.1 - (0 : Nat)) - ((0 : Nat) + Int.toNat (IntKind.wrap IntKind.i64 (y1.1 + (1 : Int))))) (List.drop ((0 : Nat) + Int.toNat (IntKind.wrap IntKind.i64 (y1.1 + (1 : Int)))) y0.1)) - z0) : Int) ≤ (↑(Int.toNat (↑(List.length y0.1) : Int)) : Int))) (fk (decide (List.length (hYb y0.1 ((0 : Nat) + Int.toNat y1.1) (List.take ((0 : Nat) + (List.length y0.1 - (0 : Nat)) - ((0 : Nat) + Int.toNat (IntKind.wrap IntKind.i64 (y1.1 + (1 : Int))))) (List.drop ((0 : Nat) + Int.toNat (IntKind.wrap IntKind.i64 (y1.1 + (1 : Int)))) y0.1))) = List.length (hYb y0.1 ((0 : Nat) + Int.toNat y1.1) (List.take ((0 : Nat) + (List.length y0.1 - (0 : Nat)) - ((0 : Nat) + Int.toNat (IntKind.wrap IntKind.i64 (y1.1 + (1 : Int))))) (List.drop ((0 : Nat) + Int.toNat (IntKind.wrap IntKind.i64 (y1.1 + (1 : Int)))) y0.1))))) (fk (decide ((0 : Nat) + (0 : Nat) + Int.toNat (↑((0 : Nat) + Int.toNat y1.1 + List.length (List.take ((0 : Nat) + (List.length y0.1 - (0 : Nat)) - ((0 : Nat) + Int.toNat (IntKind.wrap IntKind.i64 (y1.1 + (1 : Int))))) (List.drop ((0 : Nat) + Int.toNat (IntKind.wrap IntKind.i64 (y1.1 + (1 : Int)))) y0.1)) - z0) : Int) ≤ (0 : Nat) + (0 : Nat) + Int.toNat (↑(List.length y0.1) : Int))) (fk (decide ((0 : Nat) + (0 : Nat) + Int.toNat (↑(List.length y0.1) : Int) ≤ List.length (hYb y0.1 ((0 : Nat) + Int.toNat y1.1) (List.take ((0 : Nat) + (List.length y0.1 - (0 : Nat)) - ((0 : Nat) + Int.toNat (IntKind.wrap IntKind.i64 (y1.1 + (1 : Int))))) (List.drop ((0 : Nat) + Int.toNat (IntKind.wrap IntKind.i64 (y1.1 + (1 : Int)))) y0.1))))) (fk (decide (List.length (hYb (hYb y0.1 ((0 : Nat) + Int.toNat y1.1) (List.take ((0 : Nat) + (List.length y0.1 - (0 : Nat)) - ((0 : Nat) + Int.toNat (IntKind.wrap IntKind.i64 (y1.1 + (1 : Int))))) (List.drop ((0 : Nat) + Int.toNat (IntKind.wrap IntKind.i64 (y1.1 + (1 : Int)))) y0.1))) ((0 : Nat) + (0 : Nat) + Int.toNat (↑((0 : Nat) + Int.toNat y1.1 + List.length (List.take ((0 : Nat) + (List.length y0.1 - (0 : Nat)) - ((0 : Nat) + Int.toNat (IntKind.wrap IntKind.i64 (y1.1 + (1 : Int))))) (List.drop ((0 : Nat) + Int.toNat (IntKind.wrap IntKind.i64 (y1.1 + (1 : Int)))) y0.1)) - z0) : Int)) (List.replicate ((0 : Nat) + (0 : Nat) + Int.toNat (↑(List.length y0.1) : Int) - ((0 : Nat) + (0 : Nat) + Int.toNat (↑((0 : Nat) + Int.toNat y1.1 + List.length (List.take ((0 : Nat) + (List.length y0.1 - (0 : Nat)) - ((0 : Nat) + Int.toNat (IntKind.wrap IntKind.i64 (y1.1 + (1 : Int))))) (List.drop ((0 : Nat) + Int.toNat (IntKind.wrap IntKind.i64 (y1.1 + (1 : Int)))) y0.1)) - z0) : Int))) (ByteArray.empty, @List.nil ByteArray, ()))) = List.length y0.1)) (fk (decide ((0 : Nat) + (0 : Nat) ≤ (0 : Nat) + Int.toNat y1.1 + List.length (List.take ((0 : Nat) + (List.length y0.1 - (0 : Nat)) - ((0 : Nat) + Int.toNat (IntKind.wrap IntKind.i64 (y1.1 + (1 : Int))))) (List.drop ((0 : Nat) + Int.toNat (IntKind.wrap IntKind.i64 (y1.1 + (1 : Int)))) y0.1)))) (fk (decide ((0 : Nat) + Int.toNat y1.1 + List.length (List.take ((0 : Nat) + (List.length y0.1 - (0 : Nat)) - ((0 : Nat) + Int.toNat (IntKind.wrap IntKind.i64 (y1.1 + (1 : Int))))) (List.drop ((0 : Nat) + Int.toNat (IntKind.wrap IntKind.i64 (y1.1 + (1 : Int)))) y0.1)) ≤ List.length y0.1)) (some (List.take ((0 : Nat) + Int.toNat y1.1 + List.length (List.take ((0 : Nat) + (List.length y0.1 - (0 : Nat)) - ((0 : Nat) + Int.toNat (IntKind.wrap IntKind.i64 (y1.1 + (1 : Int))))) (List.drop ((0 : Nat) + Int.toNat (IntKind.wrap IntKind.i64 (y1.1 + (1 : Int)))) y0.1)) - z0) (List.drop z0 (hYb (hYb y0.1 ((0 : Nat) + Int.toNat y1.1) (List.take ((0 : Nat) + (List.length y0.1 - (0 : Nat)) - ((0 : Nat) + Int.toNat (IntKind.wrap IntKind.i64 (y1.1 + (1 : Int))))) (List.drop ((0 : Nat) + Int.toNat (IntKind.wrap IntKind.i64 (y1.1 + (1 : Int)))) y0.1))) ((0 : Nat) + (0 : Nat) + Int.toNat (↑((0 : Nat) + Int.toNat y1.1 + List.length (List.take ((0 : Nat) + (List.length y0.1 - (0 : Nat)) - ((0 : Nat) + Int.toNat (IntKind.wrap IntKind.i64 (y1.1 + (1 : Int))))) (List.drop ((0 : Nat) + Int.toNat (IntKind.wrap IntKind.i64 (y1.1 + (1 : Int)))) y0.1)) - z0) : Int)) (List.replicate ((0 : Nat) + (0 : Nat) + Int.toNat (↑(List.length y0.1) : Int) - ((0 : Nat) + (0 : Nat) + Int.toNat (↑((0 : Nat) + Int.toNat y1.1 + List.length (List.take ((0 : Nat) + (List.length y0.1 - (0 : Nat)) - ((0 : Nat) + Int.toNat (IntKind.wrap IntKind.i64 (y1.1 + (1 : Int))))) (List.drop ((0 : Nat) + Int.toNat (IntKind.wrap IntKind.i64 (y1.1 + (1 : Int)))) y0.1)) - z0) : Int))) (ByteArray.empty, @List.nil ByteArray, ())))), ())) none) none) none) none) none) none) none) none) none) none) none) none) none) none) none) none) none) none) none) none) none) none) none) none) none) none) none) none) none)) none) none) none) none) none) none) none) none) (fk (decide (List.length y0.1 = List.length y0.1)) (some (y0.1, ())) none)) none) none
theorem Hnb (l0 s1) : Rqa (l0, s1, ()) = Yia l0 s1 jKa lIa bFb := eqF (S := S39) fun _ _ _ => by kernel_rfl
noncomputable def S40 : OCs := addF S39 Tryz.prog 113 Fab (.ty Y2) [] Rqa
theorem Pvb : fEb Tryz.prog th S40 := Pub.addF rfl
abbrev Pna : List Shp := [(.ty Y1), (.ty Y2)]
noncomputable def Ita : D0 × (List D2) × Unit → Option D9 := jTa (fnT Tryz.prog th (S40 jKa lIa bFb) 159 Pna (.tuple [(.ty Y2), (.ty (.int .i64))]) [])
noncomputable def Pfa (x0 : Int × ByteArray × ByteArray × D4 × Unit) (l1 : List D2) (fk : Fk) (bd : Bd) (sm : Sm) : Option D9 :=
    bd (Hxa (l1, x0.2.1, ())) fun y0 => fk (!y0.2.1) (some (@List.nil D2, (5 : Int), ())) (fk (decide ((↑(List.length y0.1) : Int) > (0 : Int))) (some (@List.nil D2, (5 : Int), ())) (bd (Rqa (l1, x0.2.1, ())) fun y1 => some (y1.1, (0 : Int), ())))
theorem Vya (x0 l1) : Ita (x0, l1, ()) = Pfa x0 l1 jKa lIa bFb := eqF (S := S40) fun _ _ _ => by kernel_rfl
noncomputable def S41 : OCs := addF S40 Tryz.prog 159 Pna (.tuple [(.ty Y2), (.ty (.int .i64))]) [] Ita
theorem Pwb : fEb Tryz.prog th S41 := Pvb.addF rfl
abbrev Lwa : List Shp := [(.ty Y1), (.ty Y2)]
noncomputable def Fza : D0 × (List D2) × Unit → Option D9 := jTa (fnT Tryz.prog th (S41 jKa lIa bFb) 161 Lwa (.tuple [(.ty Y2), (.ty (.int .i64))]) [])
noncomputable def Lta (x0 : Int × ByteArray × ByteArray × D4 × Unit) (l1 : List D2) (fk : Fk) (bd : Bd) (sm : Sm) : Option D9 :=
    bd (Hxa (l1, x0.2.1, ())) fun y0 => bd (Hxa (l1, x0.2.2.1, ())) fun y1 => fk (!y0.2.1) (some (@List.nil D2, (5 : Int), ())) (fk y1.2.1 (some (@List.nil D2, (5 : Int), ())) (bd (Rqa (l1, x0.2.1, ())) fun y2 => bd (Npa (y2.1, x0.2.2.1, y0.1, ())) fun y3 => some (y3.1, (0 : Int), ())))
theorem Tqa (x0 l1) : Fza (x0, l1, ()) = Lta x0 l1 jKa lIa bFb := eqF (S := S41) fun _ _ _ => by kernel_rfl
noncomputable def S42 : OCs := addF S41 Tryz.prog 161 Lwa (.tuple [(.ty Y2), (.ty (.int .i64))]) [] Fza
theorem Pxb : fEb Tryz.prog th S42 := Pwb.addF rfl
abbrev Gja : fCa := ⟨[], [], [], [], [(.ty (.list .str)), (.ty (.list .str)), (.st (.bool false)), (.ty (.int .i64)), (.ty (.int .i64))]⟩
abbrev Gpa : List sQa := [⟨.ret, ⟨[], [], [], [], [(.ty (.list .str)), (.ty (.list .str)), (.st (.bool false)), (.ty (.int .i64)), (.ty (.int .i64))]⟩⟩, ⟨(.exit 0), ⟨[], [], [], [], [(.ty (.list .str)), (.ty (.list .str)), (.st (.bool false)), (.ty (.int .i64)), (.ty (.int .i64))]⟩⟩]
noncomputable def Bfa : List ByteArray × List ByteArray × Int × Int × Unit → Option (D14 ⊕ D14) := jTa (pBa (nHa Tryz.prog th (S42 jKa lIa bFb) 248 4 Gja Gpa))
noncomputable def Bra (l0 : List ByteArray) (l1 : List ByteArray) (i2 : Int) (i3 : Int) (fk : Fk) (bd : Bd) (sm : Sm) : Option (D14 ⊕ (D14 ⊕ D14)) :=
    fk (decide (i3 < i2)) (fk (decide ((0 : Int) ≤ i3)) (fk (decide (i3 < (↑(List.length l0) : Int))) (fk (decide ((0 : Int) ≤ i3)) (fk (decide (i3 < (↑(List.length l1) : Int))) (fk (!ByteArray.toList (List.getD l0 (Int.toNat i3) ByteArray.empty) == ByteArray.toList (List.getD l1 (Int.toNat i3) ByteArray.empty)) (some (Sum.inr (Sum.inl (l0, l1, i2, i3, ())))) (some (Sum.inl (l0, l1, i2, IntKind.wrap IntKind.i64 (i3 + (1 : Int)), ())))) none) none) none) none) (some (Sum.inr (Sum.inr (l0, l1, i2, i3, ()))))
theorem Eya (l0 l1 i2 i3) : Bfa (l0, l1, i2, i3, ()) = (Bra l0 l1 i2 i3 jKa lIa bFb).bind (Sum.elim Bfa some) := eqL (S := S42) fun _ _ _ => by kernel_rfl
noncomputable def S43 : OCs := addL S42 Tryz.prog 248 4 Gja Gpa Bfa
theorem Pyb : fEb Tryz.prog th S43 := Pxb.addL (by kernel_rfl) (by kernel_rfl) (by kernel_rfl) rfl
abbrev Iza : List Shp := [(.ty (.list .str)), (.ty (.list .str))]
noncomputable def Coa : List ByteArray × List ByteArray × Unit → Option (Bool × Unit) := jTa (fnT Tryz.prog th (S43 jKa lIa bFb) 248 Iza (.ty .bool) [])
noncomputable def Cca (l0 : List ByteArray) (l1 : List ByteArray) (fk : Fk) (bd : Bd) (sm : Sm) : Option (Bool × Unit) :=
    fk ((↑(List.length l0) : Int) != (↑(List.length l1) : Int)) (some (false, ())) (bd (Bfa (l0, l1, (↑(List.length l0) : Int), (0 : Int), ())) fun y0 => sm y0 (fun y1 => some (false, ())) fun y2 => some (true, ()))
theorem Nna (l0 l1) : Coa (l0, l1, ()) = Cca l0 l1 jKa lIa bFb := eqF (S := S43) fun _ _ _ => by kernel_rfl
noncomputable def S44 : OCs := addF S43 Tryz.prog 248 Iza (.ty .bool) [] Coa
theorem Pzb : fEb Tryz.prog th S44 := Pyb.addF rfl
abbrev Wma : List Shp := [(.ty (.list .str)), (.ty (.int .i64)), (.ty (.list .str))]
noncomputable def Nka : List ByteArray × Int × List ByteArray × Unit → Option (Bool × Unit) := jTa (fnT Tryz.prog th (S44 jKa lIa bFb) 243 Wma (.ty .bool) [])
noncomputable def Iwa (l0 : List ByteArray) (i1 : Int) (l2 : List ByteArray) (fk : Fk) (bd : Bd) (sm : Sm) : Option (Bool × Unit) :=
    fk (decide (i1 ≥ (0 : Int))) (fk (decide (i1 ≤ (↑(List.length l0) : Int))) (fk (decide ((↑(List.length l2) : Int) ≤ IntKind.wrap IntKind.i64 ((↑(List.length l0) : Int) - i1))) (fk (decide ((0 : Int) ≤ IntKind.wrap IntKind.i64 (i1 + (↑(List.length l2) : Int)))) (fk (decide (IntKind.wrap IntKind.i64 (i1 + (↑(List.length l2) : Int)) ≤ (↑(List.length l0) : Int))) (fk (decide ((0 : Int) ≤ i1)) (fk (decide (i1 ≤ (↑(Int.toNat (IntKind.wrap IntKind.i64 (i1 + (↑(List.length l2) : Int)))) : Int))) (bd (Coa (List.take (Int.toNat (IntKind.wrap IntKind.i64 (i1 + (↑(List.length l2) : Int))) - Int.toNat i1) (List.drop (Int.toNat i1) l0), l2, ())) fun y0 => some (y0.1, ())) none) none) none) none) (some (false, ()))) (some (false, ()))) (some (false, ()))
theorem Beb (l0 i1 l2) : Nka (l0, i1, l2, ()) = Iwa l0 i1 l2 jKa lIa bFb := eqF (S := S44) fun _ _ _ => by kernel_rfl
noncomputable def S45 : OCs := addF S44 Tryz.prog 243 Wma (.ty .bool) [] Nka
theorem Qab : fEb Tryz.prog th S45 := Pzb.addF rfl
abbrev Jwb : List Shp := [(.ty (.list .str)), (.ty (.int .i64)), (.ty (.list .str))]
noncomputable def Imb : List ByteArray × Int × List ByteArray × Unit → Option (Bool × Unit) := jTa (fnT Tryz.prog th (S45 jKa lIa bFb) 236 Jwb (.ty .bool) [])
noncomputable def Jtb (l0 : List ByteArray) (i1 : Int) (l2 : List ByteArray) (fk : Fk) (bd : Bd) (sm : Sm) : Option (Bool × Unit) :=
    bd (Nka (l0, i1, l2, ())) fun y0 => some (y0.1, ())
theorem Lhb (l0 i1 l2) : Imb (l0, i1, l2, ()) = Jtb l0 i1 l2 jKa lIa bFb := eqF (S := S45) fun _ _ _ => by kernel_rfl
noncomputable def S46 : OCs := addF S45 Tryz.prog 236 Jwb (.ty .bool) [] Imb
theorem Qbb : fEb Tryz.prog th S46 := Qab.addF rfl
abbrev Gia : fCa := ⟨[], [], [], [], [(.ty (.list (.list .str))), .nils, (.ty (.int .i64)), (.ty (.list (.list .str))), (.ty (.int .i64)), (.ty (.int .i64))]⟩
abbrev Goa : List sQa := [⟨(.exit 0), ⟨[], [], [], [], [(.ty (.list (.list .str))), .nils, (.ty (.int .i64)), (.ty (.list (.list .str))), (.ty (.int .i64)), (.ty (.int .i64))]⟩⟩]
noncomputable def Bea : List (List ByteArray) × Int × List (List ByteArray) × Int × Int × Unit → Option (List (List ByteArray) × Int × List (List ByteArray) × Int × Int × Unit) := jTa (pBa (nHa Tryz.prog th (S46 jKa lIa bFb) 237 3 Gia Goa))
noncomputable def Cra (l0 : List (List ByteArray)) (i1 : Int) (l2 : List (List ByteArray)) (i3 : Int) (i4 : Int) (fk : Fk) (bd : Bd) (sm : Sm) : Option ((List (List ByteArray) × Int × List (List ByteArray) × Int × Int × Unit) ⊕ (List (List ByteArray) × Int × List (List ByteArray) × Int × Int × Unit)) :=
    fk (decide (i4 < i3)) (fk (decide ((0 : Int) ≤ i4)) (fk (decide (i4 < (↑(List.length l2) : Int))) (fk (decide (IntKind.wrap IntKind.i64 (i1 + (↑(List.length (List.getD l2 (Int.toNat i4) (@List.nil ByteArray))) : Int)) < (0 : Int))) none (some (Sum.inl (l0, IntKind.wrap IntKind.i64 (i1 + (↑(List.length (List.getD l2 (Int.toNat i4) (@List.nil ByteArray))) : Int)), l2, i3, IntKind.wrap IntKind.i64 (i4 + (1 : Int)), ())))) none) none) (some (Sum.inr (l0, i1, l2, i3, i4, ())))
theorem Exa (l0 i1 l2 i3 i4) : Bea (l0, i1, l2, i3, i4, ()) = (Cra l0 i1 l2 i3 i4 jKa lIa bFb).bind (Sum.elim Bea some) := eqL (S := S46) fun _ _ _ => by kernel_rfl
noncomputable def S47 : OCs := addL S46 Tryz.prog 237 3 Gia Goa Bea
theorem Qcb : fEb Tryz.prog th S47 := Qbb.addL (by kernel_rfl) (by kernel_rfl) (by kernel_rfl) rfl
abbrev Fea : fCa := ⟨[⟨.str, 9, 1, true⟩, ⟨.str, 9, 1, true⟩], [], [], [], [.nils, (.mview 1 1), (.ty (.list (.list .str))), (.ty (.int .i64)), (.ty (.int .i64))]⟩
abbrev Fpa : List sQa := [⟨(.exit 2), ⟨[⟨.str, 9, 1, true⟩, ⟨.str, 9, 1, true⟩], [], [], [], [.nils, (.mview 1 1), (.ty (.list (.list .str))), (.ty (.int .i64)), (.ty (.int .i64))]⟩⟩]
noncomputable def Awa : List ByteArray × List ByteArray × Nat × Nat × List (List ByteArray) × Int × Int × Unit → Option (List ByteArray × List ByteArray × Nat × Nat × List (List ByteArray) × Int × Int × Unit) := jTa (pBa (nHa Tryz.prog th (S47 jKa lIa bFb) 237 11 Fea Fpa))
noncomputable def Cja (l0 : List ByteArray) (l1 : List ByteArray) (n2 : Nat) (n3 : Nat) (l4 : List (List ByteArray)) (i5 : Int) (i6 : Int) (fk : Fk) (bd : Bd) (sm : Sm) : Option ((List ByteArray × List ByteArray × Nat × Nat × List (List ByteArray) × Int × Int × Unit) ⊕ (List ByteArray × List ByteArray × Nat × Nat × List (List ByteArray) × Int × Int × Unit)) :=
    let z0 := (List.getD l4 (Int.toNat i6) (@List.nil ByteArray))
    fk (decide (i6 < i5)) (fk (decide ((0 : Int) ≤ i6)) (fk (decide (i6 < (↑(List.length l4) : Int))) (fk (decide (List.length l1 = List.length l1)) (fk (decide (n2 ≤ n3)) (fk (decide (n3 + List.length z0 ≤ List.length l1)) (fk (decide (List.length (hYb l1 n3 z0) = List.length l1)) (some (Sum.inl (l0, hYb l1 n3 z0, n2, n3 + List.length z0, l4, i5, IntKind.wrap IntKind.i64 (i6 + (1 : Int)), ()))) none) none) none) none) none) none) (fk (decide (List.length l1 = List.length l1)) (some (Sum.inr (l0, l1, n2, n3, l4, i5, i6, ()))) none)
theorem Dza (l0 l1 n2 n3 l4 i5 i6) : Awa (l0, l1, n2, n3, l4, i5, i6, ()) = (Cja l0 l1 n2 n3 l4 i5 i6 jKa lIa bFb).bind (Sum.elim Awa some) := eqL (S := S47) fun _ _ _ => by kernel_rfl
noncomputable def S48 : OCs := addL S47 Tryz.prog 237 11 Fea Fpa Awa
theorem Qdb : fEb Tryz.prog th S48 := Qcb.addL (by kernel_rfl) (by kernel_rfl) (by kernel_rfl) rfl
abbrev Epa : fCa := ⟨[⟨.str, 9, 1, true⟩, ⟨.str, 9, 1, true⟩], [], [], [], [.nils, (.mref 1), (.ty (.list (.list .str))), (.ty (.int .i64)), (.ty (.int .i64))]⟩
abbrev Eta : List sQa := [⟨(.exit 2), ⟨[⟨.str, 9, 1, true⟩, ⟨.str, 9, 1, true⟩], [], [], [], [.nils, (.mref 1), (.ty (.list (.list .str))), (.ty (.int .i64)), (.ty (.int .i64))]⟩⟩]
noncomputable def Ara : List ByteArray × List ByteArray × List (List ByteArray) × Int × Int × Unit → Option (List ByteArray × List ByteArray × List (List ByteArray) × Int × Int × Unit) := jTa (pBa (nHa Tryz.prog th (S48 jKa lIa bFb) 237 11 Epa Eta))
noncomputable def Cba (l0 : List ByteArray) (l1 : List ByteArray) (l2 : List (List ByteArray)) (i3 : Int) (i4 : Int) (fk : Fk) (bd : Bd) (sm : Sm) : Option ((List ByteArray × List ByteArray × List (List ByteArray) × Int × Int × Unit) ⊕ (List ByteArray × List ByteArray × List (List ByteArray) × Int × Int × Unit)) :=
    fk (decide (i4 < i3)) (fk (decide ((0 : Int) ≤ i4)) (fk (decide (i4 < (↑(List.length l2) : Int))) (fk (decide (List.length l1 = List.length l1)) (fk (decide (List.length (l1 ++ List.getD l2 (Int.toNat i4) (@List.nil ByteArray)) ≤ bBa)) (fk (decide (List.length (l1 ++ List.getD l2 (Int.toNat i4) (@List.nil ByteArray)) = List.length (l1 ++ List.getD l2 (Int.toNat i4) (@List.nil ByteArray)))) (some (Sum.inl (l0, l1 ++ List.getD l2 (Int.toNat i4) (@List.nil ByteArray), l2, i3, IntKind.wrap IntKind.i64 (i4 + (1 : Int)), ()))) none) none) none) none) none) (fk (decide (List.length l1 = List.length l1)) (some (Sum.inr (l0, l1, l2, i3, i4, ()))) none)
theorem Dka (l0 l1 l2 i3 i4) : Ara (l0, l1, l2, i3, i4, ()) = (Cba l0 l1 l2 i3 i4 jKa lIa bFb).bind (Sum.elim Ara some) := eqL (S := S48) fun _ _ _ => by kernel_rfl
noncomputable def S49 : OCs := addL S48 Tryz.prog 237 11 Epa Eta Ara
theorem Qeb : fEb Tryz.prog th S49 := Qdb.addL (by kernel_rfl) (by kernel_rfl) (by kernel_rfl) rfl
abbrev Iya : List Shp := [(.ty (.list (.list .str)))]
noncomputable def Cna : List (List ByteArray) × Unit → Option (List ByteArray × Unit) := jTa (fnT Tryz.prog th (S49 jKa lIa bFb) 237 Iya (.ty (.list .str)) [])
noncomputable def Dsa (l0 : List (List ByteArray)) (fk : Fk) (bd : Bd) (sm : Sm) : Option (List ByteArray × Unit) :=
    let z0 := ((0 : Int) - (↑(0 : Nat) : Int))
    bd (Bea (l0, (0 : Int), l0, (↑(List.length l0) : Int), (0 : Int), ())) fun y0 => fk (decide (y0.2.1 < (0 : Int))) none (fk (decide (IntKind.wrap IntKind.i64 (y0.2.1 - IntKind.wrap IntKind.i64 z0) > (0 : Int))) (fk (decide ((0 : Int) ≤ (↑(0 : Nat) : Int))) (fk (decide ((0 : Int) < IntKind.wrap IntKind.i64 (y0.2.1 - IntKind.wrap IntKind.i64 z0))) (fk (decide (IntKind.wrap IntKind.i64 (y0.2.1 - IntKind.wrap IntKind.i64 z0) ≤ (↑bBa : Int))) (fk (decide (List.length (List.replicate (Int.toNat (IntKind.wrap IntKind.i64 (y0.2.1 - IntKind.wrap IntKind.i64 z0))) ByteArray.empty) = List.length (List.replicate (Int.toNat (IntKind.wrap IntKind.i64 (y0.2.1 - IntKind.wrap IntKind.i64 z0))) ByteArray.empty))) (fk (decide ((↑(0 : Nat) : Int) ≤ (↑(List.length (List.replicate (Int.toNat (IntKind.wrap IntKind.i64 (y0.2.1 - IntKind.wrap IntKind.i64 z0))) ByteArray.empty) - (0 : Nat)) : Int))) (fk (decide (List.length (List.replicate (Int.toNat (IntKind.wrap IntKind.i64 (y0.2.1 - IntKind.wrap IntKind.i64 z0))) ByteArray.empty) = List.length (List.replicate (Int.toNat (IntKind.wrap IntKind.i64 (y0.2.1 - IntKind.wrap IntKind.i64 z0))) ByteArray.empty))) (bd (Awa (@List.nil ByteArray, List.replicate (Int.toNat (IntKind.wrap IntKind.i64 (y0.2.1 - IntKind.wrap IntKind.i64 z0))) ByteArray.empty, (0 : Nat) + (0 : Nat), (0 : Nat) + Int.toNat (↑(0 : Nat) : Int), y0.1, (↑(List.length y0.1) : Int), (0 : Int), ())) fun y1 => fk (decide (List.length y1.2.1 = List.length y1.2.1)) (fk (decide (y1.2.2.1 ≤ y1.2.2.2.1)) (fk (decide (y1.2.2.2.1 ≤ List.length y1.2.1)) (some (List.take (y1.2.2.2.1 - y1.2.2.1) (List.drop y1.2.2.1 y1.2.1), ())) none) none) none) none) none) none) none) none) none) (fk (decide (List.length (@List.nil ByteArray) = (0 : Nat))) (bd (Ara (@List.nil ByteArray, @List.nil ByteArray, y0.1, (↑(List.length y0.1) : Int), (0 : Int), ())) fun y2 => fk (decide (List.length y2.2.1 = List.length y2.2.1)) (some (y2.2.1, ())) none) none))
theorem Nma (l0) : Cna (l0, ()) = Dsa l0 jKa lIa bFb := eqF (S := S49) fun _ _ _ => by kernel_rfl
noncomputable def S50 : OCs := addF S49 Tryz.prog 237 Iya (.ty (.list .str)) [] Cna
theorem Qfb : fEb Tryz.prog th S50 := Qeb.addF rfl
abbrev Exb : List Shp := [(.ty (.list .str)), (.ty (.int .i64)), (.ty (.list .str)), (.ty (.list .str))]
noncomputable def Xsa : List ByteArray × Int × List ByteArray × List ByteArray × Unit → Option D38 := jTa (fnT Tryz.prog th (S50 jKa lIa bFb) 224 Exb (.tuple [(.ty (.list .str)), (.ty .bool)]) [])
noncomputable def Yea (l0 : List ByteArray) (i1 : Int) (l2 : List ByteArray) (l3 : List ByteArray) (fk : Fk) (bd : Bd) (sm : Sm) : Option D38 :=
    bd (Imb (l0, i1, l2, ())) fun y0 => fk (!y0.1) (some (@List.nil ByteArray, false, ())) (fk (decide ((0 : Int) ≤ i1)) (fk (decide (i1 ≤ (↑(List.length l0) : Int))) (fk (decide ((0 : Int) ≤ i1)) (fk (decide (i1 ≤ (↑(Int.toNat i1) : Int))) (fk (decide ((0 : Int) ≤ IntKind.wrap IntKind.i64 (i1 + (↑(List.length l2) : Int)))) (fk (decide (IntKind.wrap IntKind.i64 (i1 + (↑(List.length l2) : Int)) ≤ (↑(List.length l0) : Int))) (bd (Cna (List.take (Int.toNat i1 - (0 : Nat)) (List.drop (0 : Nat) l0) :: l3 :: List.take (List.length l0 - Int.toNat (IntKind.wrap IntKind.i64 (i1 + (↑(List.length l2) : Int)))) (List.drop (Int.toNat (IntKind.wrap IntKind.i64 (i1 + (↑(List.length l2) : Int)))) l0) :: @List.nil (List ByteArray), ())) fun y1 => some (y1.1, true, ())) none) none) none) none) none) none)
theorem Hjb (l0 i1 l2 l3) : Xsa (l0, i1, l2, l3, ()) = Yea l0 i1 l2 l3 jKa lIa bFb := eqF (S := S50) fun _ _ _ => by kernel_rfl
noncomputable def S51 : OCs := addF S50 Tryz.prog 224 Exb (.tuple [(.ty (.list .str)), (.ty .bool)]) [] Xsa
theorem Qgb : fEb Tryz.prog th S51 := Qfb.addF rfl
abbrev Yqa : List Shp := [(.ty (.list .str)), (.ty Y5)]
noncomputable def Rfa : List ByteArray × D4 × Unit → Option D19 := jTa (fnT Tryz.prog th (S51 jKa lIa bFb) 200 Yqa (.tuple [(.ty (.list .str)), (.ty (.int .i64))]) [])
noncomputable def Xya (l0 : List ByteArray) (x1 : Int × List ByteArray × List ByteArray × Unit) (fk : Fk) (bd : Bd) (sm : Sm) : Option D19 :=
    bd (Uha ((x1.1, x1.2.1, x1.2.2.1, ()), ())) fun y0 => fk (!y0.1) (some (@List.nil ByteArray, (1 : Int), ())) (bd (Xsa (l0, x1.1, x1.2.1, x1.2.2.1, ())) fun y1 => fk (!y1.2.1) (some (@List.nil ByteArray, (5 : Int), ())) (some (y1.1, (0 : Int), ())))
theorem Deb (l0 x1) : Rfa (l0, x1, ()) = Xya l0 x1 jKa lIa bFb := eqF (S := S51) fun _ _ _ => by kernel_rfl
noncomputable def S52 : OCs := addF S51 Tryz.prog 200 Yqa (.tuple [(.ty (.list .str)), (.ty (.int .i64))]) [] Rfa
theorem Qhb : fEb Tryz.prog th S52 := Qgb.addF rfl
abbrev Lla : List Shp := [(.ty Y1), (.ty Y2)]
noncomputable def Eka : D0 × (List D2) × Unit → Option D9 := jTa (fnT Tryz.prog th (S52 jKa lIa bFb) 163 Lla (.tuple [(.ty Y2), (.ty (.int .i64))]) [])
noncomputable def Lia (x0 : Int × ByteArray × ByteArray × D4 × Unit) (l1 : List D2) (fk : Fk) (bd : Bd) (sm : Sm) : Option D9 :=
    bd (Hxa (l1, x0.2.1, ())) fun y0 => fk (!y0.2.1) (some (@List.nil D2, (5 : Int), ())) (bd (Rfa (y0.1, (x0.2.2.2.1.1, x0.2.2.2.1.2.1, x0.2.2.2.1.2.2.1, ()), ())) fun y1 => fk (y1.2.1 != (0 : Int)) (some (@List.nil D2, y1.2.1, ())) (bd (Npa (l1, x0.2.1, y1.1, ())) fun y2 => some (y2.1, (0 : Int), ())))
theorem Rva (x0 l1) : Eka (x0, l1, ()) = Lia x0 l1 jKa lIa bFb := eqF (S := S52) fun _ _ _ => by kernel_rfl
noncomputable def S53 : OCs := addF S52 Tryz.prog 163 Lla (.tuple [(.ty Y2), (.ty (.int .i64))]) [] Eka
theorem Qib : fEb Tryz.prog th S53 := Qhb.addF rfl
abbrev Hea : fCa := ⟨[], [], [], [], [(.ty (.list .str)), (.ty (.list .str)), (.st (.bool false)), (.ty (.int .i64)), (.ty (.int .i64))]⟩
abbrev Hja : List sQa := [⟨.ret, ⟨[], [], [], [], [(.ty (.list .str)), (.ty (.list .str)), (.st (.bool false)), (.ty (.int .i64)), (.ty (.int .i64))]⟩⟩, ⟨(.exit 0), ⟨[], [], [], [], [(.ty (.list .str)), (.ty (.list .str)), (.st (.bool false)), (.ty (.int .i64)), (.ty (.int .i64))]⟩⟩]
noncomputable def Bka : List ByteArray × List ByteArray × Int × Int × Unit → Option (D14 ⊕ D14) := jTa (pBa (nHa Tryz.prog th (S53 jKa lIa bFb) 64 4 Hea Hja))
noncomputable def Bua (l0 : List ByteArray) (l1 : List ByteArray) (i2 : Int) (i3 : Int) (fk : Fk) (bd : Bd) (sm : Sm) : Option (D14 ⊕ (D14 ⊕ D14)) :=
    fk (decide (i3 < i2)) (fk (decide ((0 : Int) ≤ i3)) (fk (decide (i3 < (↑(List.length l0) : Int))) (fk (decide ((0 : Int) ≤ i3)) (fk (decide (i3 < (↑(List.length l1) : Int))) (fk (!ByteArray.toList (List.getD l0 (Int.toNat i3) ByteArray.empty) == ByteArray.toList (List.getD l1 (Int.toNat i3) ByteArray.empty)) (some (Sum.inr (Sum.inl (l0, l1, i2, i3, ())))) (some (Sum.inl (l0, l1, i2, IntKind.wrap IntKind.i64 (i3 + (1 : Int)), ())))) none) none) none) none) (some (Sum.inr (Sum.inr (l0, l1, i2, i3, ()))))
theorem Fua (l0 l1 i2 i3) : Bka (l0, l1, i2, i3, ()) = (Bua l0 l1 i2 i3 jKa lIa bFb).bind (Sum.elim Bka some) := eqL (S := S53) fun _ _ _ => by kernel_rfl
noncomputable def S54 : OCs := addL S53 Tryz.prog 64 4 Hea Hja Bka
theorem Qjb : fEb Tryz.prog th S54 := Qib.addL (by kernel_rfl) (by kernel_rfl) (by kernel_rfl) rfl
abbrev Joa : List Shp := [(.ty (.list .str)), (.ty (.list .str))]
noncomputable def Bza : List ByteArray × List ByteArray × Unit → Option (Bool × Unit) := jTa (fnT Tryz.prog th (S54 jKa lIa bFb) 64 Joa (.ty .bool) [])
noncomputable def Cma (l0 : List ByteArray) (l1 : List ByteArray) (fk : Fk) (bd : Bd) (sm : Sm) : Option (Bool × Unit) :=
    fk ((↑(List.length l0) : Int) != (↑(List.length l1) : Int)) (some (false, ())) (bd (Bka (l0, l1, (↑(List.length l0) : Int), (0 : Int), ())) fun y0 => sm y0 (fun y1 => some (false, ())) fun y2 => some (true, ()))
theorem Oya (l0 l1) : Bza (l0, l1, ()) = Cma l0 l1 jKa lIa bFb := eqF (S := S54) fun _ _ _ => by kernel_rfl
noncomputable def S55 : OCs := addF S54 Tryz.prog 64 Joa (.ty .bool) [] Bza
theorem Qkb : fEb Tryz.prog th S55 := Qjb.addF rfl
abbrev Nya : List Shp := [(.ty Y1), (.ty Y2)]
noncomputable def Hna : D0 × (List D2) × Unit → Option D9 := jTa (fnT Tryz.prog th (S55 jKa lIa bFb) 165 Nya (.tuple [(.ty Y2), (.ty (.int .i64))]) [])
noncomputable def Nua (x0 : Int × ByteArray × ByteArray × D4 × Unit) (l1 : List D2) (fk : Fk) (bd : Bd) (sm : Sm) : Option D9 :=
    bd (Hxa (l1, x0.2.1, ())) fun y0 => fk (!y0.2.1) (some (@List.nil D2, (5 : Int), ())) (bd (Bza (y0.1, x0.2.2.2.1.2.1, ())) fun y1 => fk (!y1.1) (some (@List.nil D2, (5 : Int), ())) (bd (Npa (l1, x0.2.1, x0.2.2.2.1.2.2.1, ())) fun y2 => some (y2.1, (0 : Int), ())))
theorem Vda (x0 l1) : Hna (x0, l1, ()) = Nua x0 l1 jKa lIa bFb := eqF (S := S55) fun _ _ _ => by kernel_rfl
noncomputable def S56 : OCs := addF S55 Tryz.prog 165 Nya (.tuple [(.ty Y2), (.ty (.int .i64))]) [] Hna
theorem Qlb : fEb Tryz.prog th S56 := Qkb.addF rfl
abbrev Yta : List Shp := [(.ty Y2), (.ty Y1)]
noncomputable def Rha : (List D2) × D0 × Unit → Option D9 := jTa (fnT Tryz.prog th (S56 jKa lIa bFb) 66 Yta (.tuple [(.ty Y2), (.ty (.int .i64))]) [])
noncomputable def Yba (l0 : List D2) (x1 : Int × ByteArray × ByteArray × D4 × Unit) (fk : Fk) (bd : Bd) (sm : Sm) : Option D9 :=
    let z0 := (x1.1, x1.2.1, x1.2.2.1, (x1.2.2.2.1.1, x1.2.2.2.1.2.1, x1.2.2.2.1.2.2.1, ()), ())
    bd (Vaa (z0, ())) fun y0 => fk (!y0.1) (some (@List.nil D2, (1 : Int), ())) (fk (decide (x1.1 = x1.1)) (fk (eqT Ty.str x1.2.1 x1.2.1) (fk (eqT Ty.str x1.2.2.1 x1.2.2.1) (fk (decide (x1.2.2.2.1.1 = x1.2.2.2.1.1)) (fk (eqT (Ty.list Ty.str) x1.2.2.2.1.2.1 x1.2.2.2.1.2.1) (fk (eqT (Ty.list Ty.str) x1.2.2.2.1.2.2.1 x1.2.2.2.1.2.2.1) (fk (decide (x1.1 = (↑(0 : Nat) : Int))) (bd (Hma (z0, l0, ())) fun y1 => some (y1.1, y1.2.1, ())) (fk (decide (x1.1 = (↑((0 : Nat) + (1 : Nat)) : Int))) (bd (Ita (z0, l0, ())) fun y2 => some (y2.1, y2.2.1, ())) (fk (decide (x1.1 = (↑((0 : Nat) + (1 : Nat) + (1 : Nat)) : Int))) (bd (Fza (z0, l0, ())) fun y3 => some (y3.1, y3.2.1, ())) (fk (decide (x1.1 = (↑((0 : Nat) + (1 : Nat) + (1 : Nat) + (1 : Nat)) : Int))) (bd (Eka (z0, l0, ())) fun y4 => some (y4.1, y4.2.1, ())) (fk (decide (x1.1 = (↑((0 : Nat) + (1 : Nat) + (1 : Nat) + (1 : Nat) + (1 : Nat)) : Int))) (bd (Hna (z0, l0, ())) fun y5 => some (y5.1, y5.2.1, ())) none))))) none) none) none) none) none) none)
theorem Dlb (l0 x1) : Rha (l0, x1, ()) = Yba l0 x1 jKa lIa bFb := eqF (S := S56) fun _ _ _ => by kernel_rfl
noncomputable def S57 : OCs := addF S56 Tryz.prog 66 Yta (.tuple [(.ty Y2), (.ty (.int .i64))]) [] Rha
theorem Qmb : fEb Tryz.prog th S57 := Qlb.addF rfl
abbrev Sea : fCa := ⟨[], [], [], [], [(.ty Y2), .nils, (.st (.int .i64 0)), (.ty (.list Y1)), (.ty (.int .i64)), (.ty (.int .i64))]⟩
abbrev Sra : List sQa := [⟨.ret, ⟨[], [], [[(.ty (.int .i64)), (.ty .str), (.ty .str), (.ty (.int .i64)), (.ty (.list .str)), (.ty (.list .str))]], [], [(.ty Y2), .nils, (.ty (.int .i64)), (.ty (.list Y1)), (.ty (.int .i64)), (.ty (.int .i64))]⟩⟩, ⟨(.exit 0), ⟨[], [], [], [], [(.ty Y2), .nils, (.st (.int .i64 0)), (.ty (.list Y1)), (.ty (.int .i64)), (.ty (.int .i64))]⟩⟩]
noncomputable def Hca : (List D2) × (List D0) × Int × Int × Unit → Option ((Int × ByteArray × ByteArray × Int × List ByteArray × List ByteArray × (List D2) × Int × (List D0) × Int × Int × Unit) ⊕ ((List D2) × (List D0) × Int × Int × Unit)) := jTa (pBa (nHa Tryz.prog th (S57 jKa lIa bFb) 90 2 Sea Sra))
noncomputable def Ima (l0 : List D2) (l1 : List D0) (i2 : Int) (i3 : Int) (fk : Fk) (bd : Bd) (sm : Sm) : Option (((List D2) × (List D0) × Int × Int × Unit) ⊕ ((Int × ByteArray × ByteArray × Int × List ByteArray × List ByteArray × (List D2) × Int × (List D0) × Int × Int × Unit) ⊕ ((List D2) × (List D0) × Int × Int × Unit))) :=
    let z0 := (List.getD l1 (Int.toNat i3) ((0 : Int), ByteArray.empty, ByteArray.empty, ((0 : Int), @List.nil ByteArray, @List.nil ByteArray, ()), ()))
    fk (decide (i3 < i2)) (fk (decide ((0 : Int) ≤ i3)) (fk (decide (i3 < (↑(List.length l1) : Int))) (bd (Rha (l0, (z0.1, z0.2.1, z0.2.2.1, (z0.2.2.2.1.1, z0.2.2.2.1.2.1, z0.2.2.2.1.2.2.1, ()), ()), ())) fun y0 => fk (y0.2.1 != (0 : Int)) (some (Sum.inr (Sum.inl (z0.1, z0.2.1, z0.2.2.1, z0.2.2.2.1.1, z0.2.2.2.1.2.1, z0.2.2.2.1.2.2.1, l0, y0.2.1, l1, i2, i3, ())))) (some (Sum.inl (y0.1, l1, i2, IntKind.wrap IntKind.i64 (i3 + (1 : Int)), ())))) none) none) (some (Sum.inr (Sum.inr (l0, l1, i2, i3, ()))))
theorem Oda (l0 l1 i2 i3) : Hca (l0, l1, i2, i3, ()) = (Ima l0 l1 i2 i3 jKa lIa bFb).bind (Sum.elim Hca some) := eqL (S := S57) fun _ _ _ => by kernel_rfl
noncomputable def S58 : OCs := addL S57 Tryz.prog 90 2 Sea Sra Hca
theorem Qnb : fEb Tryz.prog th S58 := Qmb.addL (by kernel_rfl) (by kernel_rfl) (by kernel_rfl) rfl
abbrev Yoa : List Shp := [(.ty Y2), (.ty (.list Y1))]
noncomputable def Rda : (List D2) × (List D0) × Unit → Option D9 := jTa (fnT Tryz.prog th (S58 jKa lIa bFb) 90 Yoa (.tuple [(.ty Y2), (.ty (.int .i64))]) [])
noncomputable def Tia (l0 : List D2) (l1 : List D0) (fk : Fk) (bd : Bd) (sm : Sm) : Option D9 :=
    bd (Hca (l0, l1, (↑(List.length l1) : Int), (0 : Int), ())) fun y0 => sm y0 (fun y1 => some (@List.nil D2, y1.2.2.2.2.2.2.2.1, ())) fun y2 => some (y2.1, (0 : Int), ())
theorem Cwb (l0 l1) : Rda (l0, l1, ()) = Tia l0 l1 jKa lIa bFb := eqF (S := S58) fun _ _ _ => by kernel_rfl
noncomputable def S59 : OCs := addF S58 Tryz.prog 90 Yoa (.tuple [(.ty Y2), (.ty (.int .i64))]) [] Rda
theorem Qob : fEb Tryz.prog th S59 := Qnb.addF rfl
abbrev Wka : List Shp := [(.ty Y2), (.ty (.list Y0))]
noncomputable def Kva : (List D2) × (List D1) × Unit → Option D9 := jTa (fnT Tryz.prog th (S59 jKa lIa bFb) 40 Wka (.tuple [(.ty Y2), (.ty (.int .i64))]) [])
noncomputable def Wga (l0 : List D2) (l1 : List D1) (fk : Fk) (bd : Bd) (sm : Sm) : Option D9 :=
    bd (Uya (l1, ())) fun y0 => bd (Rda (l0, y0.1, ())) fun y1 => some (y1.1, y1.2.1, ())
theorem Bbb (l0 l1) : Kva (l0, l1, ()) = Wga l0 l1 jKa lIa bFb := eqF (S := S59) fun _ _ _ => by kernel_rfl
noncomputable def S60 : OCs := addF S59 Tryz.prog 40 Wka (.tuple [(.ty Y2), (.ty (.int .i64))]) [] Kva
theorem Qpb : fEb Tryz.prog th S60 := Qob.addF rfl
abbrev Wna : List Shp := [(.ty Y6), (.ty Y6)]
noncomputable def Nra : D2 × D2 × Unit → Option (Bool × Unit) := jTa (fnT Tryz.prog th (S60 jKa lIa bFb) 63 Wna (.ty .bool) [])
noncomputable def Lka (x0 : ByteArray × List ByteArray × Unit) (x1 : ByteArray × List ByteArray × Unit) (fk : Fk) (bd : Bd) (sm : Sm) : Option (Bool × Unit) :=
    fk (ByteArray.toList x0.1 == ByteArray.toList x1.1) (bd (Bza (x0.2.1, x1.2.1, ())) fun y0 => some (y0.1, ())) (some (false, ()))
theorem Bgb (x0 x1) : Nra (x0, x1, ()) = Lka x0 x1 jKa lIa bFb := eqF (S := S60) fun _ _ _ => by kernel_rfl
noncomputable def S61 : OCs := addF S60 Tryz.prog 63 Wna (.ty .bool) [] Nra
theorem Qqb : fEb Tryz.prog th S61 := Qpb.addF rfl
abbrev Ffa : fCa := ⟨[], [], [], [], [(.ty Y2), (.func 63 [] []), (.st (.bool false)), (.ty Y2), (.ty (.int .i64)), (.ty (.int .i64))]⟩
abbrev Fqa : List sQa := [⟨.ret, ⟨[], [], [[(.ty .str), (.ty (.list .str))], [(.ty .str), (.ty (.list .str))]], [], [(.ty Y2), (.func 63 [] []), (.st (.bool false)), (.ty Y2), (.ty (.int .i64)), (.ty (.int .i64))]⟩⟩, ⟨(.exit 0), ⟨[], [], [], [], [(.ty Y2), (.func 63 [] []), (.st (.bool false)), (.ty Y2), (.ty (.int .i64)), (.ty (.int .i64))]⟩⟩]
noncomputable def Axa : (List D2) × (List D2) × Int × Int × Unit → Option ((ByteArray × List ByteArray × ByteArray × List ByteArray × (List D2) × (List D2) × Int × Int × Unit) ⊕ D21) := jTa (pBa (nHa Tryz.prog th (S61 jKa lIa bFb) 62 4 Ffa Fqa))
noncomputable def Bla (l0 : List D2) (l1 : List D2) (i2 : Int) (i3 : Int) (fk : Fk) (bd : Bd) (sm : Sm) : Option (D21 ⊕ ((ByteArray × List ByteArray × ByteArray × List ByteArray × (List D2) × (List D2) × Int × Int × Unit) ⊕ D21)) :=
    let z0 := (ByteArray.empty, @List.nil ByteArray, ())
    fk (decide (i3 < i2)) (fk (decide ((0 : Int) ≤ i3)) (fk (decide (i3 < (↑(List.length l1) : Int))) (fk (decide ((0 : Int) ≤ i3)) (fk (decide (i3 < (↑(List.length l0) : Int))) (bd (Nra (((List.getD l1 (Int.toNat i3) z0).1, (List.getD l1 (Int.toNat i3) z0).2.1, ()), ((List.getD l0 (Int.toNat i3) z0).1, (List.getD l0 (Int.toNat i3) z0).2.1, ()), ())) fun y0 => fk (!y0.1) (some (Sum.inr (Sum.inl ((List.getD l1 (Int.toNat i3) z0).1, (List.getD l1 (Int.toNat i3) z0).2.1, (List.getD l0 (Int.toNat i3) z0).1, (List.getD l0 (Int.toNat i3) z0).2.1, l0, l1, i2, i3, ())))) (some (Sum.inl (l0, l1, i2, IntKind.wrap IntKind.i64 (i3 + (1 : Int)), ())))) none) none) none) none) (some (Sum.inr (Sum.inr (l0, l1, i2, i3, ()))))
theorem Eba (l0 l1 i2 i3) : Axa (l0, l1, i2, i3, ()) = (Bla l0 l1 i2 i3 jKa lIa bFb).bind (Sum.elim Axa some) := eqL (S := S61) fun _ _ _ => by kernel_rfl
noncomputable def S62 : OCs := addL S61 Tryz.prog 62 4 Ffa Fqa Axa
theorem Qrb : fEb Tryz.prog th S62 := Qqb.addL (by kernel_rfl) (by kernel_rfl) (by kernel_rfl) rfl
abbrev Cbb : List Shp := [(.ty Y2), (.ty Y2)]
noncomputable def Kya : (List D2) × (List D2) × Unit → Option (Bool × Unit) := jTa (fnT Tryz.prog th (S62 jKa lIa bFb) 25 Cbb (.ty .bool) [])
noncomputable def Qza (l0 : List D2) (l1 : List D2) (fk : Fk) (bd : Bd) (sm : Sm) : Option (Bool × Unit) :=
    fk ((↑(List.length l0) : Int) != (↑(List.length l1) : Int)) (some (false, ())) (bd (Axa (l1, l0, (↑(List.length l0) : Int), (0 : Int), ())) fun y0 => sm y0 (fun y1 => some (false, ())) fun y2 => some (true, ()))
theorem Gnb (l0 l1) : Kya (l0, l1, ()) = Qza l0 l1 jKa lIa bFb := eqF (S := S62) fun _ _ _ => by kernel_rfl
noncomputable def S63 : OCs := addF S62 Tryz.prog 25 Cbb (.ty .bool) [] Kya
theorem Qsb : fEb Tryz.prog th S63 := Qrb.addF rfl
abbrev Wta : fCa := ⟨[], [], [], [], [(.ty Y2), (.st (.bool false)), (.ty Y2), (.ty (.int .i64)), (.ty (.int .i64))]⟩
abbrev Wza : List sQa := [⟨.ret, ⟨[], [], [[(.ty .str), (.ty (.list .str))]], [], [(.ty Y2), (.st (.bool false)), (.ty Y2), (.ty (.int .i64)), (.ty (.int .i64))]⟩⟩, ⟨(.exit 0), ⟨[], [], [], [], [(.ty Y2), (.st (.bool false)), (.ty Y2), (.ty (.int .i64)), (.ty (.int .i64))]⟩⟩]
noncomputable def Kxa : (List D2) × (List D2) × Int × Int × Unit → Option ((ByteArray × List ByteArray × (List D2) × (List D2) × Int × Int × Unit) ⊕ D21) := jTa (pBa (nHa Tryz.prog th (S63 jKa lIa bFb) 56 2 Wta Wza))
noncomputable def Dta (l0 : List D2) (l1 : List D2) (i2 : Int) (i3 : Int) (fk : Fk) (bd : Bd) (sm : Sm) : Option (D21 ⊕ ((ByteArray × List ByteArray × (List D2) × (List D2) × Int × Int × Unit) ⊕ D21)) :=
    let z0 := (List.getD l1 (Int.toNat i3) (ByteArray.empty, @List.nil ByteArray, ()))
    fk (decide (i3 < i2)) (fk (decide ((0 : Int) ≤ i3)) (fk (decide (i3 < (↑(List.length l1) : Int))) (bd (Kwa (z0.1, ())) fun y0 => fk (!y0.1) (some (Sum.inr (Sum.inl (z0.1, z0.2.1, l0, l1, i2, i3, ())))) (bd (Rna (z0.2.1, ())) fun y1 => fk (!y1.1) (some (Sum.inr (Sum.inl (z0.1, z0.2.1, l0, l1, i2, i3, ())))) (fk (decide (i3 > (0 : Int))) (fk (decide ((0 : Int) ≤ IntKind.wrap IntKind.i64 (i3 - (1 : Int)))) (fk (decide (IntKind.wrap IntKind.i64 (i3 - (1 : Int)) < (↑(List.length l0) : Int))) (fk (Op.bytesLess (ByteArray.toList z0.1) (ByteArray.toList (List.getD l0 (Int.toNat (IntKind.wrap IntKind.i64 (i3 - (1 : Int)))) (ByteArray.empty, @List.nil ByteArray, ())).1) || ByteArray.toList z0.1 == ByteArray.toList (List.getD l0 (Int.toNat (IntKind.wrap IntKind.i64 (i3 - (1 : Int)))) (ByteArray.empty, @List.nil ByteArray, ())).1) (some (Sum.inr (Sum.inl (z0.1, z0.2.1, l0, l1, i2, i3, ())))) (some (Sum.inl (l0, l1, i2, IntKind.wrap IntKind.i64 (i3 + (1 : Int)), ())))) none) none) (some (Sum.inl (l0, l1, i2, IntKind.wrap IntKind.i64 (i3 + (1 : Int)), ())))))) none) none) (some (Sum.inr (Sum.inr (l0, l1, i2, i3, ()))))
theorem Tda (l0 l1 i2 i3) : Kxa (l0, l1, i2, i3, ()) = (Dta l0 l1 i2 i3 jKa lIa bFb).bind (Sum.elim Kxa some) := eqL (S := S63) fun _ _ _ => by kernel_rfl
noncomputable def S64 : OCs := addL S63 Tryz.prog 56 2 Wta Wza Kxa
theorem Qtb : fEb Tryz.prog th S64 := Qsb.addL (by kernel_rfl) (by kernel_rfl) (by kernel_rfl) rfl
abbrev Fcb : List Shp := [(.ty Y2)]
noncomputable def Lna : (List D2) × Unit → Option (Bool × Unit) := jTa (fnT Tryz.prog th (S64 jKa lIa bFb) 56 Fcb (.ty .bool) [])
noncomputable def Yka (l0 : List D2) (fk : Fk) (bd : Bd) (sm : Sm) : Option (Bool × Unit) :=
    bd (Kxa (l0, l0, (↑(List.length l0) : Int), (0 : Int), ())) fun y0 => sm y0 (fun y1 => some (false, ())) fun y2 => some (decide ((↑(List.length y2.1) : Int) ≤ (30 : Int)), ())
theorem Hpb (l0) : Lna (l0, ()) = Yka l0 jKa lIa bFb := eqF (S := S64) fun _ _ _ => by kernel_rfl
noncomputable def S65 : OCs := addF S64 Tryz.prog 56 Fcb (.ty .bool) [] Lna
theorem Qub : fEb Tryz.prog th S65 := Qtb.addF rfl
abbrev Evb : List Shp := [(.ty Y4)]
noncomputable def Nga : D6 × Unit → Option (Bool × Unit) := jTa (fnT Tryz.prog th (S65 jKa lIa bFb) 20 Evb (.ty .bool) [])
noncomputable def Emb (x0 : Int × (List D1) × (List D2) × (List D2) × Int × Unit) (fk : Fk) (bd : Bd) (sm : Sm) : Option (Bool × Unit) :=
    fk (decide (x0.1 < (0 : Int))) (some (false, ())) (fk (decide (x0.1 ≥ (8 : Int))) (some (false, ())) (fk (decide ((↑(List.length x0.2.1) : Int) > (60 : Int))) (some (false, ())) (fk (decide (x0.2.2.2.2.1 < (0 : Int))) (some (false, ())) (fk (decide (x0.2.2.2.2.1 > (1048576 : Int))) (some (false, ())) (bd (Ika (x0.1, x0.2.1, x0.2.2.1, x0.2.2.2.1, x0.2.2.2.2.1, x0.2.1, (↑(List.length x0.2.1) : Int), (0 : Int), ())) fun y0 => sm y0 (fun y1 => some (false, ())) fun y2 => bd (Kva (@List.nil D2, y2.2.1, ())) fun y3 => fk (y3.2.1 == (0 : Int)) (bd (Kya (y3.1, y2.2.2.1, ())) fun y4 => fk y4.1 (bd (Lna (y2.2.2.1, ())) fun y5 => fk y5.1 (bd (Lna (y2.2.2.2.1, ())) fun y6 => some (y6.1, ())) (some (false, ()))) (some (false, ()))) (some (false, ())))))))
theorem Hhb (x0) : Nga (x0, ()) = Emb x0 jKa lIa bFb := eqF (S := S65) fun _ _ _ => by kernel_rfl
noncomputable def S66 : OCs := addF S65 Tryz.prog 20 Evb (.ty .bool) [] Nga
theorem Qvb : fEb Tryz.prog th S66 := Qub.addF rfl
abbrev Bqb : List Shp := [(.ty Y5)]
noncomputable def Uja : D4 × Unit → Option (D4 × Unit) := jTa (fnT Tryz.prog th (S66 jKa lIa bFb) 187 Bqb (.ty Y5) [])
noncomputable def Bjb (x0 : Int × List ByteArray × List ByteArray × Unit) (fk : Fk) (bd : Bd) (sm : Sm) : Option (D4 × Unit) :=
    fk (decide (List.length x0.2.2.1 ≤ bBa)) (fk (decide (List.length x0.2.2.1 = List.length x0.2.2.1)) (fk (decide (List.length x0.2.1 ≤ bBa)) (fk (decide (List.length x0.2.1 = List.length x0.2.1)) (some ((x0.1, x0.2.2.1, x0.2.1, ()), ())) none) none) none) none
theorem Fjb (x0) : Uja (x0, ()) = Bjb x0 jKa lIa bFb := eqF (S := S66) fun _ _ _ => by kernel_rfl
noncomputable def S67 : OCs := addF S66 Tryz.prog 187 Bqb (.ty Y5) [] Uja
theorem Qwb : fEb Tryz.prog th S67 := Qvb.addF rfl
abbrev Bxb : List Shp := [(.ty Y1)]
noncomputable def Vba : D0 × Unit → Option (D0 × Unit) := jTa (fnT Tryz.prog th (S67 jKa lIa bFb) 147 Bxb (.ty Y1) [])
noncomputable def Lsa (x0 : Int × ByteArray × ByteArray × D4 × Unit) (fk : Fk) (bd : Bd) (sm : Sm) : Option (D0 × Unit) :=
    let z0 := (x0.2.2.2.1.1, x0.2.2.2.1.2.1, x0.2.2.2.1.2.2.1, ())
    fk (x0.1 == (0 : Int)) (some (((1 : Int), x0.2.1, x0.2.2.1, z0, ()), ())) (fk (x0.1 == (1 : Int)) (some (((0 : Int), x0.2.1, x0.2.2.1, z0, ()), ())) (fk (x0.1 == (2 : Int)) (some ((x0.1, x0.2.2.1, x0.2.1, z0, ()), ())) (bd (Uja (z0, ())) fun y0 => some ((x0.1, x0.2.1, x0.2.2.1, (y0.1.1, y0.1.2.1, y0.1.2.2.1, ()), ()), ()))))
theorem Gbb (x0) : Vba (x0, ()) = Lsa x0 jKa lIa bFb := eqF (S := S67) fun _ _ _ => by kernel_rfl
noncomputable def S68 : OCs := addF S67 Tryz.prog 147 Bxb (.ty Y1) [] Vba
theorem Qxb : fEb Tryz.prog th S68 := Qwb.addF rfl
abbrev Eoa : fCa := ⟨[⟨Y1, 72, 6, true⟩], [], [[(.mref 0)], [(.ty (.list Y1))]], [⟨202, 3, [.undef, .undef, .nils, (.bptr 0 0)], .normal, .ready⟩], [(.yield 0), (.bptr 1 0), (.ty (.int .i64))]⟩
abbrev Esa : List sQa := [⟨(.exit 0), ⟨[⟨Y1, 72, 6, true⟩], [], [[(.mref 0)], [(.ty (.list Y1))]], [⟨202, 3, [.undef, .undef, .nils, (.bptr 0 0)], .normal, .ready⟩], [(.yield 0), (.bptr 1 0), (.ty (.int .i64))]⟩⟩]
noncomputable def Aqa : (List D0) × (List D0) × Int × Unit → Option D24 := jTa (pBa (nHa Tryz.prog th (S68 jKa lIa bFb) 238 1 Eoa Esa))
noncomputable def Caa (l0 : List D0) (l1 : List D0) (i2 : Int) (fk : Fk) (bd : Bd) (sm : Sm) : Option (D24 ⊕ D24) :=
    let z0 := (List.getD l1 (Int.toNat i2) ((0 : Int), ByteArray.empty, ByteArray.empty, ((0 : Int), @List.nil ByteArray, @List.nil ByteArray, ()), ()))
    fk (decide (i2 ≥ (0 : Int))) (fk (decide ((0 : Int) ≤ i2)) (fk (decide (i2 < (↑(List.length l1) : Int))) (bd (Vba ((z0.1, z0.2.1, z0.2.2.1, (z0.2.2.2.1.1, z0.2.2.2.1.2.1, z0.2.2.2.1.2.2.1, ()), ()), ())) fun y0 => fk (decide (List.length l0 = List.length l0)) (fk (decide (List.length (l0 ++ (y0.1.1, y0.1.2.1, y0.1.2.2.1, (y0.1.2.2.2.1.1, y0.1.2.2.2.1.2.1, y0.1.2.2.2.1.2.2.1, ()), ()) :: @List.nil D0) ≤ bBa)) (fk (decide (List.length (l0 ++ (y0.1.1, y0.1.2.1, y0.1.2.2.1, (y0.1.2.2.2.1.1, y0.1.2.2.2.1.2.1, y0.1.2.2.2.1.2.2.1, ()), ()) :: @List.nil D0) = List.length (l0 ++ (y0.1.1, y0.1.2.1, y0.1.2.2.1, (y0.1.2.2.2.1.1, y0.1.2.2.2.1.2.1, y0.1.2.2.2.1.2.2.1, ()), ()) :: @List.nil D0))) (some (Sum.inl (l0 ++ (y0.1.1, y0.1.2.1, y0.1.2.2.1, (y0.1.2.2.2.1.1, y0.1.2.2.2.1.2.1, y0.1.2.2.2.1.2.2.1, ()), ()) :: @List.nil D0, l1, IntKind.wrap IntKind.i64 (i2 - (1 : Int)), ()))) none) none) none) none) none) (fk (decide (List.length l0 = List.length l0)) (some (Sum.inr (l0, l1, i2, ()))) none)
theorem Dja (l0 l1 i2) : Aqa (l0, l1, i2, ()) = (Caa l0 l1 i2 jKa lIa bFb).bind (Sum.elim Aqa some) := eqL (S := S68) fun _ _ _ => by kernel_rfl
noncomputable def S69 : OCs := addL S68 Tryz.prog 238 1 Eoa Esa Aqa
theorem Qyb : fEb Tryz.prog th S69 := Qxb.addL (by kernel_rfl) (by kernel_rfl) (by kernel_rfl) rfl
abbrev Bpb : List Shp := [(.ty (.list Y1))]
noncomputable def Ppa : (List D0) × Unit → Option D35 := jTa (fnT Tryz.prog th (S69 jKa lIa bFb) 202 Bpb (.ty (.list Y1)) [])
noncomputable def Bib (l0 : List D0) (fk : Fk) (bd : Bd) (sm : Sm) : Option D35 :=
    fk (decide (List.length (@List.nil D0) = (0 : Nat))) (bd (Aqa (@List.nil D0, l0, IntKind.wrap IntKind.i64 ((↑(List.length l0) : Int) - (1 : Int)), ())) fun y0 => fk (decide (List.length y0.1 = List.length y0.1)) (some (y0.1, ())) none) none
theorem Fhb (l0) : Ppa (l0, ()) = Bib l0 jKa lIa bFb := eqF (S := S69) fun _ _ _ => by kernel_rfl
noncomputable def S70 : OCs := addF S69 Tryz.prog 202 Bpb (.ty (.list Y1)) [] Ppa
theorem Qzb : fEb Tryz.prog th S70 := Qyb.addF rfl
abbrev Lxa : List Shp := [(.ty Y0), (.ty (.list Y1))]
noncomputable def Gba : D1 × (List D0) × Unit → Option (D1 × Unit) := jTa (fnT Tryz.prog th (S70 jKa lIa bFb) 52 Lxa (.ty Y0) [])
noncomputable def Lua (x0 : D3 × (List D3) × ByteArray × (List D0) × Unit) (l1 : List D0) (fk : Fk) (bd : Bd) (sm : Sm) : Option (D1 × Unit) :=
    fk (decide (List.length x0.2.1 ≤ bBa)) (fk (decide (List.length x0.2.1 = List.length x0.2.1)) (some (((x0.1.1, x0.1.2.1, ()), x0.2.1, x0.2.2.1, l1, ()), ())) none) none
theorem Tsa (x0 l1) : Gba (x0, l1, ()) = Lua x0 l1 jKa lIa bFb := eqF (S := S70) fun _ _ _ => by kernel_rfl
noncomputable def S71 : OCs := addF S70 Tryz.prog 52 Lxa (.ty Y0) [] Gba
theorem Rab : fEb Tryz.prog th S71 := Qzb.addF rfl
abbrev Kla : fCa := ⟨[], [], [[(.ty (.int .i64)), (.ty (.int .i64))]], [], [(.ty (.list Y3)), (.bptr 0 0), (.st (.int .i64 0)), (.ty (.int .i64)), (.ty (.int .i64))]⟩
abbrev Kua : List sQa := [⟨.ret, ⟨[], [], [[(.ty (.int .i64)), (.ty (.int .i64))]], [], [(.ty (.list Y3)), (.bptr 0 0), (.ty (.int .i64)), (.ty (.int .i64)), (.ty (.int .i64))]⟩⟩, ⟨(.exit 0), ⟨[], [], [[(.ty (.int .i64)), (.ty (.int .i64))]], [], [(.ty (.list Y3)), (.bptr 0 0), (.st (.int .i64 0)), (.ty (.int .i64)), (.ty (.int .i64))]⟩⟩]
noncomputable def Cha : Int × Int × (List D3) × Int × Int × Unit → Option ((Int × Int × (List D3) × Int × Int × Int × Unit) ⊕ (Int × Int × (List D3) × Int × Int × Unit)) := jTa (pBa (nHa Tryz.prog th (S71 jKa lIa bFb) 103 2 Kla Kua))
noncomputable def Cxa (i0 : Int) (i1 : Int) (l2 : List D3) (i3 : Int) (i4 : Int) (fk : Fk) (bd : Bd) (sm : Sm) : Option ((Int × Int × (List D3) × Int × Int × Unit) ⊕ ((Int × Int × (List D3) × Int × Int × Int × Unit) ⊕ (Int × Int × (List D3) × Int × Int × Unit))) :=
    fk (decide (i4 < i3)) (fk (decide ((0 : Int) ≤ i4)) (fk (decide (i4 < (↑(List.length l2) : Int))) (fk (i0 == (List.getD l2 (Int.toNat i4) ((0 : Int), (0 : Int), ())).1 && (i1 == (List.getD l2 (Int.toNat i4) ((0 : Int), (0 : Int), ())).2.1 && true)) (some (Sum.inr (Sum.inl (i0, i1, l2, i4, i3, i4, ())))) (some (Sum.inl (i0, i1, l2, i3, IntKind.wrap IntKind.i64 (i4 + (1 : Int)), ())))) none) none) (some (Sum.inr (Sum.inr (i0, i1, l2, i3, i4, ()))))
theorem Jda (i0 i1 l2 i3 i4) : Cha (i0, i1, l2, i3, i4, ()) = (Cxa i0 i1 l2 i3 i4 jKa lIa bFb).bind (Sum.elim Cha some) := eqL (S := S71) fun _ _ _ => by kernel_rfl
noncomputable def S72 : OCs := addL S71 Tryz.prog 103 2 Kla Kua Cha
theorem Rbb : fEb Tryz.prog th S72 := Rab.addL (by kernel_rfl) (by kernel_rfl) (by kernel_rfl) rfl
abbrev Nza : List Shp := [(.ty (.list Y3)), (.ty Y3)]
noncomputable def Hwa : (List D3) × D3 × Unit → Option (Int × Unit) := jTa (fnT Tryz.prog th (S72 jKa lIa bFb) 103 Nza (.ty (.int .i64)) [])
noncomputable def Nva (l0 : List D3) (x1 : Int × Int × Unit) (fk : Fk) (bd : Bd) (sm : Sm) : Option (Int × Unit) :=
    bd (Cha (x1.1, x1.2.1, l0, (↑(List.length l0) : Int), (0 : Int), ())) fun y0 => sm y0 (fun y1 => some (y1.2.2.2.1, ())) fun y2 => some ((-1 : Int), ())
theorem Vka (l0 x1) : Hwa (l0, x1, ()) = Nva l0 x1 jKa lIa bFb := eqF (S := S72) fun _ _ _ => by kernel_rfl
noncomputable def S73 : OCs := addF S72 Tryz.prog 103 Nza (.ty (.int .i64)) [] Hwa
theorem Rcb : fEb Tryz.prog th S73 := Rbb.addF rfl
abbrev Kia : List Shp := [(.ty (.list Y3)), (.ty Y3)]
noncomputable def Cga : (List D3) × D3 × Unit → Option (Bool × Unit) := jTa (fnT Tryz.prog th (S73 jKa lIa bFb) 51 Kia (.ty .bool) [])
noncomputable def Kea (l0 : List D3) (x1 : Int × Int × Unit) (fk : Fk) (bd : Bd) (sm : Sm) : Option (Bool × Unit) :=
    bd (Hwa (l0, (x1.1, x1.2.1, ()), ())) fun y0 => some (decide (y0.1 ≥ (0 : Int)), ())
theorem Qta (l0 x1) : Cga (l0, x1, ()) = Kea l0 x1 jKa lIa bFb := eqF (S := S73) fun _ _ _ => by kernel_rfl
noncomputable def S74 : OCs := addF S73 Tryz.prog 51 Kia (.ty .bool) [] Cga
theorem Rdb : fEb Tryz.prog th S74 := Rcb.addF rfl
abbrev Zea : List Shp := [(.ty Y0), (.ty Y0)]
noncomputable def Cnb : D1 × D1 × Unit → Option (D1 × D1 × Bool × Unit) := jTa (fnT Tryz.prog th (S74 jKa lIa bFb) 17 Zea (.tuple [(.ty Y0), (.ty Y0), (.ty .bool)]) [])
noncomputable def S75 : OCs := addF S74 Tryz.prog 17 Zea (.tuple [(.ty Y0), (.ty Y0), (.ty .bool)]) [] Cnb
theorem Reb : fEb Tryz.prog th S75 := Rdb.addF rfl
abbrev Dva : fCa := ⟨[⟨Y0, 40, 5, true⟩, ⟨Y0, 40, 5, true⟩], [], [[(.ty (.int .i64)), (.ty (.int .i64)), (.ty (.list Y3)), (.ty .str), (.ty (.list Y1))], [(.st (.int .i64 0)), (.st (.int .i64 0)), .nils, (.st (.string ⟨#[]⟩)), .nils], [(.mref 0)], [(.st (.bool false))], [(.mref 1)], [(.ty (.list Y0))]], [⟨167, 5, [.undef, .undef, .undef, (.bptr 0 0), (.bptr 1 0), (.bptr 2 0), (.bptr 3 0), .undef, (.bptr 4 0)], .normal, .ready⟩], [(.yield 0), (.bptr 5 0), (.ty (.int .i64))]⟩
abbrev Dxa : List sQa := [⟨.ret, ⟨[⟨Y0, 40, 5, true⟩, ⟨Y0, 40, 5, true⟩], [], [[(.ty (.int .i64)), (.ty (.int .i64)), (.ty (.list Y3)), (.ty .str), (.ty (.list Y1))], [(.st (.int .i64 0)), (.st (.int .i64 0)), .nils, (.st (.string ⟨#[]⟩)), .nils], [.nils], [(.st (.bool false))], [(.mref 1)], [(.ty (.list Y0))]], [⟨167, 5, [.undef, .undef, .undef, (.bptr 0 0), (.bptr 1 0), (.bptr 2 0), (.bptr 3 0), .undef, (.bptr 4 0)], .ret, .done⟩], [(.yield 0), (.bptr 5 0), (.ty (.int .i64))]⟩⟩, ⟨(.exit 0), ⟨[⟨Y0, 40, 5, true⟩, ⟨Y0, 40, 5, true⟩], [], [[(.ty (.int .i64)), (.ty (.int .i64)), (.ty (.list Y3)), (.ty .str), (.ty (.list Y1))], [(.st (.int .i64 0)), (.st (.int .i64 0)), .nils, (.st (.string ⟨#[]⟩)), .nils], [(.mref 0)], [(.st (.bool false))], [(.mref 1)], [(.ty (.list Y0))]], [⟨167, 5, [.undef, .undef, .undef, (.bptr 0 0), (.bptr 1 0), (.bptr 2 0), (.bptr 3 0), .undef, (.bptr 4 0)], .normal, .ready⟩], [(.yield 0), (.bptr 5 0), (.ty (.int .i64))]⟩⟩]
noncomputable def Ana : (List D1) × (List D1) × Int × Int × (List D3) × ByteArray × (List D0) × (List D1) × Int × Unit → Option (D17 ⊕ D17) := jTa (pBa (nHa Tryz.prog th (S75 jKa lIa bFb) 226 1 Dva Dxa))
noncomputable def Dra (l0 : List D1) (l1 : List D1) (i2 : Int) (i3 : Int) (l4 : List D3) (s5 : ByteArray) (l6 : List D0) (l7 : List D1) (i8 : Int) (fk : Fk) (bd : Bd) (sm : Sm) : Option (D17 ⊕ (D17 ⊕ D17)) :=
    let z0 := (List.getD l7 (Int.toNat i8) (((0 : Int), (0 : Int), ()), @List.nil D3, ByteArray.empty, @List.nil D0, ()))
    fk (decide (i8 ≥ (0 : Int))) (fk (decide ((0 : Int) ≤ i8)) (fk (decide (i8 < (↑(List.length l7) : Int))) (bd (Cnb (((z0.1.1, z0.1.2.1, ()), z0.2.1, z0.2.2.1, z0.2.2.2.1, ()), ((i2, i3, ()), l4, s5, l6, ()), ())) fun y0 => fk (!y0.2.2.1) (fk (decide (List.length l1 = List.length l1)) (some (Sum.inr (Sum.inl (l0, l1, i2, i3, l4, s5, l6, l7, i8, ())))) none) (fk (decide (List.length l1 = List.length l1)) (fk (decide (List.length (l1 ++ ((y0.2.1.1.1, y0.2.1.1.2.1, ()), y0.2.1.2.1, y0.2.1.2.2.1, y0.2.1.2.2.2.1, ()) :: @List.nil D5) ≤ bBa)) (fk (decide (List.length l0 = List.length l0)) (fk (decide (List.length (l1 ++ ((y0.2.1.1.1, y0.2.1.1.2.1, ()), y0.2.1.2.1, y0.2.1.2.2.1, y0.2.1.2.2.2.1, ()) :: @List.nil D5) = List.length (l1 ++ ((y0.2.1.1.1, y0.2.1.1.2.1, ()), y0.2.1.2.1, y0.2.1.2.2.1, y0.2.1.2.2.2.1, ()) :: @List.nil D5))) (some (Sum.inl (l0, l1 ++ ((y0.2.1.1.1, y0.2.1.1.2.1, ()), y0.2.1.2.1, y0.2.1.2.2.1, y0.2.1.2.2.2.1, ()) :: @List.nil D5, y0.1.1.1, y0.1.1.2.1, y0.1.2.1, y0.1.2.2.1, y0.1.2.2.2.1, l7, IntKind.wrap IntKind.i64 (i8 - (1 : Int)), ()))) none) none) none) none)) none) none) (fk (decide (List.length l0 = List.length l0)) (fk (decide (List.length l1 = List.length l1)) (some (Sum.inr (Sum.inr (l0, l1, i2, i3, l4, s5, l6, l7, i8, ())))) none) none)
theorem Jha (l0 l1 i2 i3 l4 s5 l6 l7 i8) : Ana (l0, l1, i2, i3, l4, s5, l6, l7, i8, ()) = (Dra l0 l1 i2 i3 l4 s5 l6 l7 i8 jKa lIa bFb).bind (Sum.elim Ana some) := eqL (S := S75) fun _ _ _ => by kernel_rfl
noncomputable def S76 : OCs := addL S75 Tryz.prog 226 1 Dva Dxa Ana
theorem Rfb : fEb Tryz.prog th S76 := Reb.addL (by kernel_rfl) (by kernel_rfl) (by kernel_rfl) rfl
abbrev Gla : fCa := ⟨[⟨Y0, 40, 5, true⟩, ⟨Y0, 40, 5, true⟩], [], [[(.ty (.int .i64)), (.ty (.int .i64)), (.ty (.list Y3)), (.ty .str), (.ty (.list Y1))], [(.st (.int .i64 0)), (.st (.int .i64 0)), .nils, (.st (.string ⟨#[]⟩)), .nils], [(.mref 0)], [(.st (.bool false))], [(.mref 1)], [(.ty (.list Y0))]], [], [(.mref 1), (.ty (.int .i64)), (.ty (.int .i64))]⟩
abbrev Gra : List sQa := [⟨(.exit 0), ⟨[⟨Y0, 40, 5, true⟩, ⟨Y0, 40, 5, true⟩], [], [[(.ty (.int .i64)), (.ty (.int .i64)), (.ty (.list Y3)), (.ty .str), (.ty (.list Y1))], [(.st (.int .i64 0)), (.st (.int .i64 0)), .nils, (.st (.string ⟨#[]⟩)), .nils], [(.mref 0)], [(.st (.bool false))], [(.mref 1)], [(.ty (.list Y0))]], [], [(.mref 1), (.ty (.int .i64)), (.ty (.int .i64))]⟩⟩]
noncomputable def Bga : (List D1) × (List D1) × Int × Int × (List D3) × ByteArray × (List D0) × (List D1) × Int × Int × Unit → Option D31 := jTa (pBa (nHa Tryz.prog th (S76 jKa lIa bFb) 204 1 Gla Gra))
noncomputable def Gga (l0 : List D1) (l1 : List D1) (i2 : Int) (i3 : Int) (l4 : List D3) (s5 : ByteArray) (l6 : List D0) (l7 : List D1) (i8 : Int) (i9 : Int) (fk : Fk) (bd : Bd) (sm : Sm) : Option (D31 ⊕ D31) :=
    let z0 := (Ty.dfl (Ty.pair (Ty.pair (Ty.int IntKind.i64) (Ty.pair (Ty.int IntKind.i64) Ty.unit)) (Ty.pair (Ty.list (Ty.pair (Ty.int IntKind.i64) (Ty.pair (Ty.int IntKind.i64) Ty.unit))) (Ty.pair Ty.str (Ty.pair (Ty.list (Ty.pair (Ty.int IntKind.i64) (Ty.pair Ty.str (Ty.pair Ty.str (Ty.pair (Ty.pair (Ty.int IntKind.i64) (Ty.pair (Ty.list Ty.str) (Ty.pair (Ty.list Ty.str) Ty.unit))) Ty.unit))))) Ty.unit)))))
    let z1 := (List.set l1 (Int.toNat i8) (((List.getD l1 (Int.toNat i9) z0).1.1, (List.getD l1 (Int.toNat i9) z0).1.2.1, ()), (List.getD l1 (Int.toNat i9) z0).2.1, (List.getD l1 (Int.toNat i9) z0).2.2.1, (List.getD l1 (Int.toNat i9) z0).2.2.2.1, ()))
    let z2 := (((List.getD l1 (Int.toNat i8) z0).1.1, (List.getD l1 (Int.toNat i8) z0).1.2.1, ()), (List.getD l1 (Int.toNat i8) z0).2.1, (List.getD l1 (Int.toNat i8) z0).2.2.1, (List.getD l1 (Int.toNat i8) z0).2.2.2.1, ())
    let z3 := (decide (List.length l1 = List.length l1))
    fk (decide (i8 < i9)) (fk (decide ((0 : Int) ≤ i9)) (fk z3 (fk (decide (i9 < (↑(List.length l1) : Int))) (fk z3 (fk (decide (Int.toNat i9 < List.length l1)) (fk (decide ((0 : Int) ≤ i8)) (fk z3 (fk (decide (i8 < (↑(List.length l1) : Int))) (fk z3 (fk (decide (Int.toNat i8 < List.length l1)) (fk (decide ((0 : Int) ≤ i8)) (fk z3 (fk (decide (i8 < (↑(List.length l1) : Int))) (fk z3 (fk (decide (Int.toNat i8 < List.length l1)) (fk (decide ((0 : Int) ≤ i9)) (fk (decide (List.length z1 = List.length l1)) (fk (decide (i9 < (↑(List.length l1) : Int))) (fk (decide (List.length z1 = List.length l1)) (fk (decide (Int.toNat i9 < List.length l1)) (fk (decide (List.length (List.set z1 (Int.toNat i9) z2) = List.length l1)) (fk (decide (List.length l0 = List.length l0)) (fk (decide (List.length (List.set z1 (Int.toNat i9) z2) = List.length l1)) (some (Sum.inl (l0, List.set z1 (Int.toNat i9) z2, i2, i3, l4, s5, l6, l7, IntKind.wrap IntKind.i64 (i8 + (1 : Int)), IntKind.wrap IntKind.i64 (i9 - (1 : Int)), ()))) none) none) none) none) none) none) none) none) none) none) none) none) none) none) none) none) none) none) none) none) none) none) none) (fk z3 (fk (decide (List.length l0 = List.length l0)) (fk z3 (some (Sum.inr (l0, l1, i2, i3, l4, s5, l6, l7, i8, i9, ()))) none) none) none)
theorem Lda (l0 l1 i2 i3 l4 s5 l6 l7 i8 i9) : Bga (l0, l1, i2, i3, l4, s5, l6, l7, i8, i9, ()) = (Gga l0 l1 i2 i3 l4 s5 l6 l7 i8 i9 jKa lIa bFb).bind (Sum.elim Bga some) := eqL (S := S76) fun _ _ _ => by kernel_rfl
noncomputable def S77 : OCs := addL S76 Tryz.prog 204 1 Gla Gra Bga
theorem Rgb : fEb Tryz.prog th S77 := Rfb.addL (by kernel_rfl) (by kernel_rfl) (by kernel_rfl) rfl
abbrev Zda : List Shp := [(.ty (.list Y0)), (.ty Y0)]
noncomputable def Jza : (List D1) × D1 × Unit → Option ((List D1) × D1 × Bool × Unit) := jTa (fnT Tryz.prog th (S77 jKa lIa bFb) 167 Zda (.tuple [(.ty Y0), (.mref 0), (.ty .bool)]) [⟨Y0, 40, 5, true⟩])
noncomputable def Yha (l0 : List D1) (x1 : D3 × (List D3) × ByteArray × (List D0) × Unit) (fk : Fk) (bd : Bd) (sm : Sm) : Option ((List D1) × D1 × Bool × Unit) :=
    let z0 := (decide (List.length (@List.nil D5) = (0 : Nat)))
    bd (Ppa (x1.2.2.2.1, ())) fun y0 => bd (Ppa (y0.1, ())) fun y1 => bd (Gba (((x1.1.1, x1.1.2.1, ()), x1.2.1, x1.2.2.1, x1.2.2.2.1, ()), y1.1, ())) fun y2 => fk z0 (fk z0 (bd (Ana (@List.nil D5, @List.nil D5, y2.1.1.1, y2.1.1.2.1, y2.1.2.1, y2.1.2.2.1, y2.1.2.2.2.1, l0, IntKind.wrap IntKind.i64 ((↑(List.length l0) : Int) - (1 : Int)), ())) fun y3 => sm y3 (fun y4 => fk z0 (some (@List.nil D5, (((0 : Int), (0 : Int), ()), @List.nil D3, ByteArray.empty, @List.nil D0, ()), false, ())) none) fun y5 => fk (decide (List.length y5.2.1 = List.length y5.2.1)) (fk (decide (List.length y5.2.1 = List.length y5.2.1)) (fk (decide (List.length y5.1 = List.length y5.1)) (fk (decide (List.length y5.2.1 = List.length y5.2.1)) (bd (Bga (y5.1, y5.2.1, y5.2.2.1, y5.2.2.2.1, y5.2.2.2.2.1, y5.2.2.2.2.2.1, y5.2.2.2.2.2.2.1, y5.2.2.2.2.2.2.2.1, (0 : Int), IntKind.wrap IntKind.i64 ((↑(List.length y5.2.1) : Int) - (1 : Int)), ())) fun y6 => fk (decide (List.length y6.2.1 = List.length y6.2.1)) (fk (decide (List.length y6.2.1 = List.length y6.2.1)) (some (y6.2.1, ((y6.2.2.1, y6.2.2.2.1, ()), y6.2.2.2.2.1, y6.2.2.2.2.2.1, y6.2.2.2.2.2.2.1, ()), true, ())) none) none) none) none) none) none) none) none
theorem Eeb (l0 x1) : Jza (l0, x1, ()) = Yha l0 x1 jKa lIa bFb := eqF (S := S77) fun _ _ _ => by kernel_rfl
noncomputable def S78 : OCs := addF S77 Tryz.prog 167 Zda (.tuple [(.ty Y0), (.mref 0), (.ty .bool)]) [⟨Y0, 40, 5, true⟩] Jza
theorem Rhb : fEb Tryz.prog th S78 := Rgb.addF rfl
abbrev Sca : fCa := ⟨[⟨Y0, 40, 5, true⟩], [], [], [], [.nils, (.mref 0), (.ty (.list Y0)), (.ty (.int .i64)), (.ty (.int .i64))]⟩
abbrev Spa : List sQa := [⟨(.exit 0), ⟨[⟨Y0, 40, 5, true⟩], [], [], [], [.nils, (.mref 0), (.ty (.list Y0)), (.ty (.int .i64)), (.ty (.int .i64))]⟩⟩]
noncomputable def Haa : (List D1) × (List D1) × Int × Int × Unit → Option ((List D1) × (List D1) × Int × Int × Unit) := jTa (pBa (nHa Tryz.prog th (S78 jKa lIa bFb) 127 3 Sca Spa))
noncomputable def Lpa (l0 : List D1) (l1 : List D1) (i2 : Int) (i3 : Int) (fk : Fk) (bd : Bd) (sm : Sm) : Option (((List D1) × (List D1) × Int × Int × Unit) ⊕ ((List D1) × (List D1) × Int × Int × Unit)) :=
    let z0 := (List.getD l1 (Int.toNat i3) (((0 : Int), (0 : Int), ()), @List.nil D3, ByteArray.empty, @List.nil D0, ()))
    fk (decide (i3 < i2)) (fk (decide ((0 : Int) ≤ i3)) (fk (decide (i3 < (↑(List.length l1) : Int))) (bd (Jza (@List.nil D5, ((z0.1.1, z0.1.2.1, ()), z0.2.1, z0.2.2.1, z0.2.2.2.1, ()), ())) fun y0 => fk (decide (List.length y0.1 = List.length y0.1)) (fk (decide (List.length l0 = List.length l0)) (fk (decide (List.length (l0 ++ ((y0.2.1.1.1, y0.2.1.1.2.1, ()), y0.2.1.2.1, y0.2.1.2.2.1, y0.2.1.2.2.2.1, ()) :: @List.nil D5) ≤ bBa)) (fk (decide (List.length (l0 ++ ((y0.2.1.1.1, y0.2.1.1.2.1, ()), y0.2.1.2.1, y0.2.1.2.2.1, y0.2.1.2.2.2.1, ()) :: @List.nil D5) = List.length (l0 ++ ((y0.2.1.1.1, y0.2.1.1.2.1, ()), y0.2.1.2.1, y0.2.1.2.2.1, y0.2.1.2.2.2.1, ()) :: @List.nil D5))) (some (Sum.inl (l0 ++ ((y0.2.1.1.1, y0.2.1.1.2.1, ()), y0.2.1.2.1, y0.2.1.2.2.1, y0.2.1.2.2.2.1, ()) :: @List.nil D5, l1, i2, IntKind.wrap IntKind.i64 (i3 + (1 : Int)), ()))) none) none) none) none) none) none) (fk (decide (List.length l0 = List.length l0)) (some (Sum.inr (l0, l1, i2, i3, ()))) none)
theorem Oaa (l0 l1 i2 i3) : Haa (l0, l1, i2, i3, ()) = (Lpa l0 l1 i2 i3 jKa lIa bFb).bind (Sum.elim Haa some) := eqL (S := S78) fun _ _ _ => by kernel_rfl
noncomputable def S79 : OCs := addL S78 Tryz.prog 127 3 Sca Spa Haa
theorem Rib : fEb Tryz.prog th S79 := Rhb.addL (by kernel_rfl) (by kernel_rfl) (by kernel_rfl) rfl
abbrev Yma : List Shp := [(.ty (.list Y0))]
noncomputable def Raa : (List D1) × Unit → Option ((List D1) × Unit) := jTa (fnT Tryz.prog th (S79 jKa lIa bFb) 127 Yma (.ty (.list Y0)) [])
noncomputable def Xva (l0 : List D1) (fk : Fk) (bd : Bd) (sm : Sm) : Option ((List D1) × Unit) :=
    fk (decide (List.length (@List.nil D5) = (0 : Nat))) (bd (Haa (@List.nil D5, l0, (↑(List.length l0) : Int), (0 : Int), ())) fun y0 => fk (decide (List.length y0.1 = List.length y0.1)) (some (y0.1, ())) none) none
theorem Cpb (l0) : Raa (l0, ()) = Xva l0 jKa lIa bFb := eqF (S := S79) fun _ _ _ => by kernel_rfl
noncomputable def S80 : OCs := addF S79 Tryz.prog 127 Yma (.ty (.list Y0)) [] Raa
theorem Rjb : fEb Tryz.prog th S80 := Rib.addF rfl
abbrev Pra : fCa := ⟨[⟨Y0, 40, 5, true⟩, ⟨Y0, 40, 5, true⟩], [], [[(.mref 0), (.mref 1)]], [], [(.ty (.list Y3)), .nils, .nils, (.bptr 0 0), (.func 126 [(.bptr 0 0)] []), (.ty (.list Y0)), (.ty (.int .i64)), (.st (.int .i64 0))]⟩
abbrev Qga : List sQa := [⟨.normal, ⟨[⟨Y0, 40, 5, true⟩, ⟨Y0, 40, 5, false⟩], [], [[(.mref 0), (.mref 1)]], [], [(.ty (.list Y3)), .nils, .nils, (.bptr 0 0), (.func 126 [(.bptr 0 0)] []), (.ty (.list Y0)), (.ty (.int .i64)), (.st (.int .i64 1))]⟩⟩, ⟨(.exit 0), ⟨[⟨Y0, 40, 5, true⟩, ⟨Y0, 40, 5, true⟩], [], [[(.mref 0), (.mref 1)]], [], [(.ty (.list Y3)), .nils, .nils, (.bptr 0 0), (.func 126 [(.bptr 0 0)] []), (.ty (.list Y0)), (.ty (.int .i64)), (.st (.int .i64 0))]⟩⟩]
noncomputable def Cka : (List D1) × (List D1) × (List D3) × (List D1) × Int × Unit → Option (D28 ⊕ D28) := jTa (pBa (nHa Tryz.prog th (S80 jKa lIa bFb) 81 4 Pra Qga))
noncomputable def Gua (l0 : List D1) (l1 : List D1) (l2 : List D3) (l3 : List D1) (i4 : Int) (fk : Fk) (bd : Bd) (sm : Sm) : Option (D28 ⊕ (D28 ⊕ D28)) :=
    let z0 := (List.getD l3 (Int.toNat (0 : Int)) (((0 : Int), (0 : Int), ()), @List.nil D3, ByteArray.empty, @List.nil D0, ()))
    let z3 := ((z0.1.1, z0.1.2.1, ()), z0.2.1, z0.2.2.1, z0.2.2.2.1, ())
    let z1 := (l1 ++ z3 :: @List.nil D5)
    let z2 := (fk (decide (List.length l1 = List.length l1)) (fk (decide (List.length z1 ≤ bBa)) (fk (decide (List.length l0 = List.length l0)) (fk (decide (List.length z1 = List.length z1)) (some (Sum.inr (Sum.inl (l0, l1 ++ z3 :: @List.nil D5, l2, l3, i4, ())))) none) none) none) none)
    fk (decide ((0 : Int) < i4)) (fk (decide ((0 : Int) < (↑(List.length l3) : Int))) (bd (Cga (l2, (z0.1.1, z0.1.2.1, ()), ())) fun y0 => fk (decide (List.length l1 = List.length l1)) (bd (Jza (l1, z3, ())) fun y1 => fk y0.1 z2 (fk (!y1.2.2.1) z2 (fk (decide (List.length l0 = List.length l0)) (fk (decide (List.length (l0 ++ ((y1.2.1.1.1, y1.2.1.1.2.1, ()), y1.2.1.2.1, y1.2.1.2.2.1, y1.2.1.2.2.2.1, ()) :: @List.nil D5) ≤ bBa)) (fk (decide (List.length (l0 ++ ((y1.2.1.1.1, y1.2.1.1.2.1, ()), y1.2.1.2.1, y1.2.1.2.2.1, y1.2.1.2.2.2.1, ()) :: @List.nil D5) = List.length (l0 ++ ((y1.2.1.1.1, y1.2.1.1.2.1, ()), y1.2.1.2.1, y1.2.1.2.2.1, y1.2.1.2.2.2.1, ()) :: @List.nil D5))) (fk (decide (List.length y1.1 = List.length y1.1)) (some (Sum.inr (Sum.inl (l0 ++ ((y1.2.1.1.1, y1.2.1.1.2.1, ()), y1.2.1.2.1, y1.2.1.2.2.1, y1.2.1.2.2.2.1, ()) :: @List.nil D5, y1.1, l2, l3, i4, ())))) none) none) none) none))) none) none) (fk (decide (List.length l0 = List.length l0)) (fk (decide (List.length l1 = List.length l1)) (some (Sum.inr (Sum.inr (l0, l1, l2, l3, i4, ())))) none) none)
theorem Iea (l0 l1 l2 l3 i4) : Cka (l0, l1, l2, l3, i4, ()) = (Gua l0 l1 l2 l3 i4 jKa lIa bFb).bind (Sum.elim Cka some) := eqL (S := S80) fun _ _ _ => by kernel_rfl
noncomputable def S81 : OCs := addL S80 Tryz.prog 81 4 Pra Qga Cka
theorem Rkb : fEb Tryz.prog th S81 := Rjb.addL (by kernel_rfl) (by kernel_rfl) (by kernel_rfl) rfl
abbrev Ofa : fCa := ⟨[⟨Y0, 40, 5, true⟩, ⟨Y0, 40, 5, false⟩], [], [[(.mref 0), (.mref 1)]], [], [(.ty (.list Y3)), .nils, .nils, (.bptr 0 0), (.func 126 [(.bptr 0 0)] []), (.ty (.list Y0)), (.ty (.int .i64)), (.ty (.int .i64))]⟩
abbrev Oja : List sQa := [⟨(.exit 0), ⟨[⟨Y0, 40, 5, true⟩, ⟨Y0, 40, 5, false⟩], [], [[(.mref 0), (.mref 1)]], [], [(.ty (.list Y3)), .nils, .nils, (.bptr 0 0), (.func 126 [(.bptr 0 0)] []), (.ty (.list Y0)), (.ty (.int .i64)), (.ty (.int .i64))]⟩⟩]
noncomputable def Cta : (List D1) × (List D1) × (List D3) × (List D1) × Int × Int × Unit → Option ((List D1) × (List D1) × (List D3) × (List D1) × Int × Int × Unit) := jTa (pBa (nHa Tryz.prog th (S81 jKa lIa bFb) 81 4 Ofa Oja))
noncomputable def Fya (l0 : List D1) (l1 : List D1) (l2 : List D3) (l3 : List D1) (i4 : Int) (i5 : Int) (fk : Fk) (bd : Bd) (sm : Sm) : Option (((List D1) × (List D1) × (List D3) × (List D1) × Int × Int × Unit) ⊕ ((List D1) × (List D1) × (List D3) × (List D1) × Int × Int × Unit)) :=
    let z0 := (List.getD l3 (Int.toNat i5) (((0 : Int), (0 : Int), ()), @List.nil D3, ByteArray.empty, @List.nil D0, ()))
    let z3 := ((z0.1.1, z0.1.2.1, ()), z0.2.1, z0.2.2.1, z0.2.2.2.1, ())
    let z2 := (l1 ++ z3 :: @List.nil D5)
    let z1 := (fk (decide (List.length l1 = List.length l1)) (fk (decide (List.length z2 ≤ bBa)) (fk (decide (List.length l0 = List.length l0)) (fk (decide (List.length z2 = List.length z2)) (some (Sum.inl (l0, l1 ++ z3 :: @List.nil D5, l2, l3, i4, IntKind.wrap IntKind.i64 (i5 + (1 : Int)), ()))) none) none) none) none)
    fk (decide (i5 < i4)) (fk (decide ((0 : Int) ≤ i5)) (fk (decide (i5 < (↑(List.length l3) : Int))) (bd (Cga (l2, (z0.1.1, z0.1.2.1, ()), ())) fun y0 => fk (decide (List.length l1 = List.length l1)) (bd (Jza (l1, z3, ())) fun y1 => fk y0.1 z1 (fk (!y1.2.2.1) z1 (fk (decide (List.length l0 = List.length l0)) (fk (decide (List.length (l0 ++ ((y1.2.1.1.1, y1.2.1.1.2.1, ()), y1.2.1.2.1, y1.2.1.2.2.1, y1.2.1.2.2.2.1, ()) :: @List.nil D5) ≤ bBa)) (fk (decide (List.length (l0 ++ ((y1.2.1.1.1, y1.2.1.1.2.1, ()), y1.2.1.2.1, y1.2.1.2.2.1, y1.2.1.2.2.2.1, ()) :: @List.nil D5) = List.length (l0 ++ ((y1.2.1.1.1, y1.2.1.1.2.1, ()), y1.2.1.2.1, y1.2.1.2.2.1, y1.2.1.2.2.2.1, ()) :: @List.nil D5))) (fk (decide (List.length y1.1 = List.length y1.1)) (some (Sum.inl (l0 ++ ((y1.2.1.1.1, y1.2.1.1.2.1, ()), y1.2.1.2.1, y1.2.1.2.2.1, y1.2.1.2.2.2.1, ()) :: @List.nil D5, y1.1, l2, l3, i4, IntKind.wrap IntKind.i64 (i5 + (1 : Int)), ()))) none) none) none) none))) none) none) none) (fk (decide (List.length l0 = List.length l0)) (fk (decide (List.length l1 = List.length l1)) (some (Sum.inr (l0, l1, l2, l3, i4, i5, ()))) none) none)
theorem Gza (l0 l1 l2 l3 i4 i5) : Cta (l0, l1, l2, l3, i4, i5, ()) = (Fya l0 l1 l2 l3 i4 i5 jKa lIa bFb).bind (Sum.elim Cta some) := eqL (S := S81) fun _ _ _ => by kernel_rfl
noncomputable def S82 : OCs := addL S81 Tryz.prog 81 4 Ofa Oja Cta
theorem Rlb : fEb Tryz.prog th S82 := Rkb.addL (by kernel_rfl) (by kernel_rfl) (by kernel_rfl) rfl
abbrev Wia : List Shp := [(.ty (.list Y0)), (.ty (.list Y3))]
noncomputable def Dua : (List D1) × (List D3) × Unit → Option ((List D1) × (List D1) × Unit) := jTa (fnT Tryz.prog th (S82 jKa lIa bFb) 81 Wia (.tuple [(.mref 0), (.ty (.list Y0))]) [⟨Y0, 40, 5, true⟩])
noncomputable def Lea (l0 : List D1) (l1 : List D3) (fk : Fk) (bd : Bd) (sm : Sm) : Option ((List D1) × (List D1) × Unit) :=
    let z0 := (decide (List.length (@List.nil D5) = (0 : Nat)))
    bd (Raa (l0, ())) fun y0 => fk z0 (fk z0 (bd (Cka (@List.nil D5, @List.nil D5, l1, y0.1, (↑(List.length y0.1) : Int), ())) fun y1 => sm y1 (fun y2 => fk (decide (List.length y2.1 = List.length y2.1)) (fk (decide (List.length y2.2.1 = List.length y2.2.1)) (bd (Cta (y2.1, y2.2.1, y2.2.2.1, y2.2.2.2.1, y2.2.2.2.2.1, (1 : Int), ())) fun y3 => fk (decide (List.length y3.1 = List.length y3.1)) (fk (decide (List.length y3.2.1 = List.length y3.2.1)) (fk (decide (List.length y3.1 = List.length y3.1)) (some (y3.1, y3.2.1, ())) none) none) none) none) none) fun y4 => fk (decide (List.length y4.1 = List.length y4.1)) (fk (decide (List.length y4.2.1 = List.length y4.2.1)) (fk (decide (List.length y4.1 = List.length y4.1)) (some (y4.1, y4.2.1, ())) none) none) none) none) none
theorem Anb (l0 l1) : Dua (l0, l1, ()) = Lea l0 l1 jKa lIa bFb := eqF (S := S82) fun _ _ _ => by kernel_rfl
noncomputable def S83 : OCs := addF S82 Tryz.prog 81 Wia (.tuple [(.mref 0), (.ty (.list Y0))]) [⟨Y0, 40, 5, true⟩] Dua
theorem Rmb : fEb Tryz.prog th S83 := Rlb.addF rfl
abbrev Ewb : List Shp := [(.ty Y2)]
noncomputable def Hua : (List D2) × Unit → Option D36 := jTa (fnT Tryz.prog th (S83 jKa lIa bFb) 58 Ewb (.ty Y2) [])
noncomputable def Enb (l0 : List D2) (fk : Fk) (bd : Bd) (sm : Sm) : Option D36 :=
    bd (Rqa (l0, ByteArray.empty, ())) fun y0 => some (y0.1, ())
theorem Hib (l0) : Hua (l0, ()) = Enb l0 jKa lIa bFb := eqF (S := S83) fun _ _ _ => by kernel_rfl
noncomputable def S84 : OCs := addF S83 Tryz.prog 58 Ewb (.ty Y2) [] Hua
theorem Rnb : fEb Tryz.prog th S84 := Rmb.addF rfl
abbrev Iaa : fCa := ⟨[], [], [], [], [(.ty (.list Y2)), .nils, (.ty (.int .i64)), (.ty (.list Y2)), (.ty (.int .i64)), (.ty (.int .i64))]⟩
abbrev Iba : List sQa := [⟨(.exit 0), ⟨[], [], [], [], [(.ty (.list Y2)), .nils, (.ty (.int .i64)), (.ty (.list Y2)), (.ty (.int .i64)), (.ty (.int .i64))]⟩⟩]
noncomputable def Bpa : (List (List D2)) × Int × (List (List D2)) × Int × Int × Unit → Option ((List (List D2)) × Int × (List (List D2)) × Int × Int × Unit) := jTa (pBa (nHa Tryz.prog th (S84 jKa lIa bFb) 155 3 Iaa Iba))
noncomputable def Dga (l0 : List (List D2)) (i1 : Int) (l2 : List (List D2)) (i3 : Int) (i4 : Int) (fk : Fk) (bd : Bd) (sm : Sm) : Option (((List (List D2)) × Int × (List (List D2)) × Int × Int × Unit) ⊕ ((List (List D2)) × Int × (List (List D2)) × Int × Int × Unit)) :=
    fk (decide (i4 < i3)) (fk (decide ((0 : Int) ≤ i4)) (fk (decide (i4 < (↑(List.length l2) : Int))) (fk (decide (IntKind.wrap IntKind.i64 (i1 + (↑(List.length (List.getD l2 (Int.toNat i4) (@List.nil D2))) : Int)) < (0 : Int))) none (some (Sum.inl (l0, IntKind.wrap IntKind.i64 (i1 + (↑(List.length (List.getD l2 (Int.toNat i4) (@List.nil D2))) : Int)), l2, i3, IntKind.wrap IntKind.i64 (i4 + (1 : Int)), ())))) none) none) (some (Sum.inr (l0, i1, l2, i3, i4, ())))
theorem Gsa (l0 i1 l2 i3 i4) : Bpa (l0, i1, l2, i3, i4, ()) = (Dga l0 i1 l2 i3 i4 jKa lIa bFb).bind (Sum.elim Bpa some) := eqL (S := S84) fun _ _ _ => by kernel_rfl
noncomputable def S85 : OCs := addL S84 Tryz.prog 155 3 Iaa Iba Bpa
theorem Rob : fEb Tryz.prog th S85 := Rnb.addL (by kernel_rfl) (by kernel_rfl) (by kernel_rfl) rfl
abbrev Hda : fCa := ⟨[⟨Y6, 98, 2, true⟩, ⟨Y6, 98, 2, true⟩], [], [], [], [.nils, (.mview 1 2), (.ty (.list Y2)), (.ty (.int .i64)), (.ty (.int .i64))]⟩
abbrev Hia : List sQa := [⟨(.exit 2), ⟨[⟨Y6, 98, 2, true⟩, ⟨Y6, 98, 2, true⟩], [], [], [], [.nils, (.mview 1 2), (.ty (.list Y2)), (.ty (.int .i64)), (.ty (.int .i64))]⟩⟩]
noncomputable def Bja : (List D2) × (List D2) × Nat × Nat × (List (List D2)) × Int × Int × Unit → Option ((List D2) × (List D2) × Nat × Nat × (List (List D2)) × Int × Int × Unit) := jTa (pBa (nHa Tryz.prog th (S85 jKa lIa bFb) 155 11 Hda Hia))
noncomputable def Cwa (l0 : List D2) (l1 : List D2) (n2 : Nat) (n3 : Nat) (l4 : List (List D2)) (i5 : Int) (i6 : Int) (fk : Fk) (bd : Bd) (sm : Sm) : Option (((List D2) × (List D2) × Nat × Nat × (List (List D2)) × Int × Int × Unit) ⊕ ((List D2) × (List D2) × Nat × Nat × (List (List D2)) × Int × Int × Unit)) :=
    let z0 := (List.getD l4 (Int.toNat i6) (@List.nil D2))
    fk (decide (i6 < i5)) (fk (decide ((0 : Int) ≤ i6)) (fk (decide (i6 < (↑(List.length l4) : Int))) (fk (decide (List.length l1 = List.length l1)) (fk (decide (n2 ≤ n3)) (fk (decide (n3 + List.length z0 ≤ List.length l1)) (fk (decide (List.length (hYb l1 n3 z0) = List.length l1)) (some (Sum.inl (l0, hYb l1 n3 z0, n2, n3 + List.length z0, l4, i5, IntKind.wrap IntKind.i64 (i6 + (1 : Int)), ()))) none) none) none) none) none) none) (fk (decide (List.length l1 = List.length l1)) (some (Sum.inr (l0, l1, n2, n3, l4, i5, i6, ()))) none)
theorem Fta (l0 l1 n2 n3 l4 i5 i6) : Bja (l0, l1, n2, n3, l4, i5, i6, ()) = (Cwa l0 l1 n2 n3 l4 i5 i6 jKa lIa bFb).bind (Sum.elim Bja some) := eqL (S := S85) fun _ _ _ => by kernel_rfl
noncomputable def S86 : OCs := addL S85 Tryz.prog 155 11 Hda Hia Bja
theorem Rpb : fEb Tryz.prog th S86 := Rob.addL (by kernel_rfl) (by kernel_rfl) (by kernel_rfl) rfl
abbrev Gha : fCa := ⟨[⟨Y6, 98, 2, true⟩, ⟨Y6, 98, 2, true⟩], [], [], [], [.nils, (.mref 1), (.ty (.list Y2)), (.ty (.int .i64)), (.ty (.int .i64))]⟩
abbrev Gna : List sQa := [⟨(.exit 2), ⟨[⟨Y6, 98, 2, true⟩, ⟨Y6, 98, 2, true⟩], [], [], [], [.nils, (.mref 1), (.ty (.list Y2)), (.ty (.int .i64)), (.ty (.int .i64))]⟩⟩]
noncomputable def Bda : (List D2) × (List D2) × (List (List D2)) × Int × Int × Unit → Option ((List D2) × (List D2) × (List (List D2)) × Int × Int × Unit) := jTa (pBa (nHa Tryz.prog th (S86 jKa lIa bFb) 155 11 Gha Gna))
noncomputable def Cqa (l0 : List D2) (l1 : List D2) (l2 : List (List D2)) (i3 : Int) (i4 : Int) (fk : Fk) (bd : Bd) (sm : Sm) : Option (((List D2) × (List D2) × (List (List D2)) × Int × Int × Unit) ⊕ ((List D2) × (List D2) × (List (List D2)) × Int × Int × Unit)) :=
    let z0 := (l1 ++ List.getD l2 (Int.toNat i4) (@List.nil D2))
    fk (decide (i4 < i3)) (fk (decide ((0 : Int) ≤ i4)) (fk (decide (i4 < (↑(List.length l2) : Int))) (fk (decide (List.length l1 = List.length l1)) (fk (decide (List.length z0 ≤ bBa)) (fk (decide (List.length z0 = List.length z0)) (some (Sum.inl (l0, l1 ++ List.getD l2 (Int.toNat i4) (@List.nil D2), l2, i3, IntKind.wrap IntKind.i64 (i4 + (1 : Int)), ()))) none) none) none) none) none) (fk (decide (List.length l1 = List.length l1)) (some (Sum.inr (l0, l1, l2, i3, i4, ()))) none)
theorem Ewa (l0 l1 l2 i3 i4) : Bda (l0, l1, l2, i3, i4, ()) = (Cqa l0 l1 l2 i3 i4 jKa lIa bFb).bind (Sum.elim Bda some) := eqL (S := S86) fun _ _ _ => by kernel_rfl
noncomputable def S87 : OCs := addL S86 Tryz.prog 155 11 Gha Gna Bda
theorem Rqb : fEb Tryz.prog th S87 := Rpb.addL (by kernel_rfl) (by kernel_rfl) (by kernel_rfl) rfl
abbrev Kha : List Shp := [(.ty (.list Y2))]
noncomputable def Cfa : (List (List D2)) × Unit → Option D36 := jTa (fnT Tryz.prog th (S87 jKa lIa bFb) 155 Kha (.ty Y2) [])
noncomputable def Gda (l0 : List (List D2)) (fk : Fk) (bd : Bd) (sm : Sm) : Option D36 :=
    let z0 := ((0 : Int) - (↑(0 : Nat) : Int))
    let z1 := (ByteArray.empty, @List.nil ByteArray, ())
    bd (Bpa (l0, (0 : Int), l0, (↑(List.length l0) : Int), (0 : Int), ())) fun y0 => fk (decide (y0.2.1 < (0 : Int))) none (fk (decide (IntKind.wrap IntKind.i64 (y0.2.1 - IntKind.wrap IntKind.i64 z0) > (0 : Int))) (fk (decide ((0 : Int) ≤ (↑(0 : Nat) : Int))) (fk (decide ((0 : Int) < IntKind.wrap IntKind.i64 (y0.2.1 - IntKind.wrap IntKind.i64 z0))) (fk (decide (IntKind.wrap IntKind.i64 (y0.2.1 - IntKind.wrap IntKind.i64 z0) ≤ (↑bBa : Int))) (fk (decide (List.length (List.replicate (Int.toNat (IntKind.wrap IntKind.i64 (y0.2.1 - IntKind.wrap IntKind.i64 z0))) z1) = List.length (List.replicate (Int.toNat (IntKind.wrap IntKind.i64 (y0.2.1 - IntKind.wrap IntKind.i64 z0))) z1))) (fk (decide ((↑(0 : Nat) : Int) ≤ (↑(List.length (List.replicate (Int.toNat (IntKind.wrap IntKind.i64 (y0.2.1 - IntKind.wrap IntKind.i64 z0))) z1) - (0 : Nat)) : Int))) (fk (decide (List.length (List.replicate (Int.toNat (IntKind.wrap IntKind.i64 (y0.2.1 - IntKind.wrap IntKind.i64 z0))) z1) = List.length (List.replicate (Int.toNat (IntKind.wrap IntKind.i64 (y0.2.1 - IntKind.wrap IntKind.i64 z0))) z1))) (bd (Bja (@List.nil D2, List.replicate (Int.toNat (IntKind.wrap IntKind.i64 (y0.2.1 - IntKind.wrap IntKind.i64 z0))) z1, (0 : Nat) + (0 : Nat), (0 : Nat) + Int.toNat (↑(0 : Nat) : Int), y0.1, (↑(List.length y0.1) : Int), (0 : Int), ())) fun y1 => fk (decide (List.length y1.2.1 = List.length y1.2.1)) (fk (decide (y1.2.2.1 ≤ y1.2.2.2.1)) (fk (decide (y1.2.2.2.1 ≤ List.length y1.2.1)) (some (List.take (y1.2.2.2.1 - y1.2.2.1) (List.drop y1.2.2.1 y1.2.1), ())) none) none) none) none) none) none) none) none) none) (fk (decide (List.length (@List.nil D2) = (0 : Nat))) (bd (Bda (@List.nil D2, @List.nil D2, y0.1, (↑(List.length y0.1) : Int), (0 : Int), ())) fun y2 => fk (decide (List.length y2.2.1 = List.length y2.2.1)) (some (y2.2.1, ())) none) none))
theorem Qsa (l0) : Cfa (l0, ()) = Gda l0 jKa lIa bFb := eqF (S := S87) fun _ _ _ => by kernel_rfl
noncomputable def S88 : OCs := addF S87 Tryz.prog 155 Kha (.ty Y2) [] Cfa
theorem Rrb : fEb Tryz.prog th S88 := Rqb.addF rfl
abbrev Ska : fCa := ⟨[⟨.str, 9, 1, true⟩], [(.str, .bool)], [], [], [.nils, (.mapr 0), (.mref 0), (.ty Y2), (.ty (.int .i64)), (.ty (.int .i64))]⟩
abbrev Sxa : List sQa := [⟨(.exit 0), ⟨[⟨.str, 9, 1, true⟩], [(.str, .bool)], [], [], [.nils, (.mapr 0), (.mref 0), (.ty Y2), (.ty (.int .i64)), (.ty (.int .i64))]⟩⟩]
noncomputable def Hya : List ByteArray × (List (ByteArray × Bool)) × (List D2) × Int × Int × Unit → Option (List ByteArray × (List (ByteArray × Bool)) × (List D2) × Int × Int × Unit) := jTa (pBa (nHa Tryz.prog th (S88 jKa lIa bFb) 117 4 Ska Sxa))
noncomputable def Ira (l0 : List ByteArray) (m1 : List (ByteArray × Bool)) (l2 : List D2) (i3 : Int) (i4 : Int) (fk : Fk) (bd : Bd) (sm : Sm) : Option ((List ByteArray × (List (ByteArray × Bool)) × (List D2) × Int × Int × Unit) ⊕ (List ByteArray × (List (ByteArray × Bool)) × (List D2) × Int × Int × Unit)) :=
    let z0 := (List.getD l2 (Int.toNat i4) (ByteArray.empty, @List.nil ByteArray, ()))
    fk (decide (i4 < i3)) (fk (decide ((0 : Int) ≤ i4)) (fk (decide (i4 < (↑(List.length l2) : Int))) (fk (!nMb Ty.str Ty.bool z0.1 false m1) (fk (decide (List.length m1 < bBa)) (fk (decide (List.length l0 = List.length l0)) (fk (decide (List.length (l0 ++ z0.1 :: @List.nil ByteArray) ≤ bBa)) (fk (decide (List.length (l0 ++ z0.1 :: @List.nil ByteArray) = List.length (l0 ++ z0.1 :: @List.nil ByteArray))) (some (Sum.inl (l0 ++ z0.1 :: @List.nil ByteArray, qLb Ty.str Ty.bool z0.1 true m1, l2, i3, IntKind.wrap IntKind.i64 (i4 + (1 : Int)), ()))) none) none) none) none) (fk (decide (List.length l0 = List.length l0)) (some (Sum.inl (l0, m1, l2, i3, IntKind.wrap IntKind.i64 (i4 + (1 : Int)), ()))) none)) none) none) (fk (decide (List.length l0 = List.length l0)) (some (Sum.inr (l0, m1, l2, i3, i4, ()))) none)
theorem Oua (l0 m1 l2 i3 i4) : Hya (l0, m1, l2, i3, i4, ()) = (Ira l0 m1 l2 i3 i4 jKa lIa bFb).bind (Sum.elim Hya some) := eqL (S := S88) fun _ _ _ => by kernel_rfl
noncomputable def S89 : OCs := addL S88 Tryz.prog 117 4 Ska Sxa Hya
theorem Rsb : fEb Tryz.prog th S89 := Rrb.addL (by kernel_rfl) (by kernel_rfl) (by kernel_rfl) rfl
abbrev Zfa : List Shp := [(.ty Y2), (.ty Y2)]
noncomputable def Rra : (List D2) × (List D2) × Unit → Option (List ByteArray × Unit) := jTa (fnT Tryz.prog th (S89 jKa lIa bFb) 117 Zfa (.ty (.list .str)) [])
noncomputable def Yla (l0 : List D2) (l1 : List D2) (fk : Fk) (bd : Bd) (sm : Sm) : Option (List ByteArray × Unit) :=
    bd (Cfa (l0 :: l1 :: @List.nil (List D2), ())) fun y0 => fk (decide (List.length (@List.nil ByteArray) = (0 : Nat))) (bd (Hya (@List.nil ByteArray, @List.nil (ByteArray × Bool), y0.1, (↑(List.length y0.1) : Int), (0 : Int), ())) fun y1 => fk (decide (List.length y1.1 = List.length y1.1)) (fk (decide (List.length y1.1 ≤ bBa)) (fk (decide (List.length (lSa y1.1) = List.length y1.1)) (some (lSa y1.1, ())) none) none) none) none
theorem Egb (l0 l1) : Rra (l0, l1, ()) = Yla l0 l1 jKa lIa bFb := eqF (S := S89) fun _ _ _ => by kernel_rfl
noncomputable def S90 : OCs := addF S89 Tryz.prog 117 Zfa (.ty (.list .str)) [] Rra
theorem Rtb : fEb Tryz.prog th S90 := Rsb.addF rfl
abbrev Wra : fCa := ⟨[⟨(.list (.int .i64)), 265, 1, true⟩, ⟨(.int .i64), 3, 1, false⟩, ⟨(.int .i64), 3, 1, true⟩], [], [], [], [(.ty (.list .str)), (.ty (.list .str)), .nils, (.mref 0), (.ty (.list (.int .i64))), (.ty (.int .i64)), (.mref 2), (.ty (.int .i64))]⟩
abbrev Wxa : List sQa := [⟨(.exit 2), ⟨[⟨(.list (.int .i64)), 265, 1, true⟩, ⟨(.int .i64), 3, 1, false⟩, ⟨(.int .i64), 3, 1, true⟩], [], [], [], [(.ty (.list .str)), (.ty (.list .str)), .nils, (.mref 0), (.ty (.list (.int .i64))), (.ty (.int .i64)), (.mref 2), (.ty (.int .i64))]⟩⟩]
noncomputable def Ifa : List (List Int) × List Int × List Int × List ByteArray × List ByteArray × List Int × Int × Int × Unit → Option D32 := jTa (pBa (nHa Tryz.prog th (S90 jKa lIa bFb) 242 9 Wra Wxa))
noncomputable def Gfa (l0 : List (List Int)) (l1 : List Int) (l2 : List Int) (l3 : List ByteArray) (l4 : List ByteArray) (l5 : List Int) (i6 : Int) (i7 : Int) (fk : Fk) (bd : Bd) (sm : Sm) : Option (D32 ⊕ D32) :=
    let z2 := (IntKind.wrap IntKind.i64 (i7 + (1 : Int)))
    let z0 := (bif decide (List.getD l5 (Int.toNat i7) (0 : Int) < List.getD l2 (Int.toNat z2) (Ty.dfl (Ty.int IntKind.i64))) then List.getD l2 (Int.toNat z2) (Ty.dfl (Ty.int IntKind.i64)) else List.getD l5 (Int.toNat i7) (0 : Int))
    let z1 := (decide (List.length l2 = List.length l2))
    fk (decide (i7 ≥ (0 : Int))) (fk (decide (i6 < (↑(List.length l3) : Int))) (fk (decide ((0 : Int) ≤ i7)) (fk (decide (i7 < (↑(List.length l5) : Int))) (fk (decide ((0 : Int) ≤ IntKind.wrap IntKind.i64 (i7 + (1 : Int)))) (fk z1 (fk (decide (IntKind.wrap IntKind.i64 (i7 + (1 : Int)) < (↑(List.length l2) : Int))) (fk z1 (fk (decide (Int.toNat z2 < List.length l2)) (fk (decide ((0 : Int) ≤ i7)) (fk z1 (fk (decide (i7 < (↑(List.length l2) : Int))) (fk z1 (fk (decide (Int.toNat i7 < List.length l2)) (fk (decide ((0 : Int) ≤ i6)) (fk (decide (i6 < (↑(List.length l3) : Int))) (fk (decide ((0 : Int) ≤ i7)) (fk (decide (i7 < (↑(List.length l4) : Int))) (fk (ByteArray.toList (List.getD l3 (Int.toNat i6) ByteArray.empty) == ByteArray.toList (List.getD l4 (Int.toNat i7) ByteArray.empty)) (fk (decide ((0 : Int) ≤ IntKind.wrap IntKind.i64 (i7 + (1 : Int)))) (fk (decide (IntKind.wrap IntKind.i64 (i7 + (1 : Int)) < (↑(List.length l5) : Int))) (fk (decide ((0 : Int) ≤ i7)) (fk (decide (List.length (List.set l2 (Int.toNat i7) z0) = List.length l2)) (fk (decide (i7 < (↑(List.length l2) : Int))) (fk (decide (List.length (List.set l2 (Int.toNat i7) z0) = List.length l2)) (fk (decide (Int.toNat i7 < List.length l2)) (fk (decide (List.length l0 = List.length l0)) (fk (decide (List.length (List.set (List.set l2 (Int.toNat i7) z0) (Int.toNat i7) (IntKind.wrap IntKind.i64 (List.getD l5 (Int.toNat z2) (0 : Int) + (1 : Int)))) = List.length l2)) (some (Sum.inl (l0, l1, List.set (List.set l2 (Int.toNat i7) z0) (Int.toNat i7) (IntKind.wrap IntKind.i64 (List.getD l5 (Int.toNat z2) (0 : Int) + (1 : Int))), l3, l4, l5, i6, IntKind.wrap IntKind.i64 (i7 - (1 : Int)), ()))) none) none) none) none) none) none) none) none) none) (fk (decide (List.length l0 = List.length l0)) (fk (decide (List.length (List.set l2 (Int.toNat i7) z0) = List.length l2)) (some (Sum.inl (l0, l1, List.set l2 (Int.toNat i7) z0, l3, l4, l5, i6, IntKind.wrap IntKind.i64 (i7 - (1 : Int)), ()))) none) none)) none) none) none) none) none) none) none) none) none) none) none) none) none) none) none) none) (fk (decide (List.length l0 = List.length l0)) (fk z1 (some (Sum.inr (l0, l1, l2, l3, l4, l5, i6, i7, ()))) none) none)) (fk (decide (List.length l0 = List.length l0)) (fk z1 (some (Sum.inr (l0, l1, l2, l3, l4, l5, i6, i7, ()))) none) none)
theorem Lqa (l0 l1 l2 l3 l4 l5 i6 i7) : Ifa (l0, l1, l2, l3, l4, l5, i6, i7, ()) = (Gfa l0 l1 l2 l3 l4 l5 i6 i7 jKa lIa bFb).bind (Sum.elim Ifa some) := eqL (S := S90) fun _ _ _ => by kernel_rfl
noncomputable def S91 : OCs := addL S90 Tryz.prog 242 9 Wra Wxa Ifa
theorem Rub : fEb Tryz.prog th S91 := Rtb.addL (by kernel_rfl) (by kernel_rfl) (by kernel_rfl) rfl
abbrev Wqa : fCa := ⟨[⟨(.list (.int .i64)), 265, 1, true⟩, ⟨(.int .i64), 3, 1, false⟩], [], [], [], [(.ty (.list .str)), (.ty (.list .str)), .nils, (.mref 0), (.ty (.list (.int .i64))), (.ty (.int .i64))]⟩
abbrev Wwa : List sQa := [⟨(.exit 0), ⟨[⟨(.list (.int .i64)), 265, 1, true⟩, ⟨(.int .i64), 3, 1, false⟩], [], [], [], [(.ty (.list .str)), (.ty (.list .str)), .nils, (.mref 0), (.ty (.list (.int .i64))), (.ty (.int .i64))]⟩⟩]
noncomputable def Kta : List (List Int) × List Int × List ByteArray × List ByteArray × List Int × Int × Unit → Option (List (List Int) × List Int × List ByteArray × List ByteArray × List Int × Int × Unit) := jTa (pBa (nHa Tryz.prog th (S91 jKa lIa bFb) 242 4 Wqa Wwa))
noncomputable def Pea (l0 : List (List Int)) (l1 : List Int) (l2 : List ByteArray) (l3 : List ByteArray) (l4 : List Int) (i5 : Int) (fk : Fk) (bd : Bd) (sm : Sm) : Option ((List (List Int) × List Int × List ByteArray × List ByteArray × List Int × Int × Unit) ⊕ (List (List Int) × List Int × List ByteArray × List ByteArray × List Int × Int × Unit)) :=
    let z1 := ((↑(List.length l3) : Int) + (1 : Int))
    let z0 := (List.replicate (Int.toNat (IntKind.wrap IntKind.i64 z1)) (0 : Int))
    fk (decide (i5 ≥ (0 : Int))) (fk (decide (IntKind.wrap IntKind.i64 z1 = IntKind.wrap IntKind.i64 z1)) (fk (decide ((0 : Int) ≤ IntKind.wrap IntKind.i64 z1)) (fk (decide (IntKind.wrap IntKind.i64 z1 ≤ (↑bBa : Int))) (fk (decide (List.length z0 = List.length z0)) (fk (decide (List.length l0 = List.length l0)) (fk (decide (List.length (hYb z0 (0 : Nat) (List.take (List.length z0 - (0 : Nat)) l4)) = List.length z0)) (bd (Ifa (l0, l1, hYb z0 (0 : Nat) (List.take (List.length z0 - (0 : Nat)) l4), l2, l3, l4, i5, IntKind.wrap IntKind.i64 ((↑(List.length l3) : Int) - (1 : Int)), ())) fun y0 => fk (decide ((0 : Int) ≤ y0.2.2.2.2.2.2.1)) (fk (decide (List.length y0.1 = List.length y0.1)) (fk (decide (y0.2.2.2.2.2.2.1 < (↑(List.length y0.1) : Int))) (fk (decide (List.length y0.2.2.1 = List.length y0.2.2.1)) (fk (decide (List.length y0.1 = List.length y0.1)) (fk (decide (Int.toNat y0.2.2.2.2.2.2.1 < List.length y0.1)) (fk (decide (List.length y0.2.2.1 = List.length y0.2.2.1)) (fk (decide (List.length (List.set y0.1 (Int.toNat y0.2.2.2.2.2.2.1) y0.2.2.1) = List.length y0.1)) (some (Sum.inl (List.set y0.1 (Int.toNat y0.2.2.2.2.2.2.1) y0.2.2.1, y0.2.1, y0.2.2.2.1, y0.2.2.2.2.1, y0.2.2.1, IntKind.wrap IntKind.i64 (y0.2.2.2.2.2.2.1 - (1 : Int)), ()))) none) none) none) none) none) none) none) none) none) none) none) none) none) none) (fk (decide (List.length l0 = List.length l0)) (some (Sum.inr (l0, l1, l2, l3, l4, i5, ()))) none)
theorem Sma (l0 l1 l2 l3 l4 i5) : Kta (l0, l1, l2, l3, l4, i5, ()) = (Pea l0 l1 l2 l3 l4 i5 jKa lIa bFb).bind (Sum.elim Kta some) := eqL (S := S91) fun _ _ _ => by kernel_rfl
noncomputable def S92 : OCs := addL S91 Tryz.prog 242 4 Wqa Wwa Kta
theorem Rvb : fEb Tryz.prog th S92 := Rub.addL (by kernel_rfl) (by kernel_rfl) (by kernel_rfl) rfl
abbrev Esb : List Shp := [(.ty (.list .str)), (.ty (.list .str))]
noncomputable def Xna : List ByteArray × List ByteArray × Unit → Option (List (List Int) × Unit) := jTa (fnT Tryz.prog th (S92 jKa lIa bFb) 242 Esb (.ty (.list (.list (.int .i64)))) [])
noncomputable def Ejb (l0 : List ByteArray) (l1 : List ByteArray) (fk : Fk) (bd : Bd) (sm : Sm) : Option (List (List Int) × Unit) :=
    let z0 := ((↑(List.length l1) : Int) + (1 : Int))
    let z1 := ((↑(List.length l0) : Int) + (1 : Int))
    fk (decide (IntKind.wrap IntKind.i64 z1 = IntKind.wrap IntKind.i64 z1)) (fk (decide ((0 : Int) ≤ IntKind.wrap IntKind.i64 z1)) (fk (decide (IntKind.wrap IntKind.i64 z1 ≤ (↑bBa : Int))) (fk (decide (IntKind.wrap IntKind.i64 z0 = IntKind.wrap IntKind.i64 z0)) (fk (decide ((0 : Int) ≤ IntKind.wrap IntKind.i64 z0)) (fk (decide (IntKind.wrap IntKind.i64 z0 ≤ (↑bBa : Int))) (fk (decide (List.length (List.replicate (Int.toNat (IntKind.wrap IntKind.i64 z0)) (0 : Int)) = List.length (List.replicate (Int.toNat (IntKind.wrap IntKind.i64 z0)) (0 : Int)))) (fk (decide (List.length (List.replicate (Int.toNat (IntKind.wrap IntKind.i64 z1)) (@List.nil Int)) = List.length (List.replicate (Int.toNat (IntKind.wrap IntKind.i64 z1)) (@List.nil Int)))) (bd (Kta (List.replicate (Int.toNat (IntKind.wrap IntKind.i64 z1)) (@List.nil Int), List.replicate (Int.toNat (IntKind.wrap IntKind.i64 z0)) (0 : Int), l0, l1, List.replicate (Int.toNat (IntKind.wrap IntKind.i64 z0)) (0 : Int), (↑(List.length l0) : Int), ())) fun y0 => fk (decide (List.length y0.1 = List.length y0.1)) (some (y0.1, ())) none) none) none) none) none) none) none) none) none
theorem Gwb (l0 l1) : Xna (l0, l1, ()) = Ejb l0 l1 jKa lIa bFb := eqF (S := S92) fun _ _ _ => by kernel_rfl
noncomputable def S93 : OCs := addF S92 Tryz.prog 242 Esb (.ty (.list (.list (.int .i64)))) [] Xna
theorem Rwb : fEb Tryz.prog th S93 := Rvb.addF rfl
abbrev Pva : fCa := ⟨[⟨Y3, 248, 2, true⟩], [], [[(.mref 0)], [(.ty (.list .str))], [(.ty (.list .str))]], [⟨223, 3, [.undef, .undef, .undef, .undef, .nils, (.bptr 0 0)], .normal, .ready⟩], [(.yield 0), (.bptr 1 0), (.bptr 2 0), (.ty (.list (.list (.int .i64)))), (.ty (.int .i64)), (.ty (.int .i64))]⟩
abbrev Qka : List sQa := [⟨(.exit 0), ⟨[⟨Y3, 248, 2, true⟩], [], [[(.mref 0)], [(.ty (.list .str))], [(.ty (.list .str))]], [⟨223, 3, [.undef, .undef, .undef, .undef, .nils, (.bptr 0 0)], .normal, .ready⟩], [(.yield 0), (.bptr 1 0), (.bptr 2 0), (.ty (.list (.list (.int .i64)))), (.ty (.int .i64)), (.ty (.int .i64))]⟩⟩]
noncomputable def Fma : (List D3) × List ByteArray × List ByteArray × List (List Int) × Int × Int × Unit → Option ((List D3) × List ByteArray × List ByteArray × List (List Int) × Int × Int × Unit) := jTa (pBa (nHa Tryz.prog th (S93 jKa lIa bFb) 241 2 Pva Qka))
noncomputable def Bva (l0 : List D3) (l1 : List ByteArray) (l2 : List ByteArray) (l3 : List (List Int)) (i4 : Int) (i5 : Int) (fk : Fk) (bd : Bd) (sm : Sm) : Option (((List D3) × List ByteArray × List ByteArray × List (List Int) × Int × Int × Unit) ⊕ ((List D3) × List ByteArray × List ByteArray × List (List Int) × Int × Int × Unit)) :=
    let z0 := (decide (List.length l0 = List.length l0))
    fk (decide (i4 < (↑(List.length l1) : Int))) (fk (decide (i5 < (↑(List.length l2) : Int))) (fk (decide ((0 : Int) ≤ i4)) (fk (decide (i4 < (↑(List.length l1) : Int))) (fk (decide ((0 : Int) ≤ i5)) (fk (decide (i5 < (↑(List.length l2) : Int))) (fk (ByteArray.toList (List.getD l1 (Int.toNat i4) ByteArray.empty) == ByteArray.toList (List.getD l2 (Int.toNat i5) ByteArray.empty)) (fk z0 (fk (decide (List.length (l0 ++ (i4, i5, ()) :: @List.nil D3) ≤ bBa)) (fk (decide (List.length (l0 ++ (i4, i5, ()) :: @List.nil D3) = List.length (l0 ++ (i4, i5, ()) :: @List.nil D3))) (some (Sum.inl (l0 ++ (i4, i5, ()) :: @List.nil D3, l1, l2, l3, IntKind.wrap IntKind.i64 (i4 + (1 : Int)), IntKind.wrap IntKind.i64 (i5 + (1 : Int)), ()))) none) none) none) (fk (decide ((0 : Int) ≤ IntKind.wrap IntKind.i64 (i4 + (1 : Int)))) (fk (decide (IntKind.wrap IntKind.i64 (i4 + (1 : Int)) < (↑(List.length l3) : Int))) (fk (decide ((0 : Int) ≤ i5)) (fk (decide (i5 < (↑(List.length (List.getD l3 (Int.toNat (IntKind.wrap IntKind.i64 (i4 + (1 : Int)))) (@List.nil Int))) : Int))) (fk (decide ((0 : Int) ≤ i4)) (fk (decide (i4 < (↑(List.length l3) : Int))) (fk (decide ((0 : Int) ≤ IntKind.wrap IntKind.i64 (i5 + (1 : Int)))) (fk (decide (IntKind.wrap IntKind.i64 (i5 + (1 : Int)) < (↑(List.length (List.getD l3 (Int.toNat i4) (@List.nil Int))) : Int))) (fk (decide (List.getD (List.getD l3 (Int.toNat (IntKind.wrap IntKind.i64 (i4 + (1 : Int)))) (@List.nil Int)) (Int.toNat i5) (0 : Int) ≥ List.getD (List.getD l3 (Int.toNat i4) (@List.nil Int)) (Int.toNat (IntKind.wrap IntKind.i64 (i5 + (1 : Int)))) (0 : Int))) (fk z0 (some (Sum.inl (l0, l1, l2, l3, IntKind.wrap IntKind.i64 (i4 + (1 : Int)), i5, ()))) none) (fk z0 (some (Sum.inl (l0, l1, l2, l3, i4, IntKind.wrap IntKind.i64 (i5 + (1 : Int)), ()))) none)) none) none) none) none) none) none) none) none)) none) none) none) none) (fk z0 (some (Sum.inr (l0, l1, l2, l3, i4, i5, ()))) none)) (fk z0 (some (Sum.inr (l0, l1, l2, l3, i4, i5, ()))) none)
theorem Eja (l0 l1 l2 l3 i4 i5) : Fma (l0, l1, l2, l3, i4, i5, ()) = (Bva l0 l1 l2 l3 i4 i5 jKa lIa bFb).bind (Sum.elim Fma some) := eqL (S := S93) fun _ _ _ => by kernel_rfl
noncomputable def S94 : OCs := addL S93 Tryz.prog 241 2 Pva Qka Fma
theorem Rxb : fEb Tryz.prog th S94 := Rwb.addL (by kernel_rfl) (by kernel_rfl) (by kernel_rfl) rfl
abbrev Brb : List Shp := [(.ty (.list .str)), (.ty (.list .str))]
noncomputable def Uma : List ByteArray × List ByteArray × Unit → Option ((List D3) × Unit) := jTa (fnT Tryz.prog th (S94 jKa lIa bFb) 223 Brb (.ty (.list Y3)) [])
noncomputable def Bkb (l0 : List ByteArray) (l1 : List ByteArray) (fk : Fk) (bd : Bd) (sm : Sm) : Option ((List D3) × Unit) :=
    bd (Xna (l0, l1, ())) fun y0 => fk (decide (List.length (@List.nil D3) = (0 : Nat))) (bd (Fma (@List.nil D3, l0, l1, y0.1, (0 : Int), (0 : Int), ())) fun y1 => fk (decide (List.length y1.1 = List.length y1.1)) (some (y1.1, ())) none) none
theorem Fpb (l0 l1) : Uma (l0, l1, ()) = Bkb l0 l1 jKa lIa bFb := eqF (S := S94) fun _ _ _ => by kernel_rfl
noncomputable def S95 : OCs := addF S94 Tryz.prog 223 Brb (.ty (.list Y3)) [] Uma
theorem Ryb : fEb Tryz.prog th S95 := Rxb.addF rfl
abbrev Sda : fCa := ⟨[⟨Y7, 225, 3, true⟩], [], [[(.ty (.list .str))], [(.mref 0)], [(.ty (.int .i64))], [(.ty (.int .i64))]], [], [(.ty (.list .str)), (.bptr 0 0), .nils, (.bptr 1 0), (.func 222 [] [(.bptr 2 0), (.bptr 3 0), (.bptr 1 0), (.bptr 0 0)]), (.ty (.list Y3)), (.ty (.int .i64)), (.ty (.int .i64))]⟩
abbrev Sqa : List sQa := [⟨(.exit 0), ⟨[⟨Y7, 225, 3, true⟩], [], [[(.ty (.list .str))], [(.mref 0)], [(.ty (.int .i64))], [(.ty (.int .i64))]], [], [(.ty (.list .str)), (.bptr 0 0), .nils, (.bptr 1 0), (.func 222 [] [(.bptr 2 0), (.bptr 3 0), (.bptr 1 0), (.bptr 0 0)]), (.ty (.list Y3)), (.ty (.int .i64)), (.ty (.int .i64))]⟩⟩]
noncomputable def Hba : (List D7) × List ByteArray × Int × Int × List ByteArray × (List D3) × Int × Int × Unit → Option ((List D7) × List ByteArray × Int × Int × List ByteArray × (List D3) × Int × Int × Unit) := jTa (pBa (nHa Tryz.prog th (S95 jKa lIa bFb) 196 5 Sda Sqa))
noncomputable def Fba (l0 : List D7) (l1 : List ByteArray) (i2 : Int) (i3 : Int) (l4 : List ByteArray) (l5 : List D3) (i6 : Int) (i7 : Int) (fk : Fk) (bd : Bd) (sm : Sm) : Option (((List D7) × List ByteArray × Int × Int × List ByteArray × (List D3) × Int × Int × Unit) ⊕ ((List D7) × List ByteArray × Int × Int × List ByteArray × (List D3) × Int × Int × Unit)) :=
    let z1 := (List.getD l5 (Int.toNat i7) ((0 : Int), (0 : Int), ()))
    let z3 := (List.take (Int.toNat z1.2.1 - Int.toNat i3) (List.drop (Int.toNat i3) l1))
    let z2 := (i2, IntKind.wrap IntKind.i64 (z1.1 - i2), List.take (Int.toNat z1.2.1 - Int.toNat i3) (List.drop (Int.toNat i3) l1), ())
    let z0 := (fk (decide ((0 : Int) ≤ z1.2.1)) (fk (decide (z1.2.1 ≤ (↑(List.length l1) : Int))) (fk (decide ((0 : Int) ≤ i3)) (fk (decide (i3 ≤ (↑(Int.toNat z1.2.1) : Int))) (fk (decide (List.length z3 ≤ bBa)) (fk (decide (List.length z3 = List.length z3)) (fk (decide (List.length l0 = List.length l0)) (fk (decide (List.length (l0 ++ z2 :: @List.nil D7) ≤ bBa)) (fk (decide (List.length (l0 ++ z2 :: @List.nil D7) = List.length (l0 ++ z2 :: @List.nil D7))) (some (Sum.inl (l0 ++ z2 :: @List.nil D7, l1, IntKind.wrap IntKind.i64 (z1.1 + (1 : Int)), IntKind.wrap IntKind.i64 (z1.2.1 + (1 : Int)), l4, l5, i6, IntKind.wrap IntKind.i64 (i7 + (1 : Int)), ()))) none) none) none) none) none) none) none) none) none)
    fk (decide (i7 < i6)) (fk (decide ((0 : Int) ≤ i7)) (fk (decide (i7 < (↑(List.length l5) : Int))) (fk (decide (z1.1 > i2)) z0 (fk (decide (z1.2.1 > i3)) z0 (fk (decide (List.length l0 = List.length l0)) (some (Sum.inl (l0, l1, IntKind.wrap IntKind.i64 (z1.1 + (1 : Int)), IntKind.wrap IntKind.i64 (z1.2.1 + (1 : Int)), l4, l5, i6, IntKind.wrap IntKind.i64 (i7 + (1 : Int)), ()))) none))) none) none) (fk (decide (List.length l0 = List.length l0)) (some (Sum.inr (l0, l1, i2, i3, l4, l5, i6, i7, ()))) none)
theorem Oca (l0 l1 i2 i3 l4 l5 i6 i7) : Hba (l0, l1, i2, i3, l4, l5, i6, i7, ()) = (Fba l0 l1 i2 i3 l4 l5 i6 i7 jKa lIa bFb).bind (Sum.elim Hba some) := eqL (S := S95) fun _ _ _ => by kernel_rfl
noncomputable def S96 : OCs := addL S95 Tryz.prog 196 5 Sda Sqa Hba
theorem Rzb : fEb Tryz.prog th S96 := Ryb.addL (by kernel_rfl) (by kernel_rfl) (by kernel_rfl) rfl
abbrev Yna : List Shp := [(.ty (.list .str)), (.ty (.list .str))]
noncomputable def Rba : List ByteArray × List ByteArray × Unit → Option ((List D7) × Unit) := jTa (fnT Tryz.prog th (S96 jKa lIa bFb) 196 Yna (.ty (.list Y7)) [])
noncomputable def Mta (l0 : List ByteArray) (l1 : List ByteArray) (fk : Fk) (bd : Bd) (sm : Sm) : Option ((List D7) × Unit) :=
    bd (Uma (l0, l1, ())) fun y0 => fk (decide (List.length (@List.nil D7) = (0 : Nat))) (bd (Hba (@List.nil D7, l1, (0 : Int), (0 : Int), l0, y0.1, (↑(List.length y0.1) : Int), (0 : Int), ())) fun y1 => fk (decide ((↑(List.length y1.2.2.2.2.1) : Int) > y1.2.2.1)) (fk (decide ((0 : Int) ≤ (↑(List.length y1.2.1) : Int))) (fk (decide ((↑(List.length y1.2.1) : Int) ≤ (↑(List.length y1.2.1) : Int))) (fk (decide ((0 : Int) ≤ y1.2.2.2.1)) (fk (decide (y1.2.2.2.1 ≤ (↑(Int.toNat (↑(List.length y1.2.1) : Int)) : Int))) (fk (decide (List.length (List.take (Int.toNat (↑(List.length y1.2.1) : Int) - Int.toNat y1.2.2.2.1) (List.drop (Int.toNat y1.2.2.2.1) y1.2.1)) ≤ bBa)) (fk (decide (List.length (List.take (Int.toNat (↑(List.length y1.2.1) : Int) - Int.toNat y1.2.2.2.1) (List.drop (Int.toNat y1.2.2.2.1) y1.2.1)) = List.length (List.take (Int.toNat (↑(List.length y1.2.1) : Int) - Int.toNat y1.2.2.2.1) (List.drop (Int.toNat y1.2.2.2.1) y1.2.1)))) (fk (decide (List.length y1.1 = List.length y1.1)) (fk (decide (List.length (y1.1 ++ (y1.2.2.1, IntKind.wrap IntKind.i64 ((↑(List.length y1.2.2.2.2.1) : Int) - y1.2.2.1), List.take (Int.toNat (↑(List.length y1.2.1) : Int) - Int.toNat y1.2.2.2.1) (List.drop (Int.toNat y1.2.2.2.1) y1.2.1), ()) :: @List.nil D7) ≤ bBa)) (fk (decide (List.length (y1.1 ++ (y1.2.2.1, IntKind.wrap IntKind.i64 ((↑(List.length y1.2.2.2.2.1) : Int) - y1.2.2.1), List.take (Int.toNat (↑(List.length y1.2.1) : Int) - Int.toNat y1.2.2.2.1) (List.drop (Int.toNat y1.2.2.2.1) y1.2.1), ()) :: @List.nil D7) = List.length (y1.1 ++ (y1.2.2.1, IntKind.wrap IntKind.i64 ((↑(List.length y1.2.2.2.2.1) : Int) - y1.2.2.1), List.take (Int.toNat (↑(List.length y1.2.1) : Int) - Int.toNat y1.2.2.2.1) (List.drop (Int.toNat y1.2.2.2.1) y1.2.1), ()) :: @List.nil D7))) (some (y1.1 ++ (y1.2.2.1, IntKind.wrap IntKind.i64 ((↑(List.length y1.2.2.2.2.1) : Int) - y1.2.2.1), List.take (Int.toNat (↑(List.length y1.2.1) : Int) - Int.toNat y1.2.2.2.1) (List.drop (Int.toNat y1.2.2.2.1) y1.2.1), ()) :: @List.nil D7, ())) none) none) none) none) none) none) none) none) none) (fk (decide ((↑(List.length y1.2.1) : Int) > y1.2.2.2.1)) (fk (decide ((0 : Int) ≤ (↑(List.length y1.2.1) : Int))) (fk (decide ((↑(List.length y1.2.1) : Int) ≤ (↑(List.length y1.2.1) : Int))) (fk (decide ((0 : Int) ≤ y1.2.2.2.1)) (fk (decide (y1.2.2.2.1 ≤ (↑(Int.toNat (↑(List.length y1.2.1) : Int)) : Int))) (fk (decide (List.length (List.take (Int.toNat (↑(List.length y1.2.1) : Int) - Int.toNat y1.2.2.2.1) (List.drop (Int.toNat y1.2.2.2.1) y1.2.1)) ≤ bBa)) (fk (decide (List.length (List.take (Int.toNat (↑(List.length y1.2.1) : Int) - Int.toNat y1.2.2.2.1) (List.drop (Int.toNat y1.2.2.2.1) y1.2.1)) = List.length (List.take (Int.toNat (↑(List.length y1.2.1) : Int) - Int.toNat y1.2.2.2.1) (List.drop (Int.toNat y1.2.2.2.1) y1.2.1)))) (fk (decide (List.length y1.1 = List.length y1.1)) (fk (decide (List.length (y1.1 ++ (y1.2.2.1, IntKind.wrap IntKind.i64 ((↑(List.length y1.2.2.2.2.1) : Int) - y1.2.2.1), List.take (Int.toNat (↑(List.length y1.2.1) : Int) - Int.toNat y1.2.2.2.1) (List.drop (Int.toNat y1.2.2.2.1) y1.2.1), ()) :: @List.nil D7) ≤ bBa)) (fk (decide (List.length (y1.1 ++ (y1.2.2.1, IntKind.wrap IntKind.i64 ((↑(List.length y1.2.2.2.2.1) : Int) - y1.2.2.1), List.take (Int.toNat (↑(List.length y1.2.1) : Int) - Int.toNat y1.2.2.2.1) (List.drop (Int.toNat y1.2.2.2.1) y1.2.1), ()) :: @List.nil D7) = List.length (y1.1 ++ (y1.2.2.1, IntKind.wrap IntKind.i64 ((↑(List.length y1.2.2.2.2.1) : Int) - y1.2.2.1), List.take (Int.toNat (↑(List.length y1.2.1) : Int) - Int.toNat y1.2.2.2.1) (List.drop (Int.toNat y1.2.2.2.1) y1.2.1), ()) :: @List.nil D7))) (some (y1.1 ++ (y1.2.2.1, IntKind.wrap IntKind.i64 ((↑(List.length y1.2.2.2.2.1) : Int) - y1.2.2.1), List.take (Int.toNat (↑(List.length y1.2.1) : Int) - Int.toNat y1.2.2.2.1) (List.drop (Int.toNat y1.2.2.2.1) y1.2.1), ()) :: @List.nil D7, ())) none) none) none) none) none) none) none) none) none) (fk (decide (List.length y1.1 = List.length y1.1)) (some (y1.1, ())) none))) none
theorem Ctb (l0 l1) : Rba (l0, l1, ()) = Mta l0 l1 jKa lIa bFb := eqF (S := S96) fun _ _ _ => by kernel_rfl
noncomputable def S97 : OCs := addF S96 Tryz.prog 196 Yna (.ty (.list Y7)) [] Rba
theorem Sab : fEb Tryz.prog th S97 := Rzb.addF rfl
abbrev Zma : fCa := ⟨[⟨Y5, 70, 3, true⟩], [], [[(.ty (.list .str)), (.ty (.int .i64))]], [], [.nils, (.func 195 [(.bptr 0 0)] []), (.mref 0), (.ty (.list Y7)), (.ty (.int .i64)), (.ty (.int .i64))]⟩
abbrev Zza : List sQa := [⟨(.exit 0), ⟨[⟨Y5, 70, 3, true⟩], [], [[(.ty (.list .str)), (.ty (.int .i64))]], [], [.nils, (.func 195 [(.bptr 0 0)] []), (.mref 0), (.ty (.list Y7)), (.ty (.int .i64)), (.ty (.int .i64))]⟩⟩]
noncomputable def Maa : (List D4) × List ByteArray × Int × (List D7) × Int × Int × Unit → Option ((List D4) × List ByteArray × Int × (List D7) × Int × Int × Unit) := jTa (pBa (nHa Tryz.prog th (S97 jKa lIa bFb) 156 4 Zma Zza))
noncomputable def Tja (l0 : List D4) (l1 : List ByteArray) (i2 : Int) (l3 : List D7) (i4 : Int) (i5 : Int) (fk : Fk) (bd : Bd) (sm : Sm) : Option (((List D4) × List ByteArray × Int × (List D7) × Int × Int × Unit) ⊕ ((List D4) × List ByteArray × Int × (List D7) × Int × Int × Unit)) :=
    let z0 := (List.getD l3 (Int.toNat i5) ((0 : Int), (0 : Int), @List.nil ByteArray, ()))
    let z1 := (IntKind.wrap IntKind.i64 (z0.1 + i2), List.take (Int.toNat (IntKind.wrap IntKind.i64 (z0.1 + z0.2.1)) - Int.toNat z0.1) (List.drop (Int.toNat z0.1) l1), z0.2.2.1, ())
    let z2 := (List.take (Int.toNat (IntKind.wrap IntKind.i64 (z0.1 + z0.2.1)) - Int.toNat z0.1) (List.drop (Int.toNat z0.1) l1))
    let z3 := (l0 ++ z1 :: @List.nil D4)
    fk (decide (i5 < i4)) (fk (decide ((0 : Int) ≤ i5)) (fk (decide (i5 < (↑(List.length l3) : Int))) (fk (decide ((0 : Int) ≤ IntKind.wrap IntKind.i64 (z0.1 + z0.2.1))) (fk (decide (IntKind.wrap IntKind.i64 (z0.1 + z0.2.1) ≤ (↑(List.length l1) : Int))) (fk (decide ((0 : Int) ≤ z0.1)) (fk (decide (z0.1 ≤ (↑(Int.toNat (IntKind.wrap IntKind.i64 (z0.1 + z0.2.1))) : Int))) (fk (decide (List.length z2 ≤ bBa)) (fk (decide (List.length z2 = List.length z2)) (fk (decide (List.length z0.2.2.1 ≤ bBa)) (fk (decide (List.length z0.2.2.1 = List.length z0.2.2.1)) (fk (decide (List.length l0 = List.length l0)) (fk (decide (List.length z3 ≤ bBa)) (fk (decide (List.length z3 = List.length z3)) (some (Sum.inl (l0 ++ z1 :: @List.nil D4, l1, IntKind.wrap IntKind.i64 (i2 + IntKind.wrap IntKind.i64 ((↑(List.length z0.2.2.1) : Int) - z0.2.1)), l3, i4, IntKind.wrap IntKind.i64 (i5 + (1 : Int)), ()))) none) none) none) none) none) none) none) none) none) none) none) none) none) (fk (decide (List.length l0 = List.length l0)) (some (Sum.inr (l0, l1, i2, l3, i4, i5, ()))) none)
theorem Uia (l0 l1 i2 l3 i4 i5) : Maa (l0, l1, i2, l3, i4, i5, ()) = (Tja l0 l1 i2 l3 i4 i5 jKa lIa bFb).bind (Sum.elim Maa some) := eqL (S := S97) fun _ _ _ => by kernel_rfl
noncomputable def S98 : OCs := addL S97 Tryz.prog 156 4 Zma Zza Maa
theorem Sbb : fEb Tryz.prog th S98 := Sab.addL (by kernel_rfl) (by kernel_rfl) (by kernel_rfl) rfl
abbrev Hwb : List Shp := [(.ty (.list .str)), (.ty (.list .str))]
noncomputable def Zpa : List ByteArray × List ByteArray × Unit → Option ((List D4) × Unit) := jTa (fnT Tryz.prog th (S98 jKa lIa bFb) 156 Hwb (.ty (.list Y5)) [])
noncomputable def Hub (l0 : List ByteArray) (l1 : List ByteArray) (fk : Fk) (bd : Bd) (sm : Sm) : Option ((List D4) × Unit) :=
    bd (Rba (l0, l1, ())) fun y0 => fk (decide (List.length (@List.nil D4) = (0 : Nat))) (bd (Maa (@List.nil D4, l0, (0 : Int), y0.1, (↑(List.length y0.1) : Int), (0 : Int), ())) fun y1 => fk (decide (List.length y1.1 = List.length y1.1)) (some (y1.1, ())) none) none
theorem Itb (l0 l1) : Zpa (l0, l1, ()) = Hub l0 l1 jKa lIa bFb := eqF (S := S98) fun _ _ _ => by kernel_rfl
noncomputable def S99 : OCs := addF S98 Tryz.prog 156 Hwb (.ty (.list Y5)) [] Zpa
theorem Scb : fEb Tryz.prog th S99 := Sbb.addF rfl
abbrev Uea : fCa := ⟨[⟨Y1, 72, 6, true⟩], [], [[(.mref 0)]], [], [(.func 116 [(.bptr 0 0)] []), (.ty .str), (.ty .bool), (.ty (.list Y5)), (.ty (.int .i64)), (.ty (.int .i64))]⟩
abbrev Uua : List sQa := [⟨(.exit 0), ⟨[⟨Y1, 72, 6, true⟩], [], [[(.mref 0)]], [], [(.func 116 [(.bptr 0 0)] []), (.ty .str), (.ty .bool), (.ty (.list Y5)), (.ty (.int .i64)), (.ty (.int .i64))]⟩⟩]
noncomputable def Gma : (List D0) × ByteArray × Bool × (List D4) × Int × Int × Unit → Option ((List D0) × ByteArray × Bool × (List D4) × Int × Int × Unit) := jTa (pBa (nHa Tryz.prog th (S99 jKa lIa bFb) 118 5 Uea Uua))
noncomputable def Mua (l0 : List D0) (s1 : ByteArray) (b2 : Bool) (l3 : List D4) (i4 : Int) (i5 : Int) (fk : Fk) (bd : Bd) (sm : Sm) : Option (((List D0) × ByteArray × Bool × (List D4) × Int × Int × Unit) ⊕ ((List D0) × ByteArray × Bool × (List D4) × Int × Int × Unit)) :=
    let z2 := (List.getD l3 (Int.toNat i5) ((0 : Int), @List.nil ByteArray, @List.nil ByteArray, ()))
    let z0 := ((3 : Int), s1, ByteArray.empty, (z2.1, z2.2.1, z2.2.2.1, ()), ())
    let z1 := (l0 ++ z0 :: @List.nil D0)
    fk (decide (i5 < i4)) (fk (decide ((0 : Int) ≤ i5)) (fk (decide (i5 < (↑(List.length l3) : Int))) (fk (decide (List.length l0 = List.length l0)) (fk (decide (List.length z1 ≤ bBa)) (fk (decide (List.length z1 = List.length z1)) (some (Sum.inl (l0 ++ z0 :: @List.nil D0, s1, b2, l3, i4, IntKind.wrap IntKind.i64 (i5 + (1 : Int)), ()))) none) none) none) none) none) (fk (decide (List.length l0 = List.length l0)) (some (Sum.inr (l0, s1, b2, l3, i4, i5, ()))) none)
theorem Qea (l0 s1 b2 l3 i4 i5) : Gma (l0, s1, b2, l3, i4, i5, ()) = (Mua l0 s1 b2 l3 i4 i5 jKa lIa bFb).bind (Sum.elim Gma some) := eqL (S := S99) fun _ _ _ => by kernel_rfl
noncomputable def Stb : OCs := addL S99 Tryz.prog 118 5 Uea Uua Gma
theorem Mrb : fEb Tryz.prog th Stb := Scb.addL (by kernel_rfl) (by kernel_rfl) (by kernel_rfl) rfl
abbrev Zna : fCa := ⟨[⟨Y1, 72, 6, true⟩], [], [[(.mref 0)]], [], [(.ty Y2), (.ty Y2), .nils, (.st (.int .i64 0)), (.bptr 0 0), (.func 116 [(.bptr 0 0)] []), (.ty (.list .str)), (.ty (.int .i64)), (.ty (.int .i64))]⟩
abbrev Aab : List sQa := [⟨(.exit 0), ⟨[⟨Y1, 72, 6, true⟩], [], [[(.mref 0)]], [], [(.ty Y2), (.ty Y2), .nils, (.st (.int .i64 0)), (.bptr 0 0), (.func 116 [(.bptr 0 0)] []), (.ty (.list .str)), (.ty (.int .i64)), (.ty (.int .i64))]⟩⟩]
noncomputable def Jxa : (List D0) × (List D2) × (List D2) × List ByteArray × Int × Int × Unit → Option ((List D0) × (List D2) × (List D2) × List ByteArray × Int × Int × Unit) := jTa (pBa (nHa Tryz.prog th (Stb jKa lIa bFb) 61 6 Zna Aab))
noncomputable def Ica (l0 : List D0) (l1 : List D2) (l2 : List D2) (l3 : List ByteArray) (i4 : Int) (i5 : Int) (fk : Fk) (bd : Bd) (sm : Sm) : Option (((List D0) × (List D2) × (List D2) × List ByteArray × Int × Int × Unit) ⊕ ((List D0) × (List D2) × (List D2) × List ByteArray × Int × Int × Unit)) :=
    let z0 := ((0 : Int), @List.nil ByteArray, @List.nil ByteArray, ())
    let z1 := (l0 ++ ((0 : Int), List.getD l3 (Int.toNat i5) ByteArray.empty, ByteArray.empty, z0, ()) :: @List.nil D0)
    fk (decide (i5 < i4)) (fk (decide ((0 : Int) ≤ i5)) (fk (decide (i5 < (↑(List.length l3) : Int))) (bd (Hxa (l1, List.getD l3 (Int.toNat i5) ByteArray.empty, ())) fun y0 => bd (Hxa (l2, List.getD l3 (Int.toNat i5) ByteArray.empty, ())) fun y1 => fk (!y0.2.1) (fk (decide (List.length l0 = List.length l0)) (fk (decide (List.length z1 ≤ bBa)) (bd (Zpa (y0.1, y1.1, ())) fun y2 => fk (decide (List.length z1 = List.length z1)) (bd (Gma (l0 ++ ((0 : Int), List.getD l3 (Int.toNat i5) ByteArray.empty, ByteArray.empty, z0, ()) :: @List.nil D0, List.getD l3 (Int.toNat i5) ByteArray.empty, y1.2.1, y2.1, (↑(List.length y2.1) : Int), (0 : Int), ())) fun y3 => fk (!y3.2.2.1) (fk (decide (List.length y3.1 = List.length y3.1)) (fk (decide (List.length (y3.1 ++ ((1 : Int), y3.2.1, ByteArray.empty, z0, ()) :: @List.nil D0) ≤ bBa)) (fk (decide (List.length (y3.1 ++ ((1 : Int), y3.2.1, ByteArray.empty, z0, ()) :: @List.nil D0) = List.length (y3.1 ++ ((1 : Int), y3.2.1, ByteArray.empty, z0, ()) :: @List.nil D0))) (some (Sum.inl (y3.1 ++ ((1 : Int), y3.2.1, ByteArray.empty, z0, ()) :: @List.nil D0, l1, l2, l3, i4, IntKind.wrap IntKind.i64 (i5 + (1 : Int)), ()))) none) none) none) (fk (decide (List.length y3.1 = List.length y3.1)) (some (Sum.inl (y3.1, l1, l2, l3, i4, IntKind.wrap IntKind.i64 (i5 + (1 : Int)), ()))) none)) none) none) none) (bd (Zpa (y0.1, y1.1, ())) fun y4 => fk (decide (List.length l0 = List.length l0)) (bd (Gma (l0, List.getD l3 (Int.toNat i5) ByteArray.empty, y1.2.1, y4.1, (↑(List.length y4.1) : Int), (0 : Int), ())) fun y5 => fk (!y5.2.2.1) (fk (decide (List.length y5.1 = List.length y5.1)) (fk (decide (List.length (y5.1 ++ ((1 : Int), y5.2.1, ByteArray.empty, z0, ()) :: @List.nil D0) ≤ bBa)) (fk (decide (List.length (y5.1 ++ ((1 : Int), y5.2.1, ByteArray.empty, z0, ()) :: @List.nil D0) = List.length (y5.1 ++ ((1 : Int), y5.2.1, ByteArray.empty, z0, ()) :: @List.nil D0))) (some (Sum.inl (y5.1 ++ ((1 : Int), y5.2.1, ByteArray.empty, z0, ()) :: @List.nil D0, l1, l2, l3, i4, IntKind.wrap IntKind.i64 (i5 + (1 : Int)), ()))) none) none) none) (fk (decide (List.length y5.1 = List.length y5.1)) (some (Sum.inl (y5.1, l1, l2, l3, i4, IntKind.wrap IntKind.i64 (i5 + (1 : Int)), ()))) none)) none)) none) none) (fk (decide (List.length l0 = List.length l0)) (some (Sum.inr (l0, l1, l2, l3, i4, i5, ()))) none)
theorem Uqa (l0 l1 l2 l3 i4 i5) : Jxa (l0, l1, l2, l3, i4, i5, ()) = (Ica l0 l1 l2 l3 i4 i5 jKa lIa bFb).bind (Sum.elim Jxa some) := eqL (S := Stb) fun _ _ _ => by kernel_rfl
noncomputable def Sub : OCs := addL Stb Tryz.prog 61 6 Zna Aab Jxa
theorem Msb : fEb Tryz.prog th Sub := Mrb.addL (by kernel_rfl) (by kernel_rfl) (by kernel_rfl) rfl
abbrev Iab : List Shp := [(.ty Y2), (.ty Y2)]
noncomputable def Dhb : (List D2) × (List D2) × Unit → Option D22 := jTa (fnT Tryz.prog th (Sub jKa lIa bFb) 61 Iab (.tuple [(.ty (.list Y1)), (.ty (.int .i64))]) [])
noncomputable def Xja (l0 : List D2) (l1 : List D2) (fk : Fk) (bd : Bd) (sm : Sm) : Option D22 :=
    bd (Lna (l0, ())) fun y0 => fk (!y0.1) (some (@List.nil D0, (1 : Int), ())) (bd (Lna (l1, ())) fun y1 => fk (!y1.1) (some (@List.nil D0, (1 : Int), ())) (bd (Rra (l0, l1, ())) fun y2 => fk (decide (List.length (@List.nil D0) = (0 : Nat))) (bd (Jxa (@List.nil D0, l0, l1, y2.1, (↑(List.length y2.1) : Int), (0 : Int), ())) fun y3 => fk (decide (List.length y3.1 = List.length y3.1)) (some (y3.1, (0 : Int), ())) none) none))
theorem Jbb (l0 l1) : Dhb (l0, l1, ()) = Xja l0 l1 jKa lIa bFb := eqF (S := Sub) fun _ _ _ => by kernel_rfl
noncomputable def Svb : OCs := addF Sub Tryz.prog 61 Iab (.tuple [(.ty (.list Y1)), (.ty (.int .i64))]) [] Dhb
theorem Mtb : fEb Tryz.prog th Svb := Msb.addF rfl
abbrev Byb : List Shp := [(.ty Y4)]
noncomputable def Qra : D6 × Unit → Option D35 := jTa (fnT Tryz.prog th (Svb jKa lIa bFb) 24 Byb (.ty (.list Y1)) [])
noncomputable def Bnb (x0 : Int × (List D1) × (List D2) × (List D2) × Int × Unit) (fk : Fk) (bd : Bd) (sm : Sm) : Option D35 :=
    bd (Nga ((x0.1, x0.2.1, x0.2.2.1, x0.2.2.2.1, x0.2.2.2.2.1, ()), ())) fun y0 => fk (!y0.1) (some (@List.nil D0, ())) (bd (Dhb (x0.2.2.1, x0.2.2.2.1, ())) fun y1 => some (y1.1, ()))
theorem Gdb (x0) : Qra (x0, ()) = Bnb x0 jKa lIa bFb := eqF (S := Svb) fun _ _ _ => by kernel_rfl
noncomputable def Swb : OCs := addF Svb Tryz.prog 24 Byb (.ty (.list Y1)) [] Qra
theorem Mub : fEb Tryz.prog th Swb := Mtb.addF rfl
abbrev Gka : fCa := ⟨[⟨Y0, 40, 5, false⟩], [], [[(.ty (.int .i64)), (.ty (.list Y0)), (.ty Y2), (.ty Y2), (.ty (.int .i64))], [(.st (.int .i64 0)), .nils, .nils, .nils, (.st (.int .i64 0))], [(.ty (.int .i64)), (.mref 0), (.ty Y2), (.ty Y2), (.ty (.int .i64))], [(.ty (.int .i64)), (.mref 0), (.ty Y2), (.ty Y2), (.ty (.int .i64))], [(.ty (.int .i64)), (.ty (.int .i64))], [(.ty (.int .i64)), (.ty (.int .i64)), (.ty (.list Y3)), (.ty .str), (.ty (.list Y1))]], [], [(.ty (.list Y3)), (.func 80 [] [(.bptr 0 0)]), (.st (.int .i64 0)), (.ty (.int .i64)), (.ty (.int .i64))]⟩
abbrev Gqa : List sQa := [⟨.ret, ⟨[⟨Y0, 40, 5, false⟩], [], [[(.ty (.int .i64)), (.ty (.list Y0)), (.ty Y2), (.ty Y2), (.ty (.int .i64))], [(.st (.int .i64 0)), .nils, .nils, .nils, (.st (.int .i64 0))], [(.ty (.int .i64)), (.mref 0), (.ty Y2), (.ty Y2), (.ty (.int .i64))], [(.ty (.int .i64)), (.mref 0), (.ty Y2), (.ty Y2), (.ty (.int .i64))], [(.ty (.int .i64)), (.ty (.int .i64))], [(.ty (.int .i64)), (.ty (.int .i64)), (.ty (.list Y3)), (.ty .str), (.ty (.list Y1))]], [], [(.ty (.list Y3)), (.func 80 [] [(.bptr 0 0)]), (.ty (.int .i64)), (.ty (.int .i64)), (.ty (.int .i64))]⟩⟩, ⟨(.exit 0), ⟨[⟨Y0, 40, 5, false⟩], [], [[(.ty (.int .i64)), (.ty (.list Y0)), (.ty Y2), (.ty Y2), (.ty (.int .i64))], [(.st (.int .i64 0)), .nils, .nils, .nils, (.st (.int .i64 0))], [(.ty (.int .i64)), (.mref 0), (.ty Y2), (.ty Y2), (.ty (.int .i64))], [(.ty (.int .i64)), (.mref 0), (.ty Y2), (.ty Y2), (.ty (.int .i64))], [(.ty (.int .i64)), (.ty (.int .i64))], [(.ty (.int .i64)), (.ty (.int .i64)), (.ty (.list Y3)), (.ty .str), (.ty (.list Y1))]], [], [(.ty (.list Y3)), (.func 80 [] [(.bptr 0 0)]), (.st (.int .i64 0)), (.ty (.int .i64)), (.ty (.int .i64))]⟩⟩]
noncomputable def Ala : (List D1) × Int × (List D1) × (List D2) × (List D2) × Int × Int × (List D2) × (List D2) × Int × Int × (List D2) × (List D2) × Int × Int × Int × Int × Int × (List D3) × ByteArray × (List D0) × (List D3) × Int × Int × Unit → Option (D27 ⊕ D13) := jTa (pBa (nHa Tryz.prog th (Swb jKa lIa bFb) 125 2 Gka Gqa))
noncomputable def Bsa (l0 : List D1) (i1 : Int) (l2 : List D1) (l3 : List D2) (l4 : List D2) (i5 : Int) (i6 : Int) (l7 : List D2) (l8 : List D2) (i9 : Int) (i10 : Int) (l11 : List D2) (l12 : List D2) (i13 : Int) (i14 : Int) (i15 : Int) (i16 : Int) (i17 : Int) (l18 : List D3) (s19 : ByteArray) (l20 : List D0) (l21 : List D3) (i22 : Int) (i23 : Int) (fk : Fk) (bd : Bd) (sm : Sm) : Option (D13 ⊕ (D27 ⊕ D13)) :=
    let z0 := (decide (List.length l0 = List.length l0))
    fk (decide (i23 < i22)) (fk (decide ((0 : Int) ≤ i23)) (fk (decide (i23 < (↑(List.length l21) : Int))) (bd (Iia (l2, ((List.getD l21 (Int.toNat i23) ((0 : Int), (0 : Int), ())).1, (List.getD l21 (Int.toNat i23) ((0 : Int), (0 : Int), ())).2.1, ()), ())) fun y0 => fk (decide (y0.1 < (0 : Int))) (fk z0 (fk z0 (some (Sum.inr (Sum.inl (l0, i1, l2, l3, l4, i5, i6, l7, l8, i9, i10, l11, l12, i13, i14, i15, i16, i17, l18, s19, l20, l21, i23, i22, i23, ())))) none) none) (fk z0 (fk z0 (some (Sum.inl (l0, i1, l2, l3, l4, i5, i6, l7, l8, i9, i10, l11, l12, i13, i14, i15, i16, i17, l18, s19, l20, l21, i22, IntKind.wrap IntKind.i64 (i23 + (1 : Int)), ()))) none) none)) none) none) (fk z0 (fk z0 (some (Sum.inr (Sum.inr (l0, i1, l2, l3, l4, i5, i6, l7, l8, i9, i10, l11, l12, i13, i14, i15, i16, i17, l18, s19, l20, l21, i22, i23, ())))) none) none)
theorem Faa (l0 i1 l2 l3 l4 i5 i6 l7 l8 i9 i10 l11 l12 i13 i14 i15 i16 i17 l18 s19 l20 l21 i22 i23) : Ala (l0, i1, l2, l3, l4, i5, i6, l7, l8, i9, i10, l11, l12, i13, i14, i15, i16, i17, l18, s19, l20, l21, i22, i23, ()) = (Bsa l0 i1 l2 l3 l4 i5 i6 l7 l8 i9 i10 l11 l12 i13 i14 i15 i16 i17 l18 s19 l20 l21 i22 i23 jKa lIa bFb).bind (Sum.elim Ala some) := eqL (S := Swb) fun _ _ _ => by kernel_rfl
noncomputable def Sxb : OCs := addL Swb Tryz.prog 125 2 Gka Gqa Ala
theorem Mvb : fEb Tryz.prog th Sxb := Mub.addL (by kernel_rfl) (by kernel_rfl) (by kernel_rfl) rfl
abbrev Wla : List Shp := [(.ty Y4), (.ty .str), (.ty (.list Y3))]
noncomputable def Nia : D6 × ByteArray × (List D3) × Unit → Option D23 := jTa (fnT Tryz.prog th (Sxb jKa lIa bFb) 30 Wla (.tuple [(.ty Y4), (.ty (.int .i64))]) [])
noncomputable def Wha (x0 : Int × (List D1) × (List D2) × (List D2) × Int × Unit) (s1 : ByteArray) (l2 : List D3) (fk : Fk) (bd : Bd) (sm : Sm) : Option D23 :=
    let z0 := ((0 : Int), @List.nil D5, @List.nil D2, @List.nil D2, (0 : Int), ())
    bd (Nga ((x0.1, x0.2.1, x0.2.2.1, x0.2.2.2.1, x0.2.2.2.2.1, ()), ())) fun y0 => fk (!y0.1) (some (z0, (1 : Int), ())) (bd (Dua (x0.2.1, @List.nil D3, ())) fun y1 => bd (Hua (x0.2.2.1, ())) fun y2 => bd (Hua (x0.2.2.2.1, ())) fun y3 => fk (decide (x0.1 = x0.1)) (fk (eqT (Ty.list (Ty.pair (Ty.pair (Ty.int IntKind.i64) (Ty.pair (Ty.int IntKind.i64) Ty.unit)) (Ty.pair (Ty.list (Ty.pair (Ty.int IntKind.i64) (Ty.pair (Ty.int IntKind.i64) Ty.unit))) (Ty.pair Ty.str (Ty.pair (Ty.list (Ty.pair (Ty.int IntKind.i64) (Ty.pair Ty.str (Ty.pair Ty.str (Ty.pair (Ty.pair (Ty.int IntKind.i64) (Ty.pair (Ty.list Ty.str) (Ty.pair (Ty.list Ty.str) Ty.unit))) Ty.unit))))) Ty.unit))))) x0.2.1 x0.2.1) (fk (eqT (Ty.list (Ty.pair Ty.str (Ty.pair (Ty.list Ty.str) Ty.unit))) x0.2.2.1 x0.2.2.1) (fk (eqT (Ty.list (Ty.pair Ty.str (Ty.pair (Ty.list Ty.str) Ty.unit))) x0.2.2.2.1 x0.2.2.2.1) (fk (decide (x0.2.2.2.2.1 = x0.2.2.2.2.1)) (fk (decide ((0 : Int) = (0 : Int))) (fk (decide ((0 : Int) = (0 : Int))) (bd (Qra ((x0.1, x0.2.1, x0.2.2.1, x0.2.2.2.1, x0.2.2.2.2.1, ()), ())) fun y4 => fk (decide (List.length y1.1 = List.length y1.1)) (fk (decide ((↑(List.length y1.1) : Int) < (60 : Int))) (fk (decide (List.length l2 ≤ bBa)) (fk (decide (List.length l2 = List.length l2)) (fk ((↑(List.length y4.1) : Int) == (0 : Int)) (some (z0, (3 : Int), ())) (fk (!decide (x0.2.2.2.2.1 < (1048576 : Int))) (some (z0, (8 : Int), ())) (fk (decide ((↑(List.length y4.1) : Int) > (200 : Int))) (some (z0, (8 : Int), ())) (bd (Moa (((x0.1, IntKind.wrap IntKind.i64 (x0.2.2.2.2.1 + (1 : Int)), ()), l2, s1, y4.1, ()), ())) fun y5 => fk (!y5.1) (some (z0, (1 : Int), ())) (fk (decide (List.length y1.1 = List.length y1.1)) (fk (decide (List.length y1.1 = List.length y1.1)) (bd (Ala (y1.1, x0.1, x0.2.1, x0.2.2.1, x0.2.2.2.1, x0.2.2.2.2.1, x0.1, y2.1, y3.1, x0.2.2.2.2.1, x0.1, y2.1, y3.1, x0.2.2.2.2.1, x0.1, IntKind.wrap IntKind.i64 (x0.2.2.2.2.1 + (1 : Int)), x0.1, IntKind.wrap IntKind.i64 (x0.2.2.2.2.1 + (1 : Int)), l2, s1, y4.1, l2, (↑(List.length l2) : Int), (0 : Int), ())) fun y6 => sm y6 (fun y7 => fk (decide (y7.2.2.2.2.2.2.2.2.2.2.2.2.2.2.2.2.2.2.2.2.2.2.1 ≥ (0 : Int))) (some (z0, (3 : Int), ())) (fk (decide (List.length y7.1 = List.length y7.1)) (fk (decide (List.length (y7.1 ++ ((y7.2.2.2.2.2.2.2.2.2.2.2.2.2.2.2.2.1, y7.2.2.2.2.2.2.2.2.2.2.2.2.2.2.2.2.2.1, ()), y7.2.2.2.2.2.2.2.2.2.2.2.2.2.2.2.2.2.2.1, y7.2.2.2.2.2.2.2.2.2.2.2.2.2.2.2.2.2.2.2.1, y7.2.2.2.2.2.2.2.2.2.2.2.2.2.2.2.2.2.2.2.2.1, ()) :: @List.nil D5) ≤ bBa)) (bd (Hua (y7.2.2.2.2.2.2.2.2.2.2.2.2.1, ())) fun y8 => bd (Hua (y7.2.2.2.2.2.2.2.2.2.2.2.2.1, ())) fun y9 => fk (decide (List.length (y7.1 ++ ((y7.2.2.2.2.2.2.2.2.2.2.2.2.2.2.2.2.1, y7.2.2.2.2.2.2.2.2.2.2.2.2.2.2.2.2.2.1, ()), y7.2.2.2.2.2.2.2.2.2.2.2.2.2.2.2.2.2.2.1, y7.2.2.2.2.2.2.2.2.2.2.2.2.2.2.2.2.2.2.2.1, y7.2.2.2.2.2.2.2.2.2.2.2.2.2.2.2.2.2.2.2.2.1, ()) :: @List.nil D5) = List.length (y7.1 ++ ((y7.2.2.2.2.2.2.2.2.2.2.2.2.2.2.2.2.1, y7.2.2.2.2.2.2.2.2.2.2.2.2.2.2.2.2.2.1, ()), y7.2.2.2.2.2.2.2.2.2.2.2.2.2.2.2.2.2.2.1, y7.2.2.2.2.2.2.2.2.2.2.2.2.2.2.2.2.2.2.2.1, y7.2.2.2.2.2.2.2.2.2.2.2.2.2.2.2.2.2.2.2.2.1, ()) :: @List.nil D5))) (some ((y7.2.2.2.2.2.2.2.2.2.2.1, y7.1 ++ ((y7.2.2.2.2.2.2.2.2.2.2.2.2.2.2.2.2.1, y7.2.2.2.2.2.2.2.2.2.2.2.2.2.2.2.2.2.1, ()), y7.2.2.2.2.2.2.2.2.2.2.2.2.2.2.2.2.2.2.1, y7.2.2.2.2.2.2.2.2.2.2.2.2.2.2.2.2.2.2.2.1, y7.2.2.2.2.2.2.2.2.2.2.2.2.2.2.2.2.2.2.2.2.1, ()) :: @List.nil D5, y8.1, y9.1, IntKind.wrap IntKind.i64 (y7.2.2.2.2.2.2.2.2.2.2.2.2.2.1 + (1 : Int)), ()), (0 : Int), ())) none) none) none)) fun y10 => fk (decide (List.length y10.1 = List.length y10.1)) (fk (decide (List.length (y10.1 ++ ((y10.2.2.2.2.2.2.2.2.2.2.2.2.2.2.2.2.1, y10.2.2.2.2.2.2.2.2.2.2.2.2.2.2.2.2.2.1, ()), y10.2.2.2.2.2.2.2.2.2.2.2.2.2.2.2.2.2.2.1, y10.2.2.2.2.2.2.2.2.2.2.2.2.2.2.2.2.2.2.2.1, y10.2.2.2.2.2.2.2.2.2.2.2.2.2.2.2.2.2.2.2.2.1, ()) :: @List.nil D5) ≤ bBa)) (bd (Hua (y10.2.2.2.2.2.2.2.2.2.2.2.2.1, ())) fun y11 => bd (Hua (y10.2.2.2.2.2.2.2.2.2.2.2.2.1, ())) fun y12 => fk (decide (List.length (y10.1 ++ ((y10.2.2.2.2.2.2.2.2.2.2.2.2.2.2.2.2.1, y10.2.2.2.2.2.2.2.2.2.2.2.2.2.2.2.2.2.1, ()), y10.2.2.2.2.2.2.2.2.2.2.2.2.2.2.2.2.2.2.1, y10.2.2.2.2.2.2.2.2.2.2.2.2.2.2.2.2.2.2.2.1, y10.2.2.2.2.2.2.2.2.2.2.2.2.2.2.2.2.2.2.2.2.1, ()) :: @List.nil D5) = List.length (y10.1 ++ ((y10.2.2.2.2.2.2.2.2.2.2.2.2.2.2.2.2.1, y10.2.2.2.2.2.2.2.2.2.2.2.2.2.2.2.2.2.1, ()), y10.2.2.2.2.2.2.2.2.2.2.2.2.2.2.2.2.2.2.1, y10.2.2.2.2.2.2.2.2.2.2.2.2.2.2.2.2.2.2.2.1, y10.2.2.2.2.2.2.2.2.2.2.2.2.2.2.2.2.2.2.2.2.1, ()) :: @List.nil D5))) (some ((y10.2.2.2.2.2.2.2.2.2.2.1, y10.1 ++ ((y10.2.2.2.2.2.2.2.2.2.2.2.2.2.2.2.2.1, y10.2.2.2.2.2.2.2.2.2.2.2.2.2.2.2.2.2.1, ()), y10.2.2.2.2.2.2.2.2.2.2.2.2.2.2.2.2.2.2.1, y10.2.2.2.2.2.2.2.2.2.2.2.2.2.2.2.2.2.2.2.1, y10.2.2.2.2.2.2.2.2.2.2.2.2.2.2.2.2.2.2.2.2.1, ()) :: @List.nil D5, y11.1, y12.1, IntKind.wrap IntKind.i64 (y10.2.2.2.2.2.2.2.2.2.2.2.2.2.1 + (1 : Int)), ()), (0 : Int), ())) none) none) none) none) none))))) none) none) (fk (decide (List.length l2 ≤ bBa)) (fk (decide (List.length l2 = List.length l2)) (fk ((↑(List.length y4.1) : Int) == (0 : Int)) (some (z0, (3 : Int), ())) (some (z0, (8 : Int), ()))) none) none)) none) none) none) none) none) none) none) none)
theorem Bcb (x0 s1 l2) : Nia (x0, s1, l2, ()) = Wha x0 s1 l2 jKa lIa bFb := eqF (S := Sxb) fun _ _ _ => by kernel_rfl
noncomputable def Uqb : OCs := addF Sxb Tryz.prog 30 Wla (.tuple [(.ty Y4), (.ty (.int .i64))]) [] Nia
theorem Mwb : fEb Tryz.prog th Uqb := Mvb.addF rfl
noncomputable def Tna : Unit → Option (Bool × Unit) := fun _ => some (true, ())
theorem Azb : Tna () = some (true, ()) := rfl
noncomputable def Syb : OCs := addF Uqb Tryz.prog 18 [] (.ty .bool) [] Tna
theorem Mxb : fEb Tryz.prog th Syb := Mwb.addC (nXb (kIb 100000 _ _ (by kernel_rfl)))
abbrev Psa : fCa := ⟨[], [], [], [], [(.ty (.list .str)), (.st (.bool false)), (.ty (.int .i64))]⟩
abbrev Qha : List sQa := [⟨.ret, ⟨[], [], [], [], [(.ty (.list .str)), (.st (.bool false)), (.ty (.int .i64))]⟩⟩, ⟨(.exit 0), ⟨[], [], [], [], [(.ty (.list .str)), (.st (.bool false)), (.ty (.int .i64))]⟩⟩]
noncomputable def Fia : List ByteArray × Int × Unit → Option (D19 ⊕ D19) := jTa (pBa (nHa Tryz.prog th (Syb jKa lIa bFb) 140 4 Psa Qha))
noncomputable def Gva (l0 : List ByteArray) (i1 : Int) (fk : Fk) (bd : Bd) (sm : Sm) : Option (D19 ⊕ (D19 ⊕ D19)) :=
    fk (decide (i1 < (↑(List.length l0) : Int))) (fk (decide ((0 : Int) ≤ i1)) (fk (decide (i1 < (↑(List.length l0) : Int))) (fk (decide ((↑(ByteArray.size (List.getD l0 (Int.toNat i1) ByteArray.empty)) : Int) > (200 : Int))) (some (Sum.inr (Sum.inl (l0, i1, ())))) (some (Sum.inl (l0, IntKind.wrap IntKind.i64 (i1 + (1 : Int)), ())))) none) none) (some (Sum.inr (Sum.inr (l0, i1, ()))))
theorem Mba (l0 i1) : Fia (l0, i1, ()) = (Gva l0 i1 jKa lIa bFb).bind (Sum.elim Fia some) := eqL (S := Syb) fun _ _ _ => by kernel_rfl
noncomputable def Szb : OCs := addL Syb Tryz.prog 140 4 Psa Qha Fia
theorem Jkb : fEb Tryz.prog th Szb := Mxb.addL (by kernel_rfl) (by kernel_rfl) (by kernel_rfl) rfl
abbrev Pha : List Shp := [(.ty (.list .str)), (.ty (.int .i64))]
noncomputable def Gea : List ByteArray × Int × Unit → Option (Bool × Unit) := jTa (fnT Tryz.prog th (Szb jKa lIa bFb) 140 Pha (.ty .bool) [])
noncomputable def Lfa (l0 : List ByteArray) (i1 : Int) (fk : Fk) (bd : Bd) (sm : Sm) : Option (Bool × Unit) :=
    fk (decide ((↑(List.length l0) : Int) > i1)) (some (false, ())) (bd (Fia (l0, (0 : Int), ())) fun y0 => sm y0 (fun y1 => some (false, ())) fun y2 => some (true, ()))
theorem Apb (l0 i1) : Gea (l0, i1, ()) = Lfa l0 i1 jKa lIa bFb := eqF (S := Szb) fun _ _ _ => by kernel_rfl
noncomputable def Tab : OCs := addF Szb Tryz.prog 140 Pha (.ty .bool) [] Gea
theorem Jlb : fEb Tryz.prog th Tab := Jkb.addF rfl
theorem Mdb : nJb Tryz.prog th 140 Pha (.ty .bool) [] Gea := Jkb.fn rfl
abbrev Pia : List Shp := [(.ty Y5)]
noncomputable def Kna : D4 × Unit → Option (Bool × Unit) := jTa (fnT Tryz.prog th (Tab jKa lIa bFb) 172 Pia (.ty .bool) [])
noncomputable def Wca (x0 : Int × List ByteArray × List ByteArray × Unit) (fk : Fk) (bd : Bd) (sm : Sm) : Option (Bool × Unit) :=
    bd (Gea (x0.2.1, (300 : Int), ())) fun y0 => bd (Gea (x0.2.2.1, (300 : Int), ())) fun y1 => fk y0.1 (some (y1.1, ())) (some (false, ()))
theorem Aqb (x0) : Kna (x0, ()) = Wca x0 jKa lIa bFb := eqF (S := Tab) fun _ _ _ => by kernel_rfl
noncomputable def Tbb : OCs := addF Tab Tryz.prog 172 Pia (.ty .bool) [] Kna
theorem Jmb : fEb Tryz.prog th Tbb := Jlb.addF rfl
theorem Meb : nJb Tryz.prog th 172 Pia (.ty .bool) [] Kna := Jlb.fn rfl
abbrev Pka : List Shp := [(.ty Y1)]
noncomputable def Kpa : D0 × Unit → Option (Bool × Unit) := jTa (fnT Tryz.prog th (Tbb jKa lIa bFb) 141 Pka (.ty .bool) [])
noncomputable def Wda (x0 : Int × ByteArray × ByteArray × D4 × Unit) (fk : Fk) (bd : Bd) (sm : Sm) : Option (Bool × Unit) :=
    bd (Kna ((x0.2.2.2.1.1, x0.2.2.2.1.2.1, x0.2.2.2.1.2.2.1, ()), ())) fun y0 => fk y0.1 (fk (decide ((↑(ByteArray.size x0.2.1) : Int) ≤ (100 : Int))) (some (decide ((↑(ByteArray.size x0.2.2.1) : Int) ≤ (100 : Int)), ())) (some (false, ()))) (some (false, ()))
theorem Atb (x0) : Kpa (x0, ()) = Wda x0 jKa lIa bFb := eqF (S := Tbb) fun _ _ _ => by kernel_rfl
noncomputable def Tcb : OCs := addF Tbb Tryz.prog 141 Pka (.ty .bool) [] Kpa
theorem Myb : fEb Tryz.prog th Tcb := Jmb.addF rfl
theorem Mgb : nJb Tryz.prog th 141 Pka (.ty .bool) [] Kpa := Jmb.fn rfl
abbrev Uca : fCa := ⟨[], [], [], [], [(.ty (.list Y1)), (.st (.bool false)), (.ty (.int .i64))]⟩
abbrev Usa : List sQa := [⟨.ret, ⟨[], [], [], [], [(.ty (.list Y1)), (.st (.bool false)), (.ty (.int .i64))]⟩⟩, ⟨(.exit 0), ⟨[], [], [], [], [(.ty (.list Y1)), (.st (.bool false)), (.ty (.int .i64))]⟩⟩]
noncomputable def Jaa : (List D0) × Int × Unit → Option (D22 ⊕ D22) := jTa (pBa (nHa Tryz.prog th (Tcb jKa lIa bFb) 89 4 Uca Usa))
noncomputable def Gwa (l0 : List D0) (i1 : Int) (fk : Fk) (bd : Bd) (sm : Sm) : Option (D22 ⊕ (D22 ⊕ D22)) :=
    let z0 := (List.getD l0 (Int.toNat i1) ((0 : Int), ByteArray.empty, ByteArray.empty, ((0 : Int), @List.nil ByteArray, @List.nil ByteArray, ()), ()))
    fk (decide (i1 < (↑(List.length l0) : Int))) (fk (decide ((0 : Int) ≤ i1)) (fk (decide (i1 < (↑(List.length l0) : Int))) (bd (Kpa ((z0.1, z0.2.1, z0.2.2.1, (z0.2.2.2.1.1, z0.2.2.2.1.2.1, z0.2.2.2.1.2.2.1, ()), ()), ())) fun y0 => fk (!y0.1) (some (Sum.inr (Sum.inl (l0, i1, ())))) (fk (decide ((0 : Int) ≤ i1)) (fk (decide (i1 < (↑(List.length l0) : Int))) (fk (decide (z0.2.2.2.1.1 > (524288 : Int))) (some (Sum.inr (Sum.inl (l0, i1, ())))) (some (Sum.inl (l0, IntKind.wrap IntKind.i64 (i1 + (1 : Int)), ())))) none) none)) none) none) (some (Sum.inr (Sum.inr (l0, i1, ()))))
theorem Pya (l0 i1) : Jaa (l0, i1, ()) = (Gwa l0 i1 jKa lIa bFb).bind (Sum.elim Jaa some) := eqL (S := Tcb) fun _ _ _ => by kernel_rfl
noncomputable def Tdb : OCs := addL Tcb Tryz.prog 89 4 Uca Usa Jaa
theorem Jnb : fEb Tryz.prog th Tdb := Myb.addL (by kernel_rfl) (by kernel_rfl) (by kernel_rfl) rfl
abbrev Vpa : List Shp := [(.ty (.list Y1)), (.ty (.int .i64))]
noncomputable def Pxa : (List D0) × Int × Unit → Option (Bool × Unit) := jTa (fnT Tryz.prog th (Tdb jKa lIa bFb) 89 Vpa (.ty .bool) [])
noncomputable def Qwa (l0 : List D0) (i1 : Int) (fk : Fk) (bd : Bd) (sm : Sm) : Option (Bool × Unit) :=
    fk (decide ((↑(List.length l0) : Int) > i1)) (some (false, ())) (bd (Jaa (l0, (0 : Int), ())) fun y0 => sm y0 (fun y1 => some (false, ())) fun y2 => some (true, ()))
theorem Flb (l0 i1) : Pxa (l0, i1, ()) = Qwa l0 i1 jKa lIa bFb := eqF (S := Tdb) fun _ _ _ => by kernel_rfl
noncomputable def Teb : OCs := addF Tdb Tryz.prog 89 Vpa (.ty .bool) [] Pxa
theorem Job : fEb Tryz.prog th Teb := Jnb.addF rfl
theorem Obb : nJb Tryz.prog th 89 Vpa (.ty .bool) [] Pxa := Jnb.fn rfl
abbrev Pla : List Shp := [(.ty Y0), (.ty (.int .i64))]
noncomputable def Kqa : D1 × Int × Unit → Option (Bool × Unit) := jTa (fnT Tryz.prog th (Teb jKa lIa bFb) 39 Pla (.ty .bool) [])
noncomputable def Wea (x0 : D3 × (List D3) × ByteArray × (List D0) × Unit) (i1 : Int) (fk : Fk) (bd : Bd) (sm : Sm) : Option (Bool × Unit) :=
    bd (Pxa (x0.2.2.2.1, i1, ())) fun y0 => fk y0.1 (fk (decide ((↑(List.length x0.2.1) : Int) ≤ (100 : Int))) (some (decide ((↑(ByteArray.size x0.2.2.1) : Int) ≤ (200 : Int)), ())) (some (false, ()))) (some (false, ()))
theorem Avb (x0 i1) : Kqa (x0, i1, ()) = Wea x0 i1 jKa lIa bFb := eqF (S := Teb) fun _ _ _ => by kernel_rfl
noncomputable def Tfb : OCs := addF Teb Tryz.prog 39 Pla (.ty .bool) [] Kqa
theorem Mzb : fEb Tryz.prog th Tfb := Job.addF rfl
theorem Mhb : nJb Tryz.prog th 39 Pla (.ty .bool) [] Kqa := Job.fn rfl
abbrev Uda : fCa := ⟨[], [], [], [], [(.ty (.list Y0)), (.st (.bool false)), (.ty (.int .i64))]⟩
abbrev Uta : List sQa := [⟨.ret, ⟨[], [], [], [], [(.ty (.list Y0)), (.st (.bool false)), (.ty (.int .i64))]⟩⟩, ⟨(.exit 0), ⟨[], [], [], [], [(.ty (.list Y0)), (.st (.bool false)), (.ty (.int .i64))]⟩⟩]
noncomputable def Jba : (List D1) × Int × Unit → Option (((List D1) × Int × Unit) ⊕ ((List D1) × Int × Unit)) := jTa (pBa (nHa Tryz.prog th (Tfb jKa lIa bFb) 11 4 Uda Uta))
noncomputable def Jra (l0 : List D1) (i1 : Int) (fk : Fk) (bd : Bd) (sm : Sm) : Option (((List D1) × Int × Unit) ⊕ (((List D1) × Int × Unit) ⊕ ((List D1) × Int × Unit))) :=
    let z0 := (List.getD l0 (Int.toNat i1) (((0 : Int), (0 : Int), ()), @List.nil D3, ByteArray.empty, @List.nil D0, ()))
    fk (decide (i1 < (↑(List.length l0) : Int))) (fk (decide ((0 : Int) ≤ i1)) (fk (decide (i1 < (↑(List.length l0) : Int))) (bd (Kqa (((z0.1.1, z0.1.2.1, ()), z0.2.1, z0.2.2.1, z0.2.2.2.1, ()), (10 : Int), ())) fun y0 => fk (!y0.1) (some (Sum.inr (Sum.inl (l0, i1, ())))) (some (Sum.inl (l0, IntKind.wrap IntKind.i64 (i1 + (1 : Int)), ())))) none) none) (some (Sum.inr (Sum.inr (l0, i1, ()))))
theorem Qaa (l0 i1) : Jba (l0, i1, ()) = (Jra l0 i1 jKa lIa bFb).bind (Sum.elim Jba some) := eqL (S := Tfb) fun _ _ _ => by kernel_rfl
noncomputable def Tgb : OCs := addL Tfb Tryz.prog 11 4 Uda Uta Jba
theorem Jpb : fEb Tryz.prog th Tgb := Mzb.addL (by kernel_rfl) (by kernel_rfl) (by kernel_rfl) rfl
abbrev Vqa : List Shp := [(.ty (.list Y0)), (.ty (.int .i64))]
noncomputable def Mfa : (List D1) × Int × Unit → Option (Bool × Unit) := jTa (fnT Tryz.prog th (Tgb jKa lIa bFb) 11 Vqa (.ty .bool) [])
noncomputable def Qxa (l0 : List D1) (i1 : Int) (fk : Fk) (bd : Bd) (sm : Sm) : Option (Bool × Unit) :=
    fk (decide ((↑(List.length l0) : Int) > i1)) (some (false, ())) (bd (Jba (l0, (0 : Int), ())) fun y0 => sm y0 (fun y1 => some (false, ())) fun y2 => some (true, ()))
theorem Fnb (l0 i1) : Mfa (l0, i1, ()) = Qxa l0 i1 jKa lIa bFb := eqF (S := Tgb) fun _ _ _ => by kernel_rfl
noncomputable def Thb : OCs := addF Tgb Tryz.prog 11 Vqa (.ty .bool) [] Mfa
theorem Nab : fEb Tryz.prog th Thb := Jpb.addF rfl
theorem Ocb : nJb Tryz.prog th 11 Vqa (.ty .bool) [] Mfa := Jpb.fn rfl
abbrev Pta : fCa := ⟨[], [], [], [], [(.ty Y2), (.st (.bool false)), (.ty (.int .i64))]⟩
abbrev Qia : List sQa := [⟨.ret, ⟨[], [], [], [], [(.ty Y2), (.st (.bool false)), (.ty (.int .i64))]⟩⟩, ⟨(.exit 0), ⟨[], [], [], [], [(.ty Y2), (.st (.bool false)), (.ty (.int .i64))]⟩⟩]
noncomputable def Fka : (List D2) × Int × Unit → Option (D9 ⊕ D9) := jTa (pBa (nHa Tryz.prog th (Thb jKa lIa bFb) 88 4 Pta Qia))
noncomputable def Doa (l0 : List D2) (i1 : Int) (fk : Fk) (bd : Bd) (sm : Sm) : Option (D9 ⊕ (D9 ⊕ D9)) :=
    fk (decide (i1 < (↑(List.length l0) : Int))) (fk (decide ((0 : Int) ≤ i1)) (fk (decide (i1 < (↑(List.length l0) : Int))) (bd (Gea ((List.getD l0 (Int.toNat i1) (ByteArray.empty, @List.nil ByteArray, ())).2.1, (300 : Int), ())) fun y0 => fk (!y0.1) (some (Sum.inr (Sum.inl (l0, i1, ())))) (fk (decide ((0 : Int) ≤ i1)) (fk (decide (i1 < (↑(List.length l0) : Int))) (fk (decide ((↑(ByteArray.size (List.getD l0 (Int.toNat i1) (ByteArray.empty, @List.nil ByteArray, ())).1) : Int) > (100 : Int))) (some (Sum.inr (Sum.inl (l0, i1, ())))) (some (Sum.inl (l0, IntKind.wrap IntKind.i64 (i1 + (1 : Int)), ())))) none) none)) none) none) (some (Sum.inr (Sum.inr (l0, i1, ()))))
theorem Mda (l0 i1) : Fka (l0, i1, ()) = (Doa l0 i1 jKa lIa bFb).bind (Sum.elim Fka some) := eqL (S := Thb) fun _ _ _ => by kernel_rfl
noncomputable def Tib : OCs := addL Thb Tryz.prog 88 4 Pta Qia Fka
theorem Jqb : fEb Tryz.prog th Tib := Nab.addL (by kernel_rfl) (by kernel_rfl) (by kernel_rfl) rfl
abbrev Pja : List Shp := [(.ty Y2)]
noncomputable def Koa : (List D2) × Unit → Option (Bool × Unit) := jTa (fnT Tryz.prog th (Tib jKa lIa bFb) 88 Pja (.ty .bool) [])
noncomputable def Lga (l0 : List D2) (fk : Fk) (bd : Bd) (sm : Sm) : Option (Bool × Unit) :=
    fk (decide ((↑(List.length l0) : Int) > (40 : Int))) (some (false, ())) (bd (Fka (l0, (0 : Int), ())) fun y0 => sm y0 (fun y1 => some (false, ())) fun y2 => some (true, ()))
theorem Asb (l0) : Koa (l0, ()) = Lga l0 jKa lIa bFb := eqF (S := Tib) fun _ _ _ => by kernel_rfl
noncomputable def Tjb : OCs := addF Tib Tryz.prog 88 Pja (.ty .bool) [] Koa
theorem Nbb : fEb Tryz.prog th Tjb := Jqb.addF rfl
theorem Mfb : nJb Tryz.prog th 88 Pja (.ty .bool) [] Koa := Jqb.fn rfl
abbrev Pua : fCa := ⟨[], [], [], [], [(.ty Y2), (.st (.bool false)), (.ty (.int .i64))]⟩
abbrev Qja : List sQa := [⟨.ret, ⟨[], [], [], [], [(.ty Y2), (.st (.bool false)), (.ty (.int .i64))]⟩⟩, ⟨(.exit 0), ⟨[], [], [], [], [(.ty Y2), (.st (.bool false)), (.ty (.int .i64))]⟩⟩]
noncomputable def Fla : (List D2) × Int × Unit → Option (D9 ⊕ D9) := jTa (pBa (nHa Tryz.prog th (Tjb jKa lIa bFb) 38 5 Pua Qja))
noncomputable def Gxa (l0 : List D2) (i1 : Int) (fk : Fk) (bd : Bd) (sm : Sm) : Option (D9 ⊕ (D9 ⊕ D9)) :=
    fk (decide (i1 < (↑(List.length l0) : Int))) (fk (decide ((0 : Int) ≤ i1)) (fk (decide (i1 < (↑(List.length l0) : Int))) (fk (decide ((↑(List.length (List.getD l0 (Int.toNat i1) (ByteArray.empty, @List.nil ByteArray, ())).2.1) : Int) > (40 : Int))) (some (Sum.inr (Sum.inl (l0, i1, ())))) (some (Sum.inl (l0, IntKind.wrap IntKind.i64 (i1 + (1 : Int)), ())))) none) none) (some (Sum.inr (Sum.inr (l0, i1, ()))))
theorem Mga (l0 i1) : Fla (l0, i1, ()) = (Gxa l0 i1 jKa lIa bFb).bind (Sum.elim Fla some) := eqL (S := Tjb) fun _ _ _ => by kernel_rfl
noncomputable def Tkb : OCs := addL Tjb Tryz.prog 38 5 Pua Qja Fla
theorem Ncb : fEb Tryz.prog th Tkb := Nbb.addL (by kernel_rfl) (by kernel_rfl) (by kernel_rfl) rfl
abbrev Wja : List Shp := [(.ty Y2)]
noncomputable def Ksa : (List D2) × Unit → Option (Bool × Unit) := jTa (fnT Tryz.prog th (Tkb jKa lIa bFb) 38 Wja (.ty .bool) [])
noncomputable def Iua (l0 : List D2) (fk : Fk) (bd : Bd) (sm : Sm) : Option (Bool × Unit) :=
    bd (Koa (l0, ())) fun y0 => fk (!y0.1) (some (false, ())) (fk (decide ((↑(List.length l0) : Int) > (6 : Int))) (some (false, ())) (bd (Fla (l0, (0 : Int), ())) fun y1 => sm y1 (fun y2 => some (false, ())) fun y3 => some (true, ())))
theorem Bab (l0) : Ksa (l0, ()) = Iua l0 jKa lIa bFb := eqF (S := Tkb) fun _ _ _ => by kernel_rfl
noncomputable def Tlb : OCs := addF Tkb Tryz.prog 38 Wja (.ty .bool) [] Ksa
theorem Jrb : fEb Tryz.prog th Tlb := Ncb.addF rfl
abbrev Pma : List Shp := [(.ty Y4)]
noncomputable def Kra : D6 × Unit → Option (Bool × Unit) := jTa (fnT Tryz.prog th (Tlb jKa lIa bFb) 19 Pma (.ty .bool) [])
noncomputable def Wfa (x0 : Int × (List D1) × (List D2) × (List D2) × Int × Unit) (fk : Fk) (bd : Bd) (sm : Sm) : Option (Bool × Unit) :=
    bd (Mfa (x0.2.1, (10 : Int), ())) fun y0 => bd (Ksa (x0.2.2.1, ())) fun y1 => bd (Ksa (x0.2.2.2.1, ())) fun y2 => fk y0.1 (fk y1.1 (some (y2.1, ())) (some (false, ()))) (some (false, ()))
theorem Axb (x0) : Kra (x0, ()) = Wfa x0 jKa lIa bFb := eqF (S := Tlb) fun _ _ _ => by kernel_rfl
noncomputable def Tmb : OCs := addF Tlb Tryz.prog 19 Pma (.ty .bool) [] Kra
theorem Ndb : fEb Tryz.prog th Tmb := Jrb.addF rfl
theorem Mib : nJb Tryz.prog th 19 Pma (.ty .bool) [] Kra := Jrb.fn rfl
abbrev Sfa : fCa := ⟨[], [], [], [], [(.ty (.list .str)), (.ty (.list .str)), (.st (.bool false)), (.ty (.int .i64))]⟩
abbrev Ssa : List sQa := [⟨.ret, ⟨[], [], [], [], [(.ty (.list .str)), (.ty (.list .str)), (.st (.bool false)), (.ty (.int .i64))]⟩⟩, ⟨(.exit 0), ⟨[], [], [], [], [(.ty (.list .str)), (.ty (.list .str)), (.st (.bool false)), (.ty (.int .i64))]⟩⟩]
noncomputable def Hoa : List ByteArray × List ByteArray × Int × Unit → Option ((List ByteArray × List ByteArray × Int × Unit) ⊕ (List ByteArray × List ByteArray × Int × Unit)) := jTa (pBa (nHa Tryz.prog th (Tmb jKa lIa bFb) 115 4 Sfa Ssa))
noncomputable def Ina (l0 : List ByteArray) (l1 : List ByteArray) (i2 : Int) (fk : Fk) (bd : Bd) (sm : Sm) : Option ((List ByteArray × List ByteArray × Int × Unit) ⊕ ((List ByteArray × List ByteArray × Int × Unit) ⊕ (List ByteArray × List ByteArray × Int × Unit))) :=
    fk (decide (i2 < (↑(List.length l0) : Int))) (fk (decide ((0 : Int) ≤ i2)) (fk (decide (i2 < (↑(List.length l0) : Int))) (fk (decide ((0 : Int) ≤ i2)) (fk (decide (i2 < (↑(List.length l1) : Int))) (fk (!ByteArray.toList (List.getD l0 (Int.toNat i2) ByteArray.empty) == ByteArray.toList (List.getD l1 (Int.toNat i2) ByteArray.empty)) (some (Sum.inr (Sum.inl (l0, l1, i2, ())))) (some (Sum.inl (l0, l1, IntKind.wrap IntKind.i64 (i2 + (1 : Int)), ())))) none) none) none) none) (some (Sum.inr (Sum.inr (l0, l1, i2, ()))))
theorem Oka (l0 l1 i2) : Hoa (l0, l1, i2, ()) = (Ina l0 l1 i2 jKa lIa bFb).bind (Sum.elim Hoa some) := eqL (S := Tmb) fun _ _ _ => by kernel_rfl
noncomputable def Tnb : OCs := addL Tmb Tryz.prog 115 4 Sfa Ssa Hoa
theorem Neb : fEb Tryz.prog th Tnb := Ndb.addL (by kernel_rfl) (by kernel_rfl) (by kernel_rfl) rfl
abbrev Yua : List Shp := [(.ty (.list .str)), (.ty (.list .str))]
noncomputable def Jya : List ByteArray × List ByteArray × Unit → Option (Bool × Unit) := jTa (fnT Tryz.prog th (Tnb jKa lIa bFb) 115 Yua (.ty .bool) [])
noncomputable def Mwa (l0 : List ByteArray) (l1 : List ByteArray) (fk : Fk) (bd : Bd) (sm : Sm) : Option (Bool × Unit) :=
    fk ((↑(List.length l0) : Int) != (↑(List.length l1) : Int)) (some (false, ())) (bd (Hoa (l0, l1, (0 : Int), ())) fun y0 => sm y0 (fun y1 => some (false, ())) fun y2 => some (true, ()))
theorem Dnb (l0 l1) : Jya (l0, l1, ()) = Mwa l0 l1 jKa lIa bFb := eqF (S := Tnb) fun _ _ _ => by kernel_rfl
noncomputable def Tob : OCs := addF Tnb Tryz.prog 115 Yua (.ty .bool) [] Jya
theorem Nfb : fEb Tryz.prog th Tob := Neb.addF rfl
abbrev Yva : List Shp := [(.ty Y5), (.ty Y5)]
noncomputable def Ria : D4 × D4 × Unit → Option (Bool × Unit) := jTa (fnT Tryz.prog th (Tob jKa lIa bFb) 136 Yva (.ty .bool) [])
noncomputable def Kca (x0 : Int × List ByteArray × List ByteArray × Unit) (x1 : Int × List ByteArray × List ByteArray × Unit) (fk : Fk) (bd : Bd) (sm : Sm) : Option (Bool × Unit) :=
    bd (Jya (x0.2.1, x1.2.1, ())) fun y0 => bd (Jya (x0.2.2.1, x1.2.2.1, ())) fun y1 => fk y0.1 (fk y1.1 (some (x0.1 == x1.1, ())) (some (false, ()))) (some (false, ()))
theorem Dob (x0 x1) : Ria (x0, x1, ()) = Kca x0 x1 jKa lIa bFb := eqF (S := Tob) fun _ _ _ => by kernel_rfl
noncomputable def Tpb : OCs := addF Tob Tryz.prog 136 Yva (.ty .bool) [] Ria
theorem Ngb : fEb Tryz.prog th Tpb := Nfb.addF rfl
abbrev Yya : List Shp := [(.ty Y1), (.ty Y1)]
noncomputable def Rka : D0 × D0 × Unit → Option (Bool × Unit) := jTa (fnT Tryz.prog th (Tpb jKa lIa bFb) 86 Yya (.ty .bool) [])
noncomputable def Kda (x0 : Int × ByteArray × ByteArray × D4 × Unit) (x1 : Int × ByteArray × ByteArray × D4 × Unit) (fk : Fk) (bd : Bd) (sm : Sm) : Option (Bool × Unit) :=
    bd (Ria ((x0.2.2.2.1.1, x0.2.2.2.1.2.1, x0.2.2.2.1.2.2.1, ()), (x1.2.2.2.1.1, x1.2.2.2.1.2.1, x1.2.2.2.1.2.2.1, ()), ())) fun y0 => fk y0.1 (fk (x0.1 == x1.1) (fk (ByteArray.toList x0.2.1 == ByteArray.toList x1.2.1) (some (ByteArray.toList x0.2.2.1 == ByteArray.toList x1.2.2.1, ())) (some (false, ()))) (some (false, ()))) (some (false, ()))
theorem Dtb (x0 x1) : Rka (x0, x1, ()) = Kda x0 x1 jKa lIa bFb := eqF (S := Tpb) fun _ _ _ => by kernel_rfl
noncomputable def Tqb : OCs := addF Tpb Tryz.prog 86 Yya (.ty .bool) [] Rka
theorem Nhb : fEb Tryz.prog th Tqb := Ngb.addF rfl
abbrev Sha : fCa := ⟨[], [], [], [], [(.ty (.list Y1)), (.ty (.list Y1)), (.st (.bool false)), (.ty (.int .i64))]⟩
abbrev Sua : List sQa := [⟨.ret, ⟨[], [], [], [], [(.ty (.list Y1)), (.ty (.list Y1)), (.st (.bool false)), (.ty (.int .i64))]⟩⟩, ⟨(.exit 0), ⟨[], [], [], [], [(.ty (.list Y1)), (.ty (.list Y1)), (.st (.bool false)), (.ty (.int .i64))]⟩⟩]
noncomputable def Hra : (List D0) × (List D0) × Int × Unit → Option (D24 ⊕ D24) := jTa (pBa (nHa Tryz.prog th (Tqb jKa lIa bFb) 35 4 Sha Sua))
noncomputable def Ioa (l0 : List D0) (l1 : List D0) (i2 : Int) (fk : Fk) (bd : Bd) (sm : Sm) : Option (D24 ⊕ (D24 ⊕ D24)) :=
    let z0 := ((0 : Int), ByteArray.empty, ByteArray.empty, ((0 : Int), @List.nil ByteArray, @List.nil ByteArray, ()), ())
    let z1 := (List.getD l0 (Int.toNat i2) z0)
    let z2 := (List.getD l1 (Int.toNat i2) z0)
    fk (decide (i2 < (↑(List.length l0) : Int))) (fk (decide ((0 : Int) ≤ i2)) (fk (decide (i2 < (↑(List.length l0) : Int))) (fk (decide ((0 : Int) ≤ i2)) (fk (decide (i2 < (↑(List.length l1) : Int))) (bd (Rka ((z1.1, z1.2.1, z1.2.2.1, (z1.2.2.2.1.1, z1.2.2.2.1.2.1, z1.2.2.2.1.2.2.1, ()), ()), (z2.1, z2.2.1, z2.2.2.1, (z2.2.2.2.1.1, z2.2.2.2.1.2.1, z2.2.2.2.1.2.2.1, ()), ()), ())) fun y0 => fk (!y0.1) (some (Sum.inr (Sum.inl (l0, l1, i2, ())))) (some (Sum.inl (l0, l1, IntKind.wrap IntKind.i64 (i2 + (1 : Int)), ())))) none) none) none) none) (some (Sum.inr (Sum.inr (l0, l1, i2, ()))))
theorem Ooa (l0 l1 i2) : Hra (l0, l1, i2, ()) = (Ioa l0 l1 i2 jKa lIa bFb).bind (Sum.elim Hra some) := eqL (S := Tqb) fun _ _ _ => by kernel_rfl
noncomputable def Trb : OCs := addL Tqb Tryz.prog 35 4 Sha Sua Hra
theorem Nib : fEb Tryz.prog th Trb := Nhb.addL (by kernel_rfl) (by kernel_rfl) (by kernel_rfl) rfl
abbrev Yxa : List Shp := [(.ty (.list Y1)), (.ty (.list Y1))]
noncomputable def Rja : (List D0) × (List D0) × Unit → Option (Bool × Unit) := jTa (fnT Tryz.prog th (Trb jKa lIa bFb) 35 Yxa (.ty .bool) [])
noncomputable def Mya (l0 : List D0) (l1 : List D0) (fk : Fk) (bd : Bd) (sm : Sm) : Option (Bool × Unit) :=
    fk ((↑(List.length l0) : Int) != (↑(List.length l1) : Int)) (some (false, ())) (bd (Hra (l0, l1, (0 : Int), ())) fun y0 => sm y0 (fun y1 => some (false, ())) fun y2 => some (true, ()))
theorem Drb (l0 l1) : Rja (l0, l1, ()) = Mya l0 l1 jKa lIa bFb := eqF (S := Trb) fun _ _ _ => by kernel_rfl
noncomputable def Tsb : OCs := addF Trb Tryz.prog 35 Yxa (.ty .bool) [] Rja
theorem Njb : fEb Tryz.prog th Tsb := Nib.addF rfl
abbrev Sja : fCa := ⟨[], [], [[(.ty (.int .i64)), (.ty (.int .i64)), (.ty (.list Y3)), (.ty .str), (.ty (.list Y1))], [(.ty (.int .i64)), (.ty (.int .i64)), (.ty (.list Y3)), (.ty .str), (.ty (.list Y1))]], [], [(.bptr 0 0), (.bptr 1 0), (.st (.bool false)), (.ty (.int .i64))]⟩
abbrev Swa : List sQa := [⟨.ret, ⟨[], [], [[(.ty (.int .i64)), (.ty (.int .i64)), (.ty (.list Y3)), (.ty .str), (.ty (.list Y1))], [(.ty (.int .i64)), (.ty (.int .i64)), (.ty (.list Y3)), (.ty .str), (.ty (.list Y1))]], [], [(.bptr 0 0), (.bptr 1 0), (.st (.bool false)), (.ty (.int .i64))]⟩⟩, ⟨(.exit 0), ⟨[], [], [[(.ty (.int .i64)), (.ty (.int .i64)), (.ty (.list Y3)), (.ty .str), (.ty (.list Y1))], [(.ty (.int .i64)), (.ty (.int .i64)), (.ty (.list Y3)), (.ty .str), (.ty (.list Y1))]], [], [(.bptr 0 0), (.bptr 1 0), (.st (.bool false)), (.ty (.int .i64))]⟩⟩]
noncomputable def Hta : Int × Int × (List D3) × ByteArray × (List D0) × Int × Int × (List D3) × ByteArray × (List D0) × Int × Unit → Option (D8 ⊕ D8) := jTa (pBa (nHa Tryz.prog th (Tsb jKa lIa bFb) 114 5 Sja Swa))
noncomputable def Iqa (i0 : Int) (i1 : Int) (l2 : List D3) (s3 : ByteArray) (l4 : List D0) (i5 : Int) (i6 : Int) (l7 : List D3) (s8 : ByteArray) (l9 : List D0) (i10 : Int) (fk : Fk) (bd : Bd) (sm : Sm) : Option (D8 ⊕ (D8 ⊕ D8)) :=
    fk (decide (i10 < (↑(List.length l2) : Int))) (fk (decide ((0 : Int) ≤ i10)) (fk (decide (i10 < (↑(List.length l2) : Int))) (fk (decide ((0 : Int) ≤ i10)) (fk (decide (i10 < (↑(List.length l7) : Int))) (fk (!((List.getD l2 (Int.toNat i10) ((0 : Int), (0 : Int), ())).1 == (List.getD l7 (Int.toNat i10) ((0 : Int), (0 : Int), ())).1 && ((List.getD l2 (Int.toNat i10) ((0 : Int), (0 : Int), ())).2.1 == (List.getD l7 (Int.toNat i10) ((0 : Int), (0 : Int), ())).2.1 && true))) (some (Sum.inr (Sum.inl (i0, i1, l2, s3, l4, i5, i6, l7, s8, l9, i10, ())))) (some (Sum.inl (i0, i1, l2, s3, l4, i5, i6, l7, s8, l9, IntKind.wrap IntKind.i64 (i10 + (1 : Int)), ())))) none) none) none) none) (some (Sum.inr (Sum.inr (i0, i1, l2, s3, l4, i5, i6, l7, s8, l9, i10, ()))))
theorem Osa (i0 i1 l2 s3 l4 i5 i6 l7 s8 l9 i10) : Hta (i0, i1, l2, s3, l4, i5, i6, l7, s8, l9, i10, ()) = (Iqa i0 i1 l2 s3 l4 i5 i6 l7 s8 l9 i10 jKa lIa bFb).bind (Sum.elim Hta some) := eqL (S := Tsb) fun _ _ _ => by kernel_rfl
noncomputable def Ttb : OCs := addL Tsb Tryz.prog 114 5 Sja Swa Hta
theorem Nkb : fEb Tryz.prog th Ttb := Njb.addL (by kernel_rfl) (by kernel_rfl) (by kernel_rfl) rfl
abbrev Zaa : List Shp := [(.ty Y0), (.ty Y0)]
noncomputable def Rma : D1 × D1 × Unit → Option (Bool × Unit) := jTa (fnT Tryz.prog th (Ttb jKa lIa bFb) 114 Zaa (.ty .bool) [])
noncomputable def Yca (x0 : D3 × (List D3) × ByteArray × (List D0) × Unit) (x1 : D3 × (List D3) × ByteArray × (List D0) × Unit) (fk : Fk) (bd : Bd) (sm : Sm) : Option (Bool × Unit) :=
    bd (Rja (x0.2.2.2.1, x1.2.2.2.1, ())) fun y0 => fk (!y0.1) (some (false, ())) (fk (!(x0.1.1 == x1.1.1 && (x0.1.2.1 == x1.1.2.1 && true))) (some (false, ())) (fk (!ByteArray.toList x0.2.2.1 == ByteArray.toList x1.2.2.1) (some (false, ())) (fk ((↑(List.length x0.2.1) : Int) != (↑(List.length x1.2.1) : Int)) (some (false, ())) (bd (Hta (x0.1.1, x0.1.2.1, x0.2.1, x0.2.2.1, x0.2.2.2.1, x1.1.1, x1.1.2.1, x1.2.1, x1.2.2.1, x1.2.2.2.1, (0 : Int), ())) fun y1 => sm y1 (fun y2 => some (false, ())) fun y3 => some (true, ())))))
theorem Dxb (x0 x1) : Rma (x0, x1, ()) = Yca x0 x1 jKa lIa bFb := eqF (S := Ttb) fun _ _ _ => by kernel_rfl
noncomputable def Tub : OCs := addF Ttb Tryz.prog 114 Zaa (.ty .bool) [] Rma
theorem Nlb : fEb Tryz.prog th Tub := Nkb.addF rfl
abbrev Sia : fCa := ⟨[], [], [], [], [(.ty (.list Y0)), (.ty (.list Y0)), (.st (.bool false)), (.ty (.int .i64))]⟩
abbrev Sva : List sQa := [⟨.ret, ⟨[], [], [], [], [(.ty (.list Y0)), (.ty (.list Y0)), (.st (.bool false)), (.ty (.int .i64))]⟩⟩, ⟨(.exit 0), ⟨[], [], [], [], [(.ty (.list Y0)), (.ty (.list Y0)), (.st (.bool false)), (.ty (.int .i64))]⟩⟩]
noncomputable def Hsa : (List D1) × (List D1) × Int × Unit → Option (((List D1) × (List D1) × Int × Unit) ⊕ ((List D1) × (List D1) × Int × Unit)) := jTa (pBa (nHa Tryz.prog th (Tub jKa lIa bFb) 59 4 Sia Sva))
noncomputable def Ipa (l0 : List D1) (l1 : List D1) (i2 : Int) (fk : Fk) (bd : Bd) (sm : Sm) : Option (((List D1) × (List D1) × Int × Unit) ⊕ (((List D1) × (List D1) × Int × Unit) ⊕ ((List D1) × (List D1) × Int × Unit))) :=
    let z0 := (((0 : Int), (0 : Int), ()), @List.nil D3, ByteArray.empty, @List.nil D0, ())
    fk (decide (i2 < (↑(List.length l0) : Int))) (fk (decide ((0 : Int) ≤ i2)) (fk (decide (i2 < (↑(List.length l0) : Int))) (fk (decide ((0 : Int) ≤ i2)) (fk (decide (i2 < (↑(List.length l1) : Int))) (bd (Rma ((((List.getD l0 (Int.toNat i2) z0).1.1, (List.getD l0 (Int.toNat i2) z0).1.2.1, ()), (List.getD l0 (Int.toNat i2) z0).2.1, (List.getD l0 (Int.toNat i2) z0).2.2.1, (List.getD l0 (Int.toNat i2) z0).2.2.2.1, ()), (((List.getD l1 (Int.toNat i2) z0).1.1, (List.getD l1 (Int.toNat i2) z0).1.2.1, ()), (List.getD l1 (Int.toNat i2) z0).2.1, (List.getD l1 (Int.toNat i2) z0).2.2.1, (List.getD l1 (Int.toNat i2) z0).2.2.2.1, ()), ())) fun y0 => fk (!y0.1) (some (Sum.inr (Sum.inl (l0, l1, i2, ())))) (some (Sum.inl (l0, l1, IntKind.wrap IntKind.i64 (i2 + (1 : Int)), ())))) none) none) none) none) (some (Sum.inr (Sum.inr (l0, l1, i2, ()))))
theorem Oqa (l0 l1 i2) : Hsa (l0, l1, i2, ()) = (Ipa l0 l1 i2 jKa lIa bFb).bind (Sum.elim Hsa some) := eqL (S := Tub) fun _ _ _ => by kernel_rfl
noncomputable def Tvb : OCs := addL Tub Tryz.prog 59 4 Sia Sva Hsa
theorem Nmb : fEb Tryz.prog th Tvb := Nlb.addL (by kernel_rfl) (by kernel_rfl) (by kernel_rfl) rfl
abbrev Yza : List Shp := [(.ty (.list Y0)), (.ty (.list Y0))]
noncomputable def Rla : (List D1) × (List D1) × Unit → Option (Bool × Unit) := jTa (fnT Tryz.prog th (Tvb jKa lIa bFb) 59 Yza (.ty .bool) [])
noncomputable def Mza (l0 : List D1) (l1 : List D1) (fk : Fk) (bd : Bd) (sm : Sm) : Option (Bool × Unit) :=
    fk ((↑(List.length l0) : Int) != (↑(List.length l1) : Int)) (some (false, ())) (bd (Hsa (l0, l1, (0 : Int), ())) fun y0 => sm y0 (fun y1 => some (false, ())) fun y2 => some (true, ()))
theorem Dvb (l0 l1) : Rla (l0, l1, ()) = Mza l0 l1 jKa lIa bFb := eqF (S := Tvb) fun _ _ _ => by kernel_rfl
noncomputable def Twb : OCs := addF Tvb Tryz.prog 59 Yza (.ty .bool) [] Rla
theorem Nnb : fEb Tryz.prog th Twb := Nmb.addF rfl
abbrev Sga : fCa := ⟨[], [], [], [], [(.ty Y2), (.ty Y2), (.st (.bool false)), (.ty (.int .i64))]⟩
abbrev Sta : List sQa := [⟨.ret, ⟨[], [], [], [], [(.ty Y2), (.ty Y2), (.st (.bool false)), (.ty (.int .i64))]⟩⟩, ⟨(.exit 0), ⟨[], [], [], [], [(.ty Y2), (.ty Y2), (.st (.bool false)), (.ty (.int .i64))]⟩⟩]
noncomputable def Hqa : (List D2) × (List D2) × Int × Unit → Option (((List D2) × (List D2) × Int × Unit) ⊕ ((List D2) × (List D2) × Int × Unit)) := jTa (pBa (nHa Tryz.prog th (Twb jKa lIa bFb) 60 4 Sga Sta))
noncomputable def Fca (l0 : List D2) (l1 : List D2) (i2 : Int) (fk : Fk) (bd : Bd) (sm : Sm) : Option (((List D2) × (List D2) × Int × Unit) ⊕ (((List D2) × (List D2) × Int × Unit) ⊕ ((List D2) × (List D2) × Int × Unit))) :=
    fk (decide (i2 < (↑(List.length l0) : Int))) (fk (decide ((0 : Int) ≤ i2)) (fk (decide (i2 < (↑(List.length l0) : Int))) (fk (decide ((0 : Int) ≤ i2)) (fk (decide (i2 < (↑(List.length l1) : Int))) (bd (Jya ((List.getD l0 (Int.toNat i2) (ByteArray.empty, @List.nil ByteArray, ())).2.1, (List.getD l1 (Int.toNat i2) (ByteArray.empty, @List.nil ByteArray, ())).2.1, ())) fun y0 => fk (!y0.1) (some (Sum.inr (Sum.inl (l0, l1, i2, ())))) (fk (decide ((0 : Int) ≤ i2)) (fk (decide (i2 < (↑(List.length l0) : Int))) (fk (decide ((0 : Int) ≤ i2)) (fk (decide (i2 < (↑(List.length l1) : Int))) (fk (!ByteArray.toList (List.getD l0 (Int.toNat i2) (ByteArray.empty, @List.nil ByteArray, ())).1 == ByteArray.toList (List.getD l1 (Int.toNat i2) (ByteArray.empty, @List.nil ByteArray, ())).1) (some (Sum.inr (Sum.inl (l0, l1, i2, ())))) (some (Sum.inl (l0, l1, IntKind.wrap IntKind.i64 (i2 + (1 : Int)), ())))) none) none) none) none)) none) none) none) none) (some (Sum.inr (Sum.inr (l0, l1, i2, ()))))
theorem Oma (l0 l1 i2) : Hqa (l0, l1, i2, ()) = (Fca l0 l1 i2 jKa lIa bFb).bind (Sum.elim Hqa some) := eqL (S := Twb) fun _ _ _ => by kernel_rfl
noncomputable def Txb : OCs := addL Twb Tryz.prog 60 4 Sga Sta Hqa
theorem Nob : fEb Tryz.prog th Txb := Nnb.addL (by kernel_rfl) (by kernel_rfl) (by kernel_rfl) rfl
abbrev Ywa : List Shp := [(.ty Y2), (.ty Y2)]
noncomputable def Mqa : (List D2) × (List D2) × Unit → Option (Bool × Unit) := jTa (fnT Tryz.prog th (Txb jKa lIa bFb) 60 Ywa (.ty .bool) [])
noncomputable def Mxa (l0 : List D2) (l1 : List D2) (fk : Fk) (bd : Bd) (sm : Sm) : Option (Bool × Unit) :=
    fk ((↑(List.length l0) : Int) != (↑(List.length l1) : Int)) (some (false, ())) (bd (Hqa (l0, l1, (0 : Int), ())) fun y0 => sm y0 (fun y1 => some (false, ())) fun y2 => some (true, ()))
theorem Dqb (l0 l1) : Mqa (l0, l1, ()) = Mxa l0 l1 jKa lIa bFb := eqF (S := Txb) fun _ _ _ => by kernel_rfl
noncomputable def Tyb : OCs := addF Txb Tryz.prog 60 Ywa (.ty .bool) [] Mqa
theorem Npb : fEb Tryz.prog th Tyb := Nob.addF rfl
abbrev Zba : List Shp := [(.ty Y4), (.ty Y4)]
noncomputable def Mra : D6 × D6 × Unit → Option (Bool × Unit) := jTa (fnT Tryz.prog th (Tyb jKa lIa bFb) 23 Zba (.ty .bool) [])
noncomputable def Yda (x0 : Int × (List D1) × (List D2) × (List D2) × Int × Unit) (x1 : Int × (List D1) × (List D2) × (List D2) × Int × Unit) (fk : Fk) (bd : Bd) (sm : Sm) : Option (Bool × Unit) :=
    bd (Rla (x0.2.1, x1.2.1, ())) fun y0 => bd (Mqa (x0.2.2.1, x1.2.2.1, ())) fun y1 => bd (Mqa (x0.2.2.2.1, x1.2.2.2.1, ())) fun y2 => fk y0.1 (fk y1.1 (fk y2.1 (fk (x0.1 == x1.1) (some (x0.2.2.2.2.1 == x1.2.2.2.2.1, ())) (some (false, ()))) (some (false, ()))) (some (false, ()))) (some (false, ()))
theorem Dzb (x0 x1) : Mra (x0, x1, ()) = Yda x0 x1 jKa lIa bFb := eqF (S := Tyb) fun _ _ _ => by kernel_rfl
noncomputable def Tzb : OCs := addF Tyb Tryz.prog 23 Zba (.ty .bool) [] Mra
theorem Nqb : fEb Tryz.prog th Tzb := Npb.addF rfl
abbrev Sba : List Shp := [(.ty Y4), (.ty Y3)]
noncomputable def Jta : D6 × D3 × Unit → Option D23 := jTa (fnT Tryz.prog th (Tzb jKa lIa bFb) 31 Sba (.tuple [(.ty Y4), (.ty (.int .i64))]) [])
noncomputable def Saa (x0 : Int × (List D1) × (List D2) × (List D2) × Int × Unit) (x1 : Int × Int × Unit) (fk : Fk) (bd : Bd) (sm : Sm) : Option D23 :=
    let z0 := ((0 : Int), @List.nil D5, @List.nil D2, @List.nil D2, (0 : Int), ())
    let z1 := (Ty.list (Ty.pair (Ty.pair (Ty.int IntKind.i64) (Ty.pair (Ty.int IntKind.i64) Ty.unit)) (Ty.pair (Ty.list (Ty.pair (Ty.int IntKind.i64) (Ty.pair (Ty.int IntKind.i64) Ty.unit))) (Ty.pair Ty.str (Ty.pair (Ty.list (Ty.pair (Ty.int IntKind.i64) (Ty.pair Ty.str (Ty.pair Ty.str (Ty.pair (Ty.pair (Ty.int IntKind.i64) (Ty.pair (Ty.list Ty.str) (Ty.pair (Ty.list Ty.str) Ty.unit))) Ty.unit))))) Ty.unit)))))
    let z2 := (Ty.list (Ty.pair Ty.str (Ty.pair (Ty.list Ty.str) Ty.unit)))
    bd (Nga ((x0.1, x0.2.1, x0.2.2.1, x0.2.2.2.1, x0.2.2.2.2.1, ()), ())) fun y0 => fk (!y0.1) (some (z0, (1 : Int), ())) (bd (Iia (x0.2.1, (x1.1, x1.2.1, ()), ())) fun y1 => fk (decide (y1.1 < (0 : Int))) (some (z0, (3 : Int), ())) (bd (Dua (x0.2.1, @List.nil D3, ())) fun y2 => bd (Hua (x0.2.2.1, ())) fun y3 => bd (Hua (x0.2.2.2.1, ())) fun y4 => fk (decide (List.length y2.1 = List.length y2.1)) (bd (Dua (y2.1, (x1.1, x1.2.1, ()) :: @List.nil D3, ())) fun y5 => fk (decide (List.length y5.1 = List.length y5.1)) (fk (eqT z1 y2.1 y2.1) (fk (decide (x0.1 = x0.1)) (fk (eqT z1 x0.2.1 x0.2.1) (fk (eqT z2 x0.2.2.1 x0.2.2.1) (fk (eqT z2 x0.2.2.2.1 x0.2.2.2.1) (fk (decide (x0.2.2.2.2.1 = x0.2.2.2.2.1)) (fk (decide (x1.1 = x1.1)) (fk (decide (x1.2.1 = x1.2.1)) (fk (decide ((0 : Int) = (0 : Int))) (fk (decide ((0 : Int) = (0 : Int))) (fk (decide (x0.1 = x0.1)) (fk (decide (List.length y2.1 = List.length y2.1)) (fk (eqT z2 y3.1 y3.1) (fk (eqT z2 y4.1 y4.1) (fk (decide (x0.2.2.2.2.1 = x0.2.2.2.2.1)) (fk (decide (x0.1 = x0.1)) (fk (decide (List.length y2.1 = List.length y2.1)) (fk (eqT z2 y3.1 y3.1) (fk (eqT z2 y4.1 y4.1) (fk (decide (x0.2.2.2.2.1 = x0.2.2.2.2.1)) (fk (decide ((↑(List.length y5.2.1) : Int) > (1 : Int))) (some (z0, (6 : Int), ())) (bd (Kva (@List.nil D2, y5.1, ())) fun y6 => fk (y6.2.1 != (0 : Int)) (some (z0, y6.2.1, ())) (bd (Lna (y6.1, ())) fun y7 => fk (!y7.1) (some (z0, (8 : Int), ())) (some ((x0.1, y5.1, y6.1, y4.1, x0.2.2.2.2.1, ()), (0 : Int), ()))))) none) none) none) none) none) none) none) none) none) none) none) none) none) none) none) none) none) none) none) none) none) none))
theorem Xia (x0 x1) : Jta (x0, x1, ()) = Saa x0 x1 jKa lIa bFb := eqF (S := Tzb) fun _ _ _ => by kernel_rfl
noncomputable def Uab : OCs := addF Tzb Tryz.prog 31 Sba (.tuple [(.ty Y4), (.ty (.int .i64))]) [] Jta
theorem Jsb : fEb Tryz.prog th Uab := Nqb.addF rfl
abbrev Gya : List Shp := [(.ty Y4), (.ty .str)]
noncomputable def Eia : D6 × ByteArray × Unit → Option (Bool × Unit) := jTa (fnT Tryz.prog th (Uab jKa lIa bFb) 7 Gya (.ty .bool) [])
noncomputable def Lha (x0 : Int × (List D1) × (List D2) × (List D2) × Int × Unit) (s1 : ByteArray) (fk : Fk) (bd : Bd) (sm : Sm) : Option (Bool × Unit) :=
    let z0 := (((0 : Int), (0 : Int), ()), @List.nil D3, ByteArray.empty, @List.nil D0, ())
    let z1 := (x0.1, x0.2.1, x0.2.2.1, x0.2.2.2.1, x0.2.2.2.2.1, ())
    bd (Tna ()) fun y0 => bd (Kra (z1, ())) fun y1 => fk (!y0.1) (some (y0.1, ())) (fk (!y1.1) (some (y0.1, ())) (fk (decide ((↑(ByteArray.size s1) : Int) > (200 : Int))) (some (y0.1, ())) (bd (Nia (z1, s1, @List.nil D3, ())) fun y2 => fk (y2.2.1 != (0 : Int)) (fk ((↑(List.length y2.1.2.1) : Int) == (0 : Int)) (some (y2.1.2.2.2.2.1 == (0 : Int), ())) (some (false, ()))) (bd (Qra ((y2.1.1, y2.1.2.1, y2.1.2.2.1, y2.1.2.2.2.1, y2.1.2.2.2.2.1, ()), ())) fun y3 => fk ((↑(List.length y3.1) : Int) != (0 : Int)) (some (false, ())) (bd (Kya (y2.1.2.2.1, x0.2.2.2.1, ())) fun y4 => fk (!y4.1) (some (false, ())) (bd (Kya (y2.1.2.2.2.1, x0.2.2.2.1, ())) fun y5 => fk (!y5.1) (some (false, ())) (fk ((↑(List.length y2.1.2.1) : Int) != IntKind.wrap IntKind.i64 ((↑(List.length x0.2.1) : Int) + (1 : Int))) (some (false, ())) (fk (y2.1.2.2.2.2.1 != IntKind.wrap IntKind.i64 (x0.2.2.2.2.1 + (1 : Int))) (some (false, ())) (fk (decide ((0 : Int) ≤ (↑(List.length x0.2.1) : Int))) (fk (decide ((↑(List.length x0.2.1) : Int) < (↑(List.length y2.1.2.1) : Int))) (bd (Jta ((y2.1.1, y2.1.2.1, y2.1.2.2.1, y2.1.2.2.2.1, y2.1.2.2.2.2.1, ()), ((List.getD y2.1.2.1 (Int.toNat (↑(List.length x0.2.1) : Int)) z0).1.1, (List.getD y2.1.2.1 (Int.toNat (↑(List.length x0.2.1) : Int)) z0).1.2.1, ()), ())) fun y6 => bd (Mra ((y6.1.1, y6.1.2.1, y6.1.2.2.1, y6.1.2.2.2.1, x0.2.2.2.2.1, ()), z1, ())) fun y7 => fk (y6.2.1 == (0 : Int)) (some (y7.1, ())) (some (false, ()))) none) none)))))))))
theorem Rta (x0 s1) : Eia (x0, s1, ()) = Lha x0 s1 jKa lIa bFb := eqF (S := Uab) fun _ _ _ => by kernel_rfl
noncomputable def Usb : OCs := addF Uab Tryz.prog 7 Gya (.ty .bool) [] Eia
theorem Udb : fEb Tryz.prog th Usb := Jsb.addF rfl
theorem Toa : nJb Tryz.prog th 7 Gya (.ty .bool) [] Eia := Jsb.fn rfl
end Go.Proofs.YtpeaaophmddhnaaGreat.LI
