/-
  Functions and loops of this seat.
-/
import Derived.Test.YtpeaaophmddhnaaGreatM23
namespace Go.Proofs.YtpeaaophmddhnaaGreat.LI
open Go Go.RowKit
set_option maxRecDepth 100000
set_option linter.unusedVariables false
set_option linter.unusedSimpArgs false
abbrev Y3 : Ty := (.pair (.int .i64) (.pair (.int .i64) .unit))
abbrev Y5 : Ty := (.pair (.int .i64) (.pair (.list .str) (.pair (.list .str) .unit)))
abbrev Y1 : Ty := (.pair (.int .i64) (.pair .str (.pair .str (.pair Y5 .unit))))
abbrev Y0 : Ty := (.pair Y3 (.pair (.list Y3) (.pair .str (.pair (.list Y1) .unit))))
abbrev Y6 : Ty := (.pair .str (.pair (.list .str) .unit))
abbrev Y2 : Ty := (.list Y6)
abbrev Y4 : Ty := (.pair (.int .i64) (.pair (.list Y0) (.pair Y2 (.pair Y2 (.pair (.int .i64) .unit)))))
abbrev Y7 : Ty := (.pair (.int .i64) (.pair (.int .i64) (.pair (.list .str) .unit)))
abbrev D4 : Type := (Int × List ByteArray × List ByteArray × Unit)
abbrev D0 : Type := (Int × ByteArray × ByteArray × D4 × Unit)
abbrev D3 : Type := (Int × Int × Unit)
abbrev D1 : Type := (D3 × (List D3) × ByteArray × (List D0) × Unit)
abbrev D2 : Type := (ByteArray × List ByteArray × Unit)
abbrev D5 : Type := (D3 × List D3 × ByteArray × List D0 × Unit)
abbrev D6 : Type := (Int × (List D1) × (List D2) × (List D2) × Int × Unit)
abbrev D7 : Type := (Int × Int × List ByteArray × Unit)
abbrev D8 : Type := (Int × Int × (List D3) × ByteArray × (List D0) × Int × Int × (List D3) × ByteArray × (List D0) × Int × Unit)
abbrev D9 : Type := ((List D2) × Int × Unit)
abbrev D10 : Type := (Int × Int × (List D3) × ByteArray × (List D0) × (List D3) × Int × Int × Unit)
abbrev D11 : Type := (List ByteArray × (List D2) × ByteArray × (List D2) × ByteArray × Int × Unit)
abbrev D12 : Type := (Int × (List D1) × (List D2) × (List D2) × Int × Int × Int × (List D3) × ByteArray × (List D0) × (List D3) × Int × Unit)
abbrev D13 : Type := ((List D1) × Int × (List D1) × (List D2) × (List D2) × Int × Int × (List D2) × (List D2) × Int × Int × (List D2) × (List D2) × Int × Int × Int × Int × Int × (List D3) × ByteArray × (List D0) × (List D3) × Int × Int × Unit)
abbrev D14 : Type := (List ByteArray × List ByteArray × Int × Int × Unit)
abbrev D15 : Type := (List ByteArray × Int × ByteArray × ByteArray × Int × List ByteArray × List ByteArray × Int × ByteArray × ByteArray × Int × List ByteArray × List ByteArray × List ByteArray × List ByteArray × Int × Int × Unit)
abbrev D16 : Type := ((List D0) × (List D0) × Int × ByteArray × ByteArray × Int × List ByteArray × List ByteArray × Int × Int × ByteArray × ByteArray × Int × List ByteArray × List ByteArray × (List D0) × Int × Int × Int × Unit)
abbrev D17 : Type := ((List D1) × (List D1) × Int × Int × (List D3) × ByteArray × (List D0) × (List D1) × Int × Unit)
abbrev D18 : Type := ((List D0) × (List D0) × Int × ByteArray × ByteArray × Int × List ByteArray × List ByteArray × Int × Int × ByteArray × ByteArray × Int × List ByteArray × List ByteArray × Int × ByteArray × ByteArray × Int × List ByteArray × List ByteArray × Int × ByteArray × ByteArray × Int × List ByteArray × List ByteArray × (List D0) × Int × Int × Int × Unit)
abbrev D19 : Type := (List ByteArray × Int × Unit)
abbrev D20 : Type := (Int × Int × (List D3) × ByteArray × (List D0) × Bool × Bool × Bool × Int × Unit)
abbrev D21 : Type := ((List D2) × (List D2) × Int × Int × Unit)
abbrev D22 : Type := ((List D0) × Int × Unit)
abbrev D23 : Type := (D6 × Int × Unit)
abbrev D24 : Type := ((List D0) × (List D0) × Int × Unit)
abbrev D25 : Type := (Int × (List D1) × (List D2) × (List D2) × Int × Int × Unit)
abbrev D26 : Type := ((List D0) × Int × ByteArray × ByteArray × Int × List ByteArray × List ByteArray × Int × ByteArray × ByteArray × Int × List ByteArray × List ByteArray × Int × ByteArray × ByteArray × Int × List ByteArray × List ByteArray × Int × Unit)
abbrev D27 : Type := ((List D1) × Int × (List D1) × (List D2) × (List D2) × Int × Int × (List D2) × (List D2) × Int × Int × (List D2) × (List D2) × Int × Int × Int × Int × Int × (List D3) × ByteArray × (List D0) × (List D3) × Int × Int × Int × Unit)
abbrev D28 : Type := ((List D1) × (List D1) × (List D3) × (List D1) × Int × Unit)
abbrev D29 : Type := (List ByteArray × Int × ByteArray × ByteArray × Int × List ByteArray × List ByteArray × Int × ByteArray × ByteArray × Int × List ByteArray × List ByteArray × List ByteArray × List ByteArray × Int × Int × Int × Unit)
abbrev D30 : Type := ((List D1) × (List D1) × (List D1) × (List D3) × Unit)
abbrev D31 : Type := ((List D1) × (List D1) × Int × Int × (List D3) × ByteArray × (List D0) × (List D1) × Int × Int × Unit)
abbrev D32 : Type := (List (List Int) × List Int × List Int × List ByteArray × List ByteArray × List Int × Int × Int × Unit)
abbrev D33 : Type := ((List D0) × (List D0) × Int × ByteArray × ByteArray × Int × List ByteArray × List ByteArray × Int × Int × ByteArray × ByteArray × Int × List ByteArray × List ByteArray × (List D0) × Int × Int × Unit)
abbrev D34 : Type := (List ByteArray × Int × List ByteArray × Int × Unit)
abbrev D35 : Type := ((List D0) × Unit)
abbrev D36 : Type := ((List D2) × Unit)
abbrev D37 : Type := (ByteArray × Int × Unit)
abbrev D38 : Type := (List ByteArray × Bool × Unit)
abbrev D39 : Type := ((List D0) × Int × ByteArray × ByteArray × Int × List ByteArray × List ByteArray × Int × Unit)
abbrev Dqb : List Shp := [(.ty Y3)]
noncomputable def Ufa : D3 × Unit → Option (Bool × Unit) := jTa (fnT Tryz.prog th (S0 jKa lIa bFb) 105 Dqb (.ty .bool) [])
noncomputable def Dhb (x0 : Int × Int × Unit) (fk : Fk) (bd : Bd) (sm : Sm) : Option (Bool × Unit) :=
    fk (decide (x0.1 ≥ (0 : Int))) (fk (decide (x0.1 < (8 : Int))) (fk (decide (x0.2.1 ≥ (1 : Int))) (some (decide (x0.2.1 ≤ (1048576 : Int)), ())) (some (false, ()))) (some (false, ()))) (some (false, ()))
theorem Geb (x0) : Ufa (x0, ()) = Dhb x0 jKa lIa bFb := eqF (S := S0) fun _ _ _ => by kernel_rfl
noncomputable def S1 : OCs := addF S0 Tryz.prog 105 Dqb (.ty .bool) [] Ufa
theorem Swb : fEb Tryz.prog th S1 := qXb.addF rfl
abbrev Gra : fCa := ⟨[], [], [[(.ty (.int .i64)), (.ty (.int .i64)), (.ty (.list Y3)), (.ty .str), (.ty (.list Y1))]], [], [(.ty (.list Y3)), (.func 104 [] [(.bptr 0 0)]), (.st (.int .i64 0)), (.ty (.int .i64)), (.ty (.int .i64))]⟩
abbrev Gwa : List sQa := [⟨.ret, ⟨[], [], [[(.ty (.int .i64)), (.ty (.int .i64)), (.ty (.list Y3)), (.ty .str), (.ty (.list Y1))]], [], [(.ty (.list Y3)), (.func 104 [] [(.bptr 0 0)]), (.ty (.int .i64)), (.ty (.int .i64)), (.ty (.int .i64))]⟩⟩, ⟨(.exit 0), ⟨[], [], [[(.ty (.int .i64)), (.ty (.int .i64)), (.ty (.list Y3)), (.ty .str), (.ty (.list Y1))]], [], [(.ty (.list Y3)), (.func 104 [] [(.bptr 0 0)]), (.st (.int .i64 0)), (.ty (.int .i64)), (.ty (.int .i64))]⟩⟩]
noncomputable def Ana : Int × Int × (List D3) × ByteArray × (List D0) × (List D3) × Int × Int × Unit → Option ((Int × Int × (List D3) × ByteArray × (List D0) × (List D3) × Int × Int × Int × Unit) ⊕ D10) := jTa (pBa (nHa Tryz.prog th (S1 jKa lIa bFb) 125 2 Gra Gwa))
noncomputable def Axa (i0 : Int) (i1 : Int) (l2 : List D3) (s3 : ByteArray) (l4 : List D0) (l5 : List D3) (i6 : Int) (i7 : Int) (fk : Fk) (bd : Bd) (sm : Sm) : Option (D10 ⊕ ((Int × Int × (List D3) × ByteArray × (List D0) × (List D3) × Int × Int × Int × Unit) ⊕ D10)) :=
    let z0 := (List.getD l5 (Int.toNat i7) ((0 : Int), (0 : Int), ()))
    fk (decide (i7 < i6)) (fk (decide ((0 : Int) ≤ i7)) (fk (decide (i7 < (↑(List.length l5) : Int))) (bd (Ufa ((z0.1, z0.2.1, ()), ())) fun y0 => fk (!y0.1) (some (Sum.inr (Sum.inl (i0, i1, l2, s3, l4, l5, i7, i6, i7, ())))) (fk (z0.1 == i0 && (z0.2.1 == i1 && true)) (some (Sum.inr (Sum.inl (i0, i1, l2, s3, l4, l5, i7, i6, i7, ())))) (some (Sum.inl (i0, i1, l2, s3, l4, l5, i6, IntKind.wrap IntKind.i64 (i7 + (1 : Int)), ()))))) none) none) (some (Sum.inr (Sum.inr (i0, i1, l2, s3, l4, l5, i6, i7, ()))))
theorem Fma (i0 i1 l2 s3 l4 l5 i6 i7) : Ana (i0, i1, l2, s3, l4, l5, i6, i7, ()) = (Axa i0 i1 l2 s3 l4 l5 i6 i7 jKa lIa bFb).bind (Sum.elim Ana some) := eqL (S := S1) fun _ _ _ => by kernel_rfl
noncomputable def S2 : OCs := addL S1 Tryz.prog 125 2 Gra Gwa Ana
theorem Sxb : fEb Tryz.prog th S2 := Swb.addL (by kernel_rfl) (by kernel_rfl) (by kernel_rfl) rfl
abbrev Xna : List Shp := [(.ty Y3), (.ty Y3)]
noncomputable def Qha : D3 × D3 × Unit → Option (Bool × Unit) := jTa (fnT Tryz.prog th (S2 jKa lIa bFb) 107 Xna (.ty .bool) [])
noncomputable def Wva (x0 : Int × Int × Unit) (x1 : Int × Int × Unit) (fk : Fk) (bd : Bd) (sm : Sm) : Option (Bool × Unit) :=
    fk (decide (x0.1 < x1.1)) (some (true, ())) (fk (x0.1 == x1.1) (some (decide (x0.2.1 < x1.2.1), ())) (some (false, ())))
theorem Cgb (x0 x1) : Qha (x0, x1, ()) = Wva x0 x1 jKa lIa bFb := eqF (S := S2) fun _ _ _ => by kernel_rfl
noncomputable def S3 : OCs := addF S2 Tryz.prog 107 Xna (.ty .bool) [] Qha
theorem Syb : fEb Tryz.prog th S3 := Sxb.addF rfl
abbrev Ota : fCa := ⟨[], [], [[(.ty (.int .i64)), (.ty (.int .i64)), (.ty (.list Y3)), (.ty .str), (.ty (.list Y1))]], [], [(.ty (.list Y3)), (.func 107 [] []), (.st (.bool false)), (.ty (.int .i64)), (.ty (.int .i64))]⟩
abbrev Pja : List sQa := [⟨.ret, ⟨[], [], [[(.ty (.int .i64)), (.ty (.int .i64)), (.ty (.list Y3)), (.ty .str), (.ty (.list Y1))]], [], [(.ty (.list Y3)), (.func 107 [] []), (.st (.bool false)), (.ty (.int .i64)), (.ty (.int .i64))]⟩⟩, ⟨(.exit 0), ⟨[], [], [[(.ty (.int .i64)), (.ty (.int .i64)), (.ty (.list Y3)), (.ty .str), (.ty (.list Y1))]], [], [(.ty (.list Y3)), (.func 107 [] []), (.st (.bool false)), (.ty (.int .i64)), (.ty (.int .i64))]⟩⟩]
noncomputable def Cia : Int × Int × (List D3) × ByteArray × (List D0) × (List D3) × Int × Int × Unit → Option (D10 ⊕ D10) := jTa (pBa (nHa Tryz.prog th (S3 jKa lIa bFb) 106 2 Ota Pja))
noncomputable def Dka (i0 : Int) (i1 : Int) (l2 : List D3) (s3 : ByteArray) (l4 : List D0) (l5 : List D3) (i6 : Int) (i7 : Int) (fk : Fk) (bd : Bd) (sm : Sm) : Option (D10 ⊕ (D10 ⊕ D10)) :=
    fk (decide (i7 < i6)) (fk (decide (i7 > (0 : Int))) (fk (decide ((0 : Int) ≤ IntKind.wrap IntKind.i64 (i7 - (1 : Int)))) (fk (decide (IntKind.wrap IntKind.i64 (i7 - (1 : Int)) < (↑(List.length l5) : Int))) (fk (decide ((0 : Int) ≤ i7)) (fk (decide (i7 < (↑(List.length l5) : Int))) (bd (Qha (((List.getD l5 (Int.toNat (IntKind.wrap IntKind.i64 (i7 - (1 : Int)))) ((0 : Int), (0 : Int), ())).1, (List.getD l5 (Int.toNat (IntKind.wrap IntKind.i64 (i7 - (1 : Int)))) ((0 : Int), (0 : Int), ())).2.1, ()), ((List.getD l5 (Int.toNat i7) ((0 : Int), (0 : Int), ())).1, (List.getD l5 (Int.toNat i7) ((0 : Int), (0 : Int), ())).2.1, ()), ())) fun y0 => fk (!y0.1) (some (Sum.inr (Sum.inl (i0, i1, l2, s3, l4, l5, i6, i7, ())))) (some (Sum.inl (i0, i1, l2, s3, l4, l5, i6, IntKind.wrap IntKind.i64 (i7 + (1 : Int)), ())))) none) none) none) none) (some (Sum.inl (i0, i1, l2, s3, l4, l5, i6, IntKind.wrap IntKind.i64 (i7 + (1 : Int)), ())))) (some (Sum.inr (Sum.inr (i0, i1, l2, s3, l4, l5, i6, i7, ()))))
theorem Lua (i0 i1 l2 s3 l4 l5 i6 i7) : Cia (i0, i1, l2, s3, l4, l5, i6, i7, ()) = (Dka i0 i1 l2 s3 l4 l5 i6 i7 jKa lIa bFb).bind (Sum.elim Cia some) := eqL (S := S3) fun _ _ _ => by kernel_rfl
noncomputable def S4 : OCs := addL S3 Tryz.prog 106 2 Ota Pja Cia
theorem Szb : fEb Tryz.prog th S4 := Syb.addL (by kernel_rfl) (by kernel_rfl) (by kernel_rfl) rfl
abbrev Cpa : List Shp := [(.ty .str), (.ty .byte)]
noncomputable def Bna : ByteArray × UInt8 × Unit → Option (Int × Unit) := jTa (fnT Tryz.prog th (S4 jKa lIa bFb) 192 Cpa (.ty (.int .i64)) [])
noncomputable def Cma (s0 : ByteArray) (c1 : UInt8) (fk : Fk) (bd : Bd) (sm : Sm) : Option (Int × Unit) :=
    some (Lib.indexByte s0.data.toList (Nat.toUInt8 (Int.toNat (↑(UInt8.toNat c1) : Int))), ())
theorem Gsa (s0 c1) : Bna (s0, c1, ()) = Cma s0 c1 jKa lIa bFb := eqF (S := S4) fun _ _ _ => by kernel_rfl
noncomputable def S5 : OCs := addF S4 Tryz.prog 192 Cpa (.ty (.int .i64)) [] Bna
theorem Tab : fEb Tryz.prog th S5 := Szb.addF rfl
abbrev Kva : List Shp := [(.ty .str), (.ty .byte)]
noncomputable def Efa : ByteArray × UInt8 × Unit → Option (Int × Unit) := jTa (fnT Tryz.prog th (S5 jKa lIa bFb) 150 Kva (.ty (.int .i64)) [])
noncomputable def Ksa (s0 : ByteArray) (c1 : UInt8) (fk : Fk) (bd : Bd) (sm : Sm) : Option (Int × Unit) :=
    fk (decide ((0 : Int) ≤ (↑(UInt8.toNat c1) : Int)) && decide ((↑(UInt8.toNat c1) : Int) < (256 : Int))) (bd (Bna (s0, UInt8.ofNat (Int.toNat (↑(UInt8.toNat c1) : Int)), ())) fun y0 => some (y0.1, ())) none
theorem Rca (s0 c1) : Efa (s0, c1, ()) = Ksa s0 c1 jKa lIa bFb := eqF (S := S5) fun _ _ _ => by kernel_rfl
noncomputable def S6 : OCs := addF S5 Tryz.prog 150 Kva (.ty (.int .i64)) [] Efa
theorem Tbb : fEb Tryz.prog th S6 := Tab.addF rfl
abbrev Dwb : List Shp := [(.ty .str)]
noncomputable def Qta : ByteArray × Unit → Option (Bool × Unit) := jTa (fnT Tryz.prog th (S6 jKa lIa bFb) 108 Dwb (.ty .bool) [])
noncomputable def Xba (s0 : ByteArray) (fk : Fk) (bd : Bd) (sm : Sm) : Option (Bool × Unit) :=
    fk (decide ((↑(ByteArray.size s0) : Int) ≤ (80 : Int))) (bd (Efa (s0, UInt8.ofNat (Int.toNat (10 : Int)), ())) fun y0 => some (decide (y0.1 < (0 : Int)), ())) (some (false, ()))
theorem Gmb (s0) : Qta (s0, ()) = Xba s0 jKa lIa bFb := eqF (S := S6) fun _ _ _ => by kernel_rfl
noncomputable def S7 : OCs := addF S6 Tryz.prog 108 Dwb (.ty .bool) [] Qta
theorem Tcb : fEb Tryz.prog th S7 := Tbb.addF rfl
abbrev Axb : List Shp := [(.ty .byte)]
noncomputable def Uqa : UInt8 × Unit → Option (Bool × Unit) := jTa (fnT Tryz.prog th (S7 jKa lIa bFb) 151 Axb (.ty .bool) [])
noncomputable def Akb (c0 : UInt8) (fk : Fk) (bd : Bd) (sm : Sm) : Option (Bool × Unit) :=
    let z0 := (fk (decide ((↑(UInt8.toNat c0) : Int) ≥ (48 : Int))) (fk (decide ((↑(UInt8.toNat c0) : Int) ≤ (57 : Int))) (some (true, ())) (some ((↑(UInt8.toNat c0) : Int) == (46 : Int), ()))) (some ((↑(UInt8.toNat c0) : Int) == (46 : Int), ())))
    fk (decide ((↑(UInt8.toNat c0) : Int) ≥ (97 : Int))) (fk (decide ((↑(UInt8.toNat c0) : Int) ≤ (122 : Int))) (some (true, ())) z0) z0
theorem Fnb (c0) : Uqa (c0, ()) = Akb c0 jKa lIa bFb := eqF (S := S7) fun _ _ _ => by kernel_rfl
noncomputable def S8 : OCs := addF S7 Tryz.prog 151 Axb (.ty .bool) [] Uqa
theorem Tdb : fEb Tryz.prog th S8 := Tcb.addF rfl
abbrev Tma : fCa := ⟨[], [], [], [], [(.ty .str), (.st (.bool false)), (.ty (.int .i64)), (.ty (.int .i64))]⟩
abbrev Uba : List sQa := [⟨.ret, ⟨[], [], [], [], [(.ty .str), (.st (.bool false)), (.ty (.int .i64)), (.ty (.int .i64))]⟩⟩, ⟨(.exit 0), ⟨[], [], [], [], [(.ty .str), (.st (.bool false)), (.ty (.int .i64)), (.ty (.int .i64))]⟩⟩]
noncomputable def Ita : ByteArray × Int × Int × Unit → Option ((ByteArray × Int × Int × Unit) ⊕ (ByteArray × Int × Int × Unit)) := jTa (pBa (nHa Tryz.prog th (S8 jKa lIa bFb) 111 2 Tma Uba))
noncomputable def Jfa (s0 : ByteArray) (i1 : Int) (i2 : Int) (fk : Fk) (bd : Bd) (sm : Sm) : Option ((ByteArray × Int × Int × Unit) ⊕ ((ByteArray × Int × Int × Unit) ⊕ (ByteArray × Int × Int × Unit))) :=
    let z0 := (↑(UInt8.toNat (List.getD s0.data.toList (Int.toNat i2) (0 : UInt8))) : Int)
    fk (decide (i2 < i1)) (fk (decide ((0 : Int) ≤ i2)) (fk (decide (i2 < (↑(ByteArray.size s0) : Int))) (fk (decide ((0 : Int) ≤ z0) && decide (z0 < (256 : Int))) (bd (Uqa (UInt8.ofNat (Int.toNat z0), ())) fun y0 => fk (!y0.1) (some (Sum.inr (Sum.inl (s0, i1, i2, ())))) (some (Sum.inl (s0, i1, IntKind.wrap IntKind.i64 (i2 + (1 : Int)), ())))) none) none) none) (some (Sum.inr (Sum.inr (s0, i1, i2, ()))))
theorem Pta (s0 i1 i2) : Ita (s0, i1, i2, ()) = (Jfa s0 i1 i2 jKa lIa bFb).bind (Sum.elim Ita some) := eqL (S := S8) fun _ _ _ => by kernel_rfl
noncomputable def S9 : OCs := addL S8 Tryz.prog 111 2 Tma Uba Ita
theorem Teb : fEb Tryz.prog th S9 := Tdb.addL (by kernel_rfl) (by kernel_rfl) (by kernel_rfl) rfl
abbrev Awb : List Shp := [(.ty .str)]
noncomputable def Kga : ByteArray × Unit → Option (Bool × Unit) := jTa (fnT Tryz.prog th (S9 jKa lIa bFb) 111 Awb (.ty .bool) [])
noncomputable def Pxa (s0 : ByteArray) (fk : Fk) (bd : Bd) (sm : Sm) : Option (Bool × Unit) :=
    bd (Ita (s0, (↑(ByteArray.size s0) : Int), (0 : Int), ())) fun y0 => sm y0 (fun y1 => some (false, ())) fun y2 => fk (!ByteArray.toList y2.1 == ByteArray.toList ByteArray.empty) (some (decide ((↑(ByteArray.size y2.1) : Int) ≤ (16 : Int)), ())) (some (false, ()))
theorem Fmb (s0) : Kga (s0, ()) = Pxa s0 jKa lIa bFb := eqF (S := S9) fun _ _ _ => by kernel_rfl
noncomputable def S10 : OCs := addF S9 Tryz.prog 111 Awb (.ty .bool) [] Kga
theorem Nkb : fEb Tryz.prog th S10 := Teb.addF rfl
abbrev Jsa : List Shp := [(.ty Y1)]
noncomputable def Cba : D0 × Unit → Option (Bool × Unit) := jTa (fnT Tryz.prog th (S10 jKa lIa bFb) 197 Jsa (.ty .bool) [])
noncomputable def Fra (x0 : Int × ByteArray × ByteArray × D4 × Unit) (fk : Fk) (bd : Bd) (sm : Sm) : Option (Bool × Unit) :=
    bd (Kga (x0.2.1, ())) fun y0 => fk y0.1 (some (ByteArray.toList x0.2.2.1 == ByteArray.toList ByteArray.empty, ())) (some (false, ()))
theorem Poa (x0) : Cba (x0, ()) = Fra x0 jKa lIa bFb := eqF (S := S10) fun _ _ _ => by kernel_rfl
noncomputable def S11 : OCs := addF S10 Tryz.prog 197 Jsa (.ty .bool) [] Cba
theorem Nlb : fEb Tryz.prog th S11 := Nkb.addF rfl
abbrev Lfa : List Shp := [(.ty Y1)]
noncomputable def Cza : D0 × Unit → Option (Bool × Unit) := jTa (fnT Tryz.prog th (S11 jKa lIa bFb) 198 Lfa (.ty .bool) [])
noncomputable def Hqa (x0 : Int × ByteArray × ByteArray × D4 × Unit) (fk : Fk) (bd : Bd) (sm : Sm) : Option (Bool × Unit) :=
    fk (x0.2.2.2.1.1 == (0 : Int)) (some (IntKind.wrap IntKind.i64 ((↑(List.length x0.2.2.2.1.2.1) : Int) + (↑(List.length x0.2.2.2.1.2.2.1) : Int)) == (0 : Int), ())) (some (false, ()))
theorem Ssa (x0) : Cza (x0, ()) = Hqa x0 jKa lIa bFb := eqF (S := S11) fun _ _ _ => by kernel_rfl
noncomputable def S12 : OCs := addF S11 Tryz.prog 198 Lfa (.ty .bool) [] Cza
theorem Nmb : fEb Tryz.prog th S12 := Nlb.addF rfl
abbrev Jaa : List Shp := [(.ty Y1)]
noncomputable def Bva : D0 × Unit → Option (Bool × Unit) := jTa (fnT Tryz.prog th (S12 jKa lIa bFb) 157 Jaa (.ty .bool) [])
noncomputable def Iya (x0 : Int × ByteArray × ByteArray × D4 × Unit) (fk : Fk) (bd : Bd) (sm : Sm) : Option (Bool × Unit) :=
    bd (Cba ((x0.1, x0.2.1, x0.2.2.1, (x0.2.2.2.1.1, x0.2.2.2.1.2.1, x0.2.2.2.1.2.2.1, ()), ()), ())) fun y0 => fk y0.1 (bd (Cza ((x0.1, x0.2.1, x0.2.2.1, (x0.2.2.2.1.1, x0.2.2.2.1.2.1, x0.2.2.2.1.2.2.1, ()), ()), ())) fun y1 => some (y1.1, ())) (some (false, ()))
theorem Nua (x0) : Bva (x0, ()) = Iya x0 jKa lIa bFb := eqF (S := S12) fun _ _ _ => by kernel_rfl
noncomputable def S13 : OCs := addF S12 Tryz.prog 157 Jaa (.ty .bool) [] Bva
theorem Nnb : fEb Tryz.prog th S13 := Nmb.addF rfl
abbrev Jba : List Shp := [(.ty Y1)]
noncomputable def Cua : D0 × Unit → Option (Bool × Unit) := jTa (fnT Tryz.prog th (S13 jKa lIa bFb) 160 Jba (.ty .bool) [])
noncomputable def Iza (x0 : Int × ByteArray × ByteArray × D4 × Unit) (fk : Fk) (bd : Bd) (sm : Sm) : Option (Bool × Unit) :=
    bd (Kga (x0.2.1, ())) fun y0 => fk y0.1 (bd (Kga (x0.2.2.1, ())) fun y1 => fk y1.1 (fk (!ByteArray.toList x0.2.1 == ByteArray.toList x0.2.2.1) (bd (Cza ((x0.1, x0.2.1, x0.2.2.1, (x0.2.2.2.1.1, x0.2.2.2.1.2.1, x0.2.2.2.1.2.2.1, ()), ()), ())) fun y2 => some (y2.1, ())) (some (false, ()))) (some (false, ()))) (some (false, ()))
theorem Nva (x0) : Cua (x0, ()) = Iza x0 jKa lIa bFb := eqF (S := S13) fun _ _ _ => by kernel_rfl
noncomputable def S14 : OCs := addF S13 Tryz.prog 160 Jba (.ty .bool) [] Cua
theorem Nob : fEb Tryz.prog th S14 := Nnb.addF rfl
abbrev Xxa : List Shp := [(.ty .str)]
noncomputable def Qsa : ByteArray × Unit → Option (Bool × Unit) := jTa (fnT Tryz.prog th (S14 jKa lIa bFb) 153 Xxa (.ty .bool) [])
noncomputable def Xaa (s0 : ByteArray) (fk : Fk) (bd : Bd) (sm : Sm) : Option (Bool × Unit) :=
    bd (Qta (s0, ())) fun y0 => some (!y0.1, ())
theorem Dab (s0) : Qsa (s0, ()) = Xaa s0 jKa lIa bFb := eqF (S := S14) fun _ _ _ => by kernel_rfl
noncomputable def S15 : OCs := addF S14 Tryz.prog 153 Xxa (.ty .bool) [] Qsa
theorem Npb : fEb Tryz.prog th S15 := Nob.addF rfl
abbrev Dqa : fCa := ⟨[], [], [], [], [(.ty (.list .str)), (.func 153 [] []), (.st (.int .i64 0)), (.ty (.int .i64)), (.ty (.int .i64))]⟩
abbrev Dsa : List sQa := [⟨.ret, ⟨[], [], [], [], [(.ty (.list .str)), (.func 153 [] []), (.ty (.int .i64)), (.ty (.int .i64)), (.ty (.int .i64))]⟩⟩, ⟨(.exit 0), ⟨[], [], [], [], [(.ty (.list .str)), (.func 153 [] []), (.st (.int .i64 0)), (.ty (.int .i64)), (.ty (.int .i64))]⟩⟩]
noncomputable def Ala : List ByteArray × Int × Int × Unit → Option ((List ByteArray × Int × Int × Int × Unit) ⊕ (List ByteArray × Int × Int × Unit)) := jTa (pBa (nHa Tryz.prog th (S15 jKa lIa bFb) 193 2 Dqa Dsa))
noncomputable def Aya (l0 : List ByteArray) (i1 : Int) (i2 : Int) (fk : Fk) (bd : Bd) (sm : Sm) : Option ((List ByteArray × Int × Int × Unit) ⊕ ((List ByteArray × Int × Int × Int × Unit) ⊕ (List ByteArray × Int × Int × Unit))) :=
    fk (decide (i2 < i1)) (fk (decide ((0 : Int) ≤ i2)) (fk (decide (i2 < (↑(List.length l0) : Int))) (bd (Qsa (List.getD l0 (Int.toNat i2) ByteArray.empty, ())) fun y0 => fk y0.1 (some (Sum.inr (Sum.inl (l0, i2, i1, i2, ())))) (some (Sum.inl (l0, i1, IntKind.wrap IntKind.i64 (i2 + (1 : Int)), ())))) none) none) (some (Sum.inr (Sum.inr (l0, i1, i2, ()))))
theorem Daa (l0 i1 i2) : Ala (l0, i1, i2, ()) = (Aya l0 i1 i2 jKa lIa bFb).bind (Sum.elim Ala some) := eqL (S := S15) fun _ _ _ => by kernel_rfl
noncomputable def S16 : OCs := addL S15 Tryz.prog 193 2 Dqa Dsa Ala
theorem Nqb : fEb Tryz.prog th S16 := Npb.addL (by kernel_rfl) (by kernel_rfl) (by kernel_rfl) rfl
abbrev Dvb : List Shp := [(.ty (.list .str))]
noncomputable def Qra : List ByteArray × Unit → Option (Bool × Unit) := jTa (fnT Tryz.prog th (S16 jKa lIa bFb) 112 Dvb (.ty .bool) [])
noncomputable def Tda (l0 : List ByteArray) (fk : Fk) (bd : Bd) (sm : Sm) : Option (Bool × Unit) :=
    fk (decide ((↑(List.length l0) : Int) ≤ (200 : Int))) (bd (Ala (l0, (↑(List.length l0) : Int), (0 : Int), ())) fun y0 => sm y0 (fun y1 => some (!decide (y1.2.1 ≥ (0 : Int)), ())) fun y2 => some (true, ())) (some (false, ()))
theorem Glb (l0) : Qra (l0, ()) = Tda l0 jKa lIa bFb := eqF (S := S16) fun _ _ _ => by kernel_rfl
noncomputable def S17 : OCs := addF S16 Tryz.prog 112 Dvb (.ty .bool) [] Qra
theorem Nrb : fEb Tryz.prog th S17 := Nqb.addF rfl
abbrev Dob : List Shp := [(.ty Y5)]
noncomputable def Tna : D4 × Unit → Option (Bool × Unit) := jTa (fnT Tryz.prog th (S17 jKa lIa bFb) 199 Dob (.ty .bool) [])
noncomputable def Nza (x0 : Int × List ByteArray × List ByteArray × Unit) (fk : Fk) (bd : Bd) (sm : Sm) : Option (Bool × Unit) :=
    fk (decide (x0.1 ≥ (0 : Int))) (fk (decide (x0.1 ≤ (1048576 : Int))) (bd (Qra (x0.2.1, ())) fun y0 => fk y0.1 (bd (Qra (x0.2.2.1, ())) fun y1 => some (y1.1, ())) (some (false, ()))) (some (false, ()))) (some (false, ()))
theorem Fxb (x0) : Tna (x0, ()) = Nza x0 jKa lIa bFb := eqF (S := S17) fun _ _ _ => by kernel_rfl
noncomputable def S18 : OCs := addF S17 Tryz.prog 199 Dob (.ty .bool) [] Tna
theorem Nsb : fEb Tryz.prog th S18 := Nrb.addF rfl
abbrev Ika : List Shp := [(.ty Y1)]
noncomputable def Bqa : D0 × Unit → Option (Bool × Unit) := jTa (fnT Tryz.prog th (S18 jKa lIa bFb) 162 Ika (.ty .bool) [])
noncomputable def Iia (x0 : Int × ByteArray × ByteArray × D4 × Unit) (fk : Fk) (bd : Bd) (sm : Sm) : Option (Bool × Unit) :=
    bd (Cba ((x0.1, x0.2.1, x0.2.2.1, (x0.2.2.2.1.1, x0.2.2.2.1.2.1, x0.2.2.2.1.2.2.1, ()), ()), ())) fun y0 => fk y0.1 (bd (Tna ((x0.2.2.2.1.1, x0.2.2.2.1.2.1, x0.2.2.2.1.2.2.1, ()), ())) fun y1 => some (y1.1, ())) (some (false, ()))
theorem Mia (x0) : Bqa (x0, ()) = Iia x0 jKa lIa bFb := eqF (S := S18) fun _ _ _ => by kernel_rfl
noncomputable def S19 : OCs := addF S18 Tryz.prog 162 Ika (.ty .bool) [] Bqa
theorem Ntb : fEb Tryz.prog th S19 := Nsb.addF rfl
abbrev Jra : List Shp := [(.ty Y1)]
noncomputable def Dea : D0 × Unit → Option (Bool × Unit) := jTa (fnT Tryz.prog th (S19 jKa lIa bFb) 164 Jra (.ty .bool) [])
noncomputable def Jna (x0 : Int × ByteArray × ByteArray × D4 × Unit) (fk : Fk) (bd : Bd) (sm : Sm) : Option (Bool × Unit) :=
    bd (Bqa ((x0.1, x0.2.1, x0.2.2.1, (x0.2.2.2.1.1, x0.2.2.2.1.2.1, x0.2.2.2.1.2.2.1, ()), ()), ())) fun y0 => fk y0.1 (some (x0.2.2.2.1.1 == (0 : Int), ())) (some (false, ()))
theorem Pna (x0) : Dea (x0, ()) = Jna x0 jKa lIa bFb := eqF (S := S19) fun _ _ _ => by kernel_rfl
noncomputable def S20 : OCs := addF S19 Tryz.prog 164 Jra (.ty .bool) [] Dea
theorem Nub : fEb Tryz.prog th S20 := Ntb.addF rfl
abbrev Drb : List Shp := [(.ty Y1)]
noncomputable def Uga : D0 × Unit → Option (Bool × Unit) := jTa (fnT Tryz.prog th (S20 jKa lIa bFb) 77 Drb (.ty .bool) [])
noncomputable def Dib (x0 : Int × ByteArray × ByteArray × D4 × Unit) (fk : Fk) (bd : Bd) (sm : Sm) : Option (Bool × Unit) :=
    let z0 := ((x0.1, x0.2.1, x0.2.2.1, (x0.2.2.2.1.1, x0.2.2.2.1.2.1, x0.2.2.2.1.2.2.1, ()), ()), ())
    fk (decide (x0.1 ≥ (0 : Int))) (fk (decide (x0.1 < (5 : Int))) (fk (decide (x0.1 = (↑(0 : Nat) : Int))) (bd (Bva z0) fun y0 => some (y0.1, ())) (fk (decide (x0.1 = (↑((0 : Nat) + (1 : Nat)) : Int))) (bd (Bva z0) fun y1 => some (y1.1, ())) (fk (decide (x0.1 = (↑((0 : Nat) + (1 : Nat) + (1 : Nat)) : Int))) (bd (Cua z0) fun y2 => some (y2.1, ())) (fk (decide (x0.1 = (↑((0 : Nat) + (1 : Nat) + (1 : Nat) + (1 : Nat)) : Int))) (bd (Bqa z0) fun y3 => some (y3.1, ())) (fk (decide (x0.1 = (↑((0 : Nat) + (1 : Nat) + (1 : Nat) + (1 : Nat) + (1 : Nat)) : Int))) (bd (Dea z0) fun y4 => some (y4.1, ())) none))))) (some (false, ()))) (some (false, ()))
theorem Gfb (x0) : Uga (x0, ()) = Dib x0 jKa lIa bFb := eqF (S := S20) fun _ _ _ => by kernel_rfl
noncomputable def S21 : OCs := addF S20 Tryz.prog 77 Drb (.ty .bool) [] Uga
theorem Nvb : fEb Tryz.prog th S21 := Nub.addF rfl
abbrev Xka : List Shp := [(.ty Y1)]
noncomputable def Qda : D0 × Unit → Option (Bool × Unit) := jTa (fnT Tryz.prog th (S21 jKa lIa bFb) 76 Xka (.ty .bool) [])
noncomputable def Wsa (x0 : Int × ByteArray × ByteArray × D4 × Unit) (fk : Fk) (bd : Bd) (sm : Sm) : Option (Bool × Unit) :=
    bd (Uga ((x0.1, x0.2.1, x0.2.2.1, (x0.2.2.2.1.1, x0.2.2.2.1.2.1, x0.2.2.2.1.2.2.1, ()), ()), ())) fun y0 => some (!y0.1, ())
theorem Bvb (x0) : Qda (x0, ()) = Wsa x0 jKa lIa bFb := eqF (S := S21) fun _ _ _ => by kernel_rfl
noncomputable def S22 : OCs := addF S21 Tryz.prog 76 Xka (.ty .bool) [] Qda
theorem Nwb : fEb Tryz.prog th S22 := Nvb.addF rfl
abbrev Eza : fCa := ⟨[], [], [], [], [(.ty (.list Y1)), (.func 76 [] []), (.st (.int .i64 0)), (.ty (.int .i64)), (.ty (.int .i64))]⟩
abbrev Fia : List sQa := [⟨.ret, ⟨[], [], [], [], [(.ty (.list Y1)), (.func 76 [] []), (.ty (.int .i64)), (.ty (.int .i64)), (.ty (.int .i64))]⟩⟩, ⟨(.exit 0), ⟨[], [], [], [], [(.ty (.list Y1)), (.func 76 [] []), (.st (.int .i64 0)), (.ty (.int .i64)), (.ty (.int .i64))]⟩⟩]
noncomputable def Awa : (List D0) × Int × Int × Unit → Option (((List D0) × Int × Int × Int × Unit) ⊕ ((List D0) × Int × Int × Unit)) := jTa (pBa (nHa Tryz.prog th (S22 jKa lIa bFb) 124 2 Eza Fia))
noncomputable def Bma (l0 : List D0) (i1 : Int) (i2 : Int) (fk : Fk) (bd : Bd) (sm : Sm) : Option (((List D0) × Int × Int × Unit) ⊕ (((List D0) × Int × Int × Int × Unit) ⊕ ((List D0) × Int × Int × Unit))) :=
    let z0 := (List.getD l0 (Int.toNat i2) ((0 : Int), ByteArray.empty, ByteArray.empty, ((0 : Int), @List.nil ByteArray, @List.nil ByteArray, ()), ()))
    fk (decide (i2 < i1)) (fk (decide ((0 : Int) ≤ i2)) (fk (decide (i2 < (↑(List.length l0) : Int))) (bd (Qda ((z0.1, z0.2.1, z0.2.2.1, (z0.2.2.2.1.1, z0.2.2.2.1.2.1, z0.2.2.2.1.2.2.1, ()), ()), ())) fun y0 => fk y0.1 (some (Sum.inr (Sum.inl (l0, i2, i1, i2, ())))) (some (Sum.inl (l0, i1, IntKind.wrap IntKind.i64 (i2 + (1 : Int)), ())))) none) none) (some (Sum.inr (Sum.inr (l0, i1, i2, ()))))
theorem Dya (l0 i1 i2) : Awa (l0, i1, i2, ()) = (Bma l0 i1 i2 jKa lIa bFb).bind (Sum.elim Awa some) := eqL (S := S22) fun _ _ _ => by kernel_rfl
noncomputable def S23 : OCs := addL S22 Tryz.prog 124 2 Eza Fia Awa
theorem Nxb : fEb Tryz.prog th S23 := Nwb.addL (by kernel_rfl) (by kernel_rfl) (by kernel_rfl) rfl
abbrev Dnb : List Shp := [(.ty (.list Y1))]
noncomputable def Tfa : (List D0) × Unit → Option (Bool × Unit) := jTa (fnT Tryz.prog th (S23 jKa lIa bFb) 29 Dnb (.ty .bool) [])
noncomputable def Wra (l0 : List D0) (fk : Fk) (bd : Bd) (sm : Sm) : Option (Bool × Unit) :=
    bd (Awa (l0, (↑(List.length l0) : Int), (0 : Int), ())) fun y0 => sm y0 (fun y1 => some (!decide (y1.2.1 ≥ (0 : Int)), ())) fun y2 => some (true, ())
theorem Fub (l0) : Tfa (l0, ()) = Wra l0 jKa lIa bFb := eqF (S := S23) fun _ _ _ => by kernel_rfl
noncomputable def S24 : OCs := addF S23 Tryz.prog 29 Dnb (.ty .bool) [] Tfa
theorem Nyb : fEb Tryz.prog th S24 := Nxb.addF rfl
abbrev Aqb : List Shp := [(.ty Y0)]
noncomputable def Uea : D1 × Unit → Option (Bool × Unit) := jTa (fnT Tryz.prog th (S24 jKa lIa bFb) 54 Aqb (.ty .bool) [])
noncomputable def Ahb (x0 : D3 × (List D3) × ByteArray × (List D0) × Unit) (fk : Fk) (bd : Bd) (sm : Sm) : Option (Bool × Unit) :=
    bd (Ufa ((x0.1.1, x0.1.2.1, ()), ())) fun y0 => fk y0.1 (fk (decide ((↑(List.length x0.2.1) : Int) ≤ (60 : Int))) (bd (Ana (x0.1.1, x0.1.2.1, x0.2.1, x0.2.2.1, x0.2.2.2.1, x0.2.1, (↑(List.length x0.2.1) : Int), (0 : Int), ())) fun y1 => sm y1 (fun y2 => fk (!decide (y2.2.2.2.2.2.2.1 ≥ (0 : Int))) (bd (Cia (y2.1, y2.2.1, y2.2.2.1, y2.2.2.2.1, y2.2.2.2.2.1, y2.2.2.1, (↑(List.length y2.2.2.1) : Int), (0 : Int), ())) fun y3 => sm y3 (fun y4 => some (false, ())) fun y5 => bd (Qta (y5.2.2.2.1, ())) fun y6 => fk y6.1 (fk (decide ((↑(List.length y5.2.2.2.2.1) : Int) ≤ (200 : Int))) (bd (Tfa (y5.2.2.2.2.1, ())) fun y7 => some (y7.1, ())) (some (false, ()))) (some (false, ()))) (some (false, ()))) fun y8 => bd (Cia (y8.1, y8.2.1, y8.2.2.1, y8.2.2.2.1, y8.2.2.2.2.1, y8.2.2.1, (↑(List.length y8.2.2.1) : Int), (0 : Int), ())) fun y9 => sm y9 (fun y10 => some (false, ())) fun y11 => bd (Qta (y11.2.2.2.1, ())) fun y12 => fk y12.1 (fk (decide ((↑(List.length y11.2.2.2.2.1) : Int) ≤ (200 : Int))) (bd (Tfa (y11.2.2.2.2.1, ())) fun y13 => some (y13.1, ())) (some (false, ()))) (some (false, ()))) (some (false, ()))) (some (false, ()))
theorem Exb (x0) : Uea (x0, ()) = Ahb x0 jKa lIa bFb := eqF (S := S24) fun _ _ _ => by kernel_rfl
noncomputable def S25 : OCs := addF S24 Tryz.prog 54 Aqb (.ty .bool) [] Uea
theorem Nzb : fEb Tryz.prog th S25 := Nyb.addF rfl
abbrev Eka : fCa := ⟨[], [], [[(.ty (.int .i64)), (.ty (.int .i64))]], [], [(.ty (.list Y0)), (.func 110 [] [(.bptr 0 0)]), (.st (.int .i64 0)), (.ty (.int .i64)), (.ty (.int .i64))]⟩
abbrev Eoa : List sQa := [⟨.ret, ⟨[], [], [[(.ty (.int .i64)), (.ty (.int .i64))]], [], [(.ty (.list Y0)), (.func 110 [] [(.bptr 0 0)]), (.ty (.int .i64)), (.ty (.int .i64)), (.ty (.int .i64))]⟩⟩, ⟨(.exit 0), ⟨[], [], [[(.ty (.int .i64)), (.ty (.int .i64))]], [], [(.ty (.list Y0)), (.func 110 [] [(.bptr 0 0)]), (.st (.int .i64 0)), (.ty (.int .i64)), (.ty (.int .i64))]⟩⟩]
noncomputable def Asa : Int × Int × (List D1) × Int × Int × Unit → Option ((Int × Int × (List D1) × Int × Int × Int × Unit) ⊕ (Int × Int × (List D1) × Int × Int × Unit)) := jTa (pBa (nHa Tryz.prog th (S25 jKa lIa bFb) 109 2 Eka Eoa))
noncomputable def Bha (i0 : Int) (i1 : Int) (l2 : List D1) (i3 : Int) (i4 : Int) (fk : Fk) (bd : Bd) (sm : Sm) : Option ((Int × Int × (List D1) × Int × Int × Unit) ⊕ ((Int × Int × (List D1) × Int × Int × Int × Unit) ⊕ (Int × Int × (List D1) × Int × Int × Unit))) :=
    let z0 := (List.getD l2 (Int.toNat i4) (((0 : Int), (0 : Int), ()), @List.nil D3, ByteArray.empty, @List.nil D0, ()))
    fk (decide (i4 < i3)) (fk (decide ((0 : Int) ≤ i4)) (fk (decide (i4 < (↑(List.length l2) : Int))) (fk (z0.1.1 == i0 && (z0.1.2.1 == i1 && true)) (some (Sum.inr (Sum.inl (i0, i1, l2, i4, i3, i4, ())))) (some (Sum.inl (i0, i1, l2, i3, IntKind.wrap IntKind.i64 (i4 + (1 : Int)), ())))) none) none) (some (Sum.inr (Sum.inr (i0, i1, l2, i3, i4, ()))))
theorem Dia (i0 i1 l2 i3 i4) : Asa (i0, i1, l2, i3, i4, ()) = (Bha i0 i1 l2 i3 i4 jKa lIa bFb).bind (Sum.elim Asa some) := eqL (S := S25) fun _ _ _ => by kernel_rfl
noncomputable def S26 : OCs := addL S25 Tryz.prog 109 2 Eka Eoa Asa
theorem Oab : fEb Tryz.prog th S26 := Nzb.addL (by kernel_rfl) (by kernel_rfl) (by kernel_rfl) rfl
abbrev Xma : List Shp := [(.ty (.list Y0)), (.ty Y3)]
noncomputable def Qga : (List D1) × D3 × Unit → Option (Int × Unit) := jTa (fnT Tryz.prog th (S26 jKa lIa bFb) 55 Xma (.ty (.int .i64)) [])
noncomputable def Wua (l0 : List D1) (x1 : Int × Int × Unit) (fk : Fk) (bd : Bd) (sm : Sm) : Option (Int × Unit) :=
    bd (Asa (x1.1, x1.2.1, l0, (↑(List.length l0) : Int), (0 : Int), ())) fun y0 => sm y0 (fun y1 => some (y1.2.2.2.1, ())) fun y2 => some ((-1 : Int), ())
theorem Ceb (l0 x1) : Qga (l0, x1, ()) = Wua l0 x1 jKa lIa bFb := eqF (S := S26) fun _ _ _ => by kernel_rfl
noncomputable def S27 : OCs := addF S26 Tryz.prog 55 Xma (.ty (.int .i64)) [] Qga
theorem Obb : fEb Tryz.prog th S27 := Oab.addF rfl
abbrev Vua : fCa := ⟨[], [], [[(.ty (.int .i64)), (.ty (.list Y0)), (.ty Y2), (.ty Y2), (.ty (.int .i64))]], [], [(.bptr 0 0), (.st (.bool false)), (.ty (.list Y0)), (.ty (.int .i64)), (.ty (.int .i64))]⟩
abbrev Waa : List sQa := [⟨.ret, ⟨[], [], [[(.ty (.int .i64)), (.ty (.list Y0)), (.ty Y2), (.ty Y2), (.ty (.int .i64))], [(.ty (.int .i64)), (.ty (.int .i64)), (.ty (.list Y3)), (.ty .str), (.ty (.list Y1))]], [], [(.bptr 0 0), (.st (.bool false)), (.ty (.list Y0)), (.ty (.int .i64)), (.ty (.int .i64))]⟩⟩, ⟨(.exit 0), ⟨[], [], [[(.ty (.int .i64)), (.ty (.list Y0)), (.ty Y2), (.ty Y2), (.ty (.int .i64))]], [], [(.bptr 0 0), (.st (.bool false)), (.ty (.list Y0)), (.ty (.int .i64)), (.ty (.int .i64))]⟩⟩]
noncomputable def Hwa : Int × (List D1) × (List D2) × (List D2) × Int × (List D1) × Int × Int × Unit → Option ((Int × (List D1) × (List D2) × (List D2) × Int × Int × Int × (List D3) × ByteArray × (List D0) × (List D1) × Int × Int × Unit) ⊕ (Int × (List D1) × (List D2) × (List D2) × Int × (List D1) × Int × Int × Unit)) := jTa (pBa (nHa Tryz.prog th (S27 jKa lIa bFb) 20 4 Vua Waa))
noncomputable def Dla (i0 : Int) (l1 : List D1) (l2 : List D2) (l3 : List D2) (i4 : Int) (l5 : List D1) (i6 : Int) (i7 : Int) (fk : Fk) (bd : Bd) (sm : Sm) : Option ((Int × (List D1) × (List D2) × (List D2) × Int × (List D1) × Int × Int × Unit) ⊕ ((Int × (List D1) × (List D2) × (List D2) × Int × Int × Int × (List D3) × ByteArray × (List D0) × (List D1) × Int × Int × Unit) ⊕ (Int × (List D1) × (List D2) × (List D2) × Int × (List D1) × Int × Int × Unit))) :=
    let z0 := (List.getD l5 (Int.toNat i7) (((0 : Int), (0 : Int), ()), @List.nil D3, ByteArray.empty, @List.nil D0, ()))
    let z1 := (some (Sum.inr (Sum.inl (i0, l1, l2, l3, i4, z0.1.1, z0.1.2.1, z0.2.1, z0.2.2.1, z0.2.2.2.1, l5, i6, i7, ()))))
    fk (decide (i7 < i6)) (fk (decide ((0 : Int) ≤ i7)) (fk (decide (i7 < (↑(List.length l5) : Int))) (bd (Uea (((z0.1.1, z0.1.2.1, ()), z0.2.1, z0.2.2.1, z0.2.2.2.1, ()), ())) fun y0 => fk (!y0.1) z1 (bd (Qga (l1, (z0.1.1, z0.1.2.1, ()), ())) fun y1 => fk (decide (y1.1 < i7)) z1 (fk (z0.1.1 == i0) (fk (decide (z0.1.2.1 > i4)) z1 (some (Sum.inl (i0, l1, l2, l3, i4, l5, i6, IntKind.wrap IntKind.i64 (i7 + (1 : Int)), ())))) (some (Sum.inl (i0, l1, l2, l3, i4, l5, i6, IntKind.wrap IntKind.i64 (i7 + (1 : Int)), ())))))) none) none) (some (Sum.inr (Sum.inr (i0, l1, l2, l3, i4, l5, i6, i7, ()))))
theorem Sea (i0 l1 l2 l3 i4 l5 i6 i7) : Hwa (i0, l1, l2, l3, i4, l5, i6, i7, ()) = (Dla i0 l1 l2 l3 i4 l5 i6 i7 jKa lIa bFb).bind (Sum.elim Hwa some) := eqL (S := S27) fun _ _ _ => by kernel_rfl
noncomputable def S28 : OCs := addL S27 Tryz.prog 20 4 Vua Waa Hwa
theorem Ocb : fEb Tryz.prog th S28 := Obb.addL (by kernel_rfl) (by kernel_rfl) (by kernel_rfl) rfl
abbrev Tla : fCa := ⟨[⟨Y1, 72, 6, true⟩], [], [], [], [.nils, (.mref 0), (.ty (.list Y0)), (.ty (.int .i64)), (.ty (.int .i64))]⟩
abbrev Uaa : List sQa := [⟨(.exit 0), ⟨[⟨Y1, 72, 6, true⟩], [], [], [], [.nils, (.mref 0), (.ty (.list Y0)), (.ty (.int .i64)), (.ty (.int .i64))]⟩⟩]
noncomputable def Iqa : (List D0) × (List D1) × Int × Int × Unit → Option ((List D0) × (List D1) × Int × Int × Unit) := jTa (pBa (nHa Tryz.prog th (S28 jKa lIa bFb) 91 3 Tla Uaa))
noncomputable def Lya (l0 : List D0) (l1 : List D1) (i2 : Int) (i3 : Int) (fk : Fk) (bd : Bd) (sm : Sm) : Option (((List D0) × (List D1) × Int × Int × Unit) ⊕ ((List D0) × (List D1) × Int × Int × Unit)) :=
    let z0 := (List.getD l1 (Int.toNat i3) (((0 : Int), (0 : Int), ()), @List.nil D3, ByteArray.empty, @List.nil D0, ()))
    fk (decide (i3 < i2)) (fk (decide ((0 : Int) ≤ i3)) (fk (decide (i3 < (↑(List.length l1) : Int))) (fk (decide (List.length l0 = List.length l0)) (fk (decide (List.length (l0 ++ z0.2.2.2.1) ≤ bBa)) (fk (decide (List.length (l0 ++ z0.2.2.2.1) = List.length (l0 ++ z0.2.2.2.1))) (some (Sum.inl (l0 ++ z0.2.2.2.1, l1, i2, IntKind.wrap IntKind.i64 (i3 + (1 : Int)), ()))) none) none) none) none) none) (fk (decide (List.length l0 = List.length l0)) (some (Sum.inr (l0, l1, i2, i3, ()))) none)
theorem Pka (l0 l1 i2 i3) : Iqa (l0, l1, i2, i3, ()) = (Lya l0 l1 i2 i3 jKa lIa bFb).bind (Sum.elim Iqa some) := eqL (S := S28) fun _ _ _ => by kernel_rfl
noncomputable def S29 : OCs := addL S28 Tryz.prog 91 3 Tla Uaa Iqa
theorem Odb : fEb Tryz.prog th S29 := Ocb.addL (by kernel_rfl) (by kernel_rfl) (by kernel_rfl) rfl
abbrev Apb : List Shp := [(.ty (.list Y0))]
noncomputable def Uda : (List D1) × Unit → Option D35 := jTa (fnT Tryz.prog th (S29 jKa lIa bFb) 91 Apb (.ty (.list Y1)) [])
noncomputable def Agb (l0 : List D1) (fk : Fk) (bd : Bd) (sm : Sm) : Option D35 :=
    fk (decide (List.length (@List.nil D0) = (0 : Nat))) (bd (Iqa (@List.nil D0, l0, (↑(List.length l0) : Int), (0 : Int), ())) fun y0 => fk (decide (List.length y0.1 = List.length y0.1)) (some (y0.1, ())) none) none
theorem Evb (l0) : Uda (l0, ()) = Agb l0 jKa lIa bFb := eqF (S := S29) fun _ _ _ => by kernel_rfl
noncomputable def S30 : OCs := addF S29 Tryz.prog 91 Apb (.ty (.list Y1)) [] Uda
theorem Oeb : fEb Tryz.prog th S30 := Odb.addF rfl
abbrev Eya : fCa := ⟨[], [], [[(.ty .str)]], [], [(.ty Y2), (.func 120 [] [(.bptr 0 0)]), (.st (.int .i64 0)), (.ty (.int .i64)), (.ty (.int .i64))]⟩
abbrev Fha : List sQa := [⟨.ret, ⟨[], [], [[(.ty .str)]], [], [(.ty Y2), (.func 120 [] [(.bptr 0 0)]), (.ty (.int .i64)), (.ty (.int .i64)), (.ty (.int .i64))]⟩⟩, ⟨(.exit 0), ⟨[], [], [[(.ty .str)]], [], [(.ty Y2), (.func 120 [] [(.bptr 0 0)]), (.st (.int .i64 0)), (.ty (.int .i64)), (.ty (.int .i64))]⟩⟩]
noncomputable def Ava : ByteArray × (List D2) × Int × Int × Unit → Option ((ByteArray × (List D2) × Int × Int × Int × Unit) ⊕ (ByteArray × (List D2) × Int × Int × Unit)) := jTa (pBa (nHa Tryz.prog th (S30 jKa lIa bFb) 123 2 Eya Fha))
noncomputable def Bla (s0 : ByteArray) (l1 : List D2) (i2 : Int) (i3 : Int) (fk : Fk) (bd : Bd) (sm : Sm) : Option ((ByteArray × (List D2) × Int × Int × Unit) ⊕ ((ByteArray × (List D2) × Int × Int × Int × Unit) ⊕ (ByteArray × (List D2) × Int × Int × Unit))) :=
    fk (decide (i3 < i2)) (fk (decide ((0 : Int) ≤ i3)) (fk (decide (i3 < (↑(List.length l1) : Int))) (fk (ByteArray.toList (List.getD l1 (Int.toNat i3) (ByteArray.empty, @List.nil ByteArray, ())).1 == ByteArray.toList s0) (some (Sum.inr (Sum.inl (s0, l1, i3, i2, i3, ())))) (some (Sum.inl (s0, l1, i2, IntKind.wrap IntKind.i64 (i3 + (1 : Int)), ())))) none) none) (some (Sum.inr (Sum.inr (s0, l1, i2, i3, ()))))
theorem Dxa (s0 l1 i2 i3) : Ava (s0, l1, i2, i3, ()) = (Bla s0 l1 i2 i3 jKa lIa bFb).bind (Sum.elim Ava some) := eqL (S := S30) fun _ _ _ => by kernel_rfl
noncomputable def S31 : OCs := addL S30 Tryz.prog 123 2 Eya Fha Ava
theorem Ofb : fEb Tryz.prog th S31 := Oeb.addL (by kernel_rfl) (by kernel_rfl) (by kernel_rfl) rfl
abbrev Yba : List Shp := [(.ty Y2), (.ty .str)]
noncomputable def Jma : (List D2) × ByteArray × Unit → Option (Int × Unit) := jTa (fnT Tryz.prog th (S31 jKa lIa bFb) 68 Yba (.ty (.int .i64)) [])
noncomputable def Soa (l0 : List D2) (s1 : ByteArray) (fk : Fk) (bd : Bd) (sm : Sm) : Option (Int × Unit) :=
    bd (Ava (s1, l0, (↑(List.length l0) : Int), (0 : Int), ())) fun y0 => sm y0 (fun y1 => fk (decide (y1.2.2.1 ≥ (0 : Int))) (some (y1.2.2.1, ())) (some ((↑(List.length l0) : Int), ()))) fun y2 => some ((↑(List.length l0) : Int), ())
theorem Dfb (l0 s1) : Jma (l0, s1, ()) = Soa l0 s1 jKa lIa bFb := eqF (S := S31) fun _ _ _ => by kernel_rfl
noncomputable def S32 : OCs := addF S31 Tryz.prog 68 Yba (.ty (.int .i64)) [] Jma
theorem Ogb : fEb Tryz.prog th S32 := Ofb.addF rfl
abbrev Dyb : List Shp := [(.ty Y2), (.ty .str)]
noncomputable def Hja : (List D2) × ByteArray × Unit → Option D38 := jTa (fnT Tryz.prog th (S32 jKa lIa bFb) 27 Dyb (.tuple [(.ty (.list .str)), (.ty .bool)]) [])
noncomputable def Xea (l0 : List D2) (s1 : ByteArray) (fk : Fk) (bd : Bd) (sm : Sm) : Option D38 :=
    bd (Jma (l0, s1, ())) fun y0 => fk (decide (y0.1 < (↑(List.length l0) : Int))) (fk (decide ((0 : Int) ≤ y0.1)) (fk (decide (y0.1 < (↑(List.length l0) : Int))) (fk (decide (List.length (List.getD l0 (Int.toNat y0.1) (ByteArray.empty, @List.nil ByteArray, ())).2.1 ≤ bBa)) (fk (decide (List.length (List.getD l0 (Int.toNat y0.1) (ByteArray.empty, @List.nil ByteArray, ())).2.1 = List.length (List.getD l0 (Int.toNat y0.1) (ByteArray.empty, @List.nil ByteArray, ())).2.1)) (some ((List.getD l0 (Int.toNat y0.1) (ByteArray.empty, @List.nil ByteArray, ())).2.1, true, ())) none) none) none) none) (some (@List.nil ByteArray, false, ()))
theorem Gob (l0 s1) : Hja (l0, s1, ()) = Xea l0 s1 jKa lIa bFb := eqF (S := S32) fun _ _ _ => by kernel_rfl
noncomputable def S33 : OCs := addF S32 Tryz.prog 27 Dyb (.tuple [(.ty (.list .str)), (.ty .bool)]) [] Hja
theorem Ohb : fEb Tryz.prog th S33 := Ogb.addF rfl
abbrev Ecb : List Shp := [(.ty .str), (.ty (.list .str))]
noncomputable def Kxa : ByteArray × List ByteArray × Unit → Option (D2 × Unit) := jTa (fnT Tryz.prog th (S33 jKa lIa bFb) 71 Ecb (.ty Y6) [])
noncomputable def Dmb (s0 : ByteArray) (l1 : List ByteArray) (fk : Fk) (bd : Bd) (sm : Sm) : Option (D2 × Unit) :=
    fk (decide (List.length l1 ≤ bBa)) (fk (decide (List.length l1 = List.length l1)) (some ((s0, l1, ()), ())) none) none
theorem Gsb (s0 l1) : Kxa (s0, l1, ()) = Dmb s0 l1 jKa lIa bFb := eqF (S := S33) fun _ _ _ => by kernel_rfl
noncomputable def S34 : OCs := addF S33 Tryz.prog 71 Ecb (.ty Y6) [] Kxa
theorem Oib : fEb Tryz.prog th S34 := Ohb.addF rfl
abbrev Vwa : fCa := ⟨[⟨Y6, 98, 2, true⟩, ⟨Y6, 98, 2, true⟩], [], [], [], [(.mref 0), (.mref 1), (.ty Y2), (.ty (.int .i64)), (.ty (.int .i64))]⟩
abbrev Wca : List sQa := [⟨(.exit 0), ⟨[⟨Y6, 98, 2, true⟩, ⟨Y6, 98, 2, true⟩], [], [], [], [(.mref 0), (.mref 1), (.ty Y2), (.ty (.int .i64)), (.ty (.int .i64))]⟩⟩]
noncomputable def Kja : (List D2) × (List D2) × (List D2) × Int × Int × Unit → Option ((List D2) × (List D2) × (List D2) × Int × Int × Unit) := jTa (pBa (nHa Tryz.prog th (S34 jKa lIa bFb) 70 3 Vwa Wca))
noncomputable def Oca (l0 : List D2) (l1 : List D2) (l2 : List D2) (i3 : Int) (i4 : Int) (fk : Fk) (bd : Bd) (sm : Sm) : Option (((List D2) × (List D2) × (List D2) × Int × Int × Unit) ⊕ ((List D2) × (List D2) × (List D2) × Int × Int × Unit)) :=
    fk (decide (i4 < i3)) (fk (decide ((0 : Int) ≤ i4)) (fk (decide (i4 < (↑(List.length l2) : Int))) (bd (Kxa ((List.getD l2 (Int.toNat i4) (ByteArray.empty, @List.nil ByteArray, ())).1, (List.getD l2 (Int.toNat i4) (ByteArray.empty, @List.nil ByteArray, ())).2.1, ())) fun y0 => fk (decide (List.length l1 = List.length l1)) (fk (decide (List.length (l1 ++ (y0.1.1, y0.1.2.1, ()) :: @List.nil D2) ≤ bBa)) (fk (decide (List.length l0 = List.length l0)) (fk (decide (List.length (l1 ++ (y0.1.1, y0.1.2.1, ()) :: @List.nil D2) = List.length (l1 ++ (y0.1.1, y0.1.2.1, ()) :: @List.nil D2))) (some (Sum.inl (l0, l1 ++ (y0.1.1, y0.1.2.1, ()) :: @List.nil D2, l2, i3, IntKind.wrap IntKind.i64 (i4 + (1 : Int)), ()))) none) none) none) none) none) none) (fk (decide (List.length l0 = List.length l0)) (fk (decide (List.length l1 = List.length l1)) (some (Sum.inr (l0, l1, l2, i3, i4, ()))) none) none)
theorem Sja (l0 l1 l2 i3 i4) : Kja (l0, l1, l2, i3, i4, ()) = (Oca l0 l1 l2 i3 i4 jKa lIa bFb).bind (Sum.elim Kja some) := eqL (S := S34) fun _ _ _ => by kernel_rfl
noncomputable def S35 : OCs := addL S34 Tryz.prog 70 3 Vwa Wca Kja
theorem Ojb : fEb Tryz.prog th S35 := Oib.addL (by kernel_rfl) (by kernel_rfl) (by kernel_rfl) rfl
abbrev Ebb : List Shp := [(.ty Y2)]
noncomputable def Ura : (List D2) × Unit → Option D36 := jTa (fnT Tryz.prog th (S35 jKa lIa bFb) 70 Ebb (.mref 0) [⟨Y6, 98, 2, true⟩])
noncomputable def Dlb (l0 : List D2) (fk : Fk) (bd : Bd) (sm : Sm) : Option D36 :=
    fk (decide (List.length (@List.nil D2) = (0 : Nat))) (fk (decide (List.length (@List.nil D2) = (0 : Nat))) (bd (Kja (@List.nil D2, @List.nil D2, l0, (↑(List.length l0) : Int), (0 : Int), ())) fun y0 => fk (decide (List.length y0.2.1 = List.length y0.2.1)) (fk (decide (List.length y0.2.1 = List.length y0.2.1)) (some (y0.2.1, ())) none) none) none) none
theorem Grb (l0) : Ura (l0, ()) = Dlb l0 jKa lIa bFb := eqF (S := S35) fun _ _ _ => by kernel_rfl
noncomputable def S36 : OCs := addF S35 Tryz.prog 70 Ebb (.mref 0) [⟨Y6, 98, 2, true⟩] Ura
theorem Okb : fEb Tryz.prog th S36 := Ojb.addF rfl
abbrev Eja : fCa := ⟨[⟨Y6, 98, 2, true⟩], [], [[(.ty .str)]], [], [(.mref 0), (.func 74 [] [(.bptr 0 0)]), (.st (.int .i64 0)), (.ty (.int .i64)), (.ty (.int .i64))]⟩
abbrev Ena : List sQa := [⟨.ret, ⟨[⟨Y6, 98, 2, true⟩], [], [[(.ty .str)]], [], [(.mref 0), (.func 74 [] [(.bptr 0 0)]), (.ty (.int .i64)), (.ty (.int .i64)), (.ty (.int .i64))]⟩⟩, ⟨(.exit 0), ⟨[⟨Y6, 98, 2, true⟩], [], [[(.ty .str)]], [], [(.mref 0), (.func 74 [] [(.bptr 0 0)]), (.st (.int .i64 0)), (.ty (.int .i64)), (.ty (.int .i64))]⟩⟩]
noncomputable def Ara : (List D2) × ByteArray × Int × Int × Unit → Option (((List D2) × ByteArray × Int × Int × Int × Unit) ⊕ ((List D2) × ByteArray × Int × Int × Unit)) := jTa (pBa (nHa Tryz.prog th (S36 jKa lIa bFb) 123 2 Eja Ena))
noncomputable def Bga (l0 : List D2) (s1 : ByteArray) (i2 : Int) (i3 : Int) (fk : Fk) (bd : Bd) (sm : Sm) : Option (((List D2) × ByteArray × Int × Int × Unit) ⊕ (((List D2) × ByteArray × Int × Int × Int × Unit) ⊕ ((List D2) × ByteArray × Int × Int × Unit))) :=
    let z0 := (decide (List.length l0 = List.length l0))
    fk (decide (i3 < i2)) (fk (decide ((0 : Int) ≤ i3)) (fk z0 (fk (decide (i3 < (↑(List.length l0) : Int))) (fk z0 (fk (decide (Int.toNat i3 < List.length l0)) (fk (!(Op.bytesLess (ByteArray.toList (List.getD l0 (Int.toNat i3) (Ty.dfl (Ty.pair Ty.str (Ty.pair (Ty.list Ty.str) Ty.unit)))).1) (ByteArray.toList s1) || ByteArray.toList (List.getD l0 (Int.toNat i3) (Ty.dfl (Ty.pair Ty.str (Ty.pair (Ty.list Ty.str) Ty.unit)))).1 == ByteArray.toList s1)) (fk z0 (some (Sum.inr (Sum.inl (l0, s1, i3, i2, i3, ())))) none) (fk z0 (some (Sum.inl (l0, s1, i2, IntKind.wrap IntKind.i64 (i3 + (1 : Int)), ()))) none)) none) none) none) none) none) (fk z0 (some (Sum.inr (Sum.inr (l0, s1, i2, i3, ())))) none)
theorem Dha (l0 s1 i2 i3) : Ara (l0, s1, i2, i3, ()) = (Bga l0 s1 i2 i3 jKa lIa bFb).bind (Sum.elim Ara some) := eqL (S := S36) fun _ _ _ => by kernel_rfl
noncomputable def S37 : OCs := addL S36 Tryz.prog 123 2 Eja Ena Ara
theorem Olb : fEb Tryz.prog th S37 := Okb.addL (by kernel_rfl) (by kernel_rfl) (by kernel_rfl) rfl
abbrev Eab : List Shp := [(.ty Y2), (.ty .str), (.ty (.list .str))]
noncomputable def Moa : (List D2) × ByteArray × List ByteArray × Unit → Option D36 := jTa (fnT Tryz.prog th (S37 jKa lIa bFb) 28 Eab (.ty Y2) [])
noncomputable def Tea (l0 : List D2) (s1 : ByteArray) (l2 : List ByteArray) (fk : Fk) (bd : Bd) (sm : Sm) : Option D36 :=
    let z0 := (Ty.pair Ty.str (Ty.pair (Ty.list Ty.str) Ty.unit))
    bd (Ura (l0, ())) fun y0 => fk (decide (List.length y0.1 = List.length y0.1)) (bd (Jma (y0.1, s1, ())) fun y1 => fk (decide (List.length y0.1 = List.length y0.1)) (fk (decide (y1.1 < (↑(List.length y0.1) : Int))) (bd (Kxa (s1, l2, ())) fun y2 => fk (decide ((0 : Int) ≤ y1.1)) (fk (decide (List.length y0.1 = List.length y0.1)) (fk (decide (y1.1 < (↑(List.length y0.1) : Int))) (fk (decide (List.length y0.1 = List.length y0.1)) (fk (decide (Int.toNat y1.1 < List.length y0.1)) (fk (decide (List.length (List.set y0.1 (Int.toNat y1.1) (y2.1.1, y2.1.2.1, ())) = List.length y0.1)) (some (List.set y0.1 (Int.toNat y1.1) (y2.1.1, y2.1.2.1, ()), ())) none) none) none) none) none) none) (fk (decide (List.length y0.1 = List.length y0.1)) (fk (decide (List.length y0.1 = List.length y0.1)) (bd (Ara (y0.1, s1, (↑(List.length y0.1) : Int), (0 : Int), ())) fun y3 => sm y3 (fun y4 => fk (decide (y4.2.2.1 ≥ (0 : Int))) (fk (eqT (Ty.list z0) y0.1 y4.1) (fk (eqT Ty.str s1 y4.2.1) (bd (Kxa (y4.2.1, l2, ())) fun y5 => fk (decide (List.length y4.1 = List.length y0.1)) (fk (decide ((0 : Int) ≤ y4.2.2.1)) (fk (decide (y4.2.2.1 ≤ (↑(List.length y0.1) : Int))) (fk (decide (List.length y0.1 + (1 : Nat) ≤ bBa)) (fk (decide (List.length (oPb y4.1 y4.2.2.1 ((y5.1.1, y5.1.2.1, ()) :: @List.nil (Ty.den z0))) = List.length (oPb y4.1 y4.2.2.1 ((y5.1.1, y5.1.2.1, ()) :: @List.nil (Ty.den z0))))) (some (oPb y4.1 y4.2.2.1 ((y5.1.1, y5.1.2.1, ()) :: @List.nil (Ty.den z0)), ())) none) none) none) none) none) none) none) (fk (decide (List.length y4.1 = List.length y0.1)) (fk (eqT (Ty.list z0) y0.1 y4.1) (fk (eqT Ty.str s1 y4.2.1) (bd (Kxa (y4.2.1, l2, ())) fun y6 => fk (decide (List.length y4.1 = List.length y0.1)) (fk (decide ((0 : Int) ≤ (↑(List.length y4.1) : Int))) (fk (decide ((↑(List.length y4.1) : Int) ≤ (↑(List.length y0.1) : Int))) (fk (decide (List.length y0.1 + (1 : Nat) ≤ bBa)) (fk (decide (List.length (oPb y4.1 (↑(List.length y4.1) : Int) ((y6.1.1, y6.1.2.1, ()) :: @List.nil (Ty.den z0))) = List.length (oPb y4.1 (↑(List.length y4.1) : Int) ((y6.1.1, y6.1.2.1, ()) :: @List.nil (Ty.den z0))))) (some (oPb y4.1 (↑(List.length y4.1) : Int) ((y6.1.1, y6.1.2.1, ()) :: @List.nil (Ty.den z0)), ())) none) none) none) none) none) none) none) none)) fun y7 => fk (decide (List.length y7.1 = List.length y0.1)) (fk (eqT (Ty.list z0) y0.1 y7.1) (fk (eqT Ty.str s1 y7.2.1) (bd (Kxa (y7.2.1, l2, ())) fun y8 => fk (decide (List.length y7.1 = List.length y0.1)) (fk (decide ((0 : Int) ≤ (↑(List.length y7.1) : Int))) (fk (decide ((↑(List.length y7.1) : Int) ≤ (↑(List.length y0.1) : Int))) (fk (decide (List.length y0.1 + (1 : Nat) ≤ bBa)) (fk (decide (List.length (oPb y7.1 (↑(List.length y7.1) : Int) ((y8.1.1, y8.1.2.1, ()) :: @List.nil (Ty.den z0))) = List.length (oPb y7.1 (↑(List.length y7.1) : Int) ((y8.1.1, y8.1.2.1, ()) :: @List.nil (Ty.den z0))))) (some (oPb y7.1 (↑(List.length y7.1) : Int) ((y8.1.1, y8.1.2.1, ()) :: @List.nil (Ty.den z0)), ())) none) none) none) none) none) none) none) none) none) none)) none) none
theorem Gqb (l0 s1 l2) : Moa (l0, s1, l2, ()) = Tea l0 s1 l2 jKa lIa bFb := eqF (S := S37) fun _ _ _ => by kernel_rfl
noncomputable def S38 : OCs := addF S37 Tryz.prog 28 Eab (.ty Y2) [] Moa
theorem Omb : fEb Tryz.prog th S38 := Olb.addF rfl
abbrev Mva : List Shp := [(.ty Y1), (.ty Y2)]
noncomputable def Gxa : D0 × (List D2) × Unit → Option D9 := jTa (fnT Tryz.prog th (S38 jKa lIa bFb) 158 Mva (.tuple [(.ty Y2), (.ty (.int .i64))]) [])
noncomputable def Msa (x0 : Int × ByteArray × ByteArray × D4 × Unit) (l1 : List D2) (fk : Fk) (bd : Bd) (sm : Sm) : Option D9 :=
    bd (Hja (l1, x0.2.1, ())) fun y0 => fk y0.2.1 (some (@List.nil D2, (5 : Int), ())) (bd (Moa (l1, x0.2.1, @List.nil ByteArray, ())) fun y1 => some (y1.1, (0 : Int), ()))
theorem Uia (x0 l1) : Gxa (x0, l1, ()) = Msa x0 l1 jKa lIa bFb := eqF (S := S38) fun _ _ _ => by kernel_rfl
noncomputable def S39 : OCs := addF S38 Tryz.prog 158 Mva (.tuple [(.ty Y2), (.ty (.int .i64))]) [] Gxa
theorem Onb : fEb Tryz.prog th S39 := Omb.addF rfl
abbrev Dxb : List Shp := [(.ty Y2), (.ty .str)]
noncomputable def Qua : (List D2) × ByteArray × Unit → Option D36 := jTa (fnT Tryz.prog th (S39 jKa lIa bFb) 113 Dxb (.ty Y2) [])
noncomputable def Xda (l0 : List D2) (s1 : ByteArray) (fk : Fk) (bd : Bd) (sm : Sm) : Option D36 :=
    let z0 := ((0 : Nat) + (0 : Nat))
    bd (Ura (l0, ())) fun y0 => fk (decide (List.length y0.1 = List.length y0.1)) (bd (Jma (y0.1, s1, ())) fun y1 => fk (decide (List.length y0.1 = List.length y0.1)) (fk (decide (y1.1 < (↑(List.length y0.1) : Int))) (fk (decide (List.length y0.1 = List.length y0.1)) (fk (decide (List.length y0.1 = List.length y0.1)) (fk (decide ((0 : Int) ≤ (↑(List.length y0.1) : Int))) (fk (decide ((↑(List.length y0.1) : Int) ≤ (↑(List.length y0.1 - (0 : Nat)) : Int))) (fk (decide ((0 : Int) ≤ IntKind.wrap IntKind.i64 (y1.1 + (1 : Int)))) (fk (decide (IntKind.wrap IntKind.i64 (y1.1 + (1 : Int)) ≤ (↑(Int.toNat (↑(List.length y0.1) : Int)) : Int))) (fk (decide ((0 : Int) ≤ y1.1)) (fk (decide (y1.1 ≤ (↑(Int.toNat (IntKind.wrap IntKind.i64 (y1.1 + (1 : Int)))) : Int))) (fk (y1.1 == IntKind.wrap IntKind.i64 (y1.1 + (1 : Int))) (fk (decide (List.length y0.1 = List.length y0.1)) (some (y0.1, ())) none) (fk (decide (List.length y0.1 = List.length y0.1)) (fk (decide (List.length y0.1 = List.length y0.1)) (fk (decide ((0 : Int) ≤ y1.1)) (fk (decide (y1.1 ≤ (↑(List.length y0.1 - (0 : Nat)) : Int))) (fk (decide (List.length y0.1 = List.length y0.1)) (fk (decide ((0 : Int) ≤ IntKind.wrap IntKind.i64 (y1.1 + (1 : Int)))) (fk (decide (IntKind.wrap IntKind.i64 (y1.1 + (1 : Int)) ≤ (↑(List.length y0.1 - (0 : Nat)) : Int))) (fk (decide (List.length y0.1 = List.length y0.1)) (fk (decide ((0 : Nat) + Int.toNat (IntKind.wrap IntKind.i64 (y1.1 + (1 : Int))) ≤ (0 : Nat) + (List.length y0.1 - (0 : Nat)))) (fk (decide ((0 : Nat) + (List.length y0.1 - (0 : Nat)) ≤ List.length y0.1)) (fk (decide (List.length y0.1 = List.length y0.1)) (fk (decide ((0 : Nat) + (0 : Nat) ≤ (0 : Nat) + Int.toNat y1.1)) (fk (decide ((0 : Nat) + Int.toNat y1.1 + List.length (List.take ((0 : Nat) + (List.length y0.1 - (0 : Nat)) - ((0 : Nat) + Int.toNat (IntKind.wrap IntKind.i64 (y1.1 + (1 : Int))))) (List.drop ((0 : Nat) + Int.toNat (IntKind.wrap IntKind.i64 (y1.1 + (1 : Int)))) y0.1)) ≤ List.length y0.1)) (fk (decide (List.length (hYb y0.1 ((0 : Nat) + Int.toNat y1.1) (List.take ((0 : Nat) + (List.length y0.1 - (0 : Nat)) - ((0 : Nat) + Int.toNat (IntKind.wrap IntKind.i64 (y1.1 + (1 : Int))))) (List.drop ((0 : Nat) + Int.toNat (IntKind.wrap IntKind.i64 (y1.1 + (1 : Int)))) y0.1))) = List.length y0.1)) (fk (decide ((0 : Nat) + (0 : Nat) ≤ (0 : Nat) + Int.toNat y1.1 + List.length (List.take ((0 : Nat) + (List.length y0.1 - (0 : Nat)) - ((0 : Nat) + Int.toNat (IntKind.wrap IntKind.i64 (y1.1 + (1 : Int))))) (List.drop ((0 : Nat) + Int.toNat (IntKind.wrap IntKind.i64 (y1.1 + (1 : Int)))) y0.1)))) (fk (decide ((0 : Nat) + Int.toNat y1.1 + List.length (List.take ((0 : Nat) + (List.length y0.1 - (0 : Nat)) - ((0 : Nat) + Int.toNat (IntKind.wrap IntKind.i64 (y1.1 + (1 : Int))))) (List.drop ((0 : Nat) + Int.toNat (IntKind.wrap IntKind.i64 (y1.1 + (1 : Int)))) y0.1)) ≤ List.length y0.1)) (fk (decide (List.length (hYb y0.1 ((0 : Nat) + Int.toNat y1.1) (List.take ((0 : Nat) + (List.length y0.1 - (0 : Nat)) - ((0 : Nat) + Int.toNat (IntKind.wrap IntKind.i64 (y1.1 + (1 : Int))))) (List.drop ((0 : Nat) + Int.toNat (IntKind.wrap IntKind.i64 (y1.1 + (1 : Int)))) y0.1))) = List.length y0.1)) (fk (decide ((0 : Nat) + (0 : Nat) ≤ (0 : Nat) + Int.toNat y1.1 + List.length (List.take ((0 : Nat) + (List.length y0.1 - (0 : Nat)) - ((0 : Nat) + Int.toNat (IntKind.wrap IntKind.i64 (y1.1 + (1 : Int))))) (List.drop ((0 : Nat) + Int.toNat (IntKind.wrap IntKind.i64 (y1.1 + (1 : Int)))) y0.1)))) (fk (decide ((0 : Nat) + Int.toNat y1.1 + List.length (List.take ((0 : Nat) + (List.length y0.1 - (0 : Nat)) - ((0 : Nat) + Int.toNat (IntKind.wrap IntKind.i64 (y1.1 + (1 : Int))))) (List.drop ((0 : Nat) + Int.toNat (IntKind.wrap IntKind.i64 (y1.1 + (1 : Int)))) y0.1)) ≤ List.length y0.1)) (fk (decide ((0 : Int) ≤ (↑(List.length y0.1) : Int))) (fk (decide ((↑(List.length y0.1) : Int) ≤ (↑(List.length (hYb y0.1 ((0 : Nat) + Int.toNat y1.1) (List.take ((0 : Nat) + (List.length y0.1 - (0 : Nat)) - ((0 : Nat) + Int.toNat (IntKind.wrap IntKind.i64 (y1.1 + (1 : Int))))) (List.drop ((0 : Nat) + Int.toNat (IntKind.wrap IntKind.i64 (y1.1 + (1 : Int)))) y0.1))) - z0) : Int))) (fk (decide ((0 : Int) ≤ (↑((0 : Nat) + Int.toNat y1.1 + List.length (List.take ((0 : Nat) + (List.length y0.1 - (0 : Nat)) - ((0 : Nat) + Int.toNat (IntKind.wrap IntKind.i64 (y1.1 + (1 : Int))))) (List.drop ((0 : Nat) + Int.toNat (IntKind.wrap IntKind.i64 (y1.1 + (1 : Int)))) y0.1)) - z0) : Int))) (fk (decide ((↑((0 : Nat) + Int.toNat y1.1 + List.length (List.take ((0 : Nat) + (List.length y0.1 - (0 : Nat)) - ((0 : Nat) + Int.toNat (IntKind.wrap IntKind.i64 (y1.1 + (1 : Int))))) (List.drop ((0 : Nat) + Int.toNat (IntKind.wrap IntKind.i64 (y1.1 + (1 : Int)))) y0.1)) - z0) : Int) ≤ (↑(Int.toNat (↑(List.length y0.1) : Int)) : Int))) (fk (decide (List.length (hYb y0.1 ((0 : Nat) + Int.toNat y1.1) (List.take ((0 : Nat) + (List.length y0.1 - (0 : Nat)) - ((0 : Nat) + Int.toNat (IntKind.wrap IntKind.i64 (y1.1 + (1 : Int))))) (List.drop ((0 : Nat) + Int.toNat (IntKind.wrap IntKind.i64 (y1.1 + (1 : Int)))) y0.1))) = List.length (hYb y0.1 ((0 : Nat) + Int.toNat y1.1) (List.take ((0 : Nat) + (List.length y0.1 - (0 : Nat)) - ((0 : Nat) + Int.toNat (IntKind.wrap IntKind.i64 (y1.1 + (1 : Int))))) (List.drop ((0 : Nat) + Int.toNat (IntKind.wrap IntKind.i64 (y1.1 + (1 : Int)))) y0.1))))) (fk (decide ((0 : Nat) + (0 : Nat) + Int.toNat (↑((0 : Nat) + Int.toNat y1.1 + List.length (List.take ((0 : Nat) + (List.length y0.1 - (0 : Nat)) - ((0 : Nat) + Int.toNat (IntKind.wrap IntKind.i64 (y1.1 + (1 : Int))))) (List.drop ((0 : Nat) + Int.toNat (IntKind.wrap IntKind.i64 (y1.1 + (1 : Int)))) y0.1)) - z0) : Int) ≤ (0 : Nat) + (0 : Nat) + Int.toNat (↑(List.length y0.1) : Int))) (fk (decide ((0 : Nat) + (0 : Nat) + Int.toNat (↑(List.length y0.1) : Int) ≤ List.length (hYb y0.1 ((0 : Nat) + Int.toNat y1.1) (List.take ((0 : Nat) + (List.length y0.1 - (0 : Nat)) - ((0 : Nat) + Int.toNat (IntKind.wrap IntKind.i64 (y1.1 + (1 : Int))))) (List.drop ((0 : Nat) + Int.toNat (IntKind.wrap IntKind.i64 (y1.1 + (1 : Int)))) y0.1))))) (fk (decide (List.length (hYb (hYb y0.1 ((0 : Nat) + Int.toNat y1.1) (List.take ((0 : Nat) + (List.length y0.1 - (0 : Nat)) - ((0 : Nat) + Int.toNat (IntKind.wrap IntKind.i64 (y1.1 + (1 : Int))))) (List.drop ((0 : Nat) + Int.toNat (IntKind.wrap IntKind.i64 (y1.1 + (1 : Int)))) y0.1))) ((0 : Nat) + (0 : Nat) + Int.toNat (↑((0 : Nat) + Int.toNat y1.1 + List.length (List.take ((0 : Nat) + (List.length y0.1 - (0 : Nat)) - ((0 : Nat) + Int.toNat (IntKind.wrap IntKind.i64 (y1.1 + (1 : Int))))) (List.drop ((0 : Nat) + Int.toNat (IntKind.wrap IntKind.i64 (y1.1 + (1 : Int)))) y0.1)) - z0) : Int)) (List.replicate ((0 : Nat) + (0 : Nat) + Int.toNat (↑(List.length y0.1) : Int) - ((0 : Nat) + (0 : Nat) + Int.toNat (↑((0 : Nat) + Int.toNat y1.1 + List.length (List.take ((0 : Nat) + (List.length y0.1 - (0 : Nat)) - ((0 : Nat) + Int.toNat (IntKind.wrap IntKind.i64 (y1.1 + (1 : Int))))) (List.drop ((0 : Nat) + Int.toNat (IntKind.wrap IntKind.i64 (y1.1 + (1 : Int)))) y0.1)) - z0) : Int))) (ByteArray.empty, @List.nil ByteArray, ()))) = List.length y0.1)) (fk (decide ((0 : Nat) + (0 : Nat) ≤ (0 : Nat) + Int.toNat y1.1 + List.length (List.take ((0 : Nat) + (List.length y0.1 - (0 : Nat)) - ((0 : Nat) + Int.toNat (IntKind.wrap IntKind.i64 (y1.1 + (1 : Int))))) (List.drop ((0 : Nat) + Int.toNat (IntKind.wrap IntKind.i64 (y1.1 + (1 : Int)))) y0.1)))) (fk (decide ((0 : Nat) + Int.toNat y1.1 + List.length (List.take ((0 : Nat) + (List.length y0.1 - (0 : Nat)) - ((0 : Nat) + Int.toNat (IntKind.wrap IntKind.i64 (y1.1 + (1 : Int))))) (List.drop ((0 : Nat) + Int.toNat (IntKind.wrap IntKind.i64 (y1.1 + (1 : Int)))) y0.1)) ≤ List.length y0.1)) (some (List.take ((0 : Nat) + Int.toNat y1.1 + List.length (List.take ((0 : Nat) + (List.length y0.1 - (0 : Nat)) - ((0 : Nat) + Int.toNat (IntKind.wrap IntKind.i64 (y1.1 + (1 : Int))))) (List.drop ((0 : Nat) + Int.toNat (IntKind.wrap IntKind.i64 (y1.1 + (1 : Int)))) y0.1)) - z0) (List.drop z0 (hYb (hYb y0.1 ((0 : Nat) + Int.toNat y1.1) (List.take ((0 : Nat) + (List.length y0.1 - (0 : Nat)) - ((0 : Nat) + Int.toNat (IntKind.wrap IntKind.i64 (y1.1 + (1 : Int))))) (List.drop ((0 : Nat) + Int.toNat (IntKind.wrap IntKind.i64 (y1.1 + (1 : Int)))) y0.1))) ((0 : Nat) + (0 : Nat) + Int.toNat (↑((0 : Nat) + Int.toNat y1.1 + List.length (List.take ((0 : Nat) + (List.length y0.1 - (0 : Nat)) - ((0 : Nat) + Int.toNat (IntKind.wrap IntKind.i64 (y1.1 + (1 : Int))))) (List.drop ((0 : Nat) + Int.toNat (IntKind.wrap IntKind.i64 (y1.1 + (1 : Int)))) y0.1)) - z0) : Int)) (List.replicate ((0 : Nat) + (0 : Nat) + Int.toNat (↑(List.length y0.1) : Int) - ((0 : Nat) + (0 : Nat) + Int.toNat (↑((0 : Nat) + Int.toNat y1.1 + List.length (List.take ((0 : Nat) + (List.length y0.1 - (0 : Nat)) - ((0 : Nat) + Int.toNat (IntKind.wrap IntKind.i64 (y1.1 + (1 : Int))))) (List.drop ((0 : Nat) + Int.toNat (IntKind.wrap IntKind.i64 (y1.1 + (1 : Int)))) y0.1)) - z0) : Int))) (ByteArray.empty, @List.nil ByteArray, ())))), ())) none) none) none) none) none) none) none) none) none) none) none) none) none) none) none) none) none) none) none) none) none) none) none) none) none) none) none) none) none)) none) none) none) none) none) none) none) none) (fk (decide (List.length y0.1 = List.length y0.1)) (some (y0.1, ())) none)) none) none
theorem Gnb (l0 s1) : Qua (l0, s1, ()) = Xda l0 s1 jKa lIa bFb := eqF (S := S39) fun _ _ _ => by kernel_rfl
noncomputable def S40 : OCs := addF S39 Tryz.prog 113 Dxb (.ty Y2) [] Qua
theorem Oob : fEb Tryz.prog th S40 := Onb.addF rfl
abbrev Oja : List Shp := [(.ty Y1), (.ty Y2)]
noncomputable def Iga : D0 × (List D2) × Unit → Option D9 := jTa (fnT Tryz.prog th (S40 jKa lIa bFb) 159 Oja (.tuple [(.ty Y2), (.ty (.int .i64))]) [])
noncomputable def Oba (x0 : Int × ByteArray × ByteArray × D4 × Unit) (l1 : List D2) (fk : Fk) (bd : Bd) (sm : Sm) : Option D9 :=
    bd (Hja (l1, x0.2.1, ())) fun y0 => fk (!y0.2.1) (some (@List.nil D2, (5 : Int), ())) (fk (decide ((↑(List.length y0.1) : Int) > (0 : Int))) (some (@List.nil D2, (5 : Int), ())) (bd (Qua (l1, x0.2.1, ())) fun y1 => some (y1.1, (0 : Int), ())))
theorem Uza (x0 l1) : Iga (x0, l1, ()) = Oba x0 l1 jKa lIa bFb := eqF (S := S40) fun _ _ _ => by kernel_rfl
noncomputable def S41 : OCs := addF S40 Tryz.prog 159 Oja (.tuple [(.ty Y2), (.ty (.int .i64))]) [] Iga
theorem Opb : fEb Tryz.prog th S41 := Oob.addF rfl
abbrev Lga : List Shp := [(.ty Y1), (.ty Y2)]
noncomputable def Foa : D0 × (List D2) × Unit → Option D9 := jTa (fnT Tryz.prog th (S41 jKa lIa bFb) 161 Lga (.tuple [(.ty Y2), (.ty (.int .i64))]) [])
noncomputable def Lda (x0 : Int × ByteArray × ByteArray × D4 × Unit) (l1 : List D2) (fk : Fk) (bd : Bd) (sm : Sm) : Option D9 :=
    bd (Hja (l1, x0.2.1, ())) fun y0 => bd (Hja (l1, x0.2.2.1, ())) fun y1 => fk (!y0.2.1) (some (@List.nil D2, (5 : Int), ())) (fk y1.2.1 (some (@List.nil D2, (5 : Int), ())) (bd (Qua (l1, x0.2.1, ())) fun y2 => bd (Moa (y2.1, x0.2.2.1, y0.1, ())) fun y3 => some (y3.1, (0 : Int), ())))
theorem Sta (x0 l1) : Foa (x0, l1, ()) = Lda x0 l1 jKa lIa bFb := eqF (S := S41) fun _ _ _ => by kernel_rfl
noncomputable def S42 : OCs := addF S41 Tryz.prog 161 Lga (.tuple [(.ty Y2), (.ty (.int .i64))]) [] Foa
theorem Oqb : fEb Tryz.prog th S42 := Opb.addF rfl
abbrev Fya : fCa := ⟨[], [], [], [], [(.ty (.list .str)), (.ty (.list .str)), (.st (.bool false)), (.ty (.int .i64)), (.ty (.int .i64))]⟩
abbrev Gda : List sQa := [⟨.ret, ⟨[], [], [], [], [(.ty (.list .str)), (.ty (.list .str)), (.st (.bool false)), (.ty (.int .i64)), (.ty (.int .i64))]⟩⟩, ⟨(.exit 0), ⟨[], [], [], [], [(.ty (.list .str)), (.ty (.list .str)), (.st (.bool false)), (.ty (.int .i64)), (.ty (.int .i64))]⟩⟩]
noncomputable def Bda : List ByteArray × List ByteArray × Int × Int × Unit → Option (D14 ⊕ D14) := jTa (pBa (nHa Tryz.prog th (S42 jKa lIa bFb) 248 4 Fya Gda))
noncomputable def Bpa (l0 : List ByteArray) (l1 : List ByteArray) (i2 : Int) (i3 : Int) (fk : Fk) (bd : Bd) (sm : Sm) : Option (D14 ⊕ (D14 ⊕ D14)) :=
    fk (decide (i3 < i2)) (fk (decide ((0 : Int) ≤ i3)) (fk (decide (i3 < (↑(List.length l0) : Int))) (fk (decide ((0 : Int) ≤ i3)) (fk (decide (i3 < (↑(List.length l1) : Int))) (fk (!ByteArray.toList (List.getD l0 (Int.toNat i3) ByteArray.empty) == ByteArray.toList (List.getD l1 (Int.toNat i3) ByteArray.empty)) (some (Sum.inr (Sum.inl (l0, l1, i2, i3, ())))) (some (Sum.inl (l0, l1, i2, IntKind.wrap IntKind.i64 (i3 + (1 : Int)), ())))) none) none) none) none) (some (Sum.inr (Sum.inr (l0, l1, i2, i3, ()))))
theorem Era (l0 l1 i2 i3) : Bda (l0, l1, i2, i3, ()) = (Bpa l0 l1 i2 i3 jKa lIa bFb).bind (Sum.elim Bda some) := eqL (S := S42) fun _ _ _ => by kernel_rfl
noncomputable def S43 : OCs := addL S42 Tryz.prog 248 4 Fya Gda Bda
theorem Orb : fEb Tryz.prog th S43 := Oqb.addL (by kernel_rfl) (by kernel_rfl) (by kernel_rfl) rfl
abbrev Ima : List Shp := [(.ty (.list .str)), (.ty (.list .str))]
noncomputable def Cla : List ByteArray × List ByteArray × Unit → Option (Bool × Unit) := jTa (fnT Tryz.prog th (S43 jKa lIa bFb) 248 Ima (.ty .bool) [])
noncomputable def Caa (l0 : List ByteArray) (l1 : List ByteArray) (fk : Fk) (bd : Bd) (sm : Sm) : Option (Bool × Unit) :=
    fk ((↑(List.length l0) : Int) != (↑(List.length l1) : Int)) (some (false, ())) (bd (Bda (l0, l1, (↑(List.length l0) : Int), (0 : Int), ())) fun y0 => sm y0 (fun y1 => some (false, ())) fun y2 => some (true, ()))
theorem Mma (l0 l1) : Cla (l0, l1, ()) = Caa l0 l1 jKa lIa bFb := eqF (S := S43) fun _ _ _ => by kernel_rfl
noncomputable def S44 : OCs := addF S43 Tryz.prog 248 Ima (.ty .bool) [] Cla
theorem Osb : fEb Tryz.prog th S44 := Orb.addF rfl
abbrev Voa : List Shp := [(.ty (.list .str)), (.ty (.int .i64)), (.ty (.list .str))]
noncomputable def Mka : List ByteArray × Int × List ByteArray × Unit → Option (Bool × Unit) := jTa (fnT Tryz.prog th (S44 jKa lIa bFb) 243 Voa (.ty .bool) [])
noncomputable def Ija (l0 : List ByteArray) (i1 : Int) (l2 : List ByteArray) (fk : Fk) (bd : Bd) (sm : Sm) : Option (Bool × Unit) :=
    fk (decide (i1 ≥ (0 : Int))) (fk (decide (i1 ≤ (↑(List.length l0) : Int))) (fk (decide ((↑(List.length l2) : Int) ≤ IntKind.wrap IntKind.i64 ((↑(List.length l0) : Int) - i1))) (fk (decide ((0 : Int) ≤ IntKind.wrap IntKind.i64 (i1 + (↑(List.length l2) : Int)))) (fk (decide (IntKind.wrap IntKind.i64 (i1 + (↑(List.length l2) : Int)) ≤ (↑(List.length l0) : Int))) (fk (decide ((0 : Int) ≤ i1)) (fk (decide (i1 ≤ (↑(Int.toNat (IntKind.wrap IntKind.i64 (i1 + (↑(List.length l2) : Int)))) : Int))) (bd (Cla (List.take (Int.toNat (IntKind.wrap IntKind.i64 (i1 + (↑(List.length l2) : Int))) - Int.toNat i1) (List.drop (Int.toNat i1) l0), l2, ())) fun y0 => some (y0.1, ())) none) none) none) none) (some (false, ()))) (some (false, ()))) (some (false, ()))
theorem Zza (l0 i1 l2) : Mka (l0, i1, l2, ()) = Ija l0 i1 l2 jKa lIa bFb := eqF (S := S44) fun _ _ _ => by kernel_rfl
noncomputable def S45 : OCs := addF S44 Tryz.prog 243 Voa (.ty .bool) [] Mka
theorem Otb : fEb Tryz.prog th S45 := Osb.addF rfl
abbrev Itb : List Shp := [(.ty (.list .str)), (.ty (.int .i64)), (.ty (.list .str))]
noncomputable def Hnb : List ByteArray × Int × List ByteArray × Unit → Option (Bool × Unit) := jTa (fnT Tryz.prog th (S45 jKa lIa bFb) 236 Itb (.ty .bool) [])
noncomputable def Irb (l0 : List ByteArray) (i1 : Int) (l2 : List ByteArray) (fk : Fk) (bd : Bd) (sm : Sm) : Option (Bool × Unit) :=
    bd (Mka (l0, i1, l2, ())) fun y0 => some (y0.1, ())
theorem Kbb (l0 i1 l2) : Hnb (l0, i1, l2, ()) = Irb l0 i1 l2 jKa lIa bFb := eqF (S := S45) fun _ _ _ => by kernel_rfl
noncomputable def S46 : OCs := addF S45 Tryz.prog 236 Itb (.ty .bool) [] Hnb
theorem Oub : fEb Tryz.prog th S46 := Otb.addF rfl
abbrev Fxa : fCa := ⟨[], [], [], [], [(.ty (.list (.list .str))), .nils, (.ty (.int .i64)), (.ty (.list (.list .str))), (.ty (.int .i64)), (.ty (.int .i64))]⟩
abbrev Gca : List sQa := [⟨(.exit 0), ⟨[], [], [], [], [(.ty (.list (.list .str))), .nils, (.ty (.int .i64)), (.ty (.list (.list .str))), (.ty (.int .i64)), (.ty (.int .i64))]⟩⟩]
noncomputable def Bca : List (List ByteArray) × Int × List (List ByteArray) × Int × Int × Unit → Option (List (List ByteArray) × Int × List (List ByteArray) × Int × Int × Unit) := jTa (pBa (nHa Tryz.prog th (S46 jKa lIa bFb) 237 3 Fxa Gca))
noncomputable def Coa (l0 : List (List ByteArray)) (i1 : Int) (l2 : List (List ByteArray)) (i3 : Int) (i4 : Int) (fk : Fk) (bd : Bd) (sm : Sm) : Option ((List (List ByteArray) × Int × List (List ByteArray) × Int × Int × Unit) ⊕ (List (List ByteArray) × Int × List (List ByteArray) × Int × Int × Unit)) :=
    fk (decide (i4 < i3)) (fk (decide ((0 : Int) ≤ i4)) (fk (decide (i4 < (↑(List.length l2) : Int))) (fk (decide (IntKind.wrap IntKind.i64 (i1 + (↑(List.length (List.getD l2 (Int.toNat i4) (@List.nil ByteArray))) : Int)) < (0 : Int))) none (some (Sum.inl (l0, IntKind.wrap IntKind.i64 (i1 + (↑(List.length (List.getD l2 (Int.toNat i4) (@List.nil ByteArray))) : Int)), l2, i3, IntKind.wrap IntKind.i64 (i4 + (1 : Int)), ())))) none) none) (some (Sum.inr (l0, i1, l2, i3, i4, ())))
theorem Eqa (l0 i1 l2 i3 i4) : Bca (l0, i1, l2, i3, i4, ()) = (Coa l0 i1 l2 i3 i4 jKa lIa bFb).bind (Sum.elim Bca some) := eqL (S := S46) fun _ _ _ => by kernel_rfl
noncomputable def S47 : OCs := addL S46 Tryz.prog 237 3 Fxa Gca Bca
theorem Ovb : fEb Tryz.prog th S47 := Oub.addL (by kernel_rfl) (by kernel_rfl) (by kernel_rfl) rfl
abbrev Ewa : fCa := ⟨[⟨.str, 9, 1, true⟩, ⟨.str, 9, 1, true⟩], [], [], [], [.nils, (.mview 1 1), (.ty (.list (.list .str))), (.ty (.int .i64)), (.ty (.int .i64))]⟩
abbrev Ffa : List sQa := [⟨(.exit 2), ⟨[⟨.str, 9, 1, true⟩, ⟨.str, 9, 1, true⟩], [], [], [], [.nils, (.mview 1 1), (.ty (.list (.list .str))), (.ty (.int .i64)), (.ty (.int .i64))]⟩⟩]
noncomputable def Ata : List ByteArray × List ByteArray × Nat × Nat × List (List ByteArray) × Int × Int × Unit → Option (List ByteArray × List ByteArray × Nat × Nat × List (List ByteArray) × Int × Int × Unit) := jTa (pBa (nHa Tryz.prog th (S47 jKa lIa bFb) 237 11 Ewa Ffa))
noncomputable def Cga (l0 : List ByteArray) (l1 : List ByteArray) (n2 : Nat) (n3 : Nat) (l4 : List (List ByteArray)) (i5 : Int) (i6 : Int) (fk : Fk) (bd : Bd) (sm : Sm) : Option ((List ByteArray × List ByteArray × Nat × Nat × List (List ByteArray) × Int × Int × Unit) ⊕ (List ByteArray × List ByteArray × Nat × Nat × List (List ByteArray) × Int × Int × Unit)) :=
    let z0 := (List.getD l4 (Int.toNat i6) (@List.nil ByteArray))
    fk (decide (i6 < i5)) (fk (decide ((0 : Int) ≤ i6)) (fk (decide (i6 < (↑(List.length l4) : Int))) (fk (decide (List.length l1 = List.length l1)) (fk (decide (n2 ≤ n3)) (fk (decide (n3 + List.length z0 ≤ List.length l1)) (fk (decide (List.length (hYb l1 n3 z0) = List.length l1)) (some (Sum.inl (l0, hYb l1 n3 z0, n2, n3 + List.length z0, l4, i5, IntKind.wrap IntKind.i64 (i6 + (1 : Int)), ()))) none) none) none) none) none) none) (fk (decide (List.length l1 = List.length l1)) (some (Sum.inr (l0, l1, n2, n3, l4, i5, i6, ()))) none)
theorem Dta (l0 l1 n2 n3 l4 i5 i6) : Ata (l0, l1, n2, n3, l4, i5, i6, ()) = (Cga l0 l1 n2 n3 l4 i5 i6 jKa lIa bFb).bind (Sum.elim Ata some) := eqL (S := S47) fun _ _ _ => by kernel_rfl
noncomputable def S48 : OCs := addL S47 Tryz.prog 237 11 Ewa Ffa Ata
theorem Owb : fEb Tryz.prog th S48 := Ovb.addL (by kernel_rfl) (by kernel_rfl) (by kernel_rfl) rfl
abbrev Eia : fCa := ⟨[⟨.str, 9, 1, true⟩, ⟨.str, 9, 1, true⟩], [], [], [], [.nils, (.mref 1), (.ty (.list (.list .str))), (.ty (.int .i64)), (.ty (.int .i64))]⟩
abbrev Ema : List sQa := [⟨(.exit 2), ⟨[⟨.str, 9, 1, true⟩, ⟨.str, 9, 1, true⟩], [], [], [], [.nils, (.mref 1), (.ty (.list (.list .str))), (.ty (.int .i64)), (.ty (.int .i64))]⟩⟩]
noncomputable def Aqa : List ByteArray × List ByteArray × List (List ByteArray) × Int × Int × Unit → Option (List ByteArray × List ByteArray × List (List ByteArray) × Int × Int × Unit) := jTa (pBa (nHa Tryz.prog th (S48 jKa lIa bFb) 237 11 Eia Ema))
noncomputable def Bza (l0 : List ByteArray) (l1 : List ByteArray) (l2 : List (List ByteArray)) (i3 : Int) (i4 : Int) (fk : Fk) (bd : Bd) (sm : Sm) : Option ((List ByteArray × List ByteArray × List (List ByteArray) × Int × Int × Unit) ⊕ (List ByteArray × List ByteArray × List (List ByteArray) × Int × Int × Unit)) :=
    fk (decide (i4 < i3)) (fk (decide ((0 : Int) ≤ i4)) (fk (decide (i4 < (↑(List.length l2) : Int))) (fk (decide (List.length l1 = List.length l1)) (fk (decide (List.length (l1 ++ List.getD l2 (Int.toNat i4) (@List.nil ByteArray)) ≤ bBa)) (fk (decide (List.length (l1 ++ List.getD l2 (Int.toNat i4) (@List.nil ByteArray)) = List.length (l1 ++ List.getD l2 (Int.toNat i4) (@List.nil ByteArray)))) (some (Sum.inl (l0, l1 ++ List.getD l2 (Int.toNat i4) (@List.nil ByteArray), l2, i3, IntKind.wrap IntKind.i64 (i4 + (1 : Int)), ()))) none) none) none) none) none) (fk (decide (List.length l1 = List.length l1)) (some (Sum.inr (l0, l1, l2, i3, i4, ()))) none)
theorem Dga (l0 l1 l2 i3 i4) : Aqa (l0, l1, l2, i3, i4, ()) = (Bza l0 l1 l2 i3 i4 jKa lIa bFb).bind (Sum.elim Aqa some) := eqL (S := S48) fun _ _ _ => by kernel_rfl
noncomputable def S49 : OCs := addL S48 Tryz.prog 237 11 Eia Ema Aqa
theorem Oxb : fEb Tryz.prog th S49 := Owb.addL (by kernel_rfl) (by kernel_rfl) (by kernel_rfl) rfl
abbrev Ila : List Shp := [(.ty (.list (.list .str)))]
noncomputable def Cka : List (List ByteArray) × Unit → Option (List ByteArray × Unit) := jTa (fnT Tryz.prog th (S49 jKa lIa bFb) 237 Ila (.ty (.list .str)) [])
noncomputable def Dna (l0 : List (List ByteArray)) (fk : Fk) (bd : Bd) (sm : Sm) : Option (List ByteArray × Unit) :=
    let z0 := ((0 : Int) - (↑(0 : Nat) : Int))
    bd (Bca (l0, (0 : Int), l0, (↑(List.length l0) : Int), (0 : Int), ())) fun y0 => fk (decide (y0.2.1 < (0 : Int))) none (fk (decide (IntKind.wrap IntKind.i64 (y0.2.1 - IntKind.wrap IntKind.i64 z0) > (0 : Int))) (fk (decide ((0 : Int) ≤ (↑(0 : Nat) : Int))) (fk (decide ((0 : Int) < IntKind.wrap IntKind.i64 (y0.2.1 - IntKind.wrap IntKind.i64 z0))) (fk (decide (IntKind.wrap IntKind.i64 (y0.2.1 - IntKind.wrap IntKind.i64 z0) ≤ (↑bBa : Int))) (fk (decide (List.length (List.replicate (Int.toNat (IntKind.wrap IntKind.i64 (y0.2.1 - IntKind.wrap IntKind.i64 z0))) ByteArray.empty) = List.length (List.replicate (Int.toNat (IntKind.wrap IntKind.i64 (y0.2.1 - IntKind.wrap IntKind.i64 z0))) ByteArray.empty))) (fk (decide ((↑(0 : Nat) : Int) ≤ (↑(List.length (List.replicate (Int.toNat (IntKind.wrap IntKind.i64 (y0.2.1 - IntKind.wrap IntKind.i64 z0))) ByteArray.empty) - (0 : Nat)) : Int))) (fk (decide (List.length (List.replicate (Int.toNat (IntKind.wrap IntKind.i64 (y0.2.1 - IntKind.wrap IntKind.i64 z0))) ByteArray.empty) = List.length (List.replicate (Int.toNat (IntKind.wrap IntKind.i64 (y0.2.1 - IntKind.wrap IntKind.i64 z0))) ByteArray.empty))) (bd (Ata (@List.nil ByteArray, List.replicate (Int.toNat (IntKind.wrap IntKind.i64 (y0.2.1 - IntKind.wrap IntKind.i64 z0))) ByteArray.empty, (0 : Nat) + (0 : Nat), (0 : Nat) + Int.toNat (↑(0 : Nat) : Int), y0.1, (↑(List.length y0.1) : Int), (0 : Int), ())) fun y1 => fk (decide (List.length y1.2.1 = List.length y1.2.1)) (fk (decide (y1.2.2.1 ≤ y1.2.2.2.1)) (fk (decide (y1.2.2.2.1 ≤ List.length y1.2.1)) (some (List.take (y1.2.2.2.1 - y1.2.2.1) (List.drop y1.2.2.1 y1.2.1), ())) none) none) none) none) none) none) none) none) none) (fk (decide (List.length (@List.nil ByteArray) = (0 : Nat))) (bd (Aqa (@List.nil ByteArray, @List.nil ByteArray, y0.1, (↑(List.length y0.1) : Int), (0 : Int), ())) fun y2 => fk (decide (List.length y2.2.1 = List.length y2.2.1)) (some (y2.2.1, ())) none) none))
theorem Mla (l0) : Cka (l0, ()) = Dna l0 jKa lIa bFb := eqF (S := S49) fun _ _ _ => by kernel_rfl
noncomputable def S50 : OCs := addF S49 Tryz.prog 237 Ila (.ty (.list .str)) [] Cka
theorem Oyb : fEb Tryz.prog th S50 := Oxb.addF rfl
abbrev Dub : List Shp := [(.ty (.list .str)), (.ty (.int .i64)), (.ty (.list .str)), (.ty (.list .str))]
noncomputable def Woa : List ByteArray × Int × List ByteArray × List ByteArray × Unit → Option D38 := jTa (fnT Tryz.prog th (S50 jKa lIa bFb) 224 Dub (.tuple [(.ty (.list .str)), (.ty .bool)]) [])
noncomputable def Wza (l0 : List ByteArray) (i1 : Int) (l2 : List ByteArray) (l3 : List ByteArray) (fk : Fk) (bd : Bd) (sm : Sm) : Option D38 :=
    bd (Hnb (l0, i1, l2, ())) fun y0 => fk (!y0.1) (some (@List.nil ByteArray, false, ())) (fk (decide ((0 : Int) ≤ i1)) (fk (decide (i1 ≤ (↑(List.length l0) : Int))) (fk (decide ((0 : Int) ≤ i1)) (fk (decide (i1 ≤ (↑(Int.toNat i1) : Int))) (fk (decide ((0 : Int) ≤ IntKind.wrap IntKind.i64 (i1 + (↑(List.length l2) : Int)))) (fk (decide (IntKind.wrap IntKind.i64 (i1 + (↑(List.length l2) : Int)) ≤ (↑(List.length l0) : Int))) (bd (Cka (List.take (Int.toNat i1 - (0 : Nat)) (List.drop (0 : Nat) l0) :: l3 :: List.take (List.length l0 - Int.toNat (IntKind.wrap IntKind.i64 (i1 + (↑(List.length l2) : Int)))) (List.drop (Int.toNat (IntKind.wrap IntKind.i64 (i1 + (↑(List.length l2) : Int)))) l0) :: @List.nil (List ByteArray), ())) fun y1 => some (y1.1, true, ())) none) none) none) none) none) none)
theorem Gjb (l0 i1 l2 l3) : Woa (l0, i1, l2, l3, ()) = Wza l0 i1 l2 l3 jKa lIa bFb := eqF (S := S50) fun _ _ _ => by kernel_rfl
noncomputable def S51 : OCs := addF S50 Tryz.prog 224 Dub (.tuple [(.ty (.list .str)), (.ty .bool)]) [] Woa
theorem Ozb : fEb Tryz.prog th S51 := Oyb.addF rfl
abbrev Xla : List Shp := [(.ty (.list .str)), (.ty Y5)]
noncomputable def Qea : List ByteArray × D4 × Unit → Option D19 := jTa (fnT Tryz.prog th (S51 jKa lIa bFb) 200 Xla (.tuple [(.ty (.list .str)), (.ty (.int .i64))]) [])
noncomputable def Wta (l0 : List ByteArray) (x1 : Int × List ByteArray × List ByteArray × Unit) (fk : Fk) (bd : Bd) (sm : Sm) : Option D19 :=
    bd (Tna ((x1.1, x1.2.1, x1.2.2.1, ()), ())) fun y0 => fk (!y0.1) (some (@List.nil ByteArray, (1 : Int), ())) (bd (Woa (l0, x1.1, x1.2.1, x1.2.2.1, ())) fun y1 => fk (!y1.2.1) (some (@List.nil ByteArray, (5 : Int), ())) (some (y1.1, (0 : Int), ())))
theorem Cab (l0 x1) : Qea (l0, x1, ()) = Wta l0 x1 jKa lIa bFb := eqF (S := S51) fun _ _ _ => by kernel_rfl
noncomputable def S52 : OCs := addF S51 Tryz.prog 200 Xla (.tuple [(.ty (.list .str)), (.ty (.int .i64))]) [] Qea
theorem Pab : fEb Tryz.prog th S52 := Ozb.addF rfl
abbrev Kua : List Shp := [(.ty Y1), (.ty Y2)]
noncomputable def Eea : D0 × (List D2) × Unit → Option D9 := jTa (fnT Tryz.prog th (S52 jKa lIa bFb) 163 Kua (.tuple [(.ty Y2), (.ty (.int .i64))]) [])
noncomputable def Kra (x0 : Int × ByteArray × ByteArray × D4 × Unit) (l1 : List D2) (fk : Fk) (bd : Bd) (sm : Sm) : Option D9 :=
    bd (Hja (l1, x0.2.1, ())) fun y0 => fk (!y0.2.1) (some (@List.nil D2, (5 : Int), ())) (bd (Qea (y0.1, (x0.2.2.2.1.1, x0.2.2.2.1.2.1, x0.2.2.2.1.2.2.1, ()), ())) fun y1 => fk (y1.2.1 != (0 : Int)) (some (@List.nil D2, y1.2.1, ())) (bd (Moa (l1, x0.2.1, y1.1, ())) fun y2 => some (y2.1, (0 : Int), ())))
theorem Rba (x0 l1) : Eea (x0, l1, ()) = Kra x0 l1 jKa lIa bFb := eqF (S := S52) fun _ _ _ => by kernel_rfl
noncomputable def S53 : OCs := addF S52 Tryz.prog 163 Kua (.tuple [(.ty Y2), (.ty (.int .i64))]) [] Eea
theorem Pbb : fEb Tryz.prog th S53 := Pab.addF rfl
abbrev Gqa : fCa := ⟨[], [], [], [], [(.ty (.list .str)), (.ty (.list .str)), (.st (.bool false)), (.ty (.int .i64)), (.ty (.int .i64))]⟩
abbrev Gva : List sQa := [⟨.ret, ⟨[], [], [], [], [(.ty (.list .str)), (.ty (.list .str)), (.st (.bool false)), (.ty (.int .i64)), (.ty (.int .i64))]⟩⟩, ⟨(.exit 0), ⟨[], [], [], [], [(.ty (.list .str)), (.ty (.list .str)), (.st (.bool false)), (.ty (.int .i64)), (.ty (.int .i64))]⟩⟩]
noncomputable def Bja : List ByteArray × List ByteArray × Int × Int × Unit → Option (D14 ⊕ D14) := jTa (pBa (nHa Tryz.prog th (S53 jKa lIa bFb) 64 4 Gqa Gva))
noncomputable def Bra (l0 : List ByteArray) (l1 : List ByteArray) (i2 : Int) (i3 : Int) (fk : Fk) (bd : Bd) (sm : Sm) : Option (D14 ⊕ (D14 ⊕ D14)) :=
    fk (decide (i3 < i2)) (fk (decide ((0 : Int) ≤ i3)) (fk (decide (i3 < (↑(List.length l0) : Int))) (fk (decide ((0 : Int) ≤ i3)) (fk (decide (i3 < (↑(List.length l1) : Int))) (fk (!ByteArray.toList (List.getD l0 (Int.toNat i3) ByteArray.empty) == ByteArray.toList (List.getD l1 (Int.toNat i3) ByteArray.empty)) (some (Sum.inr (Sum.inl (l0, l1, i2, i3, ())))) (some (Sum.inl (l0, l1, i2, IntKind.wrap IntKind.i64 (i3 + (1 : Int)), ())))) none) none) none) none) (some (Sum.inr (Sum.inr (l0, l1, i2, i3, ()))))
theorem Fka (l0 l1 i2 i3) : Bja (l0, l1, i2, i3, ()) = (Bra l0 l1 i2 i3 jKa lIa bFb).bind (Sum.elim Bja some) := eqL (S := S53) fun _ _ _ => by kernel_rfl
noncomputable def S54 : OCs := addL S53 Tryz.prog 64 4 Gqa Gva Bja
theorem Pcb : fEb Tryz.prog th S54 := Pbb.addL (by kernel_rfl) (by kernel_rfl) (by kernel_rfl) rfl
abbrev Jca : List Shp := [(.ty (.list .str)), (.ty (.list .str))]
noncomputable def Bwa : List ByteArray × List ByteArray × Unit → Option (Bool × Unit) := jTa (fnT Tryz.prog th (S54 jKa lIa bFb) 64 Jca (.ty .bool) [])
noncomputable def Cja (l0 : List ByteArray) (l1 : List ByteArray) (fk : Fk) (bd : Bd) (sm : Sm) : Option (Bool × Unit) :=
    fk ((↑(List.length l0) : Int) != (↑(List.length l1) : Int)) (some (false, ())) (bd (Bja (l0, l1, (↑(List.length l0) : Int), (0 : Int), ())) fun y0 => sm y0 (fun y1 => some (false, ())) fun y2 => some (true, ()))
theorem Nwa (l0 l1) : Bwa (l0, l1, ()) = Cja l0 l1 jKa lIa bFb := eqF (S := S54) fun _ _ _ => by kernel_rfl
noncomputable def S55 : OCs := addF S54 Tryz.prog 64 Jca (.ty .bool) [] Bwa
theorem Pdb : fEb Tryz.prog th S55 := Pcb.addF rfl
abbrev Mwa : List Shp := [(.ty Y1), (.ty Y2)]
noncomputable def Gya : D0 × (List D2) × Unit → Option D9 := jTa (fnT Tryz.prog th (S55 jKa lIa bFb) 165 Mwa (.tuple [(.ty Y2), (.ty (.int .i64))]) [])
noncomputable def Mta (x0 : Int × ByteArray × ByteArray × D4 × Unit) (l1 : List D2) (fk : Fk) (bd : Bd) (sm : Sm) : Option D9 :=
    bd (Hja (l1, x0.2.1, ())) fun y0 => fk (!y0.2.1) (some (@List.nil D2, (5 : Int), ())) (bd (Bwa (y0.1, x0.2.2.2.1.2.1, ())) fun y1 => fk (!y1.1) (some (@List.nil D2, (5 : Int), ())) (bd (Moa (l1, x0.2.1, x0.2.2.2.1.2.2.1, ())) fun y2 => some (y2.1, (0 : Int), ())))
theorem Uja (x0 l1) : Gya (x0, l1, ()) = Mta x0 l1 jKa lIa bFb := eqF (S := S55) fun _ _ _ => by kernel_rfl
noncomputable def S56 : OCs := addF S55 Tryz.prog 165 Mwa (.tuple [(.ty Y2), (.ty (.int .i64))]) [] Gya
theorem Peb : fEb Tryz.prog th S56 := Pdb.addF rfl
abbrev Xoa : List Shp := [(.ty Y2), (.ty Y1)]
noncomputable def Qia : (List D2) × D0 × Unit → Option D9 := jTa (fnT Tryz.prog th (S56 jKa lIa bFb) 66 Xoa (.tuple [(.ty Y2), (.ty (.int .i64))]) [])
noncomputable def Wwa (l0 : List D2) (x1 : Int × ByteArray × ByteArray × D4 × Unit) (fk : Fk) (bd : Bd) (sm : Sm) : Option D9 :=
    let z0 := (x1.1, x1.2.1, x1.2.2.1, (x1.2.2.2.1.1, x1.2.2.2.1.2.1, x1.2.2.2.1.2.2.1, ()), ())
    bd (Uga (z0, ())) fun y0 => fk (!y0.1) (some (@List.nil D2, (1 : Int), ())) (fk (decide (x1.1 = x1.1)) (fk (eqT Ty.str x1.2.1 x1.2.1) (fk (eqT Ty.str x1.2.2.1 x1.2.2.1) (fk (decide (x1.2.2.2.1.1 = x1.2.2.2.1.1)) (fk (eqT (Ty.list Ty.str) x1.2.2.2.1.2.1 x1.2.2.2.1.2.1) (fk (eqT (Ty.list Ty.str) x1.2.2.2.1.2.2.1 x1.2.2.2.1.2.2.1) (fk (decide (x1.1 = (↑(0 : Nat) : Int))) (bd (Gxa (z0, l0, ())) fun y1 => some (y1.1, y1.2.1, ())) (fk (decide (x1.1 = (↑((0 : Nat) + (1 : Nat)) : Int))) (bd (Iga (z0, l0, ())) fun y2 => some (y2.1, y2.2.1, ())) (fk (decide (x1.1 = (↑((0 : Nat) + (1 : Nat) + (1 : Nat)) : Int))) (bd (Foa (z0, l0, ())) fun y3 => some (y3.1, y3.2.1, ())) (fk (decide (x1.1 = (↑((0 : Nat) + (1 : Nat) + (1 : Nat) + (1 : Nat)) : Int))) (bd (Eea (z0, l0, ())) fun y4 => some (y4.1, y4.2.1, ())) (fk (decide (x1.1 = (↑((0 : Nat) + (1 : Nat) + (1 : Nat) + (1 : Nat) + (1 : Nat)) : Int))) (bd (Gya (z0, l0, ())) fun y5 => some (y5.1, y5.2.1, ())) none))))) none) none) none) none) none) none)
theorem Cib (l0 x1) : Qia (l0, x1, ()) = Wwa l0 x1 jKa lIa bFb := eqF (S := S56) fun _ _ _ => by kernel_rfl
noncomputable def S57 : OCs := addF S56 Tryz.prog 66 Xoa (.tuple [(.ty Y2), (.ty (.int .i64))]) [] Qia
theorem Pfb : fEb Tryz.prog th S57 := Peb.addF rfl
abbrev Rja : fCa := ⟨[], [], [], [], [(.ty Y2), .nils, (.st (.int .i64 0)), (.ty (.list Y1)), (.ty (.int .i64)), (.ty (.int .i64))]⟩
abbrev Rwa : List sQa := [⟨.ret, ⟨[], [], [[(.ty (.int .i64)), (.ty .str), (.ty .str), (.ty (.int .i64)), (.ty (.list .str)), (.ty (.list .str))]], [], [(.ty Y2), .nils, (.ty (.int .i64)), (.ty (.list Y1)), (.ty (.int .i64)), (.ty (.int .i64))]⟩⟩, ⟨(.exit 0), ⟨[], [], [], [], [(.ty Y2), .nils, (.st (.int .i64 0)), (.ty (.list Y1)), (.ty (.int .i64)), (.ty (.int .i64))]⟩⟩]
noncomputable def Goa : (List D2) × (List D0) × Int × Int × Unit → Option ((Int × ByteArray × ByteArray × Int × List ByteArray × List ByteArray × (List D2) × Int × (List D0) × Int × Int × Unit) ⊕ ((List D2) × (List D0) × Int × Int × Unit)) := jTa (pBa (nHa Tryz.prog th (S57 jKa lIa bFb) 90 2 Rja Rwa))
noncomputable def Hya (l0 : List D2) (l1 : List D0) (i2 : Int) (i3 : Int) (fk : Fk) (bd : Bd) (sm : Sm) : Option (((List D2) × (List D0) × Int × Int × Unit) ⊕ ((Int × ByteArray × ByteArray × Int × List ByteArray × List ByteArray × (List D2) × Int × (List D0) × Int × Int × Unit) ⊕ ((List D2) × (List D0) × Int × Int × Unit))) :=
    let z0 := (List.getD l1 (Int.toNat i3) ((0 : Int), ByteArray.empty, ByteArray.empty, ((0 : Int), @List.nil ByteArray, @List.nil ByteArray, ()), ()))
    fk (decide (i3 < i2)) (fk (decide ((0 : Int) ≤ i3)) (fk (decide (i3 < (↑(List.length l1) : Int))) (bd (Qia (l0, (z0.1, z0.2.1, z0.2.2.1, (z0.2.2.2.1.1, z0.2.2.2.1.2.1, z0.2.2.2.1.2.2.1, ()), ()), ())) fun y0 => fk (y0.2.1 != (0 : Int)) (some (Sum.inr (Sum.inl (z0.1, z0.2.1, z0.2.2.1, z0.2.2.2.1.1, z0.2.2.2.1.2.1, z0.2.2.2.1.2.2.1, l0, y0.2.1, l1, i2, i3, ())))) (some (Sum.inl (y0.1, l1, i2, IntKind.wrap IntKind.i64 (i3 + (1 : Int)), ())))) none) none) (some (Sum.inr (Sum.inr (l0, l1, i2, i3, ()))))
theorem Nba (l0 l1 i2 i3) : Goa (l0, l1, i2, i3, ()) = (Hya l0 l1 i2 i3 jKa lIa bFb).bind (Sum.elim Goa some) := eqL (S := S57) fun _ _ _ => by kernel_rfl
noncomputable def S58 : OCs := addL S57 Tryz.prog 90 2 Rja Rwa Goa
theorem Pgb : fEb Tryz.prog th S58 := Pfb.addL (by kernel_rfl) (by kernel_rfl) (by kernel_rfl) rfl
abbrev Xja : List Shp := [(.ty Y2), (.ty (.list Y1))]
noncomputable def Qca : (List D2) × (List D0) × Unit → Option D9 := jTa (fnT Tryz.prog th (S58 jKa lIa bFb) 90 Xja (.tuple [(.ty Y2), (.ty (.int .i64))]) [])
noncomputable def Sma (l0 : List D2) (l1 : List D0) (fk : Fk) (bd : Bd) (sm : Sm) : Option D9 :=
    bd (Goa (l0, l1, (↑(List.length l1) : Int), (0 : Int), ())) fun y0 => sm y0 (fun y1 => some (@List.nil D2, y1.2.2.2.2.2.2.2.1, ())) fun y2 => some (y2.1, (0 : Int), ())
theorem Btb (l0 l1) : Qca (l0, l1, ()) = Sma l0 l1 jKa lIa bFb := eqF (S := S58) fun _ _ _ => by kernel_rfl
noncomputable def S59 : OCs := addF S58 Tryz.prog 90 Xja (.tuple [(.ty Y2), (.ty (.int .i64))]) [] Qca
theorem Phb : fEb Tryz.prog th S59 := Pgb.addF rfl
abbrev Vma : List Shp := [(.ty Y2), (.ty (.list Y0))]
noncomputable def Mha : (List D2) × (List D1) × Unit → Option D9 := jTa (fnT Tryz.prog th (S59 jKa lIa bFb) 40 Vma (.tuple [(.ty Y2), (.ty (.int .i64))]) [])
noncomputable def Via (l0 : List D2) (l1 : List D1) (fk : Fk) (bd : Bd) (sm : Sm) : Option D9 :=
    bd (Uda (l1, ())) fun y0 => bd (Qca (l0, y0.1, ())) fun y1 => some (y1.1, y1.2.1, ())
theorem Zva (l0 l1) : Mha (l0, l1, ()) = Via l0 l1 jKa lIa bFb := eqF (S := S59) fun _ _ _ => by kernel_rfl
noncomputable def S60 : OCs := addF S59 Tryz.prog 40 Vma (.tuple [(.ty Y2), (.ty (.int .i64))]) [] Mha
theorem Pib : fEb Tryz.prog th S60 := Phb.addF rfl
abbrev Vpa : List Shp := [(.ty Y6), (.ty Y6)]
noncomputable def Mqa : D2 × D2 × Unit → Option (Bool × Unit) := jTa (fnT Tryz.prog th (S60 jKa lIa bFb) 63 Vpa (.ty .bool) [])
noncomputable def Kta (x0 : ByteArray × List ByteArray × Unit) (x1 : ByteArray × List ByteArray × Unit) (fk : Fk) (bd : Bd) (sm : Sm) : Option (Bool × Unit) :=
    fk (ByteArray.toList x0.1 == ByteArray.toList x1.1) (bd (Bwa (x0.2.1, x1.2.1, ())) fun y0 => some (y0.1, ())) (some (false, ()))
theorem Abb (x0 x1) : Mqa (x0, x1, ()) = Kta x0 x1 jKa lIa bFb := eqF (S := S60) fun _ _ _ => by kernel_rfl
noncomputable def S61 : OCs := addF S60 Tryz.prog 63 Vpa (.ty .bool) [] Mqa
theorem Pjb : fEb Tryz.prog th S61 := Pib.addF rfl
abbrev Exa : fCa := ⟨[], [], [], [], [(.ty Y2), (.func 63 [] []), (.st (.bool false)), (.ty Y2), (.ty (.int .i64)), (.ty (.int .i64))]⟩
abbrev Fga : List sQa := [⟨.ret, ⟨[], [], [[(.ty .str), (.ty (.list .str))], [(.ty .str), (.ty (.list .str))]], [], [(.ty Y2), (.func 63 [] []), (.st (.bool false)), (.ty Y2), (.ty (.int .i64)), (.ty (.int .i64))]⟩⟩, ⟨(.exit 0), ⟨[], [], [], [], [(.ty Y2), (.func 63 [] []), (.st (.bool false)), (.ty Y2), (.ty (.int .i64)), (.ty (.int .i64))]⟩⟩]
noncomputable def Aua : (List D2) × (List D2) × Int × Int × Unit → Option ((ByteArray × List ByteArray × ByteArray × List ByteArray × (List D2) × (List D2) × Int × Int × Unit) ⊕ D21) := jTa (pBa (nHa Tryz.prog th (S61 jKa lIa bFb) 62 4 Exa Fga))
noncomputable def Bka (l0 : List D2) (l1 : List D2) (i2 : Int) (i3 : Int) (fk : Fk) (bd : Bd) (sm : Sm) : Option (D21 ⊕ ((ByteArray × List ByteArray × ByteArray × List ByteArray × (List D2) × (List D2) × Int × Int × Unit) ⊕ D21)) :=
    let z0 := (ByteArray.empty, @List.nil ByteArray, ())
    fk (decide (i3 < i2)) (fk (decide ((0 : Int) ≤ i3)) (fk (decide (i3 < (↑(List.length l1) : Int))) (fk (decide ((0 : Int) ≤ i3)) (fk (decide (i3 < (↑(List.length l0) : Int))) (bd (Mqa (((List.getD l1 (Int.toNat i3) z0).1, (List.getD l1 (Int.toNat i3) z0).2.1, ()), ((List.getD l0 (Int.toNat i3) z0).1, (List.getD l0 (Int.toNat i3) z0).2.1, ()), ())) fun y0 => fk (!y0.1) (some (Sum.inr (Sum.inl ((List.getD l1 (Int.toNat i3) z0).1, (List.getD l1 (Int.toNat i3) z0).2.1, (List.getD l0 (Int.toNat i3) z0).1, (List.getD l0 (Int.toNat i3) z0).2.1, l0, l1, i2, i3, ())))) (some (Sum.inl (l0, l1, i2, IntKind.wrap IntKind.i64 (i3 + (1 : Int)), ())))) none) none) none) none) (some (Sum.inr (Sum.inr (l0, l1, i2, i3, ()))))
theorem Dva (l0 l1 i2 i3) : Aua (l0, l1, i2, i3, ()) = (Bka l0 l1 i2 i3 jKa lIa bFb).bind (Sum.elim Aua some) := eqL (S := S61) fun _ _ _ => by kernel_rfl
noncomputable def S62 : OCs := addL S61 Tryz.prog 62 4 Exa Fga Aua
theorem Pkb : fEb Tryz.prog th S62 := Pjb.addL (by kernel_rfl) (by kernel_rfl) (by kernel_rfl) rfl
abbrev Ayb : List Shp := [(.ty Y2), (.ty Y2)]
noncomputable def Kia : (List D2) × (List D2) × Unit → Option (Bool × Unit) := jTa (fnT Tryz.prog th (S62 jKa lIa bFb) 25 Ayb (.ty .bool) [])
noncomputable def Pya (l0 : List D2) (l1 : List D2) (fk : Fk) (bd : Bd) (sm : Sm) : Option (Bool × Unit) :=
    fk ((↑(List.length l0) : Int) != (↑(List.length l1) : Int)) (some (false, ())) (bd (Aua (l1, l0, (↑(List.length l0) : Int), (0 : Int), ())) fun y0 => sm y0 (fun y1 => some (false, ())) fun y2 => some (true, ()))
theorem Fob (l0 l1) : Kia (l0, l1, ()) = Pya l0 l1 jKa lIa bFb := eqF (S := S62) fun _ _ _ => by kernel_rfl
noncomputable def S63 : OCs := addF S62 Tryz.prog 25 Ayb (.ty .bool) [] Kia
theorem Plb : fEb Tryz.prog th S63 := Pkb.addF rfl
abbrev Vva : fCa := ⟨[], [], [], [], [(.ty Y2), (.st (.bool false)), (.ty Y2), (.ty (.int .i64)), (.ty (.int .i64))]⟩
abbrev Wba : List sQa := [⟨.ret, ⟨[], [], [[(.ty .str), (.ty (.list .str))]], [], [(.ty Y2), (.st (.bool false)), (.ty Y2), (.ty (.int .i64)), (.ty (.int .i64))]⟩⟩, ⟨(.exit 0), ⟨[], [], [], [], [(.ty Y2), (.st (.bool false)), (.ty Y2), (.ty (.int .i64)), (.ty (.int .i64))]⟩⟩]
noncomputable def Kha : (List D2) × (List D2) × Int × Int × Unit → Option ((ByteArray × List ByteArray × (List D2) × (List D2) × Int × Int × Unit) ⊕ D21) := jTa (pBa (nHa Tryz.prog th (S63 jKa lIa bFb) 56 2 Vva Wba))
noncomputable def Doa (l0 : List D2) (l1 : List D2) (i2 : Int) (i3 : Int) (fk : Fk) (bd : Bd) (sm : Sm) : Option (D21 ⊕ ((ByteArray × List ByteArray × (List D2) × (List D2) × Int × Int × Unit) ⊕ D21)) :=
    let z0 := (List.getD l1 (Int.toNat i3) (ByteArray.empty, @List.nil ByteArray, ()))
    fk (decide (i3 < i2)) (fk (decide ((0 : Int) ≤ i3)) (fk (decide (i3 < (↑(List.length l1) : Int))) (bd (Kga (z0.1, ())) fun y0 => fk (!y0.1) (some (Sum.inr (Sum.inl (z0.1, z0.2.1, l0, l1, i2, i3, ())))) (bd (Qra (z0.2.1, ())) fun y1 => fk (!y1.1) (some (Sum.inr (Sum.inl (z0.1, z0.2.1, l0, l1, i2, i3, ())))) (fk (decide (i3 > (0 : Int))) (fk (decide ((0 : Int) ≤ IntKind.wrap IntKind.i64 (i3 - (1 : Int)))) (fk (decide (IntKind.wrap IntKind.i64 (i3 - (1 : Int)) < (↑(List.length l0) : Int))) (fk (Op.bytesLess (ByteArray.toList z0.1) (ByteArray.toList (List.getD l0 (Int.toNat (IntKind.wrap IntKind.i64 (i3 - (1 : Int)))) (ByteArray.empty, @List.nil ByteArray, ())).1) || ByteArray.toList z0.1 == ByteArray.toList (List.getD l0 (Int.toNat (IntKind.wrap IntKind.i64 (i3 - (1 : Int)))) (ByteArray.empty, @List.nil ByteArray, ())).1) (some (Sum.inr (Sum.inl (z0.1, z0.2.1, l0, l1, i2, i3, ())))) (some (Sum.inl (l0, l1, i2, IntKind.wrap IntKind.i64 (i3 + (1 : Int)), ())))) none) none) (some (Sum.inl (l0, l1, i2, IntKind.wrap IntKind.i64 (i3 + (1 : Int)), ())))))) none) none) (some (Sum.inr (Sum.inr (l0, l1, i2, i3, ()))))
theorem Sga (l0 l1 i2 i3) : Kha (l0, l1, i2, i3, ()) = (Doa l0 l1 i2 i3 jKa lIa bFb).bind (Sum.elim Kha some) := eqL (S := S63) fun _ _ _ => by kernel_rfl
noncomputable def S64 : OCs := addL S63 Tryz.prog 56 2 Vva Wba Kha
theorem Pmb : fEb Tryz.prog th S64 := Plb.addL (by kernel_rfl) (by kernel_rfl) (by kernel_rfl) rfl
abbrev Dzb : List Shp := [(.ty Y2)]
noncomputable def Kwa : (List D2) × Unit → Option (Bool × Unit) := jTa (fnT Tryz.prog th (S64 jKa lIa bFb) 56 Dzb (.ty .bool) [])
noncomputable def Xfa (l0 : List D2) (fk : Fk) (bd : Bd) (sm : Sm) : Option (Bool × Unit) :=
    bd (Kha (l0, l0, (↑(List.length l0) : Int), (0 : Int), ())) fun y0 => sm y0 (fun y1 => some (false, ())) fun y2 => some (decide ((↑(List.length y2.1) : Int) ≤ (30 : Int)), ())
theorem Gpb (l0) : Kwa (l0, ()) = Xfa l0 jKa lIa bFb := eqF (S := S64) fun _ _ _ => by kernel_rfl
noncomputable def S65 : OCs := addF S64 Tryz.prog 56 Dzb (.ty .bool) [] Kwa
theorem Pnb : fEb Tryz.prog th S65 := Pmb.addF rfl
abbrev Dsb : List Shp := [(.ty Y4)]
noncomputable def Qpa : D6 × Unit → Option (Bool × Unit) := jTa (fnT Tryz.prog th (S65 jKa lIa bFb) 20 Dsb (.ty .bool) [])
noncomputable def Djb (x0 : Int × (List D1) × (List D2) × (List D2) × Int × Unit) (fk : Fk) (bd : Bd) (sm : Sm) : Option (Bool × Unit) :=
    fk (decide (x0.1 < (0 : Int))) (some (false, ())) (fk (decide (x0.1 ≥ (8 : Int))) (some (false, ())) (fk (decide ((↑(List.length x0.2.1) : Int) > (60 : Int))) (some (false, ())) (fk (decide (x0.2.2.2.2.1 < (0 : Int))) (some (false, ())) (fk (decide (x0.2.2.2.2.1 > (1048576 : Int))) (some (false, ())) (bd (Hwa (x0.1, x0.2.1, x0.2.2.1, x0.2.2.2.1, x0.2.2.2.2.1, x0.2.1, (↑(List.length x0.2.1) : Int), (0 : Int), ())) fun y0 => sm y0 (fun y1 => some (false, ())) fun y2 => bd (Mha (@List.nil D2, y2.2.1, ())) fun y3 => fk (y3.2.1 == (0 : Int)) (bd (Kia (y3.1, y2.2.2.1, ())) fun y4 => fk y4.1 (bd (Kwa (y2.2.2.1, ())) fun y5 => fk y5.1 (bd (Kwa (y2.2.2.2.1, ())) fun y6 => some (y6.1, ())) (some (false, ()))) (some (false, ()))) (some (false, ())))))))
theorem Ghb (x0) : Qpa (x0, ()) = Djb x0 jKa lIa bFb := eqF (S := S65) fun _ _ _ => by kernel_rfl
noncomputable def S66 : OCs := addF S65 Tryz.prog 20 Dsb (.ty .bool) [] Qpa
theorem Pob : fEb Tryz.prog th S66 := Pnb.addF rfl
abbrev Amb : List Shp := [(.ty Y5)]
noncomputable def Tpa : D4 × Unit → Option (D4 × Unit) := jTa (fnT Tryz.prog th (S66 jKa lIa bFb) 187 Amb (.ty Y5) [])
noncomputable def Aeb (x0 : Int × List ByteArray × List ByteArray × Unit) (fk : Fk) (bd : Bd) (sm : Sm) : Option (D4 × Unit) :=
    fk (decide (List.length x0.2.2.1 ≤ bBa)) (fk (decide (List.length x0.2.2.1 = List.length x0.2.2.1)) (fk (decide (List.length x0.2.1 ≤ bBa)) (fk (decide (List.length x0.2.1 = List.length x0.2.1)) (some ((x0.1, x0.2.2.1, x0.2.1, ()), ())) none) none) none) none
theorem Ehb (x0) : Tpa (x0, ()) = Aeb x0 jKa lIa bFb := eqF (S := S66) fun _ _ _ => by kernel_rfl
noncomputable def S67 : OCs := addF S66 Tryz.prog 187 Amb (.ty Y5) [] Tpa
theorem Ppb : fEb Tryz.prog th S67 := Pob.addF rfl
abbrev Atb : List Shp := [(.ty Y1)]
noncomputable def Uha : D0 × Unit → Option (D0 × Unit) := jTa (fnT Tryz.prog th (S67 jKa lIa bFb) 147 Atb (.ty Y1) [])
noncomputable def Lca (x0 : Int × ByteArray × ByteArray × D4 × Unit) (fk : Fk) (bd : Bd) (sm : Sm) : Option (D0 × Unit) :=
    let z0 := (x0.2.2.2.1.1, x0.2.2.2.1.2.1, x0.2.2.2.1.2.2.1, ())
    fk (x0.1 == (0 : Int)) (some (((1 : Int), x0.2.1, x0.2.2.1, z0, ()), ())) (fk (x0.1 == (1 : Int)) (some (((0 : Int), x0.2.1, x0.2.2.1, z0, ()), ())) (fk (x0.1 == (2 : Int)) (some ((x0.1, x0.2.2.1, x0.2.1, z0, ()), ())) (bd (Tpa (z0, ())) fun y0 => some ((x0.1, x0.2.1, x0.2.2.1, (y0.1.1, y0.1.2.1, y0.1.2.2.1, ()), ()), ()))))
theorem Fab (x0) : Uha (x0, ()) = Lca x0 jKa lIa bFb := eqF (S := S67) fun _ _ _ => by kernel_rfl
noncomputable def S68 : OCs := addF S67 Tryz.prog 147 Atb (.ty Y1) [] Uha
theorem Pqb : fEb Tryz.prog th S68 := Ppb.addF rfl
abbrev Eha : fCa := ⟨[⟨Y1, 72, 6, true⟩], [], [[(.mref 0)], [(.ty (.list Y1))]], [⟨202, 3, [.undef, .undef, .nils, (.bptr 0 0)], .normal, .ready⟩], [(.yield 0), (.bptr 1 0), (.ty (.int .i64))]⟩
abbrev Ela : List sQa := [⟨(.exit 0), ⟨[⟨Y1, 72, 6, true⟩], [], [[(.mref 0)], [(.ty (.list Y1))]], [⟨202, 3, [.undef, .undef, .nils, (.bptr 0 0)], .normal, .ready⟩], [(.yield 0), (.bptr 1 0), (.ty (.int .i64))]⟩⟩]
noncomputable def Apa : (List D0) × (List D0) × Int × Unit → Option D24 := jTa (pBa (nHa Tryz.prog th (S68 jKa lIa bFb) 238 1 Eha Ela))
noncomputable def Bya (l0 : List D0) (l1 : List D0) (i2 : Int) (fk : Fk) (bd : Bd) (sm : Sm) : Option (D24 ⊕ D24) :=
    let z0 := (List.getD l1 (Int.toNat i2) ((0 : Int), ByteArray.empty, ByteArray.empty, ((0 : Int), @List.nil ByteArray, @List.nil ByteArray, ()), ()))
    fk (decide (i2 ≥ (0 : Int))) (fk (decide ((0 : Int) ≤ i2)) (fk (decide (i2 < (↑(List.length l1) : Int))) (bd (Uha ((z0.1, z0.2.1, z0.2.2.1, (z0.2.2.2.1.1, z0.2.2.2.1.2.1, z0.2.2.2.1.2.2.1, ()), ()), ())) fun y0 => fk (decide (List.length l0 = List.length l0)) (fk (decide (List.length (l0 ++ (y0.1.1, y0.1.2.1, y0.1.2.2.1, (y0.1.2.2.2.1.1, y0.1.2.2.2.1.2.1, y0.1.2.2.2.1.2.2.1, ()), ()) :: @List.nil D0) ≤ bBa)) (fk (decide (List.length (l0 ++ (y0.1.1, y0.1.2.1, y0.1.2.2.1, (y0.1.2.2.2.1.1, y0.1.2.2.2.1.2.1, y0.1.2.2.2.1.2.2.1, ()), ()) :: @List.nil D0) = List.length (l0 ++ (y0.1.1, y0.1.2.1, y0.1.2.2.1, (y0.1.2.2.2.1.1, y0.1.2.2.2.1.2.1, y0.1.2.2.2.1.2.2.1, ()), ()) :: @List.nil D0))) (some (Sum.inl (l0 ++ (y0.1.1, y0.1.2.1, y0.1.2.2.1, (y0.1.2.2.2.1.1, y0.1.2.2.2.1.2.1, y0.1.2.2.2.1.2.2.1, ()), ()) :: @List.nil D0, l1, IntKind.wrap IntKind.i64 (i2 - (1 : Int)), ()))) none) none) none) none) none) (fk (decide (List.length l0 = List.length l0)) (some (Sum.inr (l0, l1, i2, ()))) none)
theorem Dfa (l0 l1 i2) : Apa (l0, l1, i2, ()) = (Bya l0 l1 i2 jKa lIa bFb).bind (Sum.elim Apa some) := eqL (S := S68) fun _ _ _ => by kernel_rfl
noncomputable def S69 : OCs := addL S68 Tryz.prog 238 1 Eha Ela Apa
theorem Prb : fEb Tryz.prog th S69 := Pqb.addL (by kernel_rfl) (by kernel_rfl) (by kernel_rfl) rfl
abbrev Alb : List Shp := [(.ty (.list Y1))]
noncomputable def Oma : (List D0) × Unit → Option D35 := jTa (fnT Tryz.prog th (S69 jKa lIa bFb) 202 Alb (.ty (.list Y1)) [])
noncomputable def Adb (l0 : List D0) (fk : Fk) (bd : Bd) (sm : Sm) : Option D35 :=
    fk (decide (List.length (@List.nil D0) = (0 : Nat))) (bd (Apa (@List.nil D0, l0, IntKind.wrap IntKind.i64 ((↑(List.length l0) : Int) - (1 : Int)), ())) fun y0 => fk (decide (List.length y0.1 = List.length y0.1)) (some (y0.1, ())) none) none
theorem Efb (l0) : Oma (l0, ()) = Adb l0 jKa lIa bFb := eqF (S := S69) fun _ _ _ => by kernel_rfl
noncomputable def S70 : OCs := addF S69 Tryz.prog 202 Alb (.ty (.list Y1)) [] Oma
theorem Psb : fEb Tryz.prog th S70 := Prb.addF rfl
abbrev Lha : List Shp := [(.ty Y0), (.ty (.list Y1))]
noncomputable def Fqa : D1 × (List D0) × Unit → Option (D1 × Unit) := jTa (fnT Tryz.prog th (S70 jKa lIa bFb) 52 Lha (.ty Y0) [])
noncomputable def Lea (x0 : D3 × (List D3) × ByteArray × (List D0) × Unit) (l1 : List D0) (fk : Fk) (bd : Bd) (sm : Sm) : Option (D1 × Unit) :=
    fk (decide (List.length x0.2.1 ≤ bBa)) (fk (decide (List.length x0.2.1 = List.length x0.2.1)) (some (((x0.1.1, x0.1.2.1, ()), x0.2.1, x0.2.2.1, l1, ()), ())) none) none
theorem Sxa (x0 l1) : Fqa (x0, l1, ()) = Lea x0 l1 jKa lIa bFb := eqF (S := S70) fun _ _ _ => by kernel_rfl
noncomputable def S71 : OCs := addF S70 Tryz.prog 52 Lha (.ty Y0) [] Fqa
theorem Ptb : fEb Tryz.prog th S71 := Psb.addF rfl
abbrev Jwa : fCa := ⟨[], [], [[(.ty (.int .i64)), (.ty (.int .i64))]], [], [(.ty (.list Y3)), (.bptr 0 0), (.st (.int .i64 0)), (.ty (.int .i64)), (.ty (.int .i64))]⟩
abbrev Kfa : List sQa := [⟨.ret, ⟨[], [], [[(.ty (.int .i64)), (.ty (.int .i64))]], [], [(.ty (.list Y3)), (.bptr 0 0), (.ty (.int .i64)), (.ty (.int .i64)), (.ty (.int .i64))]⟩⟩, ⟨(.exit 0), ⟨[], [], [[(.ty (.int .i64)), (.ty (.int .i64))]], [], [(.ty (.list Y3)), (.bptr 0 0), (.st (.int .i64 0)), (.ty (.int .i64)), (.ty (.int .i64))]⟩⟩]
noncomputable def Cea : Int × Int × (List D3) × Int × Int × Unit → Option ((Int × Int × (List D3) × Int × Int × Int × Unit) ⊕ (Int × Int × (List D3) × Int × Int × Unit)) := jTa (pBa (nHa Tryz.prog th (S71 jKa lIa bFb) 103 2 Jwa Kfa))
noncomputable def Cta (i0 : Int) (i1 : Int) (l2 : List D3) (i3 : Int) (i4 : Int) (fk : Fk) (bd : Bd) (sm : Sm) : Option ((Int × Int × (List D3) × Int × Int × Unit) ⊕ ((Int × Int × (List D3) × Int × Int × Int × Unit) ⊕ (Int × Int × (List D3) × Int × Int × Unit))) :=
    fk (decide (i4 < i3)) (fk (decide ((0 : Int) ≤ i4)) (fk (decide (i4 < (↑(List.length l2) : Int))) (fk (i0 == (List.getD l2 (Int.toNat i4) ((0 : Int), (0 : Int), ())).1 && (i1 == (List.getD l2 (Int.toNat i4) ((0 : Int), (0 : Int), ())).2.1 && true)) (some (Sum.inr (Sum.inl (i0, i1, l2, i4, i3, i4, ())))) (some (Sum.inl (i0, i1, l2, i3, IntKind.wrap IntKind.i64 (i4 + (1 : Int)), ())))) none) none) (some (Sum.inr (Sum.inr (i0, i1, l2, i3, i4, ()))))
theorem Ira (i0 i1 l2 i3 i4) : Cea (i0, i1, l2, i3, i4, ()) = (Cta i0 i1 l2 i3 i4 jKa lIa bFb).bind (Sum.elim Cea some) := eqL (S := S71) fun _ _ _ => by kernel_rfl
noncomputable def S72 : OCs := addL S71 Tryz.prog 103 2 Jwa Kfa Cea
theorem Pub : fEb Tryz.prog th S72 := Ptb.addL (by kernel_rfl) (by kernel_rfl) (by kernel_rfl) rfl
abbrev Mxa : List Shp := [(.ty (.list Y3)), (.ty Y3)]
noncomputable def Hha : (List D3) × D3 × Unit → Option (Int × Unit) := jTa (fnT Tryz.prog th (S72 jKa lIa bFb) 103 Mxa (.ty (.int .i64)) [])
noncomputable def Mua (l0 : List D3) (x1 : Int × Int × Unit) (fk : Fk) (bd : Bd) (sm : Sm) : Option (Int × Unit) :=
    bd (Cea (x1.1, x1.2.1, l0, (↑(List.length l0) : Int), (0 : Int), ())) fun y0 => sm y0 (fun y1 => some (y1.2.2.2.1, ())) fun y2 => some ((-1 : Int), ())
theorem Uoa (l0 x1) : Hha (l0, x1, ()) = Mua l0 x1 jKa lIa bFb := eqF (S := S72) fun _ _ _ => by kernel_rfl
noncomputable def S73 : OCs := addF S72 Tryz.prog 103 Mxa (.ty (.int .i64)) [] Hha
theorem Pvb : fEb Tryz.prog th S73 := Pub.addF rfl
abbrev Jua : List Shp := [(.ty (.list Y3)), (.ty Y3)]
noncomputable def Cda : (List D3) × D3 × Unit → Option (Bool × Unit) := jTa (fnT Tryz.prog th (S73 jKa lIa bFb) 51 Jua (.ty .bool) [])
noncomputable def Jqa (l0 : List D3) (x1 : Int × Int × Unit) (fk : Fk) (bd : Bd) (sm : Sm) : Option (Bool × Unit) :=
    bd (Hha (l0, (x1.1, x1.2.1, ()), ())) fun y0 => some (decide (y0.1 ≥ (0 : Int)), ())
theorem Pra (l0 x1) : Cda (l0, x1, ()) = Jqa l0 x1 jKa lIa bFb := eqF (S := S73) fun _ _ _ => by kernel_rfl
noncomputable def S74 : OCs := addF S73 Tryz.prog 51 Jua (.ty .bool) [] Cda
theorem Pwb : fEb Tryz.prog th S74 := Pvb.addF rfl
abbrev Xza : List Shp := [(.ty Y0), (.ty Y0)]
noncomputable def Bkb : D1 × D1 × Unit → Option (D1 × D1 × Bool × Unit) := jTa (fnT Tryz.prog th (S74 jKa lIa bFb) 17 Xza (.tuple [(.ty Y0), (.ty Y0), (.ty .bool)]) [])
noncomputable def S75 : OCs := addF S74 Tryz.prog 17 Xza (.tuple [(.ty Y0), (.ty Y0), (.ty .bool)]) [] Bkb
theorem Pxb : fEb Tryz.prog th S75 := Pwb.addF rfl
abbrev Dpa : fCa := ⟨[⟨Y0, 40, 5, true⟩, ⟨Y0, 40, 5, true⟩], [], [[(.ty (.int .i64)), (.ty (.int .i64)), (.ty (.list Y3)), (.ty .str), (.ty (.list Y1))], [(.st (.int .i64 0)), (.st (.int .i64 0)), .nils, (.st (.string ⟨#[]⟩)), .nils], [(.mref 0)], [(.st (.bool false))], [(.mref 1)], [(.ty (.list Y0))]], [⟨167, 5, [.undef, .undef, .undef, (.bptr 0 0), (.bptr 1 0), (.bptr 2 0), (.bptr 3 0), .undef, (.bptr 4 0)], .normal, .ready⟩], [(.yield 0), (.bptr 5 0), (.ty (.int .i64))]⟩
abbrev Dra : List sQa := [⟨.ret, ⟨[⟨Y0, 40, 5, true⟩, ⟨Y0, 40, 5, true⟩], [], [[(.ty (.int .i64)), (.ty (.int .i64)), (.ty (.list Y3)), (.ty .str), (.ty (.list Y1))], [(.st (.int .i64 0)), (.st (.int .i64 0)), .nils, (.st (.string ⟨#[]⟩)), .nils], [.nils], [(.st (.bool false))], [(.mref 1)], [(.ty (.list Y0))]], [⟨167, 5, [.undef, .undef, .undef, (.bptr 0 0), (.bptr 1 0), (.bptr 2 0), (.bptr 3 0), .undef, (.bptr 4 0)], .ret, .done⟩], [(.yield 0), (.bptr 5 0), (.ty (.int .i64))]⟩⟩, ⟨(.exit 0), ⟨[⟨Y0, 40, 5, true⟩, ⟨Y0, 40, 5, true⟩], [], [[(.ty (.int .i64)), (.ty (.int .i64)), (.ty (.list Y3)), (.ty .str), (.ty (.list Y1))], [(.st (.int .i64 0)), (.st (.int .i64 0)), .nils, (.st (.string ⟨#[]⟩)), .nils], [(.mref 0)], [(.st (.bool false))], [(.mref 1)], [(.ty (.list Y0))]], [⟨167, 5, [.undef, .undef, .undef, (.bptr 0 0), (.bptr 1 0), (.bptr 2 0), (.bptr 3 0), .undef, (.bptr 4 0)], .normal, .ready⟩], [(.yield 0), (.bptr 5 0), (.ty (.int .i64))]⟩⟩]
noncomputable def Aka : (List D1) × (List D1) × Int × Int × (List D3) × ByteArray × (List D0) × (List D1) × Int × Unit → Option (D17 ⊕ D17) := jTa (pBa (nHa Tryz.prog th (S75 jKa lIa bFb) 226 1 Dpa Dra))
noncomputable def Dma (l0 : List D1) (l1 : List D1) (i2 : Int) (i3 : Int) (l4 : List D3) (s5 : ByteArray) (l6 : List D0) (l7 : List D1) (i8 : Int) (fk : Fk) (bd : Bd) (sm : Sm) : Option (D17 ⊕ (D17 ⊕ D17)) :=
    let z0 := (List.getD l7 (Int.toNat i8) (((0 : Int), (0 : Int), ()), @List.nil D3, ByteArray.empty, @List.nil D0, ()))
    fk (decide (i8 ≥ (0 : Int))) (fk (decide ((0 : Int) ≤ i8)) (fk (decide (i8 < (↑(List.length l7) : Int))) (bd (Bkb (((z0.1.1, z0.1.2.1, ()), z0.2.1, z0.2.2.1, z0.2.2.2.1, ()), ((i2, i3, ()), l4, s5, l6, ()), ())) fun y0 => fk (!y0.2.2.1) (fk (decide (List.length l1 = List.length l1)) (some (Sum.inr (Sum.inl (l0, l1, i2, i3, l4, s5, l6, l7, i8, ())))) none) (fk (decide (List.length l1 = List.length l1)) (fk (decide (List.length (l1 ++ ((y0.2.1.1.1, y0.2.1.1.2.1, ()), y0.2.1.2.1, y0.2.1.2.2.1, y0.2.1.2.2.2.1, ()) :: @List.nil D5) ≤ bBa)) (fk (decide (List.length l0 = List.length l0)) (fk (decide (List.length (l1 ++ ((y0.2.1.1.1, y0.2.1.1.2.1, ()), y0.2.1.2.1, y0.2.1.2.2.1, y0.2.1.2.2.2.1, ()) :: @List.nil D5) = List.length (l1 ++ ((y0.2.1.1.1, y0.2.1.1.2.1, ()), y0.2.1.2.1, y0.2.1.2.2.1, y0.2.1.2.2.2.1, ()) :: @List.nil D5))) (some (Sum.inl (l0, l1 ++ ((y0.2.1.1.1, y0.2.1.1.2.1, ()), y0.2.1.2.1, y0.2.1.2.2.1, y0.2.1.2.2.2.1, ()) :: @List.nil D5, y0.1.1.1, y0.1.1.2.1, y0.1.2.1, y0.1.2.2.1, y0.1.2.2.2.1, l7, IntKind.wrap IntKind.i64 (i8 - (1 : Int)), ()))) none) none) none) none)) none) none) (fk (decide (List.length l0 = List.length l0)) (fk (decide (List.length l1 = List.length l1)) (some (Sum.inr (Sum.inr (l0, l1, i2, i3, l4, s5, l6, l7, i8, ())))) none) none)
theorem Iva (l0 l1 i2 i3 l4 s5 l6 l7 i8) : Aka (l0, l1, i2, i3, l4, s5, l6, l7, i8, ()) = (Dma l0 l1 i2 i3 l4 s5 l6 l7 i8 jKa lIa bFb).bind (Sum.elim Aka some) := eqL (S := S75) fun _ _ _ => by kernel_rfl
noncomputable def S76 : OCs := addL S75 Tryz.prog 226 1 Dpa Dra Aka
theorem Pyb : fEb Tryz.prog th S76 := Pxb.addL (by kernel_rfl) (by kernel_rfl) (by kernel_rfl) rfl
abbrev Fza : fCa := ⟨[⟨Y0, 40, 5, true⟩, ⟨Y0, 40, 5, true⟩], [], [[(.ty (.int .i64)), (.ty (.int .i64)), (.ty (.list Y3)), (.ty .str), (.ty (.list Y1))], [(.st (.int .i64 0)), (.st (.int .i64 0)), .nils, (.st (.string ⟨#[]⟩)), .nils], [(.mref 0)], [(.st (.bool false))], [(.mref 1)], [(.ty (.list Y0))]], [], [(.mref 1), (.ty (.int .i64)), (.ty (.int .i64))]⟩
abbrev Gea : List sQa := [⟨(.exit 0), ⟨[⟨Y0, 40, 5, true⟩, ⟨Y0, 40, 5, true⟩], [], [[(.ty (.int .i64)), (.ty (.int .i64)), (.ty (.list Y3)), (.ty .str), (.ty (.list Y1))], [(.st (.int .i64 0)), (.st (.int .i64 0)), .nils, (.st (.string ⟨#[]⟩)), .nils], [(.mref 0)], [(.st (.bool false))], [(.mref 1)], [(.ty (.list Y0))]], [], [(.mref 1), (.ty (.int .i64)), (.ty (.int .i64))]⟩⟩]
noncomputable def Bea : (List D1) × (List D1) × Int × Int × (List D3) × ByteArray × (List D0) × (List D1) × Int × Int × Unit → Option D31 := jTa (pBa (nHa Tryz.prog th (S76 jKa lIa bFb) 204 1 Fza Gea))
noncomputable def Fva (l0 : List D1) (l1 : List D1) (i2 : Int) (i3 : Int) (l4 : List D3) (s5 : ByteArray) (l6 : List D0) (l7 : List D1) (i8 : Int) (i9 : Int) (fk : Fk) (bd : Bd) (sm : Sm) : Option (D31 ⊕ D31) :=
    let z0 := (Ty.dfl (Ty.pair (Ty.pair (Ty.int IntKind.i64) (Ty.pair (Ty.int IntKind.i64) Ty.unit)) (Ty.pair (Ty.list (Ty.pair (Ty.int IntKind.i64) (Ty.pair (Ty.int IntKind.i64) Ty.unit))) (Ty.pair Ty.str (Ty.pair (Ty.list (Ty.pair (Ty.int IntKind.i64) (Ty.pair Ty.str (Ty.pair Ty.str (Ty.pair (Ty.pair (Ty.int IntKind.i64) (Ty.pair (Ty.list Ty.str) (Ty.pair (Ty.list Ty.str) Ty.unit))) Ty.unit))))) Ty.unit)))))
    let z1 := (List.set l1 (Int.toNat i8) (((List.getD l1 (Int.toNat i9) z0).1.1, (List.getD l1 (Int.toNat i9) z0).1.2.1, ()), (List.getD l1 (Int.toNat i9) z0).2.1, (List.getD l1 (Int.toNat i9) z0).2.2.1, (List.getD l1 (Int.toNat i9) z0).2.2.2.1, ()))
    let z2 := (((List.getD l1 (Int.toNat i8) z0).1.1, (List.getD l1 (Int.toNat i8) z0).1.2.1, ()), (List.getD l1 (Int.toNat i8) z0).2.1, (List.getD l1 (Int.toNat i8) z0).2.2.1, (List.getD l1 (Int.toNat i8) z0).2.2.2.1, ())
    let z3 := (decide (List.length l1 = List.length l1))
    fk (decide (i8 < i9)) (fk (decide ((0 : Int) ≤ i9)) (fk z3 (fk (decide (i9 < (↑(List.length l1) : Int))) (fk z3 (fk (decide (Int.toNat i9 < List.length l1)) (fk (decide ((0 : Int) ≤ i8)) (fk z3 (fk (decide (i8 < (↑(List.length l1) : Int))) (fk z3 (fk (decide (Int.toNat i8 < List.length l1)) (fk (decide ((0 : Int) ≤ i8)) (fk z3 (fk (decide (i8 < (↑(List.length l1) : Int))) (fk z3 (fk (decide (Int.toNat i8 < List.length l1)) (fk (decide ((0 : Int) ≤ i9)) (fk (decide (List.length z1 = List.length l1)) (fk (decide (i9 < (↑(List.length l1) : Int))) (fk (decide (List.length z1 = List.length l1)) (fk (decide (Int.toNat i9 < List.length l1)) (fk (decide (List.length (List.set z1 (Int.toNat i9) z2) = List.length l1)) (fk (decide (List.length l0 = List.length l0)) (fk (decide (List.length (List.set z1 (Int.toNat i9) z2) = List.length l1)) (some (Sum.inl (l0, List.set z1 (Int.toNat i9) z2, i2, i3, l4, s5, l6, l7, IntKind.wrap IntKind.i64 (i8 + (1 : Int)), IntKind.wrap IntKind.i64 (i9 - (1 : Int)), ()))) none) none) none) none) none) none) none) none) none) none) none) none) none) none) none) none) none) none) none) none) none) none) none) (fk z3 (fk (decide (List.length l0 = List.length l0)) (fk z3 (some (Sum.inr (l0, l1, i2, i3, l4, s5, l6, l7, i8, i9, ()))) none) none) none)
theorem Kma (l0 l1 i2 i3 l4 s5 l6 l7 i8 i9) : Bea (l0, l1, i2, i3, l4, s5, l6, l7, i8, i9, ()) = (Fva l0 l1 i2 i3 l4 s5 l6 l7 i8 i9 jKa lIa bFb).bind (Sum.elim Bea some) := eqL (S := S76) fun _ _ _ => by kernel_rfl
noncomputable def S77 : OCs := addL S76 Tryz.prog 204 1 Fza Gea Bea
theorem Pzb : fEb Tryz.prog th S77 := Pyb.addL (by kernel_rfl) (by kernel_rfl) (by kernel_rfl) rfl
abbrev Xya : List Shp := [(.ty (.list Y0)), (.ty Y0)]
noncomputable def Jla : (List D1) × D1 × Unit → Option ((List D1) × D1 × Bool × Unit) := jTa (fnT Tryz.prog th (S77 jKa lIa bFb) 167 Xya (.tuple [(.ty Y0), (.mref 0), (.ty .bool)]) [⟨Y0, 40, 5, true⟩])
noncomputable def Xca (l0 : List D1) (x1 : D3 × (List D3) × ByteArray × (List D0) × Unit) (fk : Fk) (bd : Bd) (sm : Sm) : Option ((List D1) × D1 × Bool × Unit) :=
    let z0 := (decide (List.length (@List.nil D5) = (0 : Nat)))
    bd (Oma (x1.2.2.2.1, ())) fun y0 => bd (Oma (y0.1, ())) fun y1 => bd (Fqa (((x1.1.1, x1.1.2.1, ()), x1.2.1, x1.2.2.1, x1.2.2.2.1, ()), y1.1, ())) fun y2 => fk z0 (fk z0 (bd (Aka (@List.nil D5, @List.nil D5, y2.1.1.1, y2.1.1.2.1, y2.1.2.1, y2.1.2.2.1, y2.1.2.2.2.1, l0, IntKind.wrap IntKind.i64 ((↑(List.length l0) : Int) - (1 : Int)), ())) fun y3 => sm y3 (fun y4 => fk z0 (some (@List.nil D5, (((0 : Int), (0 : Int), ()), @List.nil D3, ByteArray.empty, @List.nil D0, ()), false, ())) none) fun y5 => fk (decide (List.length y5.2.1 = List.length y5.2.1)) (fk (decide (List.length y5.2.1 = List.length y5.2.1)) (fk (decide (List.length y5.1 = List.length y5.1)) (fk (decide (List.length y5.2.1 = List.length y5.2.1)) (bd (Bea (y5.1, y5.2.1, y5.2.2.1, y5.2.2.2.1, y5.2.2.2.2.1, y5.2.2.2.2.2.1, y5.2.2.2.2.2.2.1, y5.2.2.2.2.2.2.2.1, (0 : Int), IntKind.wrap IntKind.i64 ((↑(List.length y5.2.1) : Int) - (1 : Int)), ())) fun y6 => fk (decide (List.length y6.2.1 = List.length y6.2.1)) (fk (decide (List.length y6.2.1 = List.length y6.2.1)) (some (y6.2.1, ((y6.2.2.1, y6.2.2.2.1, ()), y6.2.2.2.2.1, y6.2.2.2.2.2.1, y6.2.2.2.2.2.2.1, ()), true, ())) none) none) none) none) none) none) none) none
theorem Dbb (l0 x1) : Jla (l0, x1, ()) = Xca l0 x1 jKa lIa bFb := eqF (S := S77) fun _ _ _ => by kernel_rfl
noncomputable def S78 : OCs := addF S77 Tryz.prog 167 Xya (.tuple [(.ty Y0), (.mref 0), (.ty .bool)]) [⟨Y0, 40, 5, true⟩] Jla
theorem Qab : fEb Tryz.prog th S78 := Pzb.addF rfl
abbrev Rha : fCa := ⟨[⟨Y0, 40, 5, true⟩], [], [], [], [.nils, (.mref 0), (.ty (.list Y0)), (.ty (.int .i64)), (.ty (.int .i64))]⟩
abbrev Rua : List sQa := [⟨(.exit 0), ⟨[⟨Y0, 40, 5, true⟩], [], [], [], [.nils, (.mref 0), (.ty (.list Y0)), (.ty (.int .i64)), (.ty (.int .i64))]⟩⟩]
noncomputable def Gma : (List D1) × (List D1) × Int × Int × Unit → Option ((List D1) × (List D1) × Int × Int × Unit) := jTa (pBa (nHa Tryz.prog th (S78 jKa lIa bFb) 127 3 Rha Rua))
noncomputable def Kya (l0 : List D1) (l1 : List D1) (i2 : Int) (i3 : Int) (fk : Fk) (bd : Bd) (sm : Sm) : Option (((List D1) × (List D1) × Int × Int × Unit) ⊕ ((List D1) × (List D1) × Int × Int × Unit)) :=
    let z0 := (List.getD l1 (Int.toNat i3) (((0 : Int), (0 : Int), ()), @List.nil D3, ByteArray.empty, @List.nil D0, ()))
    fk (decide (i3 < i2)) (fk (decide ((0 : Int) ≤ i3)) (fk (decide (i3 < (↑(List.length l1) : Int))) (bd (Jla (@List.nil D5, ((z0.1.1, z0.1.2.1, ()), z0.2.1, z0.2.2.1, z0.2.2.2.1, ()), ())) fun y0 => fk (decide (List.length y0.1 = List.length y0.1)) (fk (decide (List.length l0 = List.length l0)) (fk (decide (List.length (l0 ++ ((y0.2.1.1.1, y0.2.1.1.2.1, ()), y0.2.1.2.1, y0.2.1.2.2.1, y0.2.1.2.2.2.1, ()) :: @List.nil D5) ≤ bBa)) (fk (decide (List.length (l0 ++ ((y0.2.1.1.1, y0.2.1.1.2.1, ()), y0.2.1.2.1, y0.2.1.2.2.1, y0.2.1.2.2.2.1, ()) :: @List.nil D5) = List.length (l0 ++ ((y0.2.1.1.1, y0.2.1.1.2.1, ()), y0.2.1.2.1, y0.2.1.2.2.1, y0.2.1.2.2.2.1, ()) :: @List.nil D5))) (some (Sum.inl (l0 ++ ((y0.2.1.1.1, y0.2.1.1.2.1, ()), y0.2.1.2.1, y0.2.1.2.2.1, y0.2.1.2.2.2.1, ()) :: @List.nil D5, l1, i2, IntKind.wrap IntKind.i64 (i3 + (1 : Int)), ()))) none) none) none) none) none) none) (fk (decide (List.length l0 = List.length l0)) (some (Sum.inr (l0, l1, i2, i3, ()))) none)
theorem Mya (l0 l1 i2 i3) : Gma (l0, l1, i2, i3, ()) = (Kya l0 l1 i2 i3 jKa lIa bFb).bind (Sum.elim Gma some) := eqL (S := S78) fun _ _ _ => by kernel_rfl
noncomputable def S79 : OCs := addL S78 Tryz.prog 127 3 Rha Rua Gma
theorem Qbb : fEb Tryz.prog th S79 := Qab.addL (by kernel_rfl) (by kernel_rfl) (by kernel_rfl) rfl
abbrev Xha : List Shp := [(.ty (.list Y0))]
noncomputable def Pza : (List D1) × Unit → Option ((List D1) × Unit) := jTa (fnT Tryz.prog th (S79 jKa lIa bFb) 127 Xha (.ty (.list Y0)) [])
noncomputable def Wqa (l0 : List D1) (fk : Fk) (bd : Bd) (sm : Sm) : Option ((List D1) × Unit) :=
    fk (decide (List.length (@List.nil D5) = (0 : Nat))) (bd (Gma (@List.nil D5, l0, (↑(List.length l0) : Int), (0 : Int), ())) fun y0 => fk (decide (List.length y0.1 = List.length y0.1)) (some (y0.1, ())) none) none
theorem Bmb (l0) : Pza (l0, ()) = Wqa l0 jKa lIa bFb := eqF (S := S79) fun _ _ _ => by kernel_rfl
noncomputable def S80 : OCs := addF S79 Tryz.prog 127 Xha (.ty (.list Y0)) [] Pza
theorem Qcb : fEb Tryz.prog th S80 := Qbb.addF rfl
abbrev Ooa : fCa := ⟨[⟨Y0, 40, 5, true⟩, ⟨Y0, 40, 5, true⟩], [], [[(.mref 0), (.mref 1)]], [], [(.ty (.list Y3)), .nils, .nils, (.bptr 0 0), (.func 126 [(.bptr 0 0)] []), (.ty (.list Y0)), (.ty (.int .i64)), (.st (.int .i64 0))]⟩
abbrev Pea : List sQa := [⟨.normal, ⟨[⟨Y0, 40, 5, true⟩, ⟨Y0, 40, 5, false⟩], [], [[(.mref 0), (.mref 1)]], [], [(.ty (.list Y3)), .nils, .nils, (.bptr 0 0), (.func 126 [(.bptr 0 0)] []), (.ty (.list Y0)), (.ty (.int .i64)), (.st (.int .i64 1))]⟩⟩, ⟨(.exit 0), ⟨[⟨Y0, 40, 5, true⟩, ⟨Y0, 40, 5, true⟩], [], [[(.mref 0), (.mref 1)]], [], [(.ty (.list Y3)), .nils, .nils, (.bptr 0 0), (.func 126 [(.bptr 0 0)] []), (.ty (.list Y0)), (.ty (.int .i64)), (.st (.int .i64 0))]⟩⟩]
noncomputable def Cha : (List D1) × (List D1) × (List D3) × (List D1) × Int × Unit → Option (D28 ⊕ D28) := jTa (pBa (nHa Tryz.prog th (S80 jKa lIa bFb) 81 4 Ooa Pea))
noncomputable def Gga (l0 : List D1) (l1 : List D1) (l2 : List D3) (l3 : List D1) (i4 : Int) (fk : Fk) (bd : Bd) (sm : Sm) : Option (D28 ⊕ (D28 ⊕ D28)) :=
    let z0 := (List.getD l3 (Int.toNat (0 : Int)) (((0 : Int), (0 : Int), ()), @List.nil D3, ByteArray.empty, @List.nil D0, ()))
    let z3 := ((z0.1.1, z0.1.2.1, ()), z0.2.1, z0.2.2.1, z0.2.2.2.1, ())
    let z1 := (l1 ++ z3 :: @List.nil D5)
    let z2 := (fk (decide (List.length l1 = List.length l1)) (fk (decide (List.length z1 ≤ bBa)) (fk (decide (List.length l0 = List.length l0)) (fk (decide (List.length z1 = List.length z1)) (some (Sum.inr (Sum.inl (l0, l1 ++ z3 :: @List.nil D5, l2, l3, i4, ())))) none) none) none) none)
    fk (decide ((0 : Int) < i4)) (fk (decide ((0 : Int) < (↑(List.length l3) : Int))) (bd (Cda (l2, (z0.1.1, z0.1.2.1, ()), ())) fun y0 => fk (decide (List.length l1 = List.length l1)) (bd (Jla (l1, z3, ())) fun y1 => fk y0.1 z2 (fk (!y1.2.2.1) z2 (fk (decide (List.length l0 = List.length l0)) (fk (decide (List.length (l0 ++ ((y1.2.1.1.1, y1.2.1.1.2.1, ()), y1.2.1.2.1, y1.2.1.2.2.1, y1.2.1.2.2.2.1, ()) :: @List.nil D5) ≤ bBa)) (fk (decide (List.length (l0 ++ ((y1.2.1.1.1, y1.2.1.1.2.1, ()), y1.2.1.2.1, y1.2.1.2.2.1, y1.2.1.2.2.2.1, ()) :: @List.nil D5) = List.length (l0 ++ ((y1.2.1.1.1, y1.2.1.1.2.1, ()), y1.2.1.2.1, y1.2.1.2.2.1, y1.2.1.2.2.2.1, ()) :: @List.nil D5))) (fk (decide (List.length y1.1 = List.length y1.1)) (some (Sum.inr (Sum.inl (l0 ++ ((y1.2.1.1.1, y1.2.1.1.2.1, ()), y1.2.1.2.1, y1.2.1.2.2.1, y1.2.1.2.2.2.1, ()) :: @List.nil D5, y1.1, l2, l3, i4, ())))) none) none) none) none))) none) none) (fk (decide (List.length l0 = List.length l0)) (fk (decide (List.length l1 = List.length l1)) (some (Sum.inr (Sum.inr (l0, l1, l2, l3, i4, ())))) none) none)
theorem Hra (l0 l1 l2 l3 i4) : Cha (l0, l1, l2, l3, i4, ()) = (Gga l0 l1 l2 l3 i4 jKa lIa bFb).bind (Sum.elim Cha some) := eqL (S := S80) fun _ _ _ => by kernel_rfl
noncomputable def S81 : OCs := addL S80 Tryz.prog 81 4 Ooa Pea Cha
theorem Qdb : fEb Tryz.prog th S81 := Qcb.addL (by kernel_rfl) (by kernel_rfl) (by kernel_rfl) rfl
abbrev Nda : fCa := ⟨[⟨Y0, 40, 5, true⟩, ⟨Y0, 40, 5, false⟩], [], [[(.mref 0), (.mref 1)]], [], [(.ty (.list Y3)), .nils, .nils, (.bptr 0 0), (.func 126 [(.bptr 0 0)] []), (.ty (.list Y0)), (.ty (.int .i64)), (.ty (.int .i64))]⟩
abbrev Nia : List sQa := [⟨(.exit 0), ⟨[⟨Y0, 40, 5, true⟩, ⟨Y0, 40, 5, false⟩], [], [[(.mref 0), (.mref 1)]], [], [(.ty (.list Y3)), .nils, .nils, (.bptr 0 0), (.func 126 [(.bptr 0 0)] []), (.ty (.list Y0)), (.ty (.int .i64)), (.ty (.int .i64))]⟩⟩]
noncomputable def Cqa : (List D1) × (List D1) × (List D3) × (List D1) × Int × Int × Unit → Option ((List D1) × (List D1) × (List D3) × (List D1) × Int × Int × Unit) := jTa (pBa (nHa Tryz.prog th (S81 jKa lIa bFb) 81 4 Nda Nia))
noncomputable def Fna (l0 : List D1) (l1 : List D1) (l2 : List D3) (l3 : List D1) (i4 : Int) (i5 : Int) (fk : Fk) (bd : Bd) (sm : Sm) : Option (((List D1) × (List D1) × (List D3) × (List D1) × Int × Int × Unit) ⊕ ((List D1) × (List D1) × (List D3) × (List D1) × Int × Int × Unit)) :=
    let z0 := (List.getD l3 (Int.toNat i5) (((0 : Int), (0 : Int), ()), @List.nil D3, ByteArray.empty, @List.nil D0, ()))
    let z3 := ((z0.1.1, z0.1.2.1, ()), z0.2.1, z0.2.2.1, z0.2.2.2.1, ())
    let z2 := (l1 ++ z3 :: @List.nil D5)
    let z1 := (fk (decide (List.length l1 = List.length l1)) (fk (decide (List.length z2 ≤ bBa)) (fk (decide (List.length l0 = List.length l0)) (fk (decide (List.length z2 = List.length z2)) (some (Sum.inl (l0, l1 ++ z3 :: @List.nil D5, l2, l3, i4, IntKind.wrap IntKind.i64 (i5 + (1 : Int)), ()))) none) none) none) none)
    fk (decide (i5 < i4)) (fk (decide ((0 : Int) ≤ i5)) (fk (decide (i5 < (↑(List.length l3) : Int))) (bd (Cda (l2, (z0.1.1, z0.1.2.1, ()), ())) fun y0 => fk (decide (List.length l1 = List.length l1)) (bd (Jla (l1, z3, ())) fun y1 => fk y0.1 z1 (fk (!y1.2.2.1) z1 (fk (decide (List.length l0 = List.length l0)) (fk (decide (List.length (l0 ++ ((y1.2.1.1.1, y1.2.1.1.2.1, ()), y1.2.1.2.1, y1.2.1.2.2.1, y1.2.1.2.2.2.1, ()) :: @List.nil D5) ≤ bBa)) (fk (decide (List.length (l0 ++ ((y1.2.1.1.1, y1.2.1.1.2.1, ()), y1.2.1.2.1, y1.2.1.2.2.1, y1.2.1.2.2.2.1, ()) :: @List.nil D5) = List.length (l0 ++ ((y1.2.1.1.1, y1.2.1.1.2.1, ()), y1.2.1.2.1, y1.2.1.2.2.1, y1.2.1.2.2.2.1, ()) :: @List.nil D5))) (fk (decide (List.length y1.1 = List.length y1.1)) (some (Sum.inl (l0 ++ ((y1.2.1.1.1, y1.2.1.1.2.1, ()), y1.2.1.2.1, y1.2.1.2.2.1, y1.2.1.2.2.2.1, ()) :: @List.nil D5, y1.1, l2, l3, i4, IntKind.wrap IntKind.i64 (i5 + (1 : Int)), ()))) none) none) none) none))) none) none) none) (fk (decide (List.length l0 = List.length l0)) (fk (decide (List.length l1 = List.length l1)) (some (Sum.inr (l0, l1, l2, l3, i4, i5, ()))) none) none)
theorem Gla (l0 l1 l2 l3 i4 i5) : Cqa (l0, l1, l2, l3, i4, i5, ()) = (Fna l0 l1 l2 l3 i4 i5 jKa lIa bFb).bind (Sum.elim Cqa some) := eqL (S := S81) fun _ _ _ => by kernel_rfl
noncomputable def S82 : OCs := addL S81 Tryz.prog 81 4 Nda Nia Cqa
theorem Qeb : fEb Tryz.prog th S82 := Qdb.addL (by kernel_rfl) (by kernel_rfl) (by kernel_rfl) rfl
abbrev Vka : List Shp := [(.ty (.list Y0)), (.ty (.list Y3))]
noncomputable def Mda : (List D1) × (List D3) × Unit → Option ((List D1) × (List D1) × Unit) := jTa (fnT Tryz.prog th (S82 jKa lIa bFb) 81 Vka (.tuple [(.mref 0), (.ty (.list Y0))]) [⟨Y0, 40, 5, true⟩])
noncomputable def Kna (l0 : List D1) (l1 : List D3) (fk : Fk) (bd : Bd) (sm : Sm) : Option ((List D1) × (List D1) × Unit) :=
    let z0 := (decide (List.length (@List.nil D5) = (0 : Nat)))
    bd (Pza (l0, ())) fun y0 => fk z0 (fk z0 (bd (Cha (@List.nil D5, @List.nil D5, l1, y0.1, (↑(List.length y0.1) : Int), ())) fun y1 => sm y1 (fun y2 => fk (decide (List.length y2.1 = List.length y2.1)) (fk (decide (List.length y2.2.1 = List.length y2.2.1)) (bd (Cqa (y2.1, y2.2.1, y2.2.2.1, y2.2.2.2.1, y2.2.2.2.2.1, (1 : Int), ())) fun y3 => fk (decide (List.length y3.1 = List.length y3.1)) (fk (decide (List.length y3.2.1 = List.length y3.2.1)) (fk (decide (List.length y3.1 = List.length y3.1)) (some (y3.1, y3.2.1, ())) none) none) none) none) none) fun y4 => fk (decide (List.length y4.1 = List.length y4.1)) (fk (decide (List.length y4.2.1 = List.length y4.2.1)) (fk (decide (List.length y4.1 = List.length y4.1)) (some (y4.1, y4.2.1, ())) none) none) none) none) none
theorem Zha (l0 l1) : Mda (l0, l1, ()) = Kna l0 l1 jKa lIa bFb := eqF (S := S82) fun _ _ _ => by kernel_rfl
noncomputable def S83 : OCs := addF S82 Tryz.prog 81 Vka (.tuple [(.mref 0), (.ty (.list Y0))]) [⟨Y0, 40, 5, true⟩] Mda
theorem Qfb : fEb Tryz.prog th S83 := Qeb.addF rfl
abbrev Dtb : List Shp := [(.ty Y2)]
noncomputable def Qqa : (List D2) × Unit → Option D36 := jTa (fnT Tryz.prog th (S83 jKa lIa bFb) 58 Dtb (.ty Y2) [])
noncomputable def Dkb (l0 : List D2) (fk : Fk) (bd : Bd) (sm : Sm) : Option D36 :=
    bd (Qua (l0, ByteArray.empty, ())) fun y0 => some (y0.1, ())
theorem Gib (l0) : Qqa (l0, ()) = Dkb l0 jKa lIa bFb := eqF (S := S83) fun _ _ _ => by kernel_rfl
noncomputable def S84 : OCs := addF S83 Tryz.prog 58 Dtb (.ty Y2) [] Qqa
theorem Qgb : fEb Tryz.prog th S84 := Qfb.addF rfl
abbrev Aub : List Shp := [(.ty Y4), (.ty Y2)]
noncomputable def Ppa : D6 × (List D2) × Unit → Option D23 := jTa (fnT Tryz.prog th (S84 jKa lIa bFb) 22 Aub (.tuple [(.ty Y4), (.ty (.int .i64))]) [])
noncomputable def Aib (x0 : Int × (List D1) × (List D2) × (List D2) × Int × Unit) (l1 : List D2) (fk : Fk) (bd : Bd) (sm : Sm) : Option D23 :=
    let z0 := (some (((0 : Int), @List.nil D5, @List.nil D2, @List.nil D2, (0 : Int), ()), (1 : Int), ()))
    bd (Qpa ((x0.1, x0.2.1, x0.2.2.1, x0.2.2.2.1, x0.2.2.2.2.1, ()), ())) fun y0 => fk (!y0.1) z0 (bd (Kwa (l1, ())) fun y1 => fk (!y1.1) z0 (bd (Mda (x0.2.1, @List.nil D3, ())) fun y2 => bd (Qqa (x0.2.2.1, ())) fun y3 => bd (Qqa (x0.2.2.2.1, ())) fun y4 => bd (Qqa (l1, ())) fun y5 => fk (decide (List.length y2.1 = List.length y2.1)) (some ((x0.1, y2.1, y3.1, y5.1, x0.2.2.2.2.1, ()), (0 : Int), ())) none))
theorem Fcb (x0 l1) : Ppa (x0, l1, ()) = Aib x0 l1 jKa lIa bFb := eqF (S := S84) fun _ _ _ => by kernel_rfl
noncomputable def S85 : OCs := addF S84 Tryz.prog 22 Aub (.tuple [(.ty Y4), (.ty (.int .i64))]) [] Ppa
theorem Qhb : fEb Tryz.prog th S85 := Qgb.addF rfl
abbrev Hna : fCa := ⟨[], [], [], [], [(.ty (.list Y2)), .nils, (.ty (.int .i64)), (.ty (.list Y2)), (.ty (.int .i64)), (.ty (.int .i64))]⟩
abbrev Hoa : List sQa := [⟨(.exit 0), ⟨[], [], [], [], [(.ty (.list Y2)), .nils, (.ty (.int .i64)), (.ty (.list Y2)), (.ty (.int .i64)), (.ty (.int .i64))]⟩⟩]
noncomputable def Boa : (List (List D2)) × Int × (List (List D2)) × Int × Int × Unit → Option ((List (List D2)) × Int × (List (List D2)) × Int × Int × Unit) := jTa (pBa (nHa Tryz.prog th (S85 jKa lIa bFb) 155 3 Hna Hoa))
noncomputable def Dca (l0 : List (List D2)) (i1 : Int) (l2 : List (List D2)) (i3 : Int) (i4 : Int) (fk : Fk) (bd : Bd) (sm : Sm) : Option (((List (List D2)) × Int × (List (List D2)) × Int × Int × Unit) ⊕ ((List (List D2)) × Int × (List (List D2)) × Int × Int × Unit)) :=
    fk (decide (i4 < i3)) (fk (decide ((0 : Int) ≤ i4)) (fk (decide (i4 < (↑(List.length l2) : Int))) (fk (decide (IntKind.wrap IntKind.i64 (i1 + (↑(List.length (List.getD l2 (Int.toNat i4) (@List.nil D2))) : Int)) < (0 : Int))) none (some (Sum.inl (l0, IntKind.wrap IntKind.i64 (i1 + (↑(List.length (List.getD l2 (Int.toNat i4) (@List.nil D2))) : Int)), l2, i3, IntKind.wrap IntKind.i64 (i4 + (1 : Int)), ())))) none) none) (some (Sum.inr (l0, i1, l2, i3, i4, ())))
theorem Gfa (l0 i1 l2 i3 i4) : Boa (l0, i1, l2, i3, i4, ()) = (Dca l0 i1 l2 i3 i4 jKa lIa bFb).bind (Sum.elim Boa some) := eqL (S := S85) fun _ _ _ => by kernel_rfl
noncomputable def S86 : OCs := addL S85 Tryz.prog 155 3 Hna Hoa Boa
theorem Qib : fEb Tryz.prog th S86 := Qhb.addL (by kernel_rfl) (by kernel_rfl) (by kernel_rfl) rfl
abbrev Gpa : fCa := ⟨[⟨Y6, 98, 2, true⟩, ⟨Y6, 98, 2, true⟩], [], [], [], [.nils, (.mview 1 2), (.ty (.list Y2)), (.ty (.int .i64)), (.ty (.int .i64))]⟩
abbrev Gua : List sQa := [⟨(.exit 2), ⟨[⟨Y6, 98, 2, true⟩, ⟨Y6, 98, 2, true⟩], [], [], [], [.nils, (.mview 1 2), (.ty (.list Y2)), (.ty (.int .i64)), (.ty (.int .i64))]⟩⟩]
noncomputable def Bia : (List D2) × (List D2) × Nat × Nat × (List (List D2)) × Int × Int × Unit → Option ((List D2) × (List D2) × Nat × Nat × (List (List D2)) × Int × Int × Unit) := jTa (pBa (nHa Tryz.prog th (S86 jKa lIa bFb) 155 11 Gpa Gua))
noncomputable def Csa (l0 : List D2) (l1 : List D2) (n2 : Nat) (n3 : Nat) (l4 : List (List D2)) (i5 : Int) (i6 : Int) (fk : Fk) (bd : Bd) (sm : Sm) : Option (((List D2) × (List D2) × Nat × Nat × (List (List D2)) × Int × Int × Unit) ⊕ ((List D2) × (List D2) × Nat × Nat × (List (List D2)) × Int × Int × Unit)) :=
    let z0 := (List.getD l4 (Int.toNat i6) (@List.nil D2))
    fk (decide (i6 < i5)) (fk (decide ((0 : Int) ≤ i6)) (fk (decide (i6 < (↑(List.length l4) : Int))) (fk (decide (List.length l1 = List.length l1)) (fk (decide (n2 ≤ n3)) (fk (decide (n3 + List.length z0 ≤ List.length l1)) (fk (decide (List.length (hYb l1 n3 z0) = List.length l1)) (some (Sum.inl (l0, hYb l1 n3 z0, n2, n3 + List.length z0, l4, i5, IntKind.wrap IntKind.i64 (i6 + (1 : Int)), ()))) none) none) none) none) none) none) (fk (decide (List.length l1 = List.length l1)) (some (Sum.inr (l0, l1, n2, n3, l4, i5, i6, ()))) none)
theorem Fja (l0 l1 n2 n3 l4 i5 i6) : Bia (l0, l1, n2, n3, l4, i5, i6, ()) = (Csa l0 l1 n2 n3 l4 i5 i6 jKa lIa bFb).bind (Sum.elim Bia some) := eqL (S := S86) fun _ _ _ => by kernel_rfl
noncomputable def S87 : OCs := addL S86 Tryz.prog 155 11 Gpa Gua Bia
theorem Qjb : fEb Tryz.prog th S87 := Qib.addL (by kernel_rfl) (by kernel_rfl) (by kernel_rfl) rfl
abbrev Fwa : fCa := ⟨[⟨Y6, 98, 2, true⟩, ⟨Y6, 98, 2, true⟩], [], [], [], [.nils, (.mref 1), (.ty (.list Y2)), (.ty (.int .i64)), (.ty (.int .i64))]⟩
abbrev Gba : List sQa := [⟨(.exit 2), ⟨[⟨Y6, 98, 2, true⟩, ⟨Y6, 98, 2, true⟩], [], [], [], [.nils, (.mref 1), (.ty (.list Y2)), (.ty (.int .i64)), (.ty (.int .i64))]⟩⟩]
noncomputable def Bba : (List D2) × (List D2) × (List (List D2)) × Int × Int × Unit → Option ((List D2) × (List D2) × (List (List D2)) × Int × Int × Unit) := jTa (pBa (nHa Tryz.prog th (S87 jKa lIa bFb) 155 11 Fwa Gba))
noncomputable def Cna (l0 : List D2) (l1 : List D2) (l2 : List (List D2)) (i3 : Int) (i4 : Int) (fk : Fk) (bd : Bd) (sm : Sm) : Option (((List D2) × (List D2) × (List (List D2)) × Int × Int × Unit) ⊕ ((List D2) × (List D2) × (List (List D2)) × Int × Int × Unit)) :=
    let z0 := (l1 ++ List.getD l2 (Int.toNat i4) (@List.nil D2))
    fk (decide (i4 < i3)) (fk (decide ((0 : Int) ≤ i4)) (fk (decide (i4 < (↑(List.length l2) : Int))) (fk (decide (List.length l1 = List.length l1)) (fk (decide (List.length z0 ≤ bBa)) (fk (decide (List.length z0 = List.length z0)) (some (Sum.inl (l0, l1 ++ List.getD l2 (Int.toNat i4) (@List.nil D2), l2, i3, IntKind.wrap IntKind.i64 (i4 + (1 : Int)), ()))) none) none) none) none) none) (fk (decide (List.length l1 = List.length l1)) (some (Sum.inr (l0, l1, l2, i3, i4, ()))) none)
theorem Epa (l0 l1 l2 i3 i4) : Bba (l0, l1, l2, i3, i4, ()) = (Cna l0 l1 l2 i3 i4 jKa lIa bFb).bind (Sum.elim Bba some) := eqL (S := S87) fun _ _ _ => by kernel_rfl
noncomputable def S88 : OCs := addL S87 Tryz.prog 155 11 Fwa Gba Bba
theorem Qkb : fEb Tryz.prog th S88 := Qjb.addL (by kernel_rfl) (by kernel_rfl) (by kernel_rfl) rfl
abbrev Jta : List Shp := [(.ty (.list Y2))]
noncomputable def Cca : (List (List D2)) × Unit → Option D36 := jTa (fnT Tryz.prog th (S88 jKa lIa bFb) 155 Jta (.ty Y2) [])
noncomputable def Fsa (l0 : List (List D2)) (fk : Fk) (bd : Bd) (sm : Sm) : Option D36 :=
    let z0 := ((0 : Int) - (↑(0 : Nat) : Int))
    let z1 := (ByteArray.empty, @List.nil ByteArray, ())
    bd (Boa (l0, (0 : Int), l0, (↑(List.length l0) : Int), (0 : Int), ())) fun y0 => fk (decide (y0.2.1 < (0 : Int))) none (fk (decide (IntKind.wrap IntKind.i64 (y0.2.1 - IntKind.wrap IntKind.i64 z0) > (0 : Int))) (fk (decide ((0 : Int) ≤ (↑(0 : Nat) : Int))) (fk (decide ((0 : Int) < IntKind.wrap IntKind.i64 (y0.2.1 - IntKind.wrap IntKind.i64 z0))) (fk (decide (IntKind.wrap IntKind.i64 (y0.2.1 - IntKind.wrap IntKind.i64 z0) ≤ (↑bBa : Int))) (fk (decide (List.length (List.replicate (Int.toNat (IntKind.wrap IntKind.i64 (y0.2.1 - IntKind.wrap IntKind.i64 z0))) z1) = List.length (List.replicate (Int.toNat (IntKind.wrap IntKind.i64 (y0.2.1 - IntKind.wrap IntKind.i64 z0))) z1))) (fk (decide ((↑(0 : Nat) : Int) ≤ (↑(List.length (List.replicate (Int.toNat (IntKind.wrap IntKind.i64 (y0.2.1 - IntKind.wrap IntKind.i64 z0))) z1) - (0 : Nat)) : Int))) (fk (decide (List.length (List.replicate (Int.toNat (IntKind.wrap IntKind.i64 (y0.2.1 - IntKind.wrap IntKind.i64 z0))) z1) = List.length (List.replicate (Int.toNat (IntKind.wrap IntKind.i64 (y0.2.1 - IntKind.wrap IntKind.i64 z0))) z1))) (bd (Bia (@List.nil D2, List.replicate (Int.toNat (IntKind.wrap IntKind.i64 (y0.2.1 - IntKind.wrap IntKind.i64 z0))) z1, (0 : Nat) + (0 : Nat), (0 : Nat) + Int.toNat (↑(0 : Nat) : Int), y0.1, (↑(List.length y0.1) : Int), (0 : Int), ())) fun y1 => fk (decide (List.length y1.2.1 = List.length y1.2.1)) (fk (decide (y1.2.2.1 ≤ y1.2.2.2.1)) (fk (decide (y1.2.2.2.1 ≤ List.length y1.2.1)) (some (List.take (y1.2.2.2.1 - y1.2.2.1) (List.drop y1.2.2.1 y1.2.1), ())) none) none) none) none) none) none) none) none) none) (fk (decide (List.length (@List.nil D2) = (0 : Nat))) (bd (Bba (@List.nil D2, @List.nil D2, y0.1, (↑(List.length y0.1) : Int), (0 : Int), ())) fun y2 => fk (decide (List.length y2.2.1 = List.length y2.2.1)) (some (y2.2.1, ())) none) none))
theorem Pqa (l0) : Cca (l0, ()) = Fsa l0 jKa lIa bFb := eqF (S := S88) fun _ _ _ => by kernel_rfl
noncomputable def S89 : OCs := addF S88 Tryz.prog 155 Jta (.ty Y2) [] Cca
theorem Qlb : fEb Tryz.prog th S89 := Qkb.addF rfl
abbrev Rpa : fCa := ⟨[⟨.str, 9, 1, true⟩], [(.str, .bool)], [], [], [.nils, (.mapr 0), (.mref 0), (.ty Y2), (.ty (.int .i64)), (.ty (.int .i64))]⟩
abbrev Sca : List sQa := [⟨(.exit 0), ⟨[⟨.str, 9, 1, true⟩], [(.str, .bool)], [], [], [.nils, (.mapr 0), (.mref 0), (.ty Y2), (.ty (.int .i64)), (.ty (.int .i64))]⟩⟩]
noncomputable def Hka : List ByteArray × (List (ByteArray × Bool)) × (List D2) × Int × Int × Unit → Option (List ByteArray × (List (ByteArray × Bool)) × (List D2) × Int × Int × Unit) := jTa (pBa (nHa Tryz.prog th (S89 jKa lIa bFb) 117 4 Rpa Sca))
noncomputable def Ida (l0 : List ByteArray) (m1 : List (ByteArray × Bool)) (l2 : List D2) (i3 : Int) (i4 : Int) (fk : Fk) (bd : Bd) (sm : Sm) : Option ((List ByteArray × (List (ByteArray × Bool)) × (List D2) × Int × Int × Unit) ⊕ (List ByteArray × (List (ByteArray × Bool)) × (List D2) × Int × Int × Unit)) :=
    let z0 := (List.getD l2 (Int.toNat i4) (ByteArray.empty, @List.nil ByteArray, ()))
    fk (decide (i4 < i3)) (fk (decide ((0 : Int) ≤ i4)) (fk (decide (i4 < (↑(List.length l2) : Int))) (fk (!nMb Ty.str Ty.bool z0.1 false m1) (fk (decide (List.length m1 < bBa)) (fk (decide (List.length l0 = List.length l0)) (fk (decide (List.length (l0 ++ z0.1 :: @List.nil ByteArray) ≤ bBa)) (fk (decide (List.length (l0 ++ z0.1 :: @List.nil ByteArray) = List.length (l0 ++ z0.1 :: @List.nil ByteArray))) (some (Sum.inl (l0 ++ z0.1 :: @List.nil ByteArray, qLb Ty.str Ty.bool z0.1 true m1, l2, i3, IntKind.wrap IntKind.i64 (i4 + (1 : Int)), ()))) none) none) none) none) (fk (decide (List.length l0 = List.length l0)) (some (Sum.inl (l0, m1, l2, i3, IntKind.wrap IntKind.i64 (i4 + (1 : Int)), ()))) none)) none) none) (fk (decide (List.length l0 = List.length l0)) (some (Sum.inr (l0, m1, l2, i3, i4, ()))) none)
theorem Nta (l0 m1 l2 i3 i4) : Hka (l0, m1, l2, i3, i4, ()) = (Ida l0 m1 l2 i3 i4 jKa lIa bFb).bind (Sum.elim Hka some) := eqL (S := S89) fun _ _ _ => by kernel_rfl
noncomputable def S90 : OCs := addL S89 Tryz.prog 117 4 Rpa Sca Hka
theorem Qmb : fEb Tryz.prog th S90 := Qlb.addL (by kernel_rfl) (by kernel_rfl) (by kernel_rfl) rfl
abbrev Yaa : List Shp := [(.ty Y2), (.ty Y2)]
noncomputable def Qva : (List D2) × (List D2) × Unit → Option (List ByteArray × Unit) := jTa (fnT Tryz.prog th (S90 jKa lIa bFb) 117 Yaa (.ty (.list .str)) [])
noncomputable def Xga (l0 : List D2) (l1 : List D2) (fk : Fk) (bd : Bd) (sm : Sm) : Option (List ByteArray × Unit) :=
    bd (Cca (l0 :: l1 :: @List.nil (List D2), ())) fun y0 => fk (decide (List.length (@List.nil ByteArray) = (0 : Nat))) (bd (Hka (@List.nil ByteArray, @List.nil (ByteArray × Bool), y0.1, (↑(List.length y0.1) : Int), (0 : Int), ())) fun y1 => fk (decide (List.length y1.1 = List.length y1.1)) (fk (decide (List.length y1.1 ≤ bBa)) (fk (decide (List.length (lSa y1.1) = List.length y1.1)) (some (lSa y1.1, ())) none) none) none) none
theorem Ddb (l0 l1) : Qva (l0, l1, ()) = Xga l0 l1 jKa lIa bFb := eqF (S := S90) fun _ _ _ => by kernel_rfl
noncomputable def S91 : OCs := addF S90 Tryz.prog 117 Yaa (.ty (.list .str)) [] Qva
theorem Qnb : fEb Tryz.prog th S91 := Qmb.addF rfl
abbrev Vta : fCa := ⟨[⟨(.list (.int .i64)), 265, 1, true⟩, ⟨(.int .i64), 3, 1, false⟩, ⟨(.int .i64), 3, 1, true⟩], [], [], [], [(.ty (.list .str)), (.ty (.list .str)), .nils, (.mref 0), (.ty (.list (.int .i64))), (.ty (.int .i64)), (.mref 2), (.ty (.int .i64))]⟩
abbrev Vza : List sQa := [⟨(.exit 2), ⟨[⟨(.list (.int .i64)), 265, 1, true⟩, ⟨(.int .i64), 3, 1, false⟩, ⟨(.int .i64), 3, 1, true⟩], [], [], [], [(.ty (.list .str)), (.ty (.list .str)), .nils, (.mref 0), (.ty (.list (.int .i64))), (.ty (.int .i64)), (.mref 2), (.ty (.int .i64))]⟩⟩]
noncomputable def Hsa : List (List Int) × List Int × List Int × List ByteArray × List ByteArray × List Int × Int × Int × Unit → Option D32 := jTa (pBa (nHa Tryz.prog th (S91 jKa lIa bFb) 242 9 Vta Vza))
noncomputable def Fua (l0 : List (List Int)) (l1 : List Int) (l2 : List Int) (l3 : List ByteArray) (l4 : List ByteArray) (l5 : List Int) (i6 : Int) (i7 : Int) (fk : Fk) (bd : Bd) (sm : Sm) : Option (D32 ⊕ D32) :=
    let z2 := (IntKind.wrap IntKind.i64 (i7 + (1 : Int)))
    let z0 := (bif decide (List.getD l5 (Int.toNat i7) (0 : Int) < List.getD l2 (Int.toNat z2) (Ty.dfl (Ty.int IntKind.i64))) then List.getD l2 (Int.toNat z2) (Ty.dfl (Ty.int IntKind.i64)) else List.getD l5 (Int.toNat i7) (0 : Int))
    let z1 := (decide (List.length l2 = List.length l2))
    fk (decide (i7 ≥ (0 : Int))) (fk (decide (i6 < (↑(List.length l3) : Int))) (fk (decide ((0 : Int) ≤ i7)) (fk (decide (i7 < (↑(List.length l5) : Int))) (fk (decide ((0 : Int) ≤ IntKind.wrap IntKind.i64 (i7 + (1 : Int)))) (fk z1 (fk (decide (IntKind.wrap IntKind.i64 (i7 + (1 : Int)) < (↑(List.length l2) : Int))) (fk z1 (fk (decide (Int.toNat z2 < List.length l2)) (fk (decide ((0 : Int) ≤ i7)) (fk z1 (fk (decide (i7 < (↑(List.length l2) : Int))) (fk z1 (fk (decide (Int.toNat i7 < List.length l2)) (fk (decide ((0 : Int) ≤ i6)) (fk (decide (i6 < (↑(List.length l3) : Int))) (fk (decide ((0 : Int) ≤ i7)) (fk (decide (i7 < (↑(List.length l4) : Int))) (fk (ByteArray.toList (List.getD l3 (Int.toNat i6) ByteArray.empty) == ByteArray.toList (List.getD l4 (Int.toNat i7) ByteArray.empty)) (fk (decide ((0 : Int) ≤ IntKind.wrap IntKind.i64 (i7 + (1 : Int)))) (fk (decide (IntKind.wrap IntKind.i64 (i7 + (1 : Int)) < (↑(List.length l5) : Int))) (fk (decide ((0 : Int) ≤ i7)) (fk (decide (List.length (List.set l2 (Int.toNat i7) z0) = List.length l2)) (fk (decide (i7 < (↑(List.length l2) : Int))) (fk (decide (List.length (List.set l2 (Int.toNat i7) z0) = List.length l2)) (fk (decide (Int.toNat i7 < List.length l2)) (fk (decide (List.length l0 = List.length l0)) (fk (decide (List.length (List.set (List.set l2 (Int.toNat i7) z0) (Int.toNat i7) (IntKind.wrap IntKind.i64 (List.getD l5 (Int.toNat z2) (0 : Int) + (1 : Int)))) = List.length l2)) (some (Sum.inl (l0, l1, List.set (List.set l2 (Int.toNat i7) z0) (Int.toNat i7) (IntKind.wrap IntKind.i64 (List.getD l5 (Int.toNat z2) (0 : Int) + (1 : Int))), l3, l4, l5, i6, IntKind.wrap IntKind.i64 (i7 - (1 : Int)), ()))) none) none) none) none) none) none) none) none) none) (fk (decide (List.length l0 = List.length l0)) (fk (decide (List.length (List.set l2 (Int.toNat i7) z0) = List.length l2)) (some (Sum.inl (l0, l1, List.set l2 (Int.toNat i7) z0, l3, l4, l5, i6, IntKind.wrap IntKind.i64 (i7 - (1 : Int)), ()))) none) none)) none) none) none) none) none) none) none) none) none) none) none) none) none) none) none) none) (fk (decide (List.length l0 = List.length l0)) (fk z1 (some (Sum.inr (l0, l1, l2, l3, l4, l5, i6, i7, ()))) none) none)) (fk (decide (List.length l0 = List.length l0)) (fk z1 (some (Sum.inr (l0, l1, l2, l3, l4, l5, i6, i7, ()))) none) none)
theorem Kza (l0 l1 l2 l3 l4 l5 i6 i7) : Hsa (l0, l1, l2, l3, l4, l5, i6, i7, ()) = (Fua l0 l1 l2 l3 l4 l5 i6 i7 jKa lIa bFb).bind (Sum.elim Hsa some) := eqL (S := S91) fun _ _ _ => by kernel_rfl
noncomputable def S92 : OCs := addL S91 Tryz.prog 242 9 Vta Vza Hsa
theorem Qob : fEb Tryz.prog th S92 := Qnb.addL (by kernel_rfl) (by kernel_rfl) (by kernel_rfl) rfl
abbrev Vsa : fCa := ⟨[⟨(.list (.int .i64)), 265, 1, true⟩, ⟨(.int .i64), 3, 1, false⟩], [], [], [], [(.ty (.list .str)), (.ty (.list .str)), .nils, (.mref 0), (.ty (.list (.int .i64))), (.ty (.int .i64))]⟩
abbrev Vya : List sQa := [⟨(.exit 0), ⟨[⟨(.list (.int .i64)), 265, 1, true⟩, ⟨(.int .i64), 3, 1, false⟩], [], [], [], [(.ty (.list .str)), (.ty (.list .str)), .nils, (.mref 0), (.ty (.list (.int .i64))), (.ty (.int .i64))]⟩⟩]
noncomputable def Kea : List (List Int) × List Int × List ByteArray × List ByteArray × List Int × Int × Unit → Option (List (List Int) × List Int × List ByteArray × List ByteArray × List Int × Int × Unit) := jTa (pBa (nHa Tryz.prog th (S92 jKa lIa bFb) 242 4 Vsa Vya))
noncomputable def Oaa (l0 : List (List Int)) (l1 : List Int) (l2 : List ByteArray) (l3 : List ByteArray) (l4 : List Int) (i5 : Int) (fk : Fk) (bd : Bd) (sm : Sm) : Option ((List (List Int) × List Int × List ByteArray × List ByteArray × List Int × Int × Unit) ⊕ (List (List Int) × List Int × List ByteArray × List ByteArray × List Int × Int × Unit)) :=
    let z1 := ((↑(List.length l3) : Int) + (1 : Int))
    let z0 := (List.replicate (Int.toNat (IntKind.wrap IntKind.i64 z1)) (0 : Int))
    fk (decide (i5 ≥ (0 : Int))) (fk (decide (IntKind.wrap IntKind.i64 z1 = IntKind.wrap IntKind.i64 z1)) (fk (decide ((0 : Int) ≤ IntKind.wrap IntKind.i64 z1)) (fk (decide (IntKind.wrap IntKind.i64 z1 ≤ (↑bBa : Int))) (fk (decide (List.length z0 = List.length z0)) (fk (decide (List.length l0 = List.length l0)) (fk (decide (List.length (hYb z0 (0 : Nat) (List.take (List.length z0 - (0 : Nat)) l4)) = List.length z0)) (bd (Hsa (l0, l1, hYb z0 (0 : Nat) (List.take (List.length z0 - (0 : Nat)) l4), l2, l3, l4, i5, IntKind.wrap IntKind.i64 ((↑(List.length l3) : Int) - (1 : Int)), ())) fun y0 => fk (decide ((0 : Int) ≤ y0.2.2.2.2.2.2.1)) (fk (decide (List.length y0.1 = List.length y0.1)) (fk (decide (y0.2.2.2.2.2.2.1 < (↑(List.length y0.1) : Int))) (fk (decide (List.length y0.2.2.1 = List.length y0.2.2.1)) (fk (decide (List.length y0.1 = List.length y0.1)) (fk (decide (Int.toNat y0.2.2.2.2.2.2.1 < List.length y0.1)) (fk (decide (List.length y0.2.2.1 = List.length y0.2.2.1)) (fk (decide (List.length (List.set y0.1 (Int.toNat y0.2.2.2.2.2.2.1) y0.2.2.1) = List.length y0.1)) (some (Sum.inl (List.set y0.1 (Int.toNat y0.2.2.2.2.2.2.1) y0.2.2.1, y0.2.1, y0.2.2.2.1, y0.2.2.2.2.1, y0.2.2.1, IntKind.wrap IntKind.i64 (y0.2.2.2.2.2.2.1 - (1 : Int)), ()))) none) none) none) none) none) none) none) none) none) none) none) none) none) none) (fk (decide (List.length l0 = List.length l0)) (some (Sum.inr (l0, l1, l2, l3, l4, i5, ()))) none)
theorem Rra (l0 l1 l2 l3 l4 i5) : Kea (l0, l1, l2, l3, l4, i5, ()) = (Oaa l0 l1 l2 l3 l4 i5 jKa lIa bFb).bind (Sum.elim Kea some) := eqL (S := S92) fun _ _ _ => by kernel_rfl
noncomputable def S93 : OCs := addL S92 Tryz.prog 242 4 Vsa Vya Kea
theorem Qpb : fEb Tryz.prog th S93 := Qob.addL (by kernel_rfl) (by kernel_rfl) (by kernel_rfl) rfl
abbrev Dpb : List Shp := [(.ty (.list .str)), (.ty (.list .str))]
noncomputable def Wka : List ByteArray × List ByteArray × Unit → Option (List (List Int) × Unit) := jTa (fnT Tryz.prog th (S93 jKa lIa bFb) 242 Dpb (.ty (.list (.list (.int .i64)))) [])
noncomputable def Dgb (l0 : List ByteArray) (l1 : List ByteArray) (fk : Fk) (bd : Bd) (sm : Sm) : Option (List (List Int) × Unit) :=
    let z0 := ((↑(List.length l1) : Int) + (1 : Int))
    let z1 := ((↑(List.length l0) : Int) + (1 : Int))
    fk (decide (IntKind.wrap IntKind.i64 z1 = IntKind.wrap IntKind.i64 z1)) (fk (decide ((0 : Int) ≤ IntKind.wrap IntKind.i64 z1)) (fk (decide (IntKind.wrap IntKind.i64 z1 ≤ (↑bBa : Int))) (fk (decide (IntKind.wrap IntKind.i64 z0 = IntKind.wrap IntKind.i64 z0)) (fk (decide ((0 : Int) ≤ IntKind.wrap IntKind.i64 z0)) (fk (decide (IntKind.wrap IntKind.i64 z0 ≤ (↑bBa : Int))) (fk (decide (List.length (List.replicate (Int.toNat (IntKind.wrap IntKind.i64 z0)) (0 : Int)) = List.length (List.replicate (Int.toNat (IntKind.wrap IntKind.i64 z0)) (0 : Int)))) (fk (decide (List.length (List.replicate (Int.toNat (IntKind.wrap IntKind.i64 z1)) (@List.nil Int)) = List.length (List.replicate (Int.toNat (IntKind.wrap IntKind.i64 z1)) (@List.nil Int)))) (bd (Kea (List.replicate (Int.toNat (IntKind.wrap IntKind.i64 z1)) (@List.nil Int), List.replicate (Int.toNat (IntKind.wrap IntKind.i64 z0)) (0 : Int), l0, l1, List.replicate (Int.toNat (IntKind.wrap IntKind.i64 z0)) (0 : Int), (↑(List.length l0) : Int), ())) fun y0 => fk (decide (List.length y0.1 = List.length y0.1)) (some (y0.1, ())) none) none) none) none) none) none) none) none) none
theorem Fzb (l0 l1) : Wka (l0, l1, ()) = Dgb l0 l1 jKa lIa bFb := eqF (S := S93) fun _ _ _ => by kernel_rfl
noncomputable def S94 : OCs := addF S93 Tryz.prog 242 Dpb (.ty (.list (.list (.int .i64)))) [] Wka
theorem Qqb : fEb Tryz.prog th S94 := Qpb.addF rfl
abbrev Osa : fCa := ⟨[⟨Y3, 248, 2, true⟩], [], [[(.mref 0)], [(.ty (.list .str))], [(.ty (.list .str))]], [⟨223, 3, [.undef, .undef, .undef, .undef, .nils, (.bptr 0 0)], .normal, .ready⟩], [(.yield 0), (.bptr 1 0), (.bptr 2 0), (.ty (.list (.list (.int .i64)))), (.ty (.int .i64)), (.ty (.int .i64))]⟩
abbrev Pia : List sQa := [⟨(.exit 0), ⟨[⟨Y3, 248, 2, true⟩], [], [[(.mref 0)], [(.ty (.list .str))], [(.ty (.list .str))]], [⟨223, 3, [.undef, .undef, .undef, .undef, .nils, (.bptr 0 0)], .normal, .ready⟩], [(.yield 0), (.bptr 1 0), (.bptr 2 0), (.ty (.list (.list (.int .i64)))), (.ty (.int .i64)), (.ty (.int .i64))]⟩⟩]
noncomputable def Fea : (List D3) × List ByteArray × List ByteArray × List (List Int) × Int × Int × Unit → Option ((List D3) × List ByteArray × List ByteArray × List (List Int) × Int × Int × Unit) := jTa (pBa (nHa Tryz.prog th (S94 jKa lIa bFb) 241 2 Osa Pia))
noncomputable def Bsa (l0 : List D3) (l1 : List ByteArray) (l2 : List ByteArray) (l3 : List (List Int)) (i4 : Int) (i5 : Int) (fk : Fk) (bd : Bd) (sm : Sm) : Option (((List D3) × List ByteArray × List ByteArray × List (List Int) × Int × Int × Unit) ⊕ ((List D3) × List ByteArray × List ByteArray × List (List Int) × Int × Int × Unit)) :=
    let z0 := (decide (List.length l0 = List.length l0))
    fk (decide (i4 < (↑(List.length l1) : Int))) (fk (decide (i5 < (↑(List.length l2) : Int))) (fk (decide ((0 : Int) ≤ i4)) (fk (decide (i4 < (↑(List.length l1) : Int))) (fk (decide ((0 : Int) ≤ i5)) (fk (decide (i5 < (↑(List.length l2) : Int))) (fk (ByteArray.toList (List.getD l1 (Int.toNat i4) ByteArray.empty) == ByteArray.toList (List.getD l2 (Int.toNat i5) ByteArray.empty)) (fk z0 (fk (decide (List.length (l0 ++ (i4, i5, ()) :: @List.nil D3) ≤ bBa)) (fk (decide (List.length (l0 ++ (i4, i5, ()) :: @List.nil D3) = List.length (l0 ++ (i4, i5, ()) :: @List.nil D3))) (some (Sum.inl (l0 ++ (i4, i5, ()) :: @List.nil D3, l1, l2, l3, IntKind.wrap IntKind.i64 (i4 + (1 : Int)), IntKind.wrap IntKind.i64 (i5 + (1 : Int)), ()))) none) none) none) (fk (decide ((0 : Int) ≤ IntKind.wrap IntKind.i64 (i4 + (1 : Int)))) (fk (decide (IntKind.wrap IntKind.i64 (i4 + (1 : Int)) < (↑(List.length l3) : Int))) (fk (decide ((0 : Int) ≤ i5)) (fk (decide (i5 < (↑(List.length (List.getD l3 (Int.toNat (IntKind.wrap IntKind.i64 (i4 + (1 : Int)))) (@List.nil Int))) : Int))) (fk (decide ((0 : Int) ≤ i4)) (fk (decide (i4 < (↑(List.length l3) : Int))) (fk (decide ((0 : Int) ≤ IntKind.wrap IntKind.i64 (i5 + (1 : Int)))) (fk (decide (IntKind.wrap IntKind.i64 (i5 + (1 : Int)) < (↑(List.length (List.getD l3 (Int.toNat i4) (@List.nil Int))) : Int))) (fk (decide (List.getD (List.getD l3 (Int.toNat (IntKind.wrap IntKind.i64 (i4 + (1 : Int)))) (@List.nil Int)) (Int.toNat i5) (0 : Int) ≥ List.getD (List.getD l3 (Int.toNat i4) (@List.nil Int)) (Int.toNat (IntKind.wrap IntKind.i64 (i5 + (1 : Int)))) (0 : Int))) (fk z0 (some (Sum.inl (l0, l1, l2, l3, IntKind.wrap IntKind.i64 (i4 + (1 : Int)), i5, ()))) none) (fk z0 (some (Sum.inl (l0, l1, l2, l3, i4, IntKind.wrap IntKind.i64 (i5 + (1 : Int)), ()))) none)) none) none) none) none) none) none) none) none)) none) none) none) none) (fk z0 (some (Sum.inr (l0, l1, l2, l3, i4, i5, ()))) none)) (fk z0 (some (Sum.inr (l0, l1, l2, l3, i4, i5, ()))) none)
theorem Eda (l0 l1 l2 l3 i4 i5) : Fea (l0, l1, l2, l3, i4, i5, ()) = (Bsa l0 l1 l2 l3 i4 i5 jKa lIa bFb).bind (Sum.elim Fea some) := eqL (S := S94) fun _ _ _ => by kernel_rfl
noncomputable def S95 : OCs := addL S94 Tryz.prog 241 2 Osa Pia Fea
theorem Qrb : fEb Tryz.prog th S95 := Qqb.addL (by kernel_rfl) (by kernel_rfl) (by kernel_rfl) rfl
abbrev Anb : List Shp := [(.ty (.list .str)), (.ty (.list .str))]
noncomputable def Tsa : List ByteArray × List ByteArray × Unit → Option ((List D3) × Unit) := jTa (fnT Tryz.prog th (S95 jKa lIa bFb) 223 Anb (.ty (.list Y3)) [])
noncomputable def Afb (l0 : List ByteArray) (l1 : List ByteArray) (fk : Fk) (bd : Bd) (sm : Sm) : Option ((List D3) × Unit) :=
    bd (Wka (l0, l1, ())) fun y0 => fk (decide (List.length (@List.nil D3) = (0 : Nat))) (bd (Fea (@List.nil D3, l0, l1, y0.1, (0 : Int), (0 : Int), ())) fun y1 => fk (decide (List.length y1.1 = List.length y1.1)) (some (y1.1, ())) none) none
theorem Enb (l0 l1) : Tsa (l0, l1, ()) = Afb l0 l1 jKa lIa bFb := eqF (S := S95) fun _ _ _ => by kernel_rfl
noncomputable def S96 : OCs := addF S95 Tryz.prog 223 Anb (.ty (.list Y3)) [] Tsa
theorem Qsb : fEb Tryz.prog th S96 := Qrb.addF rfl
abbrev Ria : fCa := ⟨[⟨Y7, 225, 3, true⟩], [], [[(.ty (.list .str))], [(.mref 0)], [(.ty (.int .i64))], [(.ty (.int .i64))]], [], [(.ty (.list .str)), (.bptr 0 0), .nils, (.bptr 1 0), (.func 222 [] [(.bptr 2 0), (.bptr 3 0), (.bptr 1 0), (.bptr 0 0)]), (.ty (.list Y3)), (.ty (.int .i64)), (.ty (.int .i64))]⟩
abbrev Rva : List sQa := [⟨(.exit 0), ⟨[⟨Y7, 225, 3, true⟩], [], [[(.ty (.list .str))], [(.mref 0)], [(.ty (.int .i64))], [(.ty (.int .i64))]], [], [(.ty (.list .str)), (.bptr 0 0), .nils, (.bptr 1 0), (.func 222 [] [(.bptr 2 0), (.bptr 3 0), (.bptr 1 0), (.bptr 0 0)]), (.ty (.list Y3)), (.ty (.int .i64)), (.ty (.int .i64))]⟩⟩]
noncomputable def Gna : (List D7) × List ByteArray × Int × Int × List ByteArray × (List D3) × Int × Int × Unit → Option ((List D7) × List ByteArray × Int × Int × List ByteArray × (List D3) × Int × Int × Unit) := jTa (pBa (nHa Tryz.prog th (S96 jKa lIa bFb) 196 5 Ria Rva))
noncomputable def Eta (l0 : List D7) (l1 : List ByteArray) (i2 : Int) (i3 : Int) (l4 : List ByteArray) (l5 : List D3) (i6 : Int) (i7 : Int) (fk : Fk) (bd : Bd) (sm : Sm) : Option (((List D7) × List ByteArray × Int × Int × List ByteArray × (List D3) × Int × Int × Unit) ⊕ ((List D7) × List ByteArray × Int × Int × List ByteArray × (List D3) × Int × Int × Unit)) :=
    let z1 := (List.getD l5 (Int.toNat i7) ((0 : Int), (0 : Int), ()))
    let z3 := (List.take (Int.toNat z1.2.1 - Int.toNat i3) (List.drop (Int.toNat i3) l1))
    let z2 := (i2, IntKind.wrap IntKind.i64 (z1.1 - i2), List.take (Int.toNat z1.2.1 - Int.toNat i3) (List.drop (Int.toNat i3) l1), ())
    let z0 := (fk (decide ((0 : Int) ≤ z1.2.1)) (fk (decide (z1.2.1 ≤ (↑(List.length l1) : Int))) (fk (decide ((0 : Int) ≤ i3)) (fk (decide (i3 ≤ (↑(Int.toNat z1.2.1) : Int))) (fk (decide (List.length z3 ≤ bBa)) (fk (decide (List.length z3 = List.length z3)) (fk (decide (List.length l0 = List.length l0)) (fk (decide (List.length (l0 ++ z2 :: @List.nil D7) ≤ bBa)) (fk (decide (List.length (l0 ++ z2 :: @List.nil D7) = List.length (l0 ++ z2 :: @List.nil D7))) (some (Sum.inl (l0 ++ z2 :: @List.nil D7, l1, IntKind.wrap IntKind.i64 (z1.1 + (1 : Int)), IntKind.wrap IntKind.i64 (z1.2.1 + (1 : Int)), l4, l5, i6, IntKind.wrap IntKind.i64 (i7 + (1 : Int)), ()))) none) none) none) none) none) none) none) none) none)
    fk (decide (i7 < i6)) (fk (decide ((0 : Int) ≤ i7)) (fk (decide (i7 < (↑(List.length l5) : Int))) (fk (decide (z1.1 > i2)) z0 (fk (decide (z1.2.1 > i3)) z0 (fk (decide (List.length l0 = List.length l0)) (some (Sum.inl (l0, l1, IntKind.wrap IntKind.i64 (z1.1 + (1 : Int)), IntKind.wrap IntKind.i64 (z1.2.1 + (1 : Int)), l4, l5, i6, IntKind.wrap IntKind.i64 (i7 + (1 : Int)), ()))) none))) none) none) (fk (decide (List.length l0 = List.length l0)) (some (Sum.inr (l0, l1, i2, i3, l4, l5, i6, i7, ()))) none)
theorem Naa (l0 l1 i2 i3 l4 l5 i6 i7) : Gna (l0, l1, i2, i3, l4, l5, i6, i7, ()) = (Eta l0 l1 i2 i3 l4 l5 i6 i7 jKa lIa bFb).bind (Sum.elim Gna some) := eqL (S := S96) fun _ _ _ => by kernel_rfl
noncomputable def S97 : OCs := addL S96 Tryz.prog 196 5 Ria Rva Gna
theorem Qtb : fEb Tryz.prog th S97 := Qsb.addL (by kernel_rfl) (by kernel_rfl) (by kernel_rfl) rfl
abbrev Xia : List Shp := [(.ty (.list .str)), (.ty (.list .str))]
noncomputable def Qaa : List ByteArray × List ByteArray × Unit → Option ((List D7) × Unit) := jTa (fnT Tryz.prog th (S97 jKa lIa bFb) 196 Xia (.ty (.list Y7)) [])
noncomputable def Lwa (l0 : List ByteArray) (l1 : List ByteArray) (fk : Fk) (bd : Bd) (sm : Sm) : Option ((List D7) × Unit) :=
    bd (Tsa (l0, l1, ())) fun y0 => fk (decide (List.length (@List.nil D7) = (0 : Nat))) (bd (Gna (@List.nil D7, l1, (0 : Int), (0 : Int), l0, y0.1, (↑(List.length y0.1) : Int), (0 : Int), ())) fun y1 => fk (decide ((↑(List.length y1.2.2.2.2.1) : Int) > y1.2.2.1)) (fk (decide ((0 : Int) ≤ (↑(List.length y1.2.1) : Int))) (fk (decide ((↑(List.length y1.2.1) : Int) ≤ (↑(List.length y1.2.1) : Int))) (fk (decide ((0 : Int) ≤ y1.2.2.2.1)) (fk (decide (y1.2.2.2.1 ≤ (↑(Int.toNat (↑(List.length y1.2.1) : Int)) : Int))) (fk (decide (List.length (List.take (Int.toNat (↑(List.length y1.2.1) : Int) - Int.toNat y1.2.2.2.1) (List.drop (Int.toNat y1.2.2.2.1) y1.2.1)) ≤ bBa)) (fk (decide (List.length (List.take (Int.toNat (↑(List.length y1.2.1) : Int) - Int.toNat y1.2.2.2.1) (List.drop (Int.toNat y1.2.2.2.1) y1.2.1)) = List.length (List.take (Int.toNat (↑(List.length y1.2.1) : Int) - Int.toNat y1.2.2.2.1) (List.drop (Int.toNat y1.2.2.2.1) y1.2.1)))) (fk (decide (List.length y1.1 = List.length y1.1)) (fk (decide (List.length (y1.1 ++ (y1.2.2.1, IntKind.wrap IntKind.i64 ((↑(List.length y1.2.2.2.2.1) : Int) - y1.2.2.1), List.take (Int.toNat (↑(List.length y1.2.1) : Int) - Int.toNat y1.2.2.2.1) (List.drop (Int.toNat y1.2.2.2.1) y1.2.1), ()) :: @List.nil D7) ≤ bBa)) (fk (decide (List.length (y1.1 ++ (y1.2.2.1, IntKind.wrap IntKind.i64 ((↑(List.length y1.2.2.2.2.1) : Int) - y1.2.2.1), List.take (Int.toNat (↑(List.length y1.2.1) : Int) - Int.toNat y1.2.2.2.1) (List.drop (Int.toNat y1.2.2.2.1) y1.2.1), ()) :: @List.nil D7) = List.length (y1.1 ++ (y1.2.2.1, IntKind.wrap IntKind.i64 ((↑(List.length y1.2.2.2.2.1) : Int) - y1.2.2.1), List.take (Int.toNat (↑(List.length y1.2.1) : Int) - Int.toNat y1.2.2.2.1) (List.drop (Int.toNat y1.2.2.2.1) y1.2.1), ()) :: @List.nil D7))) (some (y1.1 ++ (y1.2.2.1, IntKind.wrap IntKind.i64 ((↑(List.length y1.2.2.2.2.1) : Int) - y1.2.2.1), List.take (Int.toNat (↑(List.length y1.2.1) : Int) - Int.toNat y1.2.2.2.1) (List.drop (Int.toNat y1.2.2.2.1) y1.2.1), ()) :: @List.nil D7, ())) none) none) none) none) none) none) none) none) none) (fk (decide ((↑(List.length y1.2.1) : Int) > y1.2.2.2.1)) (fk (decide ((0 : Int) ≤ (↑(List.length y1.2.1) : Int))) (fk (decide ((↑(List.length y1.2.1) : Int) ≤ (↑(List.length y1.2.1) : Int))) (fk (decide ((0 : Int) ≤ y1.2.2.2.1)) (fk (decide (y1.2.2.2.1 ≤ (↑(Int.toNat (↑(List.length y1.2.1) : Int)) : Int))) (fk (decide (List.length (List.take (Int.toNat (↑(List.length y1.2.1) : Int) - Int.toNat y1.2.2.2.1) (List.drop (Int.toNat y1.2.2.2.1) y1.2.1)) ≤ bBa)) (fk (decide (List.length (List.take (Int.toNat (↑(List.length y1.2.1) : Int) - Int.toNat y1.2.2.2.1) (List.drop (Int.toNat y1.2.2.2.1) y1.2.1)) = List.length (List.take (Int.toNat (↑(List.length y1.2.1) : Int) - Int.toNat y1.2.2.2.1) (List.drop (Int.toNat y1.2.2.2.1) y1.2.1)))) (fk (decide (List.length y1.1 = List.length y1.1)) (fk (decide (List.length (y1.1 ++ (y1.2.2.1, IntKind.wrap IntKind.i64 ((↑(List.length y1.2.2.2.2.1) : Int) - y1.2.2.1), List.take (Int.toNat (↑(List.length y1.2.1) : Int) - Int.toNat y1.2.2.2.1) (List.drop (Int.toNat y1.2.2.2.1) y1.2.1), ()) :: @List.nil D7) ≤ bBa)) (fk (decide (List.length (y1.1 ++ (y1.2.2.1, IntKind.wrap IntKind.i64 ((↑(List.length y1.2.2.2.2.1) : Int) - y1.2.2.1), List.take (Int.toNat (↑(List.length y1.2.1) : Int) - Int.toNat y1.2.2.2.1) (List.drop (Int.toNat y1.2.2.2.1) y1.2.1), ()) :: @List.nil D7) = List.length (y1.1 ++ (y1.2.2.1, IntKind.wrap IntKind.i64 ((↑(List.length y1.2.2.2.2.1) : Int) - y1.2.2.1), List.take (Int.toNat (↑(List.length y1.2.1) : Int) - Int.toNat y1.2.2.2.1) (List.drop (Int.toNat y1.2.2.2.1) y1.2.1), ()) :: @List.nil D7))) (some (y1.1 ++ (y1.2.2.1, IntKind.wrap IntKind.i64 ((↑(List.length y1.2.2.2.2.1) : Int) - y1.2.2.1), List.take (Int.toNat (↑(List.length y1.2.1) : Int) - Int.toNat y1.2.2.2.1) (List.drop (Int.toNat y1.2.2.2.1) y1.2.1), ()) :: @List.nil D7, ())) none) none) none) none) none) none) none) none) none) (fk (decide (List.length y1.1 = List.length y1.1)) (some (y1.1, ())) none))) none
theorem Bqb (l0 l1) : Qaa (l0, l1, ()) = Lwa l0 l1 jKa lIa bFb := eqF (S := S97) fun _ _ _ => by kernel_rfl
noncomputable def S98 : OCs := addF S97 Tryz.prog 196 Xia (.ty (.list Y7)) [] Qaa
theorem Qub : fEb Tryz.prog th S98 := Qtb.addF rfl
abbrev Yfa : fCa := ⟨[⟨Y5, 70, 3, true⟩], [], [[(.ty (.list .str)), (.ty (.int .i64))]], [], [.nils, (.func 195 [(.bptr 0 0)] []), (.mref 0), (.ty (.list Y7)), (.ty (.int .i64)), (.ty (.int .i64))]⟩
abbrev Yra : List sQa := [⟨(.exit 0), ⟨[⟨Y5, 70, 3, true⟩], [], [[(.ty (.list .str)), (.ty (.int .i64))]], [], [.nils, (.func 195 [(.bptr 0 0)] []), (.mref 0), (.ty (.list Y7)), (.ty (.int .i64)), (.ty (.int .i64))]⟩⟩]
noncomputable def Lja : (List D4) × List ByteArray × Int × (List D7) × Int × Int × Unit → Option ((List D4) × List ByteArray × Int × (List D7) × Int × Int × Unit) := jTa (pBa (nHa Tryz.prog th (S98 jKa lIa bFb) 156 4 Yfa Yra))
noncomputable def Sna (l0 : List D4) (l1 : List ByteArray) (i2 : Int) (l3 : List D7) (i4 : Int) (i5 : Int) (fk : Fk) (bd : Bd) (sm : Sm) : Option (((List D4) × List ByteArray × Int × (List D7) × Int × Int × Unit) ⊕ ((List D4) × List ByteArray × Int × (List D7) × Int × Int × Unit)) :=
    let z0 := (List.getD l3 (Int.toNat i5) ((0 : Int), (0 : Int), @List.nil ByteArray, ()))
    let z1 := (IntKind.wrap IntKind.i64 (z0.1 + i2), List.take (Int.toNat (IntKind.wrap IntKind.i64 (z0.1 + z0.2.1)) - Int.toNat z0.1) (List.drop (Int.toNat z0.1) l1), z0.2.2.1, ())
    let z2 := (List.take (Int.toNat (IntKind.wrap IntKind.i64 (z0.1 + z0.2.1)) - Int.toNat z0.1) (List.drop (Int.toNat z0.1) l1))
    let z3 := (l0 ++ z1 :: @List.nil D4)
    fk (decide (i5 < i4)) (fk (decide ((0 : Int) ≤ i5)) (fk (decide (i5 < (↑(List.length l3) : Int))) (fk (decide ((0 : Int) ≤ IntKind.wrap IntKind.i64 (z0.1 + z0.2.1))) (fk (decide (IntKind.wrap IntKind.i64 (z0.1 + z0.2.1) ≤ (↑(List.length l1) : Int))) (fk (decide ((0 : Int) ≤ z0.1)) (fk (decide (z0.1 ≤ (↑(Int.toNat (IntKind.wrap IntKind.i64 (z0.1 + z0.2.1))) : Int))) (fk (decide (List.length z2 ≤ bBa)) (fk (decide (List.length z2 = List.length z2)) (fk (decide (List.length z0.2.2.1 ≤ bBa)) (fk (decide (List.length z0.2.2.1 = List.length z0.2.2.1)) (fk (decide (List.length l0 = List.length l0)) (fk (decide (List.length z3 ≤ bBa)) (fk (decide (List.length z3 = List.length z3)) (some (Sum.inl (l0 ++ z1 :: @List.nil D4, l1, IntKind.wrap IntKind.i64 (i2 + IntKind.wrap IntKind.i64 ((↑(List.length z0.2.2.1) : Int) - z0.2.1)), l3, i4, IntKind.wrap IntKind.i64 (i5 + (1 : Int)), ()))) none) none) none) none) none) none) none) none) none) none) none) none) none) (fk (decide (List.length l0 = List.length l0)) (some (Sum.inr (l0, l1, i2, l3, i4, i5, ()))) none)
theorem Toa (l0 l1 i2 l3 i4 i5) : Lja (l0, l1, i2, l3, i4, i5, ()) = (Sna l0 l1 i2 l3 i4 i5 jKa lIa bFb).bind (Sum.elim Lja some) := eqL (S := S98) fun _ _ _ => by kernel_rfl
noncomputable def S99 : OCs := addL S98 Tryz.prog 156 4 Yfa Yra Lja
theorem Qvb : fEb Tryz.prog th S99 := Qub.addL (by kernel_rfl) (by kernel_rfl) (by kernel_rfl) rfl
abbrev Gwb : List Shp := [(.ty (.list .str)), (.ty (.list .str))]
noncomputable def Yia : List ByteArray × List ByteArray × Unit → Option ((List D4) × Unit) := jTa (fnT Tryz.prog th (S99 jKa lIa bFb) 156 Gwb (.ty (.list Y5)) [])
noncomputable def Gub (l0 : List ByteArray) (l1 : List ByteArray) (fk : Fk) (bd : Bd) (sm : Sm) : Option ((List D4) × Unit) :=
    bd (Qaa (l0, l1, ())) fun y0 => fk (decide (List.length (@List.nil D4) = (0 : Nat))) (bd (Lja (@List.nil D4, l0, (0 : Int), y0.1, (↑(List.length y0.1) : Int), (0 : Int), ())) fun y1 => fk (decide (List.length y1.1 = List.length y1.1)) (some (y1.1, ())) none) none
theorem Htb (l0 l1) : Yia (l0, l1, ()) = Gub l0 l1 jKa lIa bFb := eqF (S := S99) fun _ _ _ => by kernel_rfl
noncomputable def Rmb : OCs := addF S99 Tryz.prog 156 Gwb (.ty (.list Y5)) [] Yia
theorem Llb : fEb Tryz.prog th Rmb := Qvb.addF rfl
abbrev Tka : fCa := ⟨[⟨Y1, 72, 6, true⟩], [], [[(.mref 0)]], [], [(.func 116 [(.bptr 0 0)] []), (.ty .str), (.ty .bool), (.ty (.list Y5)), (.ty (.int .i64)), (.ty (.int .i64))]⟩
abbrev Tza : List sQa := [⟨(.exit 0), ⟨[⟨Y1, 72, 6, true⟩], [], [[(.mref 0)]], [], [(.func 116 [(.bptr 0 0)] []), (.ty .str), (.ty .bool), (.ty (.list Y5)), (.ty (.int .i64)), (.ty (.int .i64))]⟩⟩]
noncomputable def Gaa : (List D0) × ByteArray × Bool × (List D4) × Int × Int × Unit → Option ((List D0) × ByteArray × Bool × (List D4) × Int × Int × Unit) := jTa (pBa (nHa Tryz.prog th (Rmb jKa lIa bFb) 118 5 Tka Tza))
noncomputable def Lxa (l0 : List D0) (s1 : ByteArray) (b2 : Bool) (l3 : List D4) (i4 : Int) (i5 : Int) (fk : Fk) (bd : Bd) (sm : Sm) : Option (((List D0) × ByteArray × Bool × (List D4) × Int × Int × Unit) ⊕ ((List D0) × ByteArray × Bool × (List D4) × Int × Int × Unit)) :=
    let z2 := (List.getD l3 (Int.toNat i5) ((0 : Int), @List.nil ByteArray, @List.nil ByteArray, ()))
    let z0 := ((3 : Int), s1, ByteArray.empty, (z2.1, z2.2.1, z2.2.2.1, ()), ())
    let z1 := (l0 ++ z0 :: @List.nil D0)
    fk (decide (i5 < i4)) (fk (decide ((0 : Int) ≤ i5)) (fk (decide (i5 < (↑(List.length l3) : Int))) (fk (decide (List.length l0 = List.length l0)) (fk (decide (List.length z1 ≤ bBa)) (fk (decide (List.length z1 = List.length z1)) (some (Sum.inl (l0 ++ z0 :: @List.nil D0, s1, b2, l3, i4, IntKind.wrap IntKind.i64 (i5 + (1 : Int)), ()))) none) none) none) none) none) (fk (decide (List.length l0 = List.length l0)) (some (Sum.inr (l0, s1, b2, l3, i4, i5, ()))) none)
theorem Pca (l0 s1 b2 l3 i4 i5) : Gaa (l0, s1, b2, l3, i4, i5, ()) = (Lxa l0 s1 b2 l3 i4 i5 jKa lIa bFb).bind (Sum.elim Gaa some) := eqL (S := Rmb) fun _ _ _ => by kernel_rfl
noncomputable def Rnb : OCs := addL Rmb Tryz.prog 118 5 Tka Tza Gaa
theorem Lmb : fEb Tryz.prog th Rnb := Llb.addL (by kernel_rfl) (by kernel_rfl) (by kernel_rfl) rfl
abbrev Yga : fCa := ⟨[⟨Y1, 72, 6, true⟩], [], [[(.mref 0)]], [], [(.ty Y2), (.ty Y2), .nils, (.st (.int .i64 0)), (.bptr 0 0), (.func 116 [(.bptr 0 0)] []), (.ty (.list .str)), (.ty (.int .i64)), (.ty (.int .i64))]⟩
abbrev Ysa : List sQa := [⟨(.exit 0), ⟨[⟨Y1, 72, 6, true⟩], [], [[(.mref 0)]], [], [(.ty Y2), (.ty Y2), .nils, (.st (.int .i64 0)), (.bptr 0 0), (.func 116 [(.bptr 0 0)] []), (.ty (.list .str)), (.ty (.int .i64)), (.ty (.int .i64))]⟩⟩]
noncomputable def Jja : (List D0) × (List D2) × (List D2) × List ByteArray × Int × Int × Unit → Option ((List D0) × (List D2) × (List D2) × List ByteArray × Int × Int × Unit) := jTa (pBa (nHa Tryz.prog th (Rnb jKa lIa bFb) 61 6 Yga Ysa))
noncomputable def Hpa (l0 : List D0) (l1 : List D2) (l2 : List D2) (l3 : List ByteArray) (i4 : Int) (i5 : Int) (fk : Fk) (bd : Bd) (sm : Sm) : Option (((List D0) × (List D2) × (List D2) × List ByteArray × Int × Int × Unit) ⊕ ((List D0) × (List D2) × (List D2) × List ByteArray × Int × Int × Unit)) :=
    let z0 := ((0 : Int), @List.nil ByteArray, @List.nil ByteArray, ())
    let z1 := (l0 ++ ((0 : Int), List.getD l3 (Int.toNat i5) ByteArray.empty, ByteArray.empty, z0, ()) :: @List.nil D0)
    fk (decide (i5 < i4)) (fk (decide ((0 : Int) ≤ i5)) (fk (decide (i5 < (↑(List.length l3) : Int))) (bd (Hja (l1, List.getD l3 (Int.toNat i5) ByteArray.empty, ())) fun y0 => bd (Hja (l2, List.getD l3 (Int.toNat i5) ByteArray.empty, ())) fun y1 => fk (!y0.2.1) (fk (decide (List.length l0 = List.length l0)) (fk (decide (List.length z1 ≤ bBa)) (bd (Yia (y0.1, y1.1, ())) fun y2 => fk (decide (List.length z1 = List.length z1)) (bd (Gaa (l0 ++ ((0 : Int), List.getD l3 (Int.toNat i5) ByteArray.empty, ByteArray.empty, z0, ()) :: @List.nil D0, List.getD l3 (Int.toNat i5) ByteArray.empty, y1.2.1, y2.1, (↑(List.length y2.1) : Int), (0 : Int), ())) fun y3 => fk (!y3.2.2.1) (fk (decide (List.length y3.1 = List.length y3.1)) (fk (decide (List.length (y3.1 ++ ((1 : Int), y3.2.1, ByteArray.empty, z0, ()) :: @List.nil D0) ≤ bBa)) (fk (decide (List.length (y3.1 ++ ((1 : Int), y3.2.1, ByteArray.empty, z0, ()) :: @List.nil D0) = List.length (y3.1 ++ ((1 : Int), y3.2.1, ByteArray.empty, z0, ()) :: @List.nil D0))) (some (Sum.inl (y3.1 ++ ((1 : Int), y3.2.1, ByteArray.empty, z0, ()) :: @List.nil D0, l1, l2, l3, i4, IntKind.wrap IntKind.i64 (i5 + (1 : Int)), ()))) none) none) none) (fk (decide (List.length y3.1 = List.length y3.1)) (some (Sum.inl (y3.1, l1, l2, l3, i4, IntKind.wrap IntKind.i64 (i5 + (1 : Int)), ()))) none)) none) none) none) (bd (Yia (y0.1, y1.1, ())) fun y4 => fk (decide (List.length l0 = List.length l0)) (bd (Gaa (l0, List.getD l3 (Int.toNat i5) ByteArray.empty, y1.2.1, y4.1, (↑(List.length y4.1) : Int), (0 : Int), ())) fun y5 => fk (!y5.2.2.1) (fk (decide (List.length y5.1 = List.length y5.1)) (fk (decide (List.length (y5.1 ++ ((1 : Int), y5.2.1, ByteArray.empty, z0, ()) :: @List.nil D0) ≤ bBa)) (fk (decide (List.length (y5.1 ++ ((1 : Int), y5.2.1, ByteArray.empty, z0, ()) :: @List.nil D0) = List.length (y5.1 ++ ((1 : Int), y5.2.1, ByteArray.empty, z0, ()) :: @List.nil D0))) (some (Sum.inl (y5.1 ++ ((1 : Int), y5.2.1, ByteArray.empty, z0, ()) :: @List.nil D0, l1, l2, l3, i4, IntKind.wrap IntKind.i64 (i5 + (1 : Int)), ()))) none) none) none) (fk (decide (List.length y5.1 = List.length y5.1)) (some (Sum.inl (y5.1, l1, l2, l3, i4, IntKind.wrap IntKind.i64 (i5 + (1 : Int)), ()))) none)) none)) none) none) (fk (decide (List.length l0 = List.length l0)) (some (Sum.inr (l0, l1, l2, l3, i4, i5, ()))) none)
theorem Tva (l0 l1 l2 l3 i4 i5) : Jja (l0, l1, l2, l3, i4, i5, ()) = (Hpa l0 l1 l2 l3 i4 i5 jKa lIa bFb).bind (Sum.elim Jja some) := eqL (S := Rnb) fun _ _ _ => by kernel_rfl
noncomputable def Rob : OCs := addL Rnb Tryz.prog 61 6 Yga Ysa Jja
theorem Lnb : fEb Tryz.prog th Rob := Lmb.addL (by kernel_rfl) (by kernel_rfl) (by kernel_rfl) rfl
abbrev Hbb : List Shp := [(.ty Y2), (.ty Y2)]
noncomputable def Cdb : (List D2) × (List D2) × Unit → Option D22 := jTa (fnT Tryz.prog th (Rob jKa lIa bFb) 61 Hbb (.tuple [(.ty (.list Y1)), (.ty (.int .i64))]) [])
noncomputable def Wja (l0 : List D2) (l1 : List D2) (fk : Fk) (bd : Bd) (sm : Sm) : Option D22 :=
    bd (Kwa (l0, ())) fun y0 => fk (!y0.1) (some (@List.nil D0, (1 : Int), ())) (bd (Kwa (l1, ())) fun y1 => fk (!y1.1) (some (@List.nil D0, (1 : Int), ())) (bd (Qva (l0, l1, ())) fun y2 => fk (decide (List.length (@List.nil D0) = (0 : Nat))) (bd (Jja (@List.nil D0, l0, l1, y2.1, (↑(List.length y2.1) : Int), (0 : Int), ())) fun y3 => fk (decide (List.length y3.1 = List.length y3.1)) (some (y3.1, (0 : Int), ())) none) none))
theorem Hzb (l0 l1) : Cdb (l0, l1, ()) = Wja l0 l1 jKa lIa bFb := eqF (S := Rob) fun _ _ _ => by kernel_rfl
noncomputable def Rpb : OCs := addF Rob Tryz.prog 61 Hbb (.tuple [(.ty (.list Y1)), (.ty (.int .i64))]) [] Cdb
theorem Lob : fEb Tryz.prog th Rpb := Lnb.addF rfl
abbrev Avb : List Shp := [(.ty Y4)]
noncomputable def Uma : D6 × Unit → Option D35 := jTa (fnT Tryz.prog th (Rpb jKa lIa bFb) 24 Avb (.ty (.list Y1)) [])
noncomputable def Ajb (x0 : Int × (List D1) × (List D2) × (List D2) × Int × Unit) (fk : Fk) (bd : Bd) (sm : Sm) : Option D35 :=
    bd (Qpa ((x0.1, x0.2.1, x0.2.2.1, x0.2.2.2.1, x0.2.2.2.2.1, ()), ())) fun y0 => fk (!y0.1) (some (@List.nil D0, ())) (bd (Cdb (x0.2.2.1, x0.2.2.2.1, ())) fun y1 => some (y1.1, ()))
theorem Fdb (x0) : Uma (x0, ()) = Ajb x0 jKa lIa bFb := eqF (S := Rpb) fun _ _ _ => by kernel_rfl
noncomputable def Tkb : OCs := addF Rpb Tryz.prog 24 Avb (.ty (.list Y1)) [] Uma
theorem Lpb : fEb Tryz.prog th Tkb := Lob.addF rfl
noncomputable def Sqa : Unit → Option (Bool × Unit) := fun _ => some (true, ())
theorem Zsa : Sqa () = some (true, ()) := rfl
noncomputable def Rqb : OCs := addF Tkb Tryz.prog 18 [] (.ty .bool) [] Sqa
theorem Lqb : fEb Tryz.prog th Rqb := Lpb.addC (nXb (kIb 100000 _ _ (by kernel_rfl)))
abbrev Opa : fCa := ⟨[], [], [], [], [(.ty (.list .str)), (.st (.bool false)), (.ty (.int .i64))]⟩
abbrev Pfa : List sQa := [⟨.ret, ⟨[], [], [], [], [(.ty (.list .str)), (.st (.bool false)), (.ty (.int .i64))]⟩⟩, ⟨(.exit 0), ⟨[], [], [], [], [(.ty (.list .str)), (.st (.bool false)), (.ty (.int .i64))]⟩⟩]
noncomputable def Faa : List ByteArray × Int × Unit → Option (D19 ⊕ D19) := jTa (pBa (nHa Tryz.prog th (Rqb jKa lIa bFb) 140 4 Opa Pfa))
noncomputable def Gha (l0 : List ByteArray) (i1 : Int) (fk : Fk) (bd : Bd) (sm : Sm) : Option (D19 ⊕ (D19 ⊕ D19)) :=
    fk (decide (i1 < (↑(List.length l0) : Int))) (fk (decide ((0 : Int) ≤ i1)) (fk (decide (i1 < (↑(List.length l0) : Int))) (fk (decide ((↑(ByteArray.size (List.getD l0 (Int.toNat i1) ByteArray.empty)) : Int) > (200 : Int))) (some (Sum.inr (Sum.inl (l0, i1, ())))) (some (Sum.inl (l0, IntKind.wrap IntKind.i64 (i1 + (1 : Int)), ())))) none) none) (some (Sum.inr (Sum.inr (l0, i1, ()))))
theorem Lka (l0 i1) : Faa (l0, i1, ()) = (Gha l0 i1 jKa lIa bFb).bind (Sum.elim Faa some) := eqL (S := Rqb) fun _ _ _ => by kernel_rfl
noncomputable def Rrb : OCs := addL Rqb Tryz.prog 140 4 Opa Pfa Faa
theorem Iib : fEb Tryz.prog th Rrb := Lqb.addL (by kernel_rfl) (by kernel_rfl) (by kernel_rfl) rfl
abbrev Oda : List Shp := [(.ty (.list .str)), (.ty (.int .i64))]
noncomputable def Fta : List ByteArray × Int × Unit → Option (Bool × Unit) := jTa (fnT Tryz.prog th (Rrb jKa lIa bFb) 140 Oda (.ty .bool) [])
noncomputable def Koa (l0 : List ByteArray) (i1 : Int) (fk : Fk) (bd : Bd) (sm : Sm) : Option (Bool × Unit) :=
    fk (decide ((↑(List.length l0) : Int) > i1)) (some (false, ())) (bd (Faa (l0, (0 : Int), ())) fun y0 => sm y0 (fun y1 => some (false, ())) fun y2 => some (true, ()))
theorem Zia (l0 i1) : Fta (l0, i1, ()) = Koa l0 i1 jKa lIa bFb := eqF (S := Rrb) fun _ _ _ => by kernel_rfl
noncomputable def Rsb : OCs := addF Rrb Tryz.prog 140 Oda (.ty .bool) [] Fta
theorem Ijb : fEb Tryz.prog th Rsb := Iib.addF rfl
theorem Kvb : nJb Tryz.prog th 140 Oda (.ty .bool) [] Fta := Iib.fn rfl
abbrev Oea : List Shp := [(.ty Y5)]
noncomputable def Jya : D4 × Unit → Option (Bool × Unit) := jTa (fnT Tryz.prog th (Rsb jKa lIa bFb) 172 Oea (.ty .bool) [])
noncomputable def Vea (x0 : Int × List ByteArray × List ByteArray × Unit) (fk : Fk) (bd : Bd) (sm : Sm) : Option (Bool × Unit) :=
    bd (Fta (x0.2.1, (300 : Int), ())) fun y0 => bd (Fta (x0.2.2.1, (300 : Int), ())) fun y1 => fk y0.1 (some (y1.1, ())) (some (false, ()))
theorem Zja (x0) : Jya (x0, ()) = Vea x0 jKa lIa bFb := eqF (S := Rsb) fun _ _ _ => by kernel_rfl
noncomputable def Rtb : OCs := addF Rsb Tryz.prog 172 Oea (.ty .bool) [] Jya
theorem Ikb : fEb Tryz.prog th Rtb := Ijb.addF rfl
theorem Kwb : nJb Tryz.prog th 172 Oea (.ty .bool) [] Jya := Ijb.fn rfl
abbrev Oga : List Shp := [(.ty Y1)]
noncomputable def Kaa : D0 × Unit → Option (Bool × Unit) := jTa (fnT Tryz.prog th (Rtb jKa lIa bFb) 141 Oga (.ty .bool) [])
noncomputable def Vfa (x0 : Int × ByteArray × ByteArray × D4 × Unit) (fk : Fk) (bd : Bd) (sm : Sm) : Option (Bool × Unit) :=
    bd (Jya ((x0.2.2.2.1.1, x0.2.2.2.1.2.1, x0.2.2.2.1.2.2.1, ()), ())) fun y0 => fk y0.1 (fk (decide ((↑(ByteArray.size x0.2.1) : Int) ≤ (100 : Int))) (some (decide ((↑(ByteArray.size x0.2.2.1) : Int) ≤ (100 : Int)), ())) (some (false, ()))) (some (false, ()))
theorem Zma (x0) : Kaa (x0, ()) = Vfa x0 jKa lIa bFb := eqF (S := Rtb) fun _ _ _ => by kernel_rfl
noncomputable def Rub : OCs := addF Rtb Tryz.prog 141 Oga (.ty .bool) [] Kaa
theorem Lrb : fEb Tryz.prog th Rub := Ikb.addF rfl
theorem Kyb : nJb Tryz.prog th 141 Oga (.ty .bool) [] Kaa := Ikb.fn rfl
abbrev Tia : fCa := ⟨[], [], [], [], [(.ty (.list Y1)), (.st (.bool false)), (.ty (.int .i64))]⟩
abbrev Txa : List sQa := [⟨.ret, ⟨[], [], [], [], [(.ty (.list Y1)), (.st (.bool false)), (.ty (.int .i64))]⟩⟩, ⟨(.exit 0), ⟨[], [], [], [], [(.ty (.list Y1)), (.st (.bool false)), (.ty (.int .i64))]⟩⟩]
noncomputable def Ioa : (List D0) × Int × Unit → Option (D22 ⊕ D22) := jTa (pBa (nHa Tryz.prog th (Rub jKa lIa bFb) 89 4 Tia Txa))
noncomputable def Gia (l0 : List D0) (i1 : Int) (fk : Fk) (bd : Bd) (sm : Sm) : Option (D22 ⊕ (D22 ⊕ D22)) :=
    let z0 := (List.getD l0 (Int.toNat i1) ((0 : Int), ByteArray.empty, ByteArray.empty, ((0 : Int), @List.nil ByteArray, @List.nil ByteArray, ()), ()))
    fk (decide (i1 < (↑(List.length l0) : Int))) (fk (decide ((0 : Int) ≤ i1)) (fk (decide (i1 < (↑(List.length l0) : Int))) (bd (Kaa ((z0.1, z0.2.1, z0.2.2.1, (z0.2.2.2.1.1, z0.2.2.2.1.2.1, z0.2.2.2.1.2.2.1, ()), ()), ())) fun y0 => fk (!y0.1) (some (Sum.inr (Sum.inl (l0, i1, ())))) (fk (decide ((0 : Int) ≤ i1)) (fk (decide (i1 < (↑(List.length l0) : Int))) (fk (decide (z0.2.2.2.1.1 > (524288 : Int))) (some (Sum.inr (Sum.inl (l0, i1, ())))) (some (Sum.inl (l0, IntKind.wrap IntKind.i64 (i1 + (1 : Int)), ())))) none) none)) none) none) (some (Sum.inr (Sum.inr (l0, i1, ()))))
theorem Ova (l0 i1) : Ioa (l0, i1, ()) = (Gia l0 i1 jKa lIa bFb).bind (Sum.elim Ioa some) := eqL (S := Rub) fun _ _ _ => by kernel_rfl
noncomputable def Rvb : OCs := addL Rub Tryz.prog 89 4 Tia Txa Ioa
theorem Ilb : fEb Tryz.prog th Rvb := Lrb.addL (by kernel_rfl) (by kernel_rfl) (by kernel_rfl) rfl
abbrev Uta : List Shp := [(.ty (.list Y1)), (.ty (.int .i64))]
noncomputable def Oua : (List D0) × Int × Unit → Option (Bool × Unit) := jTa (fnT Tryz.prog th (Rvb jKa lIa bFb) 89 Uta (.ty .bool) [])
noncomputable def Pva (l0 : List D0) (i1 : Int) (fk : Fk) (bd : Bd) (sm : Sm) : Option (Bool × Unit) :=
    fk (decide ((↑(List.length l0) : Int) > i1)) (some (false, ())) (bd (Ioa (l0, (0 : Int), ())) fun y0 => sm y0 (fun y1 => some (false, ())) fun y2 => some (true, ()))
theorem Ejb (l0 i1) : Oua (l0, i1, ()) = Pva l0 i1 jKa lIa bFb := eqF (S := Rvb) fun _ _ _ => by kernel_rfl
noncomputable def Rwb : OCs := addF Rvb Tryz.prog 89 Uta (.ty .bool) [] Oua
theorem Imb : fEb Tryz.prog th Rwb := Ilb.addF rfl
theorem Mvb : nJb Tryz.prog th 89 Uta (.ty .bool) [] Oua := Ilb.fn rfl
abbrev Oha : List Shp := [(.ty Y0), (.ty (.int .i64))]
noncomputable def Kba : D1 × Int × Unit → Option (Bool × Unit) := jTa (fnT Tryz.prog th (Rwb jKa lIa bFb) 39 Oha (.ty .bool) [])
noncomputable def Vga (x0 : D3 × (List D3) × ByteArray × (List D0) × Unit) (i1 : Int) (fk : Fk) (bd : Bd) (sm : Sm) : Option (Bool × Unit) :=
    bd (Oua (x0.2.2.2.1, i1, ())) fun y0 => fk y0.1 (fk (decide ((↑(List.length x0.2.1) : Int) ≤ (100 : Int))) (some (decide ((↑(ByteArray.size x0.2.2.1) : Int) ≤ (200 : Int)), ())) (some (false, ()))) (some (false, ()))
theorem Zoa (x0 i1) : Kba (x0, i1, ()) = Vga x0 i1 jKa lIa bFb := eqF (S := Rwb) fun _ _ _ => by kernel_rfl
noncomputable def Rxb : OCs := addF Rwb Tryz.prog 39 Oha (.ty .bool) [] Kba
theorem Lsb : fEb Tryz.prog th Rxb := Imb.addF rfl
theorem Kzb : nJb Tryz.prog th 39 Oha (.ty .bool) [] Kba := Imb.fn rfl
abbrev Tja : fCa := ⟨[], [], [], [], [(.ty (.list Y0)), (.st (.bool false)), (.ty (.int .i64))]⟩
abbrev Tya : List sQa := [⟨.ret, ⟨[], [], [], [], [(.ty (.list Y0)), (.st (.bool false)), (.ty (.int .i64))]⟩⟩, ⟨(.exit 0), ⟨[], [], [], [], [(.ty (.list Y0)), (.st (.bool false)), (.ty (.int .i64))]⟩⟩]
noncomputable def Ipa : (List D1) × Int × Unit → Option (((List D1) × Int × Unit) ⊕ ((List D1) × Int × Unit)) := jTa (pBa (nHa Tryz.prog th (Rxb jKa lIa bFb) 11 4 Tja Tya))
noncomputable def Jea (l0 : List D1) (i1 : Int) (fk : Fk) (bd : Bd) (sm : Sm) : Option (((List D1) × Int × Unit) ⊕ (((List D1) × Int × Unit) ⊕ ((List D1) × Int × Unit))) :=
    let z0 := (List.getD l0 (Int.toNat i1) (((0 : Int), (0 : Int), ()), @List.nil D3, ByteArray.empty, @List.nil D0, ()))
    fk (decide (i1 < (↑(List.length l0) : Int))) (fk (decide ((0 : Int) ≤ i1)) (fk (decide (i1 < (↑(List.length l0) : Int))) (bd (Kba (((z0.1.1, z0.1.2.1, ()), z0.2.1, z0.2.2.1, z0.2.2.2.1, ()), (10 : Int), ())) fun y0 => fk (!y0.1) (some (Sum.inr (Sum.inl (l0, i1, ())))) (some (Sum.inl (l0, IntKind.wrap IntKind.i64 (i1 + (1 : Int)), ())))) none) none) (some (Sum.inr (Sum.inr (l0, i1, ()))))
theorem Oxa (l0 i1) : Ipa (l0, i1, ()) = (Jea l0 i1 jKa lIa bFb).bind (Sum.elim Ipa some) := eqL (S := Rxb) fun _ _ _ => by kernel_rfl
noncomputable def Ryb : OCs := addL Rxb Tryz.prog 11 4 Tja Tya Ipa
theorem Inb : fEb Tryz.prog th Ryb := Lsb.addL (by kernel_rfl) (by kernel_rfl) (by kernel_rfl) rfl
abbrev Uua : List Shp := [(.ty (.list Y0)), (.ty (.int .i64))]
noncomputable def Loa : (List D1) × Int × Unit → Option (Bool × Unit) := jTa (fnT Tryz.prog th (Ryb jKa lIa bFb) 11 Uua (.ty .bool) [])
noncomputable def Pwa (l0 : List D1) (i1 : Int) (fk : Fk) (bd : Bd) (sm : Sm) : Option (Bool × Unit) :=
    fk (decide ((↑(List.length l0) : Int) > i1)) (some (false, ())) (bd (Ipa (l0, (0 : Int), ())) fun y0 => sm y0 (fun y1 => some (false, ())) fun y2 => some (true, ()))
theorem Elb (l0 i1) : Loa (l0, i1, ()) = Pwa l0 i1 jKa lIa bFb := eqF (S := Ryb) fun _ _ _ => by kernel_rfl
noncomputable def Rzb : OCs := addF Ryb Tryz.prog 11 Uua (.ty .bool) [] Loa
theorem Ltb : fEb Tryz.prog th Rzb := Inb.addF rfl
theorem Mwb : nJb Tryz.prog th 11 Uua (.ty .bool) [] Loa := Inb.fn rfl
abbrev Oqa : fCa := ⟨[], [], [], [], [(.ty Y2), (.st (.bool false)), (.ty (.int .i64))]⟩
abbrev Pga : List sQa := [⟨.ret, ⟨[], [], [], [], [(.ty Y2), (.st (.bool false)), (.ty (.int .i64))]⟩⟩, ⟨(.exit 0), ⟨[], [], [], [], [(.ty Y2), (.st (.bool false)), (.ty (.int .i64))]⟩⟩]
noncomputable def Fca : (List D2) × Int × Unit → Option (D9 ⊕ D9) := jTa (pBa (nHa Tryz.prog th (Rzb jKa lIa bFb) 88 4 Oqa Pga))
noncomputable def Dja (l0 : List D2) (i1 : Int) (fk : Fk) (bd : Bd) (sm : Sm) : Option (D9 ⊕ (D9 ⊕ D9)) :=
    fk (decide (i1 < (↑(List.length l0) : Int))) (fk (decide ((0 : Int) ≤ i1)) (fk (decide (i1 < (↑(List.length l0) : Int))) (bd (Fta ((List.getD l0 (Int.toNat i1) (ByteArray.empty, @List.nil ByteArray, ())).2.1, (300 : Int), ())) fun y0 => fk (!y0.1) (some (Sum.inr (Sum.inl (l0, i1, ())))) (fk (decide ((0 : Int) ≤ i1)) (fk (decide (i1 < (↑(List.length l0) : Int))) (fk (decide ((↑(ByteArray.size (List.getD l0 (Int.toNat i1) (ByteArray.empty, @List.nil ByteArray, ())).1) : Int) > (100 : Int))) (some (Sum.inr (Sum.inl (l0, i1, ())))) (some (Sum.inl (l0, IntKind.wrap IntKind.i64 (i1 + (1 : Int)), ())))) none) none)) none) none) (some (Sum.inr (Sum.inr (l0, i1, ()))))
theorem Lma (l0 i1) : Fca (l0, i1, ()) = (Dja l0 i1 jKa lIa bFb).bind (Sum.elim Fca some) := eqL (S := Rzb) fun _ _ _ => by kernel_rfl
noncomputable def Sab : OCs := addL Rzb Tryz.prog 88 4 Oqa Pga Fca
theorem Iob : fEb Tryz.prog th Sab := Ltb.addL (by kernel_rfl) (by kernel_rfl) (by kernel_rfl) rfl
abbrev Ofa : List Shp := [(.ty Y2)]
noncomputable def Jza : (List D2) × Unit → Option (Bool × Unit) := jTa (fnT Tryz.prog th (Sab jKa lIa bFb) 88 Ofa (.ty .bool) [])
noncomputable def Kpa (l0 : List D2) (fk : Fk) (bd : Bd) (sm : Sm) : Option (Bool × Unit) :=
    fk (decide ((↑(List.length l0) : Int) > (40 : Int))) (some (false, ())) (bd (Fca (l0, (0 : Int), ())) fun y0 => sm y0 (fun y1 => some (false, ())) fun y2 => some (true, ()))
theorem Zla (l0) : Jza (l0, ()) = Kpa l0 jKa lIa bFb := eqF (S := Sab) fun _ _ _ => by kernel_rfl
noncomputable def Sbb : OCs := addF Sab Tryz.prog 88 Ofa (.ty .bool) [] Jza
theorem Lub : fEb Tryz.prog th Sbb := Iob.addF rfl
theorem Kxb : nJb Tryz.prog th 88 Ofa (.ty .bool) [] Jza := Iob.fn rfl
abbrev Ora : fCa := ⟨[], [], [], [], [(.ty Y2), (.st (.bool false)), (.ty (.int .i64))]⟩
abbrev Pha : List sQa := [⟨.ret, ⟨[], [], [], [], [(.ty Y2), (.st (.bool false)), (.ty (.int .i64))]⟩⟩, ⟨(.exit 0), ⟨[], [], [], [], [(.ty Y2), (.st (.bool false)), (.ty (.int .i64))]⟩⟩]
noncomputable def Fda : (List D2) × Int × Unit → Option (D9 ⊕ D9) := jTa (pBa (nHa Tryz.prog th (Sbb jKa lIa bFb) 38 5 Ora Pha))
noncomputable def Gja (l0 : List D2) (i1 : Int) (fk : Fk) (bd : Bd) (sm : Sm) : Option (D9 ⊕ (D9 ⊕ D9)) :=
    fk (decide (i1 < (↑(List.length l0) : Int))) (fk (decide ((0 : Int) ≤ i1)) (fk (decide (i1 < (↑(List.length l0) : Int))) (fk (decide ((↑(List.length (List.getD l0 (Int.toNat i1) (ByteArray.empty, @List.nil ByteArray, ())).2.1) : Int) > (40 : Int))) (some (Sum.inr (Sum.inl (l0, i1, ())))) (some (Sum.inl (l0, IntKind.wrap IntKind.i64 (i1 + (1 : Int)), ())))) none) none) (some (Sum.inr (Sum.inr (l0, i1, ()))))
theorem Lpa (l0 i1) : Fda (l0, i1, ()) = (Gja l0 i1 jKa lIa bFb).bind (Sum.elim Fda some) := eqL (S := Sbb) fun _ _ _ => by kernel_rfl
noncomputable def Scb : OCs := addL Sbb Tryz.prog 38 5 Ora Pha Fda
theorem Lvb : fEb Tryz.prog th Scb := Lub.addL (by kernel_rfl) (by kernel_rfl) (by kernel_rfl) rfl
abbrev Vla : List Shp := [(.ty Y2)]
noncomputable def Kda : (List D2) × Unit → Option (Bool × Unit) := jTa (fnT Tryz.prog th (Scb jKa lIa bFb) 38 Vla (.ty .bool) [])
noncomputable def Iha (l0 : List D2) (fk : Fk) (bd : Bd) (sm : Sm) : Option (Bool × Unit) :=
    bd (Jza (l0, ())) fun y0 => fk (!y0.1) (some (false, ())) (fk (decide ((↑(List.length l0) : Int) > (6 : Int))) (some (false, ())) (bd (Fda (l0, (0 : Int), ())) fun y1 => sm y1 (fun y2 => some (false, ())) fun y3 => some (true, ())))
theorem Zta (l0) : Kda (l0, ()) = Iha l0 jKa lIa bFb := eqF (S := Scb) fun _ _ _ => by kernel_rfl
noncomputable def Sdb : OCs := addF Scb Tryz.prog 38 Vla (.ty .bool) [] Kda
theorem Ipb : fEb Tryz.prog th Sdb := Lvb.addF rfl
abbrev Oia : List Shp := [(.ty Y4)]
noncomputable def Kca : D6 × Unit → Option (Bool × Unit) := jTa (fnT Tryz.prog th (Sdb jKa lIa bFb) 19 Oia (.ty .bool) [])
noncomputable def Vha (x0 : Int × (List D1) × (List D2) × (List D2) × Int × Unit) (fk : Fk) (bd : Bd) (sm : Sm) : Option (Bool × Unit) :=
    bd (Loa (x0.2.1, (10 : Int), ())) fun y0 => bd (Kda (x0.2.2.1, ())) fun y1 => bd (Kda (x0.2.2.2.1, ())) fun y2 => fk y0.1 (fk y1.1 (some (y2.1, ())) (some (false, ()))) (some (false, ()))
theorem Zqa (x0) : Kca (x0, ()) = Vha x0 jKa lIa bFb := eqF (S := Sdb) fun _ _ _ => by kernel_rfl
noncomputable def Seb : OCs := addF Sdb Tryz.prog 19 Oia (.ty .bool) [] Kca
theorem Lwb : fEb Tryz.prog th Seb := Ipb.addF rfl
theorem Lab : nJb Tryz.prog th 19 Oia (.ty .bool) [] Kca := Ipb.fn rfl
abbrev Vna : List Shp := [(.ty Y4)]
noncomputable def Mja : D6 × Unit → Option D23 := jTa (fnT Tryz.prog th (Seb jKa lIa bFb) 21 Vna (.tuple [(.ty Y4), (.ty (.int .i64))]) [])
noncomputable def Vja (x0 : Int × (List D1) × (List D2) × (List D2) × Int × Unit) (fk : Fk) (bd : Bd) (sm : Sm) : Option D23 :=
    bd (Ppa ((x0.1, x0.2.1, x0.2.2.1, x0.2.2.2.1, x0.2.2.2.2.1, ()), x0.2.2.1, ())) fun y0 => some ((y0.1.1, y0.1.2.1, y0.1.2.2.1, y0.1.2.2.2.1, y0.1.2.2.2.2.1, ()), y0.2.1, ())
theorem Zxa (x0) : Mja (x0, ()) = Vja x0 jKa lIa bFb := eqF (S := Seb) fun _ _ _ => by kernel_rfl
noncomputable def Sfb : OCs := addF Seb Tryz.prog 21 Vna (.tuple [(.ty Y4), (.ty (.int .i64))]) [] Mja
theorem Lxb : fEb Tryz.prog th Sfb := Lwb.addF rfl
abbrev Rka : fCa := ⟨[], [], [], [], [(.ty (.list .str)), (.ty (.list .str)), (.st (.bool false)), (.ty (.int .i64))]⟩
abbrev Rxa : List sQa := [⟨.ret, ⟨[], [], [], [], [(.ty (.list .str)), (.ty (.list .str)), (.st (.bool false)), (.ty (.int .i64))]⟩⟩, ⟨(.exit 0), ⟨[], [], [], [], [(.ty (.list .str)), (.ty (.list .str)), (.st (.bool false)), (.ty (.int .i64))]⟩⟩]
noncomputable def Gza : List ByteArray × List ByteArray × Int × Unit → Option ((List ByteArray × List ByteArray × Int × Unit) ⊕ (List ByteArray × List ByteArray × Int × Unit)) := jTa (pBa (nHa Tryz.prog th (Sfb jKa lIa bFb) 115 4 Rka Rxa))
noncomputable def Hza (l0 : List ByteArray) (l1 : List ByteArray) (i2 : Int) (fk : Fk) (bd : Bd) (sm : Sm) : Option ((List ByteArray × List ByteArray × Int × Unit) ⊕ ((List ByteArray × List ByteArray × Int × Unit) ⊕ (List ByteArray × List ByteArray × Int × Unit))) :=
    fk (decide (i2 < (↑(List.length l0) : Int))) (fk (decide ((0 : Int) ≤ i2)) (fk (decide (i2 < (↑(List.length l0) : Int))) (fk (decide ((0 : Int) ≤ i2)) (fk (decide (i2 < (↑(List.length l1) : Int))) (fk (!ByteArray.toList (List.getD l0 (Int.toNat i2) ByteArray.empty) == ByteArray.toList (List.getD l1 (Int.toNat i2) ByteArray.empty)) (some (Sum.inr (Sum.inl (l0, l1, i2, ())))) (some (Sum.inl (l0, l1, IntKind.wrap IntKind.i64 (i2 + (1 : Int)), ())))) none) none) none) none) (some (Sum.inr (Sum.inr (l0, l1, i2, ()))))
theorem Nja (l0 l1 i2) : Gza (l0, l1, i2, ()) = (Hza l0 l1 i2 jKa lIa bFb).bind (Sum.elim Gza some) := eqL (S := Sfb) fun _ _ _ => by kernel_rfl
noncomputable def Sgb : OCs := addL Sfb Tryz.prog 115 4 Rka Rxa Gza
theorem Lyb : fEb Tryz.prog th Sgb := Lxb.addL (by kernel_rfl) (by kernel_rfl) (by kernel_rfl) rfl
abbrev Xpa : List Shp := [(.ty (.list .str)), (.ty (.list .str))]
noncomputable def Jka : List ByteArray × List ByteArray × Unit → Option (Bool × Unit) := jTa (fnT Tryz.prog th (Sgb jKa lIa bFb) 115 Xpa (.ty .bool) [])
noncomputable def Lza (l0 : List ByteArray) (l1 : List ByteArray) (fk : Fk) (bd : Bd) (sm : Sm) : Option (Bool × Unit) :=
    fk ((↑(List.length l0) : Int) != (↑(List.length l1) : Int)) (some (false, ())) (bd (Gza (l0, l1, (0 : Int), ())) fun y0 => sm y0 (fun y1 => some (false, ())) fun y2 => some (true, ()))
theorem Ckb (l0 l1) : Jka (l0, l1, ()) = Lza l0 l1 jKa lIa bFb := eqF (S := Sgb) fun _ _ _ => by kernel_rfl
noncomputable def Shb : OCs := addF Sgb Tryz.prog 115 Xpa (.ty .bool) [] Jka
theorem Lzb : fEb Tryz.prog th Shb := Lyb.addF rfl
abbrev Xqa : List Shp := [(.ty Y5), (.ty Y5)]
noncomputable def Qja : D4 × D4 × Unit → Option (Bool × Unit) := jTa (fnT Tryz.prog th (Shb jKa lIa bFb) 136 Xqa (.ty .bool) [])
noncomputable def Joa (x0 : Int × List ByteArray × List ByteArray × Unit) (x1 : Int × List ByteArray × List ByteArray × Unit) (fk : Fk) (bd : Bd) (sm : Sm) : Option (Bool × Unit) :=
    bd (Jka (x0.2.1, x1.2.1, ())) fun y0 => bd (Jka (x0.2.2.1, x1.2.2.1, ())) fun y1 => fk y0.1 (fk y1.1 (some (x0.1 == x1.1, ())) (some (false, ()))) (some (false, ()))
theorem Clb (x0 x1) : Qja (x0, x1, ()) = Joa x0 x1 jKa lIa bFb := eqF (S := Shb) fun _ _ _ => by kernel_rfl
noncomputable def Sib : OCs := addF Shb Tryz.prog 136 Xqa (.ty .bool) [] Qja
theorem Mab : fEb Tryz.prog th Sib := Lzb.addF rfl
abbrev Xta : List Shp := [(.ty Y1), (.ty Y1)]
noncomputable def Qla : D0 × D0 × Unit → Option (Bool × Unit) := jTa (fnT Tryz.prog th (Sib jKa lIa bFb) 86 Xta (.ty .bool) [])
noncomputable def Jpa (x0 : Int × ByteArray × ByteArray × D4 × Unit) (x1 : Int × ByteArray × ByteArray × D4 × Unit) (fk : Fk) (bd : Bd) (sm : Sm) : Option (Bool × Unit) :=
    bd (Qja ((x0.2.2.2.1.1, x0.2.2.2.1.2.1, x0.2.2.2.1.2.2.1, ()), (x1.2.2.2.1.1, x1.2.2.2.1.2.1, x1.2.2.2.1.2.2.1, ()), ())) fun y0 => fk y0.1 (fk (x0.1 == x1.1) (fk (ByteArray.toList x0.2.1 == ByteArray.toList x1.2.1) (some (ByteArray.toList x0.2.2.1 == ByteArray.toList x1.2.2.1, ())) (some (false, ()))) (some (false, ()))) (some (false, ()))
theorem Cqb (x0 x1) : Qla (x0, x1, ()) = Jpa x0 x1 jKa lIa bFb := eqF (S := Sib) fun _ _ _ => by kernel_rfl
noncomputable def Sjb : OCs := addF Sib Tryz.prog 86 Xta (.ty .bool) [] Qla
theorem Mbb : fEb Tryz.prog th Sjb := Mab.addF rfl
abbrev Rma : fCa := ⟨[], [], [], [], [(.ty (.list Y1)), (.ty (.list Y1)), (.st (.bool false)), (.ty (.int .i64))]⟩
abbrev Rza : List sQa := [⟨.ret, ⟨[], [], [], [], [(.ty (.list Y1)), (.ty (.list Y1)), (.st (.bool false)), (.ty (.int .i64))]⟩⟩, ⟨(.exit 0), ⟨[], [], [], [], [(.ty (.list Y1)), (.ty (.list Y1)), (.st (.bool false)), (.ty (.int .i64))]⟩⟩]
noncomputable def Hca : (List D0) × (List D0) × Int × Unit → Option (D24 ⊕ D24) := jTa (pBa (nHa Tryz.prog th (Sjb jKa lIa bFb) 35 4 Rma Rza))
noncomputable def Iaa (l0 : List D0) (l1 : List D0) (i2 : Int) (fk : Fk) (bd : Bd) (sm : Sm) : Option (D24 ⊕ (D24 ⊕ D24)) :=
    let z0 := ((0 : Int), ByteArray.empty, ByteArray.empty, ((0 : Int), @List.nil ByteArray, @List.nil ByteArray, ()), ())
    let z1 := (List.getD l0 (Int.toNat i2) z0)
    let z2 := (List.getD l1 (Int.toNat i2) z0)
    fk (decide (i2 < (↑(List.length l0) : Int))) (fk (decide ((0 : Int) ≤ i2)) (fk (decide (i2 < (↑(List.length l0) : Int))) (fk (decide ((0 : Int) ≤ i2)) (fk (decide (i2 < (↑(List.length l1) : Int))) (bd (Qla ((z1.1, z1.2.1, z1.2.2.1, (z1.2.2.2.1.1, z1.2.2.2.1.2.1, z1.2.2.2.1.2.2.1, ()), ()), (z2.1, z2.2.1, z2.2.2.1, (z2.2.2.2.1.1, z2.2.2.2.1.2.1, z2.2.2.2.1.2.2.1, ()), ()), ())) fun y0 => fk (!y0.1) (some (Sum.inr (Sum.inl (l0, l1, i2, ())))) (some (Sum.inl (l0, l1, IntKind.wrap IntKind.i64 (i2 + (1 : Int)), ())))) none) none) none) none) (some (Sum.inr (Sum.inr (l0, l1, i2, ()))))
theorem Nna (l0 l1 i2) : Hca (l0, l1, i2, ()) = (Iaa l0 l1 i2 jKa lIa bFb).bind (Sum.elim Hca some) := eqL (S := Sjb) fun _ _ _ => by kernel_rfl
noncomputable def Skb : OCs := addL Sjb Tryz.prog 35 4 Rma Rza Hca
theorem Mcb : fEb Tryz.prog th Skb := Mbb.addL (by kernel_rfl) (by kernel_rfl) (by kernel_rfl) rfl
abbrev Xsa : List Shp := [(.ty (.list Y1)), (.ty (.list Y1))]
noncomputable def Qka : (List D0) × (List D0) × Unit → Option (Bool × Unit) := jTa (fnT Tryz.prog th (Skb jKa lIa bFb) 35 Xsa (.ty .bool) [])
noncomputable def Mba (l0 : List D0) (l1 : List D0) (fk : Fk) (bd : Bd) (sm : Sm) : Option (Bool × Unit) :=
    fk ((↑(List.length l0) : Int) != (↑(List.length l1) : Int)) (some (false, ())) (bd (Hca (l0, l1, (0 : Int), ())) fun y0 => sm y0 (fun y1 => some (false, ())) fun y2 => some (true, ()))
theorem Cob (l0 l1) : Qka (l0, l1, ()) = Mba l0 l1 jKa lIa bFb := eqF (S := Skb) fun _ _ _ => by kernel_rfl
noncomputable def Slb : OCs := addF Skb Tryz.prog 35 Xsa (.ty .bool) [] Qka
theorem Mdb : fEb Tryz.prog th Slb := Mcb.addF rfl
abbrev Roa : fCa := ⟨[], [], [[(.ty (.int .i64)), (.ty (.int .i64)), (.ty (.list Y3)), (.ty .str), (.ty (.list Y1))], [(.ty (.int .i64)), (.ty (.int .i64)), (.ty (.list Y3)), (.ty .str), (.ty (.list Y1))]], [], [(.bptr 0 0), (.bptr 1 0), (.st (.bool false)), (.ty (.int .i64))]⟩
abbrev Sba : List sQa := [⟨.ret, ⟨[], [], [[(.ty (.int .i64)), (.ty (.int .i64)), (.ty (.list Y3)), (.ty .str), (.ty (.list Y1))], [(.ty (.int .i64)), (.ty (.int .i64)), (.ty (.list Y3)), (.ty .str), (.ty (.list Y1))]], [], [(.bptr 0 0), (.bptr 1 0), (.st (.bool false)), (.ty (.int .i64))]⟩⟩, ⟨(.exit 0), ⟨[], [], [[(.ty (.int .i64)), (.ty (.int .i64)), (.ty (.list Y3)), (.ty .str), (.ty (.list Y1))], [(.ty (.int .i64)), (.ty (.int .i64)), (.ty (.list Y3)), (.ty .str), (.ty (.list Y1))]], [], [(.bptr 0 0), (.bptr 1 0), (.st (.bool false)), (.ty (.int .i64))]⟩⟩]
noncomputable def Hea : Int × Int × (List D3) × ByteArray × (List D0) × Int × Int × (List D3) × ByteArray × (List D0) × Int × Unit → Option (D8 ⊕ D8) := jTa (pBa (nHa Tryz.prog th (Slb jKa lIa bFb) 114 5 Roa Sba))
noncomputable def Ica (i0 : Int) (i1 : Int) (l2 : List D3) (s3 : ByteArray) (l4 : List D0) (i5 : Int) (i6 : Int) (l7 : List D3) (s8 : ByteArray) (l9 : List D0) (i10 : Int) (fk : Fk) (bd : Bd) (sm : Sm) : Option (D8 ⊕ (D8 ⊕ D8)) :=
    fk (decide (i10 < (↑(List.length l2) : Int))) (fk (decide ((0 : Int) ≤ i10)) (fk (decide (i10 < (↑(List.length l2) : Int))) (fk (decide ((0 : Int) ≤ i10)) (fk (decide (i10 < (↑(List.length l7) : Int))) (fk (!((List.getD l2 (Int.toNat i10) ((0 : Int), (0 : Int), ())).1 == (List.getD l7 (Int.toNat i10) ((0 : Int), (0 : Int), ())).1 && ((List.getD l2 (Int.toNat i10) ((0 : Int), (0 : Int), ())).2.1 == (List.getD l7 (Int.toNat i10) ((0 : Int), (0 : Int), ())).2.1 && true))) (some (Sum.inr (Sum.inl (i0, i1, l2, s3, l4, i5, i6, l7, s8, l9, i10, ())))) (some (Sum.inl (i0, i1, l2, s3, l4, i5, i6, l7, s8, l9, IntKind.wrap IntKind.i64 (i10 + (1 : Int)), ())))) none) none) none) none) (some (Sum.inr (Sum.inr (i0, i1, l2, s3, l4, i5, i6, l7, s8, l9, i10, ()))))
theorem Nra (i0 i1 l2 s3 l4 i5 i6 l7 s8 l9 i10) : Hea (i0, i1, l2, s3, l4, i5, i6, l7, s8, l9, i10, ()) = (Ica i0 i1 l2 s3 l4 i5 i6 l7 s8 l9 i10 jKa lIa bFb).bind (Sum.elim Hea some) := eqL (S := Slb) fun _ _ _ => by kernel_rfl
noncomputable def Smb : OCs := addL Slb Tryz.prog 114 5 Roa Sba Hea
theorem Meb : fEb Tryz.prog th Smb := Mdb.addL (by kernel_rfl) (by kernel_rfl) (by kernel_rfl) rfl
abbrev Xva : List Shp := [(.ty Y0), (.ty Y0)]
noncomputable def Qna : D1 × D1 × Unit → Option (Bool × Unit) := jTa (fnT Tryz.prog th (Smb jKa lIa bFb) 114 Xva (.ty .bool) [])
noncomputable def Wxa (x0 : D3 × (List D3) × ByteArray × (List D0) × Unit) (x1 : D3 × (List D3) × ByteArray × (List D0) × Unit) (fk : Fk) (bd : Bd) (sm : Sm) : Option (Bool × Unit) :=
    bd (Qka (x0.2.2.2.1, x1.2.2.2.1, ())) fun y0 => fk (!y0.1) (some (false, ())) (fk (!(x0.1.1 == x1.1.1 && (x0.1.2.1 == x1.1.2.1 && true))) (some (false, ())) (fk (!ByteArray.toList x0.2.2.1 == ByteArray.toList x1.2.2.1) (some (false, ())) (fk ((↑(List.length x0.2.1) : Int) != (↑(List.length x1.2.1) : Int)) (some (false, ())) (bd (Hea (x0.1.1, x0.1.2.1, x0.2.1, x0.2.2.1, x0.2.2.2.1, x1.1.1, x1.1.2.1, x1.2.1, x1.2.2.1, x1.2.2.2.1, (0 : Int), ())) fun y1 => sm y1 (fun y2 => some (false, ())) fun y3 => some (true, ())))))
theorem Cub (x0 x1) : Qna (x0, x1, ()) = Wxa x0 x1 jKa lIa bFb := eqF (S := Smb) fun _ _ _ => by kernel_rfl
noncomputable def Snb : OCs := addF Smb Tryz.prog 114 Xva (.ty .bool) [] Qna
theorem Mfb : fEb Tryz.prog th Snb := Meb.addF rfl
abbrev Rna : fCa := ⟨[], [], [], [], [(.ty (.list Y0)), (.ty (.list Y0)), (.st (.bool false)), (.ty (.int .i64))]⟩
abbrev Saa : List sQa := [⟨.ret, ⟨[], [], [], [], [(.ty (.list Y0)), (.ty (.list Y0)), (.st (.bool false)), (.ty (.int .i64))]⟩⟩, ⟨(.exit 0), ⟨[], [], [], [], [(.ty (.list Y0)), (.ty (.list Y0)), (.st (.bool false)), (.ty (.int .i64))]⟩⟩]
noncomputable def Hda : (List D1) × (List D1) × Int × Unit → Option (((List D1) × (List D1) × Int × Unit) ⊕ ((List D1) × (List D1) × Int × Unit)) := jTa (pBa (nHa Tryz.prog th (Snb jKa lIa bFb) 59 4 Rna Saa))
noncomputable def Iba (l0 : List D1) (l1 : List D1) (i2 : Int) (fk : Fk) (bd : Bd) (sm : Sm) : Option (((List D1) × (List D1) × Int × Unit) ⊕ (((List D1) × (List D1) × Int × Unit) ⊕ ((List D1) × (List D1) × Int × Unit))) :=
    let z0 := (((0 : Int), (0 : Int), ()), @List.nil D3, ByteArray.empty, @List.nil D0, ())
    fk (decide (i2 < (↑(List.length l0) : Int))) (fk (decide ((0 : Int) ≤ i2)) (fk (decide (i2 < (↑(List.length l0) : Int))) (fk (decide ((0 : Int) ≤ i2)) (fk (decide (i2 < (↑(List.length l1) : Int))) (bd (Qna ((((List.getD l0 (Int.toNat i2) z0).1.1, (List.getD l0 (Int.toNat i2) z0).1.2.1, ()), (List.getD l0 (Int.toNat i2) z0).2.1, (List.getD l0 (Int.toNat i2) z0).2.2.1, (List.getD l0 (Int.toNat i2) z0).2.2.2.1, ()), (((List.getD l1 (Int.toNat i2) z0).1.1, (List.getD l1 (Int.toNat i2) z0).1.2.1, ()), (List.getD l1 (Int.toNat i2) z0).2.1, (List.getD l1 (Int.toNat i2) z0).2.2.1, (List.getD l1 (Int.toNat i2) z0).2.2.2.1, ()), ())) fun y0 => fk (!y0.1) (some (Sum.inr (Sum.inl (l0, l1, i2, ())))) (some (Sum.inl (l0, l1, IntKind.wrap IntKind.i64 (i2 + (1 : Int)), ())))) none) none) none) none) (some (Sum.inr (Sum.inr (l0, l1, i2, ()))))
theorem Npa (l0 l1 i2) : Hda (l0, l1, i2, ()) = (Iba l0 l1 i2 jKa lIa bFb).bind (Sum.elim Hda some) := eqL (S := Snb) fun _ _ _ => by kernel_rfl
noncomputable def Sob : OCs := addL Snb Tryz.prog 59 4 Rna Saa Hda
theorem Mgb : fEb Tryz.prog th Sob := Mfb.addL (by kernel_rfl) (by kernel_rfl) (by kernel_rfl) rfl
abbrev Xua : List Shp := [(.ty (.list Y0)), (.ty (.list Y0))]
noncomputable def Qma : (List D1) × (List D1) × Unit → Option (Bool × Unit) := jTa (fnT Tryz.prog th (Sob jKa lIa bFb) 59 Xua (.ty .bool) [])
noncomputable def Mca (l0 : List D1) (l1 : List D1) (fk : Fk) (bd : Bd) (sm : Sm) : Option (Bool × Unit) :=
    fk ((↑(List.length l0) : Int) != (↑(List.length l1) : Int)) (some (false, ())) (bd (Hda (l0, l1, (0 : Int), ())) fun y0 => sm y0 (fun y1 => some (false, ())) fun y2 => some (true, ()))
theorem Csb (l0 l1) : Qma (l0, l1, ()) = Mca l0 l1 jKa lIa bFb := eqF (S := Sob) fun _ _ _ => by kernel_rfl
noncomputable def Spb : OCs := addF Sob Tryz.prog 59 Xua (.ty .bool) [] Qma
theorem Mhb : fEb Tryz.prog th Spb := Mgb.addF rfl
abbrev Rla : fCa := ⟨[], [], [], [], [(.ty Y2), (.ty Y2), (.st (.bool false)), (.ty (.int .i64))]⟩
abbrev Rya : List sQa := [⟨.ret, ⟨[], [], [], [], [(.ty Y2), (.ty Y2), (.st (.bool false)), (.ty (.int .i64))]⟩⟩, ⟨(.exit 0), ⟨[], [], [], [], [(.ty Y2), (.ty Y2), (.st (.bool false)), (.ty (.int .i64))]⟩⟩]
noncomputable def Hba : (List D2) × (List D2) × Int × Unit → Option (((List D2) × (List D2) × Int × Unit) ⊕ ((List D2) × (List D2) × Int × Unit)) := jTa (pBa (nHa Tryz.prog th (Spb jKa lIa bFb) 60 4 Rla Rya))
noncomputable def Eua (l0 : List D2) (l1 : List D2) (i2 : Int) (fk : Fk) (bd : Bd) (sm : Sm) : Option (((List D2) × (List D2) × Int × Unit) ⊕ (((List D2) × (List D2) × Int × Unit) ⊕ ((List D2) × (List D2) × Int × Unit))) :=
    fk (decide (i2 < (↑(List.length l0) : Int))) (fk (decide ((0 : Int) ≤ i2)) (fk (decide (i2 < (↑(List.length l0) : Int))) (fk (decide ((0 : Int) ≤ i2)) (fk (decide (i2 < (↑(List.length l1) : Int))) (bd (Jka ((List.getD l0 (Int.toNat i2) (ByteArray.empty, @List.nil ByteArray, ())).2.1, (List.getD l1 (Int.toNat i2) (ByteArray.empty, @List.nil ByteArray, ())).2.1, ())) fun y0 => fk (!y0.1) (some (Sum.inr (Sum.inl (l0, l1, i2, ())))) (fk (decide ((0 : Int) ≤ i2)) (fk (decide (i2 < (↑(List.length l0) : Int))) (fk (decide ((0 : Int) ≤ i2)) (fk (decide (i2 < (↑(List.length l1) : Int))) (fk (!ByteArray.toList (List.getD l0 (Int.toNat i2) (ByteArray.empty, @List.nil ByteArray, ())).1 == ByteArray.toList (List.getD l1 (Int.toNat i2) (ByteArray.empty, @List.nil ByteArray, ())).1) (some (Sum.inr (Sum.inl (l0, l1, i2, ())))) (some (Sum.inl (l0, l1, IntKind.wrap IntKind.i64 (i2 + (1 : Int)), ())))) none) none) none) none)) none) none) none) none) (some (Sum.inr (Sum.inr (l0, l1, i2, ()))))
theorem Nla (l0 l1 i2) : Hba (l0, l1, i2, ()) = (Eua l0 l1 i2 jKa lIa bFb).bind (Sum.elim Hba some) := eqL (S := Spb) fun _ _ _ => by kernel_rfl
noncomputable def Sqb : OCs := addL Spb Tryz.prog 60 4 Rla Rya Hba
theorem Mib : fEb Tryz.prog th Sqb := Mhb.addL (by kernel_rfl) (by kernel_rfl) (by kernel_rfl) rfl
abbrev Xra : List Shp := [(.ty Y2), (.ty Y2)]
noncomputable def Lva : (List D2) × (List D2) × Unit → Option (Bool × Unit) := jTa (fnT Tryz.prog th (Sqb jKa lIa bFb) 60 Xra (.ty .bool) [])
noncomputable def Maa (l0 : List D2) (l1 : List D2) (fk : Fk) (bd : Bd) (sm : Sm) : Option (Bool × Unit) :=
    fk ((↑(List.length l0) : Int) != (↑(List.length l1) : Int)) (some (false, ())) (bd (Hba (l0, l1, (0 : Int), ())) fun y0 => sm y0 (fun y1 => some (false, ())) fun y2 => some (true, ()))
theorem Cnb (l0 l1) : Lva (l0, l1, ()) = Maa l0 l1 jKa lIa bFb := eqF (S := Sqb) fun _ _ _ => by kernel_rfl
noncomputable def Srb : OCs := addF Sqb Tryz.prog 60 Xra (.ty .bool) [] Lva
theorem Mjb : fEb Tryz.prog th Srb := Mib.addF rfl
abbrev Xwa : List Shp := [(.ty Y4), (.ty Y4)]
noncomputable def Qoa : D6 × D6 × Unit → Option (Bool × Unit) := jTa (fnT Tryz.prog th (Srb jKa lIa bFb) 23 Xwa (.ty .bool) [])
noncomputable def Wya (x0 : Int × (List D1) × (List D2) × (List D2) × Int × Unit) (x1 : Int × (List D1) × (List D2) × (List D2) × Int × Unit) (fk : Fk) (bd : Bd) (sm : Sm) : Option (Bool × Unit) :=
    bd (Qma (x0.2.1, x1.2.1, ())) fun y0 => bd (Lva (x0.2.2.1, x1.2.2.1, ())) fun y1 => bd (Lva (x0.2.2.2.1, x1.2.2.2.1, ())) fun y2 => fk y0.1 (fk y1.1 (fk y2.1 (fk (x0.1 == x1.1) (some (x0.2.2.2.2.1 == x1.2.2.2.2.1, ())) (some (false, ()))) (some (false, ()))) (some (false, ()))) (some (false, ()))
theorem Cwb (x0 x1) : Qoa (x0, x1, ()) = Wya x0 x1 jKa lIa bFb := eqF (S := Srb) fun _ _ _ => by kernel_rfl
noncomputable def Ssb : OCs := addF Srb Tryz.prog 23 Xwa (.ty .bool) [] Qoa
theorem Iqb : fEb Tryz.prog th Ssb := Mjb.addF rfl
abbrev Gka : List Shp := [(.ty Y4)]
noncomputable def Eca : D6 × Unit → Option (Bool × Unit) := jTa (fnT Tryz.prog th (Ssb jKa lIa bFb) 5 Gka (.ty .bool) [])
noncomputable def Kqa (x0 : Int × (List D1) × (List D2) × (List D2) × Int × Unit) (fk : Fk) (bd : Bd) (sm : Sm) : Option (Bool × Unit) :=
    let z0 := (x0.1, x0.2.1, x0.2.2.1, x0.2.2.2.1, x0.2.2.2.2.1, ())
    bd (Sqa ()) fun y0 => bd (Kca (z0, ())) fun y1 => fk (!y0.1) (some (y0.1, ())) (fk (!y1.1) (some (y0.1, ())) (bd (Qpa (z0, ())) fun y2 => fk (!y2.1) (some (y0.1, ())) (bd (Mja (z0, ())) fun y3 => bd (Ppa (z0, x0.2.2.2.1, ())) fun y4 => bd (Qoa ((y4.1.1, y4.1.2.1, y4.1.2.2.1, y4.1.2.2.2.1, y4.1.2.2.2.2.1, ()), z0, ())) fun y5 => fk (y3.2.1 == (0 : Int)) (fk (y4.2.1 == (0 : Int)) (bd (Uma ((y3.1.1, y3.1.2.1, y3.1.2.2.1, y3.1.2.2.2.1, y3.1.2.2.2.2.1, ()), ())) fun y6 => fk ((↑(List.length y6.1) : Int) == (0 : Int)) (bd (Kia (y3.1.2.2.2.1, x0.2.2.1, ())) fun y7 => fk y7.1 (some (y5.1, ())) (some (false, ()))) (some (false, ()))) (some (false, ()))) (some (false, ())))))
theorem Qya (x0) : Eca (x0, ()) = Kqa x0 jKa lIa bFb := eqF (S := Ssb) fun _ _ _ => by kernel_rfl
noncomputable def Tmb : OCs := addF Ssb Tryz.prog 5 Gka (.ty .bool) [] Eca
theorem Svb : fEb Tryz.prog th Tmb := Iqb.addF rfl
theorem Sra : nJb Tryz.prog th 5 Gka (.ty .bool) [] Eca := Iqb.fn rfl
end Go.Proofs.YtpeaaophmddhnaaGreat.LI
