/-
  The tables of this seat: which functions are entered, which are answered on an empty store, what the types are.
-/
import Derived.Test.YtecokfbldjekiaaLiY
import Derived.Test.YtecokfbldjekiaaProg
import Derived.KernelRfl
namespace Go.Proofs.Ytecokfbldjekiaa.LI
open Go Go.RowKit
def pureL : List FuncId := [3, 4, 5, 6, 7, 8, 9, 10, 11, 12, 13, 14, 15, 16, 17, 18, 19, 20, 21, 23, 24, 25, 26, 27, 29, 31, 32, 33, 34, 35, 36]
def entL : List FuncId := [22, 30] ++ pureL
def keepTab (f : Nat) : List Bool :=
  if f = 4 then [true, false, true, false, true, true] else
  if f = 5 then [true, false, true, false, true, true] else
  if f = 9 then [false, false, true, true, true, false, false, false, false, false, false, false, false, false, false, false, false, false, false, false, false, false, false, false, false, false, false, false, false, false, false, true] else
  if f = 10 then [true, true, false, false, true, true] else
  if f = 11 then [true, false, true, false, false, true, true] else
  if f = 13 then [true, false, false, false, true, true] else
  if f = 14 then [true, false, true, true, true, true, true, true, true] else
  if f = 15 then [false, false, true, true, true, false, false, false, false, false, true, true, true] else
  if f = 16 then [true, false, true, true, false, true, true] else
  if f = 17 then [true, false, true, true] else
  if f = 18 then [true, false, true, true] else
  if f = 19 then [true, false, true, true] else
  if f = 21 then [true, true, false, false, true, true] else
  if f = 27 then [true, false, true, true, true] else
  if f = 29 then [true, true, false, false, true, true, true, true, true, true, true, false, false, true, true, true, true, true] else
  if f = 30 then [true, true] else
  if f = 33 then [true, true, false, false, true, false, false, true, true] else
  if f = 34 then [false, false, true, false, true] else
  if f = 39 then [true, true, false, false, true, true, true, true, true, true, true] else
  if f = 42 then [true, false, true, true, true, true, true, true, true] else
  []
def th : Th := {
  ent := fun f => entL.contains f
  pureF := fun f => pureL.contains f
  prim := fun _ => none
  ext := fun f => if f = 40 then some indexByteL else if f = 41 then some indexByteL else if f = 28 then some countL else none
  keep := keepTab }
theorem keep4 : th.keep 4 = [true, false, true, false, true, true] := rfl
theorem keep5 : th.keep 5 = [true, false, true, false, true, true] := rfl
theorem keep9 : th.keep 9 = [false, false, true, true, true, false, false, false, false, false, false, false, false, false, false, false, false, false, false, false, false, false, false, false, false, false, false, false, false, false, false, true] := rfl
theorem keep10 : th.keep 10 = [true, true, false, false, true, true] := rfl
theorem keep11 : th.keep 11 = [true, false, true, false, false, true, true] := rfl
theorem keep13 : th.keep 13 = [true, false, false, false, true, true] := rfl
theorem keep14 : th.keep 14 = [true, false, true, true, true, true, true, true, true] := rfl
theorem keep15 : th.keep 15 = [false, false, true, true, true, false, false, false, false, false, true, true, true] := rfl
theorem keep16 : th.keep 16 = [true, false, true, true, false, true, true] := rfl
theorem keep17 : th.keep 17 = [true, false, true, true] := rfl
theorem keep18 : th.keep 18 = [true, false, true, true] := rfl
theorem keep19 : th.keep 19 = [true, false, true, true] := rfl
theorem keep21 : th.keep 21 = [true, true, false, false, true, true] := rfl
theorem keep27 : th.keep 27 = [true, false, true, true, true] := rfl
theorem keep29 : th.keep 29 = [true, true, false, false, true, true, true, true, true, true, true, false, false, true, true, true, true, true] := rfl
theorem keep30 : th.keep 30 = [true, true] := rfl
theorem keep33 : th.keep 33 = [true, true, false, false, true, false, false, true, true] := rfl
theorem keep34 : th.keep 34 = [false, false, true, false, true] := rfl
theorem keep39 : th.keep 39 = [true, true, false, false, true, true, true, true, true, true, true] := rfl
theorem keep42 : th.keep 42 = [true, false, true, true, true, true, true, true, true] := rfl
set_option maxRecDepth 100000
theorem th_ok : ThOK Try.prog th := by
  refine thOK (es := entL) (by kernel_rfl) (fun f h => List.contains_iff_mem.1 h) (by kernel_rfl) (fun f p h => by cases h) (fun f p h => ?_)
  simp only [th] at h
  split at h
  · rename_i hf; subst hf; cases h
    exact ext_indexByte Try.func40 (by kernel_rfl) (by kernel_rfl) (by kernel_rfl) (by kernel_rfl)
  · split at h
    · rename_i hf; subst hf; cases h
      exact ext_indexByte Try.func41 (by kernel_rfl) (by kernel_rfl) (by kernel_rfl) (by kernel_rfl)
    · split at h
      · rename_i hf; subst hf; cases h
        exact ext_count Try.func28 (by kernel_rfl) (by kernel_rfl) (by kernel_rfl) (by kernel_rfl)
      · cases h
theorem ap3 (args : List LV) (σ : St) : run Try.prog th (.apply (.func (.func 3) [] []) args σ) = (run Try.prog th (.call 3 (frzV.frzL σ ([] ++ args ++ [])))).map fun r => ⟨.normal, r.v, default, frzS σ (rowsIn.rowsInL ([] ++ args ++ []))⟩ := run_apply_pure 3 [] [] args σ rfl rfl
theorem ap4 (args : List LV) (σ : St) : run Try.prog th (.apply (.func (.func 4) [] []) args σ) = (run Try.prog th (.call 4 (frzV.frzL σ ([] ++ args ++ [])))).map fun r => ⟨.normal, r.v, default, frzS σ (rowsIn.rowsInL ([] ++ args ++ []))⟩ := run_apply_pure 4 [] [] args σ rfl rfl
theorem ap5 (args : List LV) (σ : St) : run Try.prog th (.apply (.func (.func 5) [] []) args σ) = (run Try.prog th (.call 5 (frzV.frzL σ ([] ++ args ++ [])))).map fun r => ⟨.normal, r.v, default, frzS σ (rowsIn.rowsInL ([] ++ args ++ []))⟩ := run_apply_pure 5 [] [] args σ rfl rfl
theorem ap6 (args : List LV) (σ : St) : run Try.prog th (.apply (.func (.func 6) [] []) args σ) = (run Try.prog th (.call 6 (frzV.frzL σ ([] ++ args ++ [])))).map fun r => ⟨.normal, r.v, default, frzS σ (rowsIn.rowsInL ([] ++ args ++ []))⟩ := run_apply_pure 6 [] [] args σ rfl rfl
theorem ap7 (args : List LV) (σ : St) : run Try.prog th (.apply (.func (.func 7) [] []) args σ) = (run Try.prog th (.call 7 (frzV.frzL σ ([] ++ args ++ [])))).map fun r => ⟨.normal, r.v, default, frzS σ (rowsIn.rowsInL ([] ++ args ++ []))⟩ := run_apply_pure 7 [] [] args σ rfl rfl
theorem ap8 (args : List LV) (σ : St) : run Try.prog th (.apply (.func (.func 8) [] []) args σ) = (run Try.prog th (.call 8 (frzV.frzL σ ([] ++ args ++ [])))).map fun r => ⟨.normal, r.v, default, frzS σ (rowsIn.rowsInL ([] ++ args ++ []))⟩ := run_apply_pure 8 [] [] args σ rfl rfl
theorem ap9 (args : List LV) (σ : St) : run Try.prog th (.apply (.func (.func 9) [] []) args σ) = (run Try.prog th (.call 9 (frzV.frzL σ ([] ++ args ++ [])))).map fun r => ⟨.normal, r.v, default, frzS σ (rowsIn.rowsInL ([] ++ args ++ []))⟩ := run_apply_pure 9 [] [] args σ rfl rfl
theorem ap10 (args : List LV) (σ : St) : run Try.prog th (.apply (.func (.func 10) [] []) args σ) = (run Try.prog th (.call 10 (frzV.frzL σ ([] ++ args ++ [])))).map fun r => ⟨.normal, r.v, default, frzS σ (rowsIn.rowsInL ([] ++ args ++ []))⟩ := run_apply_pure 10 [] [] args σ rfl rfl
theorem ap11 (args : List LV) (σ : St) : run Try.prog th (.apply (.func (.func 11) [] []) args σ) = (run Try.prog th (.call 11 (frzV.frzL σ ([] ++ args ++ [])))).map fun r => ⟨.normal, r.v, default, frzS σ (rowsIn.rowsInL ([] ++ args ++ []))⟩ := run_apply_pure 11 [] [] args σ rfl rfl
theorem ap12 (args : List LV) (σ : St) : run Try.prog th (.apply (.func (.func 12) [] []) args σ) = (run Try.prog th (.call 12 (frzV.frzL σ ([] ++ args ++ [])))).map fun r => ⟨.normal, r.v, default, frzS σ (rowsIn.rowsInL ([] ++ args ++ []))⟩ := run_apply_pure 12 [] [] args σ rfl rfl
theorem ap13 (args : List LV) (σ : St) : run Try.prog th (.apply (.func (.func 13) [] []) args σ) = (run Try.prog th (.call 13 (frzV.frzL σ ([] ++ args ++ [])))).map fun r => ⟨.normal, r.v, default, frzS σ (rowsIn.rowsInL ([] ++ args ++ []))⟩ := run_apply_pure 13 [] [] args σ rfl rfl
theorem ap14 (args : List LV) (σ : St) : run Try.prog th (.apply (.func (.func 14) [] []) args σ) = (run Try.prog th (.call 14 (frzV.frzL σ ([] ++ args ++ [])))).map fun r => ⟨.normal, r.v, default, frzS σ (rowsIn.rowsInL ([] ++ args ++ []))⟩ := run_apply_pure 14 [] [] args σ rfl rfl
theorem ap15 (args : List LV) (σ : St) : run Try.prog th (.apply (.func (.func 15) [] []) args σ) = (run Try.prog th (.call 15 (frzV.frzL σ ([] ++ args ++ [])))).map fun r => ⟨.normal, r.v, default, frzS σ (rowsIn.rowsInL ([] ++ args ++ []))⟩ := run_apply_pure 15 [] [] args σ rfl rfl
theorem ap16 (args : List LV) (σ : St) : run Try.prog th (.apply (.func (.func 16) [] []) args σ) = (run Try.prog th (.call 16 (frzV.frzL σ ([] ++ args ++ [])))).map fun r => ⟨.normal, r.v, default, frzS σ (rowsIn.rowsInL ([] ++ args ++ []))⟩ := run_apply_pure 16 [] [] args σ rfl rfl
theorem ap17 (args : List LV) (σ : St) : run Try.prog th (.apply (.func (.func 17) [] []) args σ) = (run Try.prog th (.call 17 (frzV.frzL σ ([] ++ args ++ [])))).map fun r => ⟨.normal, r.v, default, frzS σ (rowsIn.rowsInL ([] ++ args ++ []))⟩ := run_apply_pure 17 [] [] args σ rfl rfl
theorem ap18 (args : List LV) (σ : St) : run Try.prog th (.apply (.func (.func 18) [] []) args σ) = (run Try.prog th (.call 18 (frzV.frzL σ ([] ++ args ++ [])))).map fun r => ⟨.normal, r.v, default, frzS σ (rowsIn.rowsInL ([] ++ args ++ []))⟩ := run_apply_pure 18 [] [] args σ rfl rfl
theorem ap19 (args : List LV) (σ : St) : run Try.prog th (.apply (.func (.func 19) [] []) args σ) = (run Try.prog th (.call 19 (frzV.frzL σ ([] ++ args ++ [])))).map fun r => ⟨.normal, r.v, default, frzS σ (rowsIn.rowsInL ([] ++ args ++ []))⟩ := run_apply_pure 19 [] [] args σ rfl rfl
theorem ap20 (args : List LV) (σ : St) : run Try.prog th (.apply (.func (.func 20) [] []) args σ) = (run Try.prog th (.call 20 (frzV.frzL σ ([] ++ args ++ [])))).map fun r => ⟨.normal, r.v, default, frzS σ (rowsIn.rowsInL ([] ++ args ++ []))⟩ := run_apply_pure 20 [] [] args σ rfl rfl
theorem ap21 (args : List LV) (σ : St) : run Try.prog th (.apply (.func (.func 21) [] []) args σ) = (run Try.prog th (.call 21 (frzV.frzL σ ([] ++ args ++ [])))).map fun r => ⟨.normal, r.v, default, frzS σ (rowsIn.rowsInL ([] ++ args ++ []))⟩ := run_apply_pure 21 [] [] args σ rfl rfl
theorem ap23 (args : List LV) (σ : St) : run Try.prog th (.apply (.func (.func 23) [] []) args σ) = (run Try.prog th (.call 23 (frzV.frzL σ ([] ++ args ++ [])))).map fun r => ⟨.normal, r.v, default, frzS σ (rowsIn.rowsInL ([] ++ args ++ []))⟩ := run_apply_pure 23 [] [] args σ rfl rfl
theorem ap24 (args : List LV) (σ : St) : run Try.prog th (.apply (.func (.func 24) [] []) args σ) = (run Try.prog th (.call 24 (frzV.frzL σ ([] ++ args ++ [])))).map fun r => ⟨.normal, r.v, default, frzS σ (rowsIn.rowsInL ([] ++ args ++ []))⟩ := run_apply_pure 24 [] [] args σ rfl rfl
theorem ap25 (args : List LV) (σ : St) : run Try.prog th (.apply (.func (.func 25) [] []) args σ) = (run Try.prog th (.call 25 (frzV.frzL σ ([] ++ args ++ [])))).map fun r => ⟨.normal, r.v, default, frzS σ (rowsIn.rowsInL ([] ++ args ++ []))⟩ := run_apply_pure 25 [] [] args σ rfl rfl
theorem ap26 (args : List LV) (σ : St) : run Try.prog th (.apply (.func (.func 26) [] []) args σ) = (run Try.prog th (.call 26 (frzV.frzL σ ([] ++ args ++ [])))).map fun r => ⟨.normal, r.v, default, frzS σ (rowsIn.rowsInL ([] ++ args ++ []))⟩ := run_apply_pure 26 [] [] args σ rfl rfl
theorem ap27 (args : List LV) (σ : St) : run Try.prog th (.apply (.func (.func 27) [] []) args σ) = (run Try.prog th (.call 27 (frzV.frzL σ ([] ++ args ++ [])))).map fun r => ⟨.normal, r.v, default, frzS σ (rowsIn.rowsInL ([] ++ args ++ []))⟩ := run_apply_pure 27 [] [] args σ rfl rfl
theorem ap29 (args : List LV) (σ : St) : run Try.prog th (.apply (.func (.func 29) [] []) args σ) = (run Try.prog th (.call 29 (frzV.frzL σ ([] ++ args ++ [])))).map fun r => ⟨.normal, r.v, default, frzS σ (rowsIn.rowsInL ([] ++ args ++ []))⟩ := run_apply_pure 29 [] [] args σ rfl rfl
theorem ap31 (args : List LV) (σ : St) : run Try.prog th (.apply (.func (.func 31) [] []) args σ) = (run Try.prog th (.call 31 (frzV.frzL σ ([] ++ args ++ [])))).map fun r => ⟨.normal, r.v, default, frzS σ (rowsIn.rowsInL ([] ++ args ++ []))⟩ := run_apply_pure 31 [] [] args σ rfl rfl
theorem ap32 (args : List LV) (σ : St) : run Try.prog th (.apply (.func (.func 32) [] []) args σ) = (run Try.prog th (.call 32 (frzV.frzL σ ([] ++ args ++ [])))).map fun r => ⟨.normal, r.v, default, frzS σ (rowsIn.rowsInL ([] ++ args ++ []))⟩ := run_apply_pure 32 [] [] args σ rfl rfl
theorem ap33 (args : List LV) (σ : St) : run Try.prog th (.apply (.func (.func 33) [] []) args σ) = (run Try.prog th (.call 33 (frzV.frzL σ ([] ++ args ++ [])))).map fun r => ⟨.normal, r.v, default, frzS σ (rowsIn.rowsInL ([] ++ args ++ []))⟩ := run_apply_pure 33 [] [] args σ rfl rfl
theorem ap34 (args : List LV) (σ : St) : run Try.prog th (.apply (.func (.func 34) [] []) args σ) = (run Try.prog th (.call 34 (frzV.frzL σ ([] ++ args ++ [])))).map fun r => ⟨.normal, r.v, default, frzS σ (rowsIn.rowsInL ([] ++ args ++ []))⟩ := run_apply_pure 34 [] [] args σ rfl rfl
theorem ap35 (args : List LV) (σ : St) : run Try.prog th (.apply (.func (.func 35) [] []) args σ) = (run Try.prog th (.call 35 (frzV.frzL σ ([] ++ args ++ [])))).map fun r => ⟨.normal, r.v, default, frzS σ (rowsIn.rowsInL ([] ++ args ++ []))⟩ := run_apply_pure 35 [] [] args σ rfl rfl
theorem ap36 (args : List LV) (σ : St) : run Try.prog th (.apply (.func (.func 36) [] []) args σ) = (run Try.prog th (.call 36 (frzV.frzL σ ([] ++ args ++ [])))).map fun r => ⟨.normal, r.v, default, frzS σ (rowsIn.rowsInL ([] ++ args ++ []))⟩ := run_apply_pure 36 [] [] args σ rfl rfl
theorem ap22 (fst caps args : List LV) (σ : St) : run Try.prog th (.apply (.func (.func 22) fst caps) args σ) = run Try.prog th (.callS 22 (fst ++ args ++ caps) σ) := run_apply_st 22 fst caps args σ rfl rfl
theorem ap30 (fst caps args : List LV) (σ : St) : run Try.prog th (.apply (.func (.func 30) fst caps) args σ) = run Try.prog th (.callS 30 (fst ++ args ++ caps) σ) := run_apply_st 30 fst caps args σ rfl rfl
theorem ap40 (args : List LV) (σ : St) : run Try.prog th (.apply (.func (.func 40) [] []) args σ) = (indexByteL (frzV.frzL σ ([] ++ args ++ []))).bind fun v => if refFree v = true then some ⟨.normal, v, default, frzS σ (rowsIn.rowsInL ([] ++ args ++ []))⟩ else none := run_apply_ext 40 [] [] args σ rfl rfl
theorem ap41 (args : List LV) (σ : St) : run Try.prog th (.apply (.func (.func 41) [] []) args σ) = (indexByteL (frzV.frzL σ ([] ++ args ++ []))).bind fun v => if refFree v = true then some ⟨.normal, v, default, frzS σ (rowsIn.rowsInL ([] ++ args ++ []))⟩ else none := run_apply_ext 41 [] [] args σ rfl rfl
theorem ap28 (args : List LV) (σ : St) : run Try.prog th (.apply (.func (.func 28) [] []) args σ) = (countL (frzV.frzL σ ([] ++ args ++ []))).bind fun v => if refFree v = true then some ⟨.normal, v, default, frzS σ (rowsIn.rowsInL ([] ++ args ++ []))⟩ else none := run_apply_ext 28 [] [] args σ rfl rfl
theorem br_ite {α : Type} (b : Bool) (x y : α) : br b x y = if b = true then x else y := by cases b <;> rfl
theorem sz3 : sizeB Try.prog 3 = some 1 := by kernel_rfl
theorem ag3 : isAggB Try.prog 3 = some Bool.false := by kernel_rfl
theorem ze3 : zeroB Try.prog 3 = some [Go.Proofs.Ytecokfbldjekiaa.LI.LV.sc (Go.Value.int Go.IntKind.i64 0)] := by kernel_rfl
theorem by3 : bytesB Try.prog 3 = some 8 := by kernel_rfl
theorem sz4 : sizeB Try.prog 4 = some 1 := by kernel_rfl
theorem ag4 : isAggB Try.prog 4 = some Bool.false := by kernel_rfl
theorem ze4 : zeroB Try.prog 4 = some [Go.Proofs.Ytecokfbldjekiaa.LI.LV.sc (Go.Value.bool Bool.false)] := by kernel_rfl
theorem by4 : bytesB Try.prog 4 = some 1 := by kernel_rfl
theorem sz5 : sizeB Try.prog 5 = some 1 := by kernel_rfl
theorem ag5 : isAggB Try.prog 5 = some Bool.false := by kernel_rfl
theorem ze5 : zeroB Try.prog 5 = some [Go.Proofs.Ytecokfbldjekiaa.LI.LV.sc (Go.Value.int Go.IntKind.u8 0)] := by kernel_rfl
theorem by5 : bytesB Try.prog 5 = some 1 := by kernel_rfl
theorem sz9 : sizeB Try.prog 9 = some 1 := by kernel_rfl
theorem ag9 : isAggB Try.prog 9 = some Bool.false := by kernel_rfl
theorem ze9 : zeroB Try.prog 9 = some [Go.Proofs.Ytecokfbldjekiaa.LI.LV.sc (Go.Value.string (ByteArray.mk (Array.mk [])))] := by kernel_rfl
theorem by9 : bytesB Try.prog 9 = some 16 := by kernel_rfl
theorem el22 : elemB Try.prog 22 = some 5 := by kernel_rfl
theorem sz22 : sizeB Try.prog 22 = some 1 := by kernel_rfl
theorem ag22 : isAggB Try.prog 22 = some Bool.false := by kernel_rfl
theorem ze22 : zeroB Try.prog 22 = some [Go.Proofs.Ytecokfbldjekiaa.LI.LV.nils] := by kernel_rfl
theorem by22 : bytesB Try.prog 22 = some 24 := by kernel_rfl
theorem el24 : elemB Try.prog 24 = some 9 := by kernel_rfl
theorem sz24 : sizeB Try.prog 24 = some 1 := by kernel_rfl
theorem ag24 : isAggB Try.prog 24 = some Bool.false := by kernel_rfl
theorem ze24 : zeroB Try.prog 24 = some [Go.Proofs.Ytecokfbldjekiaa.LI.LV.nils] := by kernel_rfl
theorem by24 : bytesB Try.prog 24 = some 24 := by kernel_rfl
theorem sz25 : sizeB Try.prog 25 = some 1 := by kernel_rfl
theorem ag25 : isAggB Try.prog 25 = some Bool.false := by kernel_rfl
theorem ze25 : zeroB Try.prog 25 = some [Go.Proofs.Ytecokfbldjekiaa.LI.LV.sc (Go.Value.int Go.IntKind.i64 0)] := by kernel_rfl
theorem by25 : bytesB Try.prog 25 = some 8 := by kernel_rfl
theorem sz26 : sizeB Try.prog 26 = some 1 := by kernel_rfl
theorem ag26 : isAggB Try.prog 26 = some Bool.false := by kernel_rfl
theorem by26 : bytesB Try.prog 26 = some 0 := by kernel_rfl
end Go.Proofs.Ytecokfbldjekiaa.LI
