/-
  The tables of this seat.
-/
import Derived.Test.YticpcfchhcjjeaaGreatLiTb
import Derived.Test.YticpcfchhcjjeaaGreatProg
import Derived.KernelRfl
namespace Go.Proofs.YticpcfchhcjjeaaGreat.LI
open Go Go.RowKit
def pureL : List FuncId := [2, 3, 4, 5, 6, 7, 8, 9, 10, 11, 12, 13, 14, 16, 18, 20, 22, 23, 25, 26, 27, 28, 30, 31, 32, 34, 35, 38, 41, 44, 45, 46, 48, 49, 50, 51, 52, 53, 54, 55, 56, 57, 58, 62, 65, 68, 69, 73, 74, 75, 76, 77, 78, 79, 82, 86, 89, 90, 94, 97, 100, 101, 103, 106]
def entL : List FuncId := [2, 3, 4, 5, 6, 7, 8, 9, 10, 11, 12, 13, 14, 15, 16, 17, 18, 19, 20, 21, 22, 23, 24, 25, 26, 27, 28, 29, 30, 31, 32, 33, 34, 35, 36, 37, 38, 39, 40, 41, 42, 43, 44, 45, 46, 47, 48, 49, 50, 51, 52, 53, 54, 55, 56, 57, 58, 59, 60, 61, 62, 63, 64, 65, 66, 67, 68, 69, 70, 71, 72, 73, 74, 75, 76, 77, 78, 79, 81, 82, 83, 84, 85, 86, 87, 88, 89, 90, 91, 92, 93, 94, 95, 96, 97, 99, 100, 101, 102, 103, 104, 105, 106]
def ownTab (f : FuncId) (t : Tmp) : Bool :=
  if f = 7 then [19].contains t else
  if f = 9 then [3].contains t else
  if f = 16 then [6, 34].contains t else
  if f = 19 then [1].contains t else
  if f = 32 then [24].contains t else
  if f = 33 then [10].contains t else
  if f = 35 then [6].contains t else
  if f = 42 then [4, 20, 25].contains t else
  if f = 43 then [27, 33, 39, 54, 72, 92, 99, 121, 132].contains t else
  if f = 48 then [5].contains t else
  if f = 60 then [26, 55].contains t else
  if f = 73 then [5].contains t else
  if f = 76 then [10, 33].contains t else
  if f = 77 then [8, 20].contains t else
  if f = 89 then [2, 3].contains t else
  if f = 91 then [12, 34, 43, 50, 53, 60, 66, 73, 76, 80, 86, 91, 93].contains t else
  if f = 93 then [13, 22, 25, 31].contains t else
  if f = 99 then [9].contains t else
  if f = 101 then [24].contains t else
  if f = 102 then [6, 7, 10, 11, 13].contains t else
  if f = 104 then [4, 20, 25].contains t else
  false
def frzTab (f : FuncId) (t : Tmp) : Bool :=
  if f = 97 then [6].contains t else
  false
def freshTab (f : FuncId) : List (Option (TypeId × Nat)) :=
  if f = 42 then [some (37, 2)] else
  if f = 89 then [some (37, 2)] else
  if f = 104 then [some (9, 1)] else
  []
def keepTab (f : Nat) (k : Option Nat) : List Bool :=
  if f = 5 ∧ k = some 5 then [true, false, true, false, true] else
  if f = 6 ∧ k = some 2 then [true, false, true, false, false, true, true, true] else
  if f = 7 ∧ k = some 6 then [true, true, false, false, true, true, true, true, false, false, false, false, false, false, false, false, false, false, false, false, false, false, false, false, true, true, true] else
  if f = 8 ∧ k = some 2 then [true, false, false, false, true, true, false, false, false, false, true, true, true] else
  if f = 9 ∧ k = some 3 then [false, false, true, true, false, false, false, false, false, true] else
  if f = 12 ∧ k = some 4 then [true, false, true, true] else
  if f = 13 ∧ k = some 2 then [true, false, true, false, false, true, true] else
  if f = 16 ∧ k = some 4 then [false, false, false, false, true, true, true, false, false, false, false, false, false, true, true, true] else
  if f = 17 ∧ k = some 5 then [true, true, false, false, false, false, false, false, false, false, false, true, false, false, false, false, false, false, false, false, false, false, false, false, false, false, false, false, false, false, false, false, false, false, true, true, true] else
  if f = 21 ∧ k = some 4 then [false, true, true, false, false, false, true, false, false, false, false, false, false, false, false, true, true, true] else
  if f = 23 ∧ k = some 4 then [true, true, false, false, true, false, false, false, false, false, false, false, true, true] else
  if f = 27 ∧ k = some 4 then [true, false, false, false, true, true] else
  if f = 32 ∧ k = some 3 then [true, false, true, true, false, false, false, false, false, true, true, true] else
  if f = 32 ∧ k = some 11 then [false, false, true, false, false, false, true, false, false, false, false, false, false, false, false, false, false, false, false, false, false, false, false, false, false, true, true, true] else
  if f = 35 ∧ k = some 4 then [false, false, false, false, true, true, true, false, false, false, false, false, false, false, false, true, true, true] else
  if f = 37 ∧ k = some 1 then [true, true, false, true] else
  if f = 39 ∧ k = some 2 then [true, true, false, false, true, false, false, true, true] else
  if f = 40 ∧ k = some 2 then [true, true, false, false, true, false, false, true, true] else
  if f = 43 ∧ k = some 2 then [true, true, true, true, false, false, false, false, true, true] else
  if f = 48 ∧ k = some 5 then [true, false, false, true, true, true, false, false, true, false, false, false, false, false, true, true, true] else
  if f = 59 ∧ k = some 1 then [true, true, true, false, false, false, true] else
  if f = 59 ∧ k = some 4 then [true, true, true, false, false, false, true, true] else
  if f = 60 ∧ k = some 4 then [true, false, false, false, false, false, true, true, true, true] else
  if f = 60 ∧ k = some 8 then [true, false, false, false, false, false, true, true, false, false, true] else
  if f = 61 ∧ k = some 5 then [true, true, false, false, false, false, true, true, true, true] else
  if f = 63 ∧ k = some 2 then [true, false, false, false, false, false, true, true] else
  if f = 64 ∧ k = some 3 then [true, true, true, false, false, false, true, true, true] else
  if f = 64 ∧ k = some 5 then [true, true, true, false, false, false, true, true, true] else
  if f = 64 ∧ k = some 14 then [true, true, true, false, false, false, true, true, true, true] else
  if f = 64 ∧ k = some 20 then [true, true, true, false, false, false, true, true, true, false, true] else
  if f = 66 ∧ k = some 3 then [true, true, false, false, false, false, false, false, true, true, true] else
  if f = 66 ∧ k = some 3 then [true, true, false, false, false, false, false, false, true, true, true] else
  if f = 66 ∧ k = some 5 then [true, true, false, false, false, false, false, false, true, true, true] else
  if f = 67 ∧ k = some 3 then [true, true, false, false, false, false, false, false, true, true, true, true] else
  if f = 67 ∧ k = some 5 then [true, true, false, false, false, false, false, false, true, true, true, true] else
  if f = 67 ∧ k = some 13 then [true, true, false, false, false, false, false, false, true, true, true, true] else
  if f = 67 ∧ k = some 13 then [true, true, false, false, false, false, false, false, true, true, true, true] else
  if f = 67 ∧ k = some 15 then [true, true, false, false, false, false, false, false, true, true, true, true] else
  if f = 73 ∧ k = some 3 then [false, false, false, false, true, true, false, false, false, false, true] else
  if f = 81 ∧ k = some 1 then [true, false, true, true, false, false, false, false, true] else
  if f = 87 ∧ k = some 2 then [true, true, false, false, true, false, false, true, true] else
  if f = 89 ∧ k = some 3 then [false, false, true, true, false, false, true, true, true] else
  if f = 96 ∧ k = some 2 then [true, true, true, false, true, true, true] else
  if f = 97 ∧ k = some 4 then [true, true, false, false, true, true, true, true] else
  if f = 97 ∧ k = some 9 then [true, true, false, false, true, true, true, true, true, true] else
  if f = 101 ∧ k = some 3 then [true, false, true, true, false, false, false, false, false, true, true, true] else
  if f = 101 ∧ k = some 11 then [false, false, true, false, false, false, true, false, false, false, false, false, false, false, false, false, false, false, false, false, false, false, false, false, false, true, true, true] else
  if f = 105 ∧ k = some 1 then [true, false, true, true] else
  if f = 106 ∧ k = some 4 then [true, true, false, false, true, false, false, false, false, false, false, false, true, true] else
  []
def primTab (f : FuncId) : Option (List LV → Option (LV × List Row)) :=
  if f = 46 then some (cloneL 9 1) else
  none
noncomputable def ctTab (f : FuncId) : Option (List KV → Option (Ck × KV × List KRow)) :=
  if f = 46 then some (cloneK ((tyP Tryz.prog 8 9).getD .unit) 9 1) else
  none
def extTab (f : FuncId) : Option (List LV → Option LV) :=
  if f = 80 then some indexByteL else
  none
def xtTab (f : FuncId) : Option (List KV → Option (Ck × KV)) :=
  if f = 80 then some indexByteK else
  none
def extSTab (f : FuncId) : Option (List LV → St → Option (LV × St)) :=
  if f = 33 then some sortL else
  if f = 91 then some (insertL 37 2) else
  none
def stTab (f : FuncId) : Option (List KV → KSt → Option (Ck × KV × KSt)) :=
  if f = 33 then some sortK else
  if f = 91 then some (insertK 37 2) else
  none
def th : Th := {
  ent := fun f => entL.contains f
  pureF := fun f => pureL.contains f
  prim := primTab
  ext := extTab
  extS := extSTab
  keep := keepTab
  own := ownTab
  fresh := freshTab
  frz := frzTab }
noncomputable def S0 (fk : Fk) (bd : Bd) (sm : Sm) : Cs := {
  fk := fk
  bd := bd
  sm := sm
  T := tyP Tryz.prog 8
  bt := fun _ => none
  ct := ctTab
  xt := xtTab
  st := stTab
  bl := fun _ _ => none
  lt := fun _ _ => none }
instance : FkOK (S0 condF bindF sumF) := ⟨fun _ _ _ => rfl, fun _ _ => rfl, fun _ _ _ => rfl⟩
end Go.Proofs.YticpcfchhcjjeaaGreat.LI
