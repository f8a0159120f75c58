/-
  The tables of this seat.
-/
import Derived.Test.YticpcfchhcjjeaaLiTb
import Derived.Test.YticpcfchhcjjeaaProg
import Derived.KernelRfl
namespace Go.Proofs.Yticpcfchhcjjeaa.LI
open Go Go.RowKit
def pureL : List FuncId := [2, 3, 4, 5, 6, 7, 8, 9, 10, 11, 12, 13, 14, 15, 16, 17, 18, 19, 20, 21, 22, 23, 24, 25, 26, 27, 28, 29, 30, 31, 32, 33, 34, 35, 36, 37, 38, 39, 42, 43, 44, 45, 46, 48, 49, 51, 52, 53, 54, 55, 60, 61, 63, 64, 65, 66, 67, 69, 70, 73, 78, 80, 81, 82, 85, 86, 87, 88, 89, 90, 91, 92, 93, 95, 96, 98, 102, 105, 108, 109, 112, 113, 114, 115, 116, 117, 119, 120, 121, 123, 127, 130, 132, 135, 136, 138, 139, 141]
def entL : List FuncId := [2, 3, 4, 5, 6, 7, 8, 9, 10, 11, 12, 13, 14, 15, 16, 17, 18, 19, 20, 21, 22, 23, 24, 25, 26, 27, 28, 29, 30, 31, 32, 33, 34, 35, 36, 37, 38, 39, 40, 41, 42, 43, 44, 45, 46, 47, 48, 49, 50, 51, 52, 53, 54, 55, 56, 57, 58, 59, 60, 61, 62, 63, 64, 65, 66, 67, 68, 69, 70, 71, 72, 73, 74, 76, 77, 78, 79, 80, 81, 82, 83, 84, 85, 86, 87, 88, 89, 90, 91, 92, 93, 94, 95, 96, 97, 98, 99, 100, 101, 102, 103, 104, 105, 106, 107, 108, 109, 110, 111, 112, 113, 114, 115, 116, 117, 118, 119, 120, 121, 122, 123, 124, 125, 126, 127, 128, 129, 130, 131, 132, 134, 135, 136, 137, 138, 139, 140, 141]
def ownTab (f : FuncId) (t : Tmp) : Bool :=
  if f = 16 then [19].contains t else
  if f = 17 then [9].contains t else
  if f = 22 then [6, 34].contains t else
  if f = 29 then [10, 33].contains t else
  if f = 30 then [10].contains t else
  if f = 31 then [8, 20].contains t else
  if f = 32 then [6].contains t else
  if f = 42 then [8].contains t else
  if f = 46 then [24].contains t else
  if f = 47 then [10].contains t else
  if f = 54 then [2, 3].contains t else
  if f = 56 then [12, 34, 43, 50, 53, 60, 66, 73, 76, 80, 86, 91, 93].contains t else
  if f = 59 then [13, 22, 25, 31].contains t else
  if f = 61 then [3].contains t else
  if f = 64 then [6].contains t else
  if f = 65 then [6].contains t else
  if f = 71 then [4, 20, 25].contains t else
  if f = 72 then [27, 33, 39, 54, 72, 92, 99, 121, 132].contains t else
  if f = 76 then [9].contains t else
  if f = 78 then [3].contains t else
  if f = 95 then [5].contains t else
  if f = 96 then [6, 12, 60].contains t else
  if f = 100 then [26, 55].contains t else
  if f = 110 then [6, 7, 10, 11, 13].contains t else
  if f = 111 then [1].contains t else
  if f = 119 then [5].contains t else
  if f = 120 then [4, 6].contains t else
  if f = 136 then [24].contains t else
  if f = 140 then [4, 20, 25].contains t else
  false
def frzTab (f : FuncId) (t : Tmp) : Bool :=
  if f = 33 then [6].contains t else
  if f = 65 then [9].contains t else
  if f = 138 then [6].contains t else
  false
def freshTab (f : FuncId) : List (Option (TypeId × Nat)) :=
  if f = 54 then [some (41, 2)] else
  if f = 71 then [some (41, 2)] else
  if f = 120 then [some (139, 2)] else
  if f = 140 then [some (9, 1)] else
  []
def keepTab (f : Nat) (k : Option Nat) : List Bool :=
  if f = 4 ∧ k = some 11 then [false, false, false, false, true, false, false, false, true, false, true, false, true, true, true] else
  if f = 4 ∧ k = some 15 then [false, false, false, false, true, false, false, false, false, false, true, false, true, true, false, true] else
  if f = 5 ∧ k = some 8 then [true, true, false, false, true, false, false, false, true, true] else
  if f = 5 ∧ k = some 16 then [false, false, false, false, true, false, false, false, true, false, false, false, false, false, true, true] else
  if f = 5 ∧ k = some 20 then [false, false, false, false, true, false, false, false, true, false, false, false, false, false, true, true, true, true] else
  if f = 12 ∧ k = some 8 then [true, true, false, false, true, false, false, false, true, false, true] else
  if f = 15 ∧ k = some 5 then [true, false, true, false, true] else
  if f = 16 ∧ k = some 6 then [true, true, false, false, true, true, true, true, false, false, false, false, false, false, false, false, false, false, false, false, false, false, false, false, true, true, true] else
  if f = 17 ∧ k = some 8 then [true, true, false, false, true, true, false, false, true, true, true] else
  if f = 18 ∧ k = some 4 then [true, true, false, false, true, true] else
  if f = 19 ∧ k = some 2 then [true, false, true, false, false, true, true, true] else
  if f = 21 ∧ k = some 4 then [true, false, true, true] else
  if f = 22 ∧ k = some 4 then [false, false, false, false, true, true, true, false, false, false, false, false, false, true, true, true] else
  if f = 25 ∧ k = some 4 then [true, false, false, false, true, true] else
  if f = 27 ∧ k = some 4 then [true, true, false, false, true, true] else
  if f = 28 ∧ k = some 4 then [true, true, false, false, true, true] else
  if f = 30 ∧ k = some 10 then [true, true, false, false, false, false, true, false, true, false, true, true, true] else
  if f = 32 ∧ k = some 4 then [true, false, false, false, true, true, true, true] else
  if f = 33 ∧ k = some 4 then [false, false, false, false, true, true, true, true] else
  if f = 33 ∧ k = some 9 then [false, false, false, false, true, true, true, true, true, true, true] else
  if f = 34 ∧ k = some 2 then [true, false, true, true] else
  if f = 35 ∧ k = some 2 then [true, false, true, true] else
  if f = 36 ∧ k = some 2 then [true, false, true, true] else
  if f = 39 ∧ k = some 2 then [true, false, false, false, true, true, false, false, false, false, true, true, true] else
  if f = 41 ∧ k = some 5 then [true, true, false, false, false, false, false, false, false, false, false, true, false, false, false, false, false, false, false, false, false, false, false, false, false, false, false, false, false, false, false, false, false, false, true, true, true] else
  if f = 42 ∧ k = some 4 then [true, false, false, false, false, false, true, true, true, true] else
  if f = 44 ∧ k = some 2 then [true, false, true, false, false, true, true] else
  if f = 46 ∧ k = some 3 then [true, false, true, true, false, false, false, false, false, true, true, true] else
  if f = 46 ∧ k = some 11 then [false, false, true, false, false, false, true, false, false, false, false, false, false, false, false, false, false, false, false, false, false, false, false, false, false, true, true, true] else
  if f = 50 ∧ k = some 4 then [false, true, true, false, false, false, true, false, false, false, false, false, false, false, false, true, true, true] else
  if f = 52 ∧ k = some 4 then [true, true, false, false, true, false, false, false, false, false, false, false, true, true] else
  if f = 53 ∧ k = some 2 then [true, true, false, false, true, true] else
  if f = 54 ∧ k = some 3 then [false, false, true, true, false, false, true, true, true] else
  if f = 60 ∧ k = some 2 then [true, false, true, true] else
  if f = 61 ∧ k = some 3 then [false, false, true, true, false, false, false, false, false, false, true, true, true] else
  if f = 64 ∧ k = some 4 then [false, false, false, false, true, true, true, false, false, false, false, false, false, false, false, true, true, true] else
  if f = 65 ∧ k = some 5 then [true, false, false, false, true, true, true, true, true] else
  if f = 72 ∧ k = some 2 then [true, true, true, true, false, false, false, false, true, true] else
  if f = 77 ∧ k = some 2 then [true, true, false, false, true, false, false, true, true] else
  if f = 78 ∧ k = some 3 then [false, false, true, true, false, false, false, false, false, true] else
  if f = 95 ∧ k = some 5 then [true, false, false, true, true, true, false, false, true, false, false, false, false, false, true, true, true] else
  if f = 96 ∧ k = some 7 then [false, true, false, false, true, true, true, true, true, true] else
  if f = 97 ∧ k = some 2 then [true, true, false, false, true, false, false, true, true] else
  if f = 99 ∧ k = some 1 then [true, true, true, false, false, false, true] else
  if f = 99 ∧ k = some 4 then [true, true, true, false, false, false, true, true] else
  if f = 100 ∧ k = some 4 then [true, false, false, false, false, false, true, true, true, true] else
  if f = 100 ∧ k = some 8 then [true, false, false, false, false, false, true, true, false, false, true] else
  if f = 101 ∧ k = some 5 then [true, true, false, false, false, false, true, true, true, true] else
  if f = 103 ∧ k = some 2 then [true, false, false, false, false, false, true, true] else
  if f = 104 ∧ k = some 3 then [true, true, true, false, false, false, true, true, true] else
  if f = 104 ∧ k = some 5 then [true, true, true, false, false, false, true, true, true] else
  if f = 104 ∧ k = some 14 then [true, true, true, false, false, false, true, true, true, true] else
  if f = 104 ∧ k = some 20 then [true, true, true, false, false, false, true, true, true, false, true] else
  if f = 106 ∧ k = some 3 then [true, true, false, false, false, false, false, false, true, true, true] else
  if f = 106 ∧ k = some 3 then [true, true, false, false, false, false, false, false, true, true, true] else
  if f = 106 ∧ k = some 5 then [true, true, false, false, false, false, false, false, true, true, true] else
  if f = 107 ∧ k = some 3 then [true, true, false, false, false, false, false, false, true, true, true, true] else
  if f = 107 ∧ k = some 5 then [true, true, false, false, false, false, false, false, true, true, true, true] else
  if f = 107 ∧ k = some 13 then [true, true, false, false, false, false, false, false, true, true, true, true] else
  if f = 107 ∧ k = some 13 then [true, true, false, false, false, false, false, false, true, true, true, true] else
  if f = 107 ∧ k = some 15 then [true, true, false, false, false, false, false, false, true, true, true, true] else
  if f = 119 ∧ k = some 3 then [false, false, false, false, true, true, false, false, false, false, true] else
  if f = 120 ∧ k = some 5 then [true, true, false, false, true, true, true, true, true] else
  if f = 122 ∧ k = some 1 then [true, false, true, true, false, false, false, false, true] else
  if f = 128 ∧ k = some 1 then [true, false, true, true] else
  if f = 129 ∧ k = some 1 then [true, true, false, true] else
  if f = 132 ∧ k = some 3 then [true, true, false, false, true, true, true] else
  if f = 132 ∧ k = some 7 then [true, true, false, false, true, true, false, true] else
  if f = 132 ∧ k = some 10 then [true, true, false, false, true, true, false, true, true] else
  if f = 136 ∧ k = some 3 then [true, false, true, true, false, false, false, false, false, true, true, true] else
  if f = 136 ∧ k = some 11 then [false, false, true, false, false, false, true, false, false, false, false, false, false, false, false, false, false, false, false, false, false, false, false, false, false, true, true, true] else
  if f = 137 ∧ k = some 2 then [true, true, true, false, true, true, true] else
  if f = 138 ∧ k = some 4 then [true, true, false, false, true, true, true, true] else
  if f = 138 ∧ k = some 9 then [true, true, false, false, true, true, true, true, true, true] else
  if f = 141 ∧ k = some 4 then [true, true, false, false, true, false, false, false, false, false, false, false, true, true] else
  []
def primTab (f : FuncId) : Option (List LV → Option (LV × List Row)) :=
  if f = 49 then some (cloneL 9 1) else
  if f = 132 then some tableL else
  none
noncomputable def ctTab (f : FuncId) : Option (List KV → Option (Ck × KV × List KRow)) :=
  if f = 49 then some (cloneK ((tyP Try.prog 8 9).getD .unit) 9 1) else
  if f = 132 then some tableK else
  none
def extTab (f : FuncId) : Option (List LV → Option LV) :=
  if f = 133 then some indexByteL else
  none
def xtTab (f : FuncId) : Option (List KV → Option (Ck × KV)) :=
  if f = 133 then some indexByteK else
  none
def extSTab (f : FuncId) : Option (List LV → St → Option (LV × St)) :=
  if f = 47 then some sortL else
  if f = 56 then some (insertL 41 2) else
  none
def stTab (f : FuncId) : Option (List KV → KSt → Option (Ck × KV × KSt)) :=
  if f = 47 then some sortK else
  if f = 56 then some (insertK 41 2) else
  none
def th : Th := {
  ent := fun f => entL.contains f
  pureF := fun f => pureL.contains f
  prim := primTab
  ext := extTab
  extS := extSTab
  keep := keepTab
  own := ownTab
  fresh := freshTab
  frz := frzTab }
noncomputable def S0 (fk : Fk) (bd : Bd) (sm : Sm) : Cs := {
  fk := fk
  bd := bd
  sm := sm
  T := tyP Try.prog 8
  bt := fun _ => none
  ct := ctTab
  xt := xtTab
  st := stTab
  bl := fun _ _ => none
  lt := fun _ _ => none }
instance : FkOK (S0 condF bindF sumF) := ⟨fun _ _ _ => rfl, fun _ _ => rfl, fun _ _ _ => rfl⟩
end Go.Proofs.Yticpcfchhcjjeaa.LI
