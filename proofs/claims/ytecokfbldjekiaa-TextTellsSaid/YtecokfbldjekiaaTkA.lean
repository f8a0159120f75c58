/-
  The tables with letters.
-/
import Derived.Test.YtecokfbldjekiaaTxA
import Derived.Test.YtecokfbldjekiaaLiKJ
namespace Go.Proofs.Ytecokfbldjekiaa.LI
open Go Go.RowKit
set_option maxRecDepth 100000
noncomputable def S0 (fk : Fk) : Cs := {
  fk := fk
  T := tyP Try.prog 8
  ct := fun _ => none
  xt := fun f => if f = 40 then some indexByteK else if f = 41 then some indexByteK else if f = 28 then some countK else none
  lt := fun _ _ => none }
instance : FkOK (S0 condF) := ⟨fun _ _ _ => rfl⟩
theorem S0_ok : CsOK Try.prog th (S0 condF) where
  ct := fun f p args c v h => by cases h
  xt := fun f p args c v h hv _ => by
    simp only [S0] at h
    split at h
    · rename_i hf; subst hf; cases h
      exact ⟨rfl, _, rfl, indexByteK_ok hv⟩
    · split at h
      · rename_i hf; subst hf; cases h
        exact ⟨rfl, _, rfl, indexByteK_ok hv⟩
      · split at h
        · rename_i hf; subst hf; cases h
          exact ⟨rfl, _, rfl, countK_ok hv⟩
        · cases h
  lt := fun f key p vs σ c o h => by cases h
theorem k12_ (fk : Fk) (s : ByteArray)  : fnK Try.prog th (S0 fk) 1000 12 [.sc (.string s)] =
    fk (decide ((↑s.size : Int) ≤ (80 : Int)))
      (some (KV.sc (Value.bool (decide (Lib.indexByte s.data.toList (Int.toNat (10 : Int)).toUInt8 < (0 : Int))))))
      (some (KV.sc (Value.bool false))) := by kernel_rfl
theorem k12 (s : ByteArray)  : fnK Try.prog th (S0 condF) 1000 12 [.sc (.string s)] =
    condF (decide ((↑s.size : Int) ≤ (80 : Int)))
      (some (KV.sc (Value.bool (decide (Lib.indexByte s.data.toList (Int.toNat (10 : Int)).toUInt8 < (0 : Int))))))
      (some (KV.sc (Value.bool false))) := k12_ condF s
theorem k23_ (fk : Fk) (c : Int)  : fnK Try.prog th (S0 fk) 1000 23 [.sc (.int .u8 c)] =
    fk (decide (c ≥ (97 : Int)))
      (fk (decide (c ≤ (122 : Int))) (some (KV.sc (Value.bool true)))
        (fk (decide (c ≥ (48 : Int)))
          (fk (decide (c ≤ (57 : Int))) (some (KV.sc (Value.bool true))) (some (KV.sc (Value.bool (c == (46 : Int))))))
          (some (KV.sc (Value.bool (c == (46 : Int)))))))
      (fk (decide (c ≥ (48 : Int)))
        (fk (decide (c ≤ (57 : Int))) (some (KV.sc (Value.bool true))) (some (KV.sc (Value.bool (c == (46 : Int))))))
        (some (KV.sc (Value.bool (c == (46 : Int)))))) := by kernel_rfl
theorem k23 (c : Int)  : fnK Try.prog th (S0 condF) 1000 23 [.sc (.int .u8 c)] =
    condF (decide (c ≥ (97 : Int)))
      (condF (decide (c ≤ (122 : Int))) (some (KV.sc (Value.bool true)))
        (condF (decide (c ≥ (48 : Int)))
          (condF (decide (c ≤ (57 : Int))) (some (KV.sc (Value.bool true))) (some (KV.sc (Value.bool (c == (46 : Int))))))
          (some (KV.sc (Value.bool (c == (46 : Int)))))))
      (condF (decide (c ≥ (48 : Int)))
        (condF (decide (c ≤ (57 : Int))) (some (KV.sc (Value.bool true))) (some (KV.sc (Value.bool (c == (46 : Int))))))
        (some (KV.sc (Value.bool (c == (46 : Int)))))) := k23_ condF c
end Go.Proofs.Ytecokfbldjekiaa.LI
