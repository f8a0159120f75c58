/-
  TextJoins: the lines of two texts, one behind the other, are those of both. Without conditions.
-/
import Derived.Test.YtecokfbldjekiaaTkW
import Derived.Test.YtecokfbldjekiaaRows
import Derived.Test.YtecokfbldjekiaaChecked
import Derived.ChangeOld
import Derived.ProofKit
import Derived.ShutString
namespace Go.Proofs.Ytecokfbldjekiaa.LI
open Go Go.RowKit
open KV (toL)
open KV.toL (toLs)
set_option maxRecDepth 100000
theorem joins_fn (a b : List UInt8) : fnK Try.prog th (S8 condF) 1000 3 [.lst .byte false a, .lst .byte false b] = some (.bool true) := by
  rw [k3]
  by_cases ha : (a.length : Int) > 3000
  · simp only [ha, decide_true, condF_true]
  by_cases hb : (b.length : Int) > 3000
  · simp only [ha, hb, decide_true, decide_false, condF_true, condF_false]
  have la : a.length.ble 1000000 = true := by rw [Nat.ble_eq]; omega
  have lb : b.length.ble 1000000 = true := by rw [Nat.ble_eq]; omega
  simp only [ha, hb, decide_false, condF_false, la, lb, condF_true]
  by_cases h1 : splitE a = 0
  · have h1' : (splitE a != 0) = false := by rw [h1]; rfl
    by_cases h2 : splitE b = 0
    · have h2' : (splitE b != 0) = false := by rw [h2]; rfl
      obtain ⟨a1, a2, _, _, a5⟩ := splitE_zero h1
      obtain ⟨b1, b2, _, _, b5⟩ := splitE_zero h2
      have na : (splitL a).length ≤ 200 := by rw [a5, lns_count]; exact a2
      have nb : (splitL b).length ≤ 200 := by rw [b5, lns_count]; exact b2
      have hw : IntKind.i64.wrap (((splitL a).length : Int) + ((splitL b).length : Int)) = ((splitL a).length : Int) + ((splitL b).length : Int) := by rw [wrap64] <;> omega
      simp only [h1', h2', condF_false, hw]
      by_cases hs : ((splitL a).length : Int) + ((splitL b).length : Int) > 200
      · simp only [hs, decide_true, condF_true]
      · obtain ⟨e1, e2⟩ := joins_law (a := a) (b := b) (by omega) (by omega) h1 h2 (by omega)
        have m1 : decide (a.length ≤ maxEls) = true := max_le (by omega)
        have m2 : decide (a.length + b.length ≤ maxEls) = true := max_le (by omega)
        have m3 : decide ((splitL a).length ≤ maxEls) = true := max_le (by omega)
        have m4 : decide ((splitL a).length + (splitL b).length ≤ maxEls) = true := max_le (by omega)
        have l1 : (a ++ b).length.ble 1000000 = true := by rw [Nat.ble_eq, List.length_append]; omega
        have l2 : fit (splitL a ++ splitL b).length = true := fit_t (by rw [List.length_append]; simp only [big]; omega)
        have hz : (splitE (a ++ b) == 0) = true := by rw [e1]; rfl
        have hsame : sameK (splitL a ++ splitL b) (splitL (a ++ b)) = true := (sameK_iff _ _).2 e2.symm
        have d1 : decide ((a ++ b).length = a.length + b.length) = true := by simp
        have d2 : decide ((splitL a ++ splitL b).length = (splitL a).length + (splitL b).length) = true := by simp
        simp only [hs, decide_true, decide_false, condF_true, condF_false, m1, m2, m3, m4, l1, l2, hz, hsame, d1, d2]
    · have h2' : (splitE b != 0) = true := by rw [bne_iff_ne]; exact h2
      simp only [h1', h2', condF_false, condF_true]
  · have h1' : (splitE a != 0) = true := by rw [bne_iff_ne]; exact h1
    simp only [h1', condF_true]
theorem f3 (a b : List UInt8) : run Try.prog th (.call 3 [.slice (a.map (encL .byte)), .slice (b.map (encL .byte))]) = some ⟨.normal, .sc (.bool true), default, {}⟩ :=
  fnK_sound S8_ok (joins_fn a b)
end Go.Proofs.Ytecokfbldjekiaa.LI
namespace Go.Proofs.Ytecokfbldjekiaa.textJoins
open Go Go.ChangeShapes Go.WideShapes Go.ChangeAt Go.RowKit Go.Proofs.Ytecokfbldjekiaa.LI
theorem own : ownKnob Try.prog.godebug = none := by kernel_rfl
theorem laidOut : laidOutB Try.prog = true := by kernel_rfl
set_option maxRecDepth 100000 in
theorem lifted (os : Os) (started : os.Started) (H : Type) (enc : TypeId × Value → H) :
    ReturnsInHanded {} Try.checked os 3 .any (Rows.textJoinsSpec.pre6 enc Try.prog Try.f3 Rows.textJoinsRow.domain false) (Rows.textJoinsSpec.post enc Try.prog Try.f3 false true false false) :=
  law_lifted (C := Try.checked) th_ok own started Try.func3 (by kernel_rfl) laidOut (n := 64) (by kernel_rfl) (by kernel_rfl) rfl Try.underlying4 rfl (by first | rfl | kernel_rfl)
    (fun ds h => by
      match ds, h with
      | [d0, d1], _ => rfl)
    (ChangeSpec.witness6 (enc := enc) (C := Try.checked) false ⟨#[], #[.slice none 0 0, .slice none 0 0], []⟩ 8 (by kernel_rfl) (by kernel_rfl) (by kernel_rfl) (by kernel_rfl))
    (RepEach.cons (Rep.slice Try.underlying22 (Rep.byte Try.underlying5)) (RepEach.cons (Rep.slice Try.underlying22 (Rep.byte Try.underlying5)) RepEach.nil)) (fun p _ => f3 p.1 p.2.1)
theorem over : Rows.textJoinsRow.holds Try.pinned (OpenSpec.ofChange Rows.textJoinsSpec) :=
  OpenClaim.holds_of_wide 3 Try.f3 rfl rfl rfl rfl rfl rfl rfl ⟨rfl, rfl, rfl, rfl, rfl⟩ rfl rfl rfl rfl rfl (by kernel_rfl) Try.func3 (by kernel_rfl)
    (of_decide_eq_true (by kernel_rfl)) (by unfold Func.isWrapper; first | (rw [if_pos (by decide +kernel)]; kernel_rfl) | (rw [if_neg (by decide +kernel)]; exact ⟨rfl, rfl⟩))
    (fun os started H enc _ => lifted os started H enc)
end Go.Proofs.Ytecokfbldjekiaa.textJoins
namespace Go.Proofs.Ytecokfbldjekiaa
theorem textJoins_holds : Rows.TextJoinsSaid := textJoins.over
#print axioms textJoins_holds
end Go.Proofs.Ytecokfbldjekiaa
