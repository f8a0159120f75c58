/-
  TextNames: a name may be just if it is of one to sixteen signs that each may be one alone; it is a line, too. Without conditions.
-/
import Derived.Test.YtecokfbldjekiaaTkN
import Derived.Test.YtecokfbldjekiaaTkP
namespace Go.Proofs.Ytecokfbldjekiaa.LI
open Go Go.RowKit
open KV (toL)
open KV.toL (toLs)
set_option maxRecDepth 100000
theorem name_one (s : ByteArray) (i : Nat) (h : i < s.size) : nameK (s.extract i (i + 1)) = signU (s.data.toList[i]'(by simpa using h)) := by
  rw [nameK_eq, one_byte s i h]
  have : (s.extract i (i + 1)).size ≤ 16 := by rw [ByteArray.size_extract]; omega
  simp only [this, decide_true, List.all_cons, List.all_nil, Bool.and_true, ne_eq, reduceCtorEq, not_false_eq_true]
theorem allN_all (s : ByteArray) : ∀ (k i : Nat) (a : Bool), i + k = s.size → allN s k i a = (a && (s.data.toList.drop i).all signU)
  | 0, i, a, h => by
    have hl : s.data.toList.length = s.size := by simp
    rw [List.drop_eq_nil_of_le (by omega)]; simp [allN]
  | k + 1, i, a, h => by
    rw [allN, allN_all s k (i + 1) _ (by omega), name_one s i (by omega)]
    have hi : i < s.data.toList.length := by simp; omega
    rw [List.drop_eq_getElem_cons hi, List.all_cons, Bool.and_assoc]
theorem names_law (s : ByteArray) (hs : (s.size : Int) < big) : fnK Try.prog th (S4 condF) 1000 4 [.sc (.string s)] = some (.bool true) := by
  rw [k4]
  have hall := fun a => allN_all s s.size 0 a (by omega)
  simp only [List.drop_zero] at hall
  simp only [fit_t hs, condF_true, decide_true, hall, Bool.false_and, Bool.not_false]
  by_cases h1 : (s.size : Int) > 100
  · simp only [h1, decide_true, condF_true]
  · simp only [h1, decide_false, condF_false]
    have hl : s.size = s.data.toList.length := by simp
    by_cases h2 : (s.size : Int) > 0
    · have hne : s.data.toList ≠ [] := by
        intro h
        have : s.size = 0 := by rw [hl, h]; rfl
        omega
      simp only [h2, decide_true, condF_true, nameK_eq, hne, ne_eq, not_false_eq_true, Bool.and_true]
      have e16 : decide ((s.size : Int) ≤ 16) = decide (s.size ≤ 16) := decide_eq_decide.2 (by omega)
      rw [e16, Bool.and_comm, beq_self_eq_true, condF_true]
      cases hb : (decide (s.size ≤ 16) && s.data.toList.all signU) with
      | false => rfl
      | true =>
        simp only [Bool.and_eq_true, decide_eq_true_eq] at hb
        have : mayK s = true := by
          rw [mayK_eq]
          simp only [Bool.and_eq_true, decide_eq_true_eq]
          refine ⟨by omega, ?_⟩
          rw [List.all_eq_true]
          intro b hbm
          exact sign_not_feed b (List.all_eq_true.1 hb.2 b hbm)
        rw [this]
        rfl
    · have he : s.data.toList = [] := by
        apply List.eq_nil_of_length_eq_zero
        omega
      simp only [h2, decide_false, condF_false, nameK_eq, he, ne_eq, not_true_eq_false, Bool.and_false, Bool.false_and, beq_self_eq_true, condF_true]
theorem f4 (s : ByteArray) (hs : s.size ≤ reachBytes) : run Try.prog th (.call 4 [.sc (.string s)]) = some ⟨.normal, .sc (.bool true), default, {}⟩ := by
  have hr := reachBytes_lt
  have hb : (s.size : Int) < big := by
    have : (2 : Nat) ^ 47 = 140737488355328 := rfl
    show (s.size : Int) < 4611686018427387904
    omega
  exact fnK_sound S4_ok (names_law s hb)
end Go.Proofs.Ytecokfbldjekiaa.LI
namespace Go.Proofs.Ytecokfbldjekiaa.textNames
open Go Go.ChangeShapes Go.WideShapes Go.ChangeAt Go.RowKit Go.Proofs.Ytecokfbldjekiaa.LI
theorem own : ownKnob Try.prog.godebug = none := by kernel_rfl
theorem laidOut : laidOutB Try.prog = true := by kernel_rfl
set_option maxRecDepth 100000 in
theorem lifted (os : Os) (started : os.Started) (H : Type) (enc : TypeId × Value → H) :
    ReturnsInHanded {} Try.checked os 4 .any (Rows.textNamesSpec.pre6 enc Try.prog Try.f4 Rows.textNamesRow.domain false) (Rows.textNamesSpec.post enc Try.prog Try.f4 false true false false) :=
  law_lifted (C := Try.checked) th_ok own started Try.func4 (by kernel_rfl) laidOut (n := 64) (by kernel_rfl) (by kernel_rfl) rfl Try.underlying4 rfl (by first | rfl | kernel_rfl)
    (fun ds h => by
      match ds, h with
      | [d0], _ => rfl)
    (ChangeSpec.witness6 (enc := enc) (C := Try.checked) false ⟨#[], #[.string ByteArray.empty], []⟩ 8 (by kernel_rfl) (by kernel_rfl) (by kernel_rfl) (by kernel_rfl))
    (RepEach.cons (Rep.string Try.underlying9) RepEach.nil) (fun a h => f4 a.1 h.1)
theorem over : Rows.textNamesRow.holds Try.pinned (OpenSpec.ofChange Rows.textNamesSpec) :=
  OpenClaim.holds_of_wide 4 Try.f4 rfl rfl rfl rfl rfl rfl rfl ⟨rfl, rfl, rfl, rfl, rfl⟩ rfl rfl rfl rfl rfl (by kernel_rfl) Try.func4 (by kernel_rfl)
    (of_decide_eq_true (by kernel_rfl)) (by unfold Func.isWrapper; first | (rw [if_pos (by decide +kernel)]; kernel_rfl) | (rw [if_neg (by decide +kernel)]; exact ⟨rfl, rfl⟩))
    (fun os started H enc _ => lifted os started H enc)
end Go.Proofs.Ytecokfbldjekiaa.textNames
namespace Go.Proofs.Ytecokfbldjekiaa
theorem textNames_holds : Rows.TextNamesSaid := textNames.over
#print axioms textNames_holds
end Go.Proofs.Ytecokfbldjekiaa
