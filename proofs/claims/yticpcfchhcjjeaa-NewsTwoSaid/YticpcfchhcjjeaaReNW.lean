/-
  NewsTwo: the changes from one tree to a second one, and from that to a third one, one behind the other, change the first one into the third one. Without conditions.
-/
import Derived.Test.YticpcfchhcjjeaaPlNW
namespace Go.Proofs.Yticpcfchhcjjeaa.newsTwo
open Go Go.ChangeShapes Go.WideShapes Go.ChangeAt Go.RowKit Go.Proofs.Yticpcfchhcjjeaa.LI
theorem own : ownKnob Try.prog.godebug = none := by kernel_rfl
theorem laidOut : laidOutB Try.prog = true := by kernel_rfl
set_option maxRecDepth 100000 in
theorem lifted (os : Os) (started : os.Started) (H : Type) (enc : TypeId × Value → H) :
    ReturnsInHanded {} Try.checked os 13 .any (Rows.newsTwoSpec.pre6 enc Try.prog Try.f13 Rows.newsTwoRow.domain false) (Rows.newsTwoSpec.post enc Try.prog Try.f13 false true false false) :=
  law_lifted (C := Try.checked) th_ok own started Try.func13 (by kernel_rfl) laidOut (n := 64) (by kernel_rfl) (by kernel_rfl) rfl Try.underlying4 rfl (by first | rfl | kernel_rfl)
    (fun ds h => by
      match ds, h with
      | [d0, d1, d2], _ => rfl)
    (ChangeSpec.witness6 (enc := enc) (C := Try.checked) false ⟨#[], #[.slice none 0 0, .slice none 0 0, .slice none 0 0], []⟩ 8 (by kernel_rfl) (by kernel_rfl) (by kernel_rfl) (by kernel_rfl))
    (RepEach.cons repTree (RepEach.cons repTree (RepEach.cons repTree RepEach.nil))) (fun p h => law_run oklaw13_NewsTwo (law13_NewsTwo_sp p.1 p.2.1 p.2.2.1 (okTree h.1).1 (okTree h.1).2 (okTree h.2.1).1 (okTree h.2.1).2 (okTree h.2.2.1).1 (okTree h.2.2.1).2))
theorem over : Rows.newsTwoRow.holds Try.pinned (OpenSpec.ofChange Rows.newsTwoSpec) :=
  OpenClaim.holds_of_wide 13 Try.f13 rfl rfl rfl rfl rfl rfl rfl ⟨rfl, rfl, rfl, rfl, rfl⟩ rfl rfl rfl rfl rfl (by kernel_rfl) Try.func13 (by kernel_rfl)
    (of_decide_eq_true (by kernel_rfl)) (by unfold Func.isWrapper; first | (rw [if_pos (by decide +kernel)]; kernel_rfl) | (rw [if_neg (by decide +kernel)]; exact ⟨rfl, rfl⟩))
    (fun os started H enc _ => lifted os started H enc)
end Go.Proofs.Yticpcfchhcjjeaa.newsTwo
namespace Go.Proofs.Yticpcfchhcjjeaa
theorem newsTwo_holds : Rows.NewsTwoSaid := newsTwo.over
#print axioms newsTwo_holds
end Go.Proofs.Yticpcfchhcjjeaa
