/-
  NewsGives: the changes from one tree to another one change the first one into the second one, and, turned, back; there are none just if both are the same. Without conditions.
-/
import Derived.Test.YticpcfchhcjjeaaGreatPlNG
namespace Go.Proofs.YticpcfchhcjjeaaGreat.newsGives
open Go Go.ChangeShapes Go.WideShapes Go.ChangeAt Go.RowKit Go.Proofs.YticpcfchhcjjeaaGreat.LI
theorem own : ownKnob Tryz.prog.godebug = none := by kernel_rfl
theorem laidOut : laidOutB Tryz.prog = true := by kernel_rfl
set_option maxRecDepth 100000 in
theorem lifted (os : Os) (started : os.Started) (H : Type) (enc : TypeId × Value → H) :
    ReturnsInHanded {} Tryz.checked os 3 .any (Rows.newsGivesSpec.pre6 enc Tryz.prog Tryz.f3 Rows.newsGivesRow.domain false) (Rows.newsGivesSpec.post enc Tryz.prog Tryz.f3 false true false false) :=
  law_lifted (C := Tryz.checked) th_ok own started Tryz.func3 (by kernel_rfl) laidOut (n := 64) (by kernel_rfl) (by kernel_rfl) rfl Tryz.underlying4 rfl (by first | rfl | kernel_rfl)
    (fun ds h => by
      match ds, h with
      | [d0, d1], _ => rfl)
    (ChangeSpec.witness6 (enc := enc) (C := Tryz.checked) false ⟨#[], #[.slice none 0 0, .slice none 0 0], []⟩ 8 (by kernel_rfl) (by kernel_rfl) (by kernel_rfl) (by kernel_rfl))
    (RepEach.cons repTree (RepEach.cons repTree RepEach.nil)) (fun p h => law_run oklaw13_NewsGives (law13_NewsGives_sp p.1 p.2.1 (okTree h.1).1 (okTree h.1).2 (okTree h.2.1).1 (okTree h.2.1).2))
theorem over : Rows.newsGivesRow.holds Tryz.pinned (OpenSpec.ofChange Rows.newsGivesSpec) :=
  OpenClaim.holds_of_wide 3 Tryz.f3 rfl rfl rfl rfl rfl rfl rfl ⟨rfl, rfl, rfl, rfl, rfl⟩ rfl rfl rfl rfl rfl (by kernel_rfl) Tryz.func3 (by kernel_rfl)
    (of_decide_eq_true (by kernel_rfl)) (by unfold Func.isWrapper; first | (rw [if_pos (by decide +kernel)]; kernel_rfl) | (rw [if_neg (by decide +kernel)]; exact ⟨rfl, rfl⟩))
    (fun os started H enc _ => lifted os started H enc)
end Go.Proofs.YticpcfchhcjjeaaGreat.newsGives
namespace Go.Proofs.YticpcfchhcjjeaaGreat
theorem newsGives_holds : Rows.NewsGivesSaid := newsGives.over
#print axioms newsGives_holds
end Go.Proofs.YticpcfchhcjjeaaGreat
