/-
  TreeOrder: two files that are put in either order are the same tree. Without conditions.
-/
import Derived.Test.YticpcfchhcjjeaaReA
import Derived.Test.YticpcfchhcjjeaaPlN
namespace Go.Proofs.Yticpcfchhcjjeaa.treeOrder
open Go Go.ChangeShapes Go.WideShapes Go.ChangeAt Go.RowKit Go.Proofs.Yticpcfchhcjjeaa.LI
theorem own : ownKnob Try.prog.godebug = none := by kernel_rfl
theorem laidOut : laidOutB Try.prog = true := by kernel_rfl
set_option maxRecDepth 100000 in
theorem lifted (os : Os) (started : os.Started) (H : Type) (enc : TypeId × Value → H) :
    ReturnsInHanded {} Try.checked os 10 .any (Rows.treeOrderSpec.pre6 enc Try.prog Try.f10 Rows.treeOrderRow.domain false) (Rows.treeOrderSpec.post enc Try.prog Try.f10 false true false false) :=
  law_lifted (C := Try.checked) th_ok own started Try.func10 (by kernel_rfl) laidOut (n := 64) (by kernel_rfl) (by kernel_rfl) rfl Try.underlying4 rfl (by first | rfl | kernel_rfl)
    (fun ds h => by
      match ds, h with
      | [d0, d1, d2, d3, d4], _ => rfl)
    (ChangeSpec.witness6 (enc := enc) (C := Try.checked) false ⟨#[], #[.slice none 0 0, .string ByteArray.empty, .string ByteArray.empty, .slice none 0 0, .slice none 0 0], []⟩ 8 (by kernel_rfl) (by kernel_rfl) (by kernel_rfl) (by kernel_rfl))
    (RepEach.cons repTree (RepEach.cons (Rep.str Try.underlying9) (RepEach.cons (Rep.str Try.underlying9) (RepEach.cons repStrs (RepEach.cons repStrs RepEach.nil))))) (fun p h => law_run oklaw07_TreeOrder (law07_TreeOrder_sp p.1 p.2.1 p.2.2.1 p.2.2.2.1 p.2.2.2.2.1 (okTree h.1).1 (okTree h.1).2 (okStrs h.2.2.2.1).2 (okStrs h.2.2.2.2.1).2))
theorem over : Rows.treeOrderRow.holds Try.pinned (OpenSpec.ofChange Rows.treeOrderSpec) :=
  OpenClaim.holds_of_wide 10 Try.f10 rfl rfl rfl rfl rfl rfl rfl ⟨rfl, rfl, rfl, rfl, rfl⟩ rfl rfl rfl rfl rfl (by kernel_rfl) Try.func10 (by kernel_rfl)
    (of_decide_eq_true (by kernel_rfl)) (by unfold Func.isWrapper; first | (rw [if_pos (by decide +kernel)]; kernel_rfl) | (rw [if_neg (by decide +kernel)]; exact ⟨rfl, rfl⟩))
    (fun os started H enc _ => lifted os started H enc)
end Go.Proofs.Yticpcfchhcjjeaa.treeOrder
namespace Go.Proofs.Yticpcfchhcjjeaa
theorem treeOrder_holds : Rows.TreeOrderSaid := treeOrder.over
#print axioms treeOrder_holds
end Go.Proofs.Yticpcfchhcjjeaa
