/-
  TreeTells: what any tree is with any file, and without it, whether it may be, is the same as another one, and which names there are, is what the document says. Without conditions.
-/
import Derived.Test.YticpcfchhcjjeaaReA
namespace Go.Proofs.Yticpcfchhcjjeaa.treeTells
open Go Go.ChangeShapes Go.WideShapes Go.ChangeAt Go.RowKit Go.Proofs.Yticpcfchhcjjeaa.LI
theorem own : ownKnob Try.prog.godebug = none := by kernel_rfl
theorem laidOut : laidOutB Try.prog = true := by kernel_rfl
set_option maxRecDepth 100000 in
theorem lifted (os : Os) (started : os.Started) (H : Type) (enc : TypeId × Value → H) :
    ReturnsInHanded {} Try.checked os 7 .any (Rows.treeTellsSpec.pre6 enc Try.prog Try.f7 Rows.treeTellsRow.domain false) (Rows.treeTellsSpec.post enc Try.prog Try.f7 false true false false) :=
  law_lifted (C := Try.checked) th_ok own started Try.func7 (by kernel_rfl) laidOut (n := 64) (by kernel_rfl) (by kernel_rfl) rfl Try.underlying4 rfl (by first | rfl | kernel_rfl)
    (fun ds h => by
      match ds, h with
      | [d0, d1, d2, d3], _ => rfl)
    (ChangeSpec.witness6 (enc := enc) (C := Try.checked) false ⟨#[], #[.slice none 0 0, .slice none 0 0, .string ByteArray.empty, .slice none 0 0], []⟩ 8 (by kernel_rfl) (by kernel_rfl) (by kernel_rfl) (by kernel_rfl))
    (RepEach.cons repTree (RepEach.cons repTree (RepEach.cons (Rep.str Try.underlying9) (RepEach.cons repStrs RepEach.nil)))) (fun p h => law_run oklaw07_TreeTells (law07_TreeTells_sp p.1 p.2.1 p.2.2.1 p.2.2.2.1 (okTree h.1).1 (okTree h.1).2 (okTree h.2.1).1 (okTree h.2.1).2 (okStrs h.2.2.2.1).2))
theorem over : Rows.treeTellsRow.holds Try.pinned (OpenSpec.ofChange Rows.treeTellsSpec) :=
  OpenClaim.holds_of_wide 7 Try.f7 rfl rfl rfl rfl rfl rfl rfl ⟨rfl, rfl, rfl, rfl, rfl⟩ rfl rfl rfl rfl rfl (by kernel_rfl) Try.func7 (by kernel_rfl)
    (of_decide_eq_true (by kernel_rfl)) (by unfold Func.isWrapper; first | (rw [if_pos (by decide +kernel)]; kernel_rfl) | (rw [if_neg (by decide +kernel)]; exact ⟨rfl, rfl⟩))
    (fun os started H enc _ => lifted os started H enc)
end Go.Proofs.Yticpcfchhcjjeaa.treeTells
namespace Go.Proofs.Yticpcfchhcjjeaa
theorem treeTells_holds : Rows.TreeTellsSaid := treeTells.over
#print axioms treeTells_holds
end Go.Proofs.Yticpcfchhcjjeaa
