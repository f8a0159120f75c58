/-
  RepoReverts: behind a Revert nothing is news; what is edited to what stands there changes nothing. Without conditions.
-/
import Derived.Test.YtpeaaophmddhnaaGreatVRR1
namespace Go.Proofs.YtpeaaophmddhnaaGreat.repoReverts
open Go Go.ChangeShapes Go.WideShapes Go.ChangeAt Go.RowKit Go.Proofs.YtpeaaophmddhnaaGreat.LI
theorem own : ownKnob Tryz.prog.godebug = none := by kernel_rfl
theorem laidOut : laidOutB Tryz.prog = true := by kernel_rfl
set_option maxRecDepth 100000 in
theorem lifted (os : Os) (started : os.Started) (H : Type) (enc : TypeId × Value → H) :
    ReturnsInHanded {} Tryz.checked os 5 .any (Rows.repoRevertsSpec.pre6 enc Tryz.prog Tryz.f5 Rows.repoRevertsRow.domain false) (Rows.repoRevertsSpec.post enc Tryz.prog Tryz.f5 false true false false) :=
  nOb (C := Tryz.checked) rCb own started Tryz.func5 (by kernel_rfl) laidOut (n := 64) (by kernel_rfl) (by kernel_rfl) rfl Tryz.underlying4 rfl (by first | rfl | kernel_rfl)
    (fun ds h => by
      match ds, h with
      | [d0], _ => rfl)
    (ChangeSpec.witness6 (enc := enc) (C := Tryz.checked) false ⟨#[], #[.agg #[.int .i64 0, .slice none 0 0, .slice none 0 0, .slice none 0 0, .int .i64 0]], []⟩ 8 (by kernel_rfl) (by kernel_rfl) (by kernel_rfl) (by kernel_rfl))
    (lGa.cons Ncb lGa.nil) (fun p h => Msb Sra (Qza p.1 h.1))
theorem over : Rows.repoRevertsRow.holds Tryz.pinned (OpenSpec.ofChange Rows.repoRevertsSpec) :=
  OpenClaim.holds_of_wide 5 Tryz.f5 rfl rfl rfl rfl rfl rfl rfl ⟨rfl, rfl, rfl, rfl, rfl⟩ rfl rfl rfl rfl rfl (by kernel_rfl) Tryz.func5 (by kernel_rfl)
    (of_decide_eq_true (by kernel_rfl)) (by unfold Func.isWrapper; first | (rw [if_pos (by decide +kernel)]; kernel_rfl) | (rw [if_neg (by decide +kernel)]; exact ⟨rfl, rfl⟩))
    (fun os started H enc _ => lifted os started H enc)
end Go.Proofs.YtpeaaophmddhnaaGreat.repoReverts
namespace Go.Proofs.YtpeaaophmddhnaaGreat
theorem repoReverts_holds : Rows.RepoRevertsSaid := repoReverts.over
#print axioms repoReverts_holds
end Go.Proofs.YtpeaaophmddhnaaGreat
