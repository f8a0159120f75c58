/-
  RepoMoves: a file that has another name has the lines that it had; moved back all is as it was, but for the patches. Without conditions.
-/
import Derived.Test.YtpeaaophmddhnaaGreatVRM1
namespace Go.Proofs.YtpeaaophmddhnaaGreat.repoMoves
open Go Go.ChangeShapes Go.WideShapes Go.ChangeAt Go.RowKit Go.Proofs.YtpeaaophmddhnaaGreat.LI
theorem own : ownKnob Tryz.prog.godebug = none := by kernel_rfl
theorem laidOut : laidOutB Tryz.prog = true := by kernel_rfl
set_option maxRecDepth 100000 in
theorem lifted (os : Os) (started : os.Started) (H : Type) (enc : TypeId × Value → H) :
    ReturnsInHanded {} Tryz.checked os 6 .any (Rows.repoMovesSpec.pre6 enc Tryz.prog Tryz.f6 Rows.repoMovesRow.domain false) (Rows.repoMovesSpec.post enc Tryz.prog Tryz.f6 false true false false) :=
  nOb (C := Tryz.checked) rCb own started Tryz.func6 (by kernel_rfl) laidOut (n := 64) (by kernel_rfl) (by kernel_rfl) rfl Tryz.underlying4 rfl (by first | rfl | kernel_rfl)
    (fun ds h => by
      match ds, h with
      | [d0, d1, d2], _ => rfl)
    (ChangeSpec.witness6 (enc := enc) (C := Tryz.checked) false ⟨#[], #[.agg #[.int .i64 0, .slice none 0 0, .slice none 0 0, .slice none 0 0, .int .i64 0], .string ByteArray.empty, .string ByteArray.empty], []⟩ 8 (by kernel_rfl) (by kernel_rfl) (by kernel_rfl) (by kernel_rfl))
    (lGa.cons Kxb (lGa.cons Pha (lGa.cons Pha lGa.nil))) (fun p h => Kjb Tza (Spa p.1 p.2.1 p.2.2.1 h.1))
theorem over : Rows.repoMovesRow.holds Tryz.pinned (OpenSpec.ofChange Rows.repoMovesSpec) :=
  OpenClaim.holds_of_wide 6 Tryz.f6 rfl rfl rfl rfl rfl rfl rfl ⟨rfl, rfl, rfl, rfl, rfl⟩ rfl rfl rfl rfl rfl (by kernel_rfl) Tryz.func6 (by kernel_rfl)
    (of_decide_eq_true (by kernel_rfl)) (by unfold Func.isWrapper; first | (rw [if_pos (by decide +kernel)]; kernel_rfl) | (rw [if_neg (by decide +kernel)]; exact ⟨rfl, rfl⟩))
    (fun os started H enc _ => lifted os started H enc)
end Go.Proofs.YtpeaaophmddhnaaGreat.repoMoves
namespace Go.Proofs.YtpeaaophmddhnaaGreat
theorem repoMoves_holds : Rows.RepoMovesSaid := repoMoves.over
#print axioms repoMoves_holds
end Go.Proofs.YtpeaaophmddhnaaGreat
