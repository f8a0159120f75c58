/-
  RepoStays: what a repository that may be becomes may be, whatever is done. Without conditions.
-/
import Derived.Test.YtpeaaophmddhnaaGreatURS1
namespace Go.Proofs.YtpeaaophmddhnaaGreat.repoStays
open Go Go.ChangeShapes Go.WideShapes Go.ChangeAt Go.RowKit Go.Proofs.YtpeaaophmddhnaaGreat.LI
theorem own : ownKnob Tryz.prog.godebug = none := by kernel_rfl
theorem laidOut : laidOutB Tryz.prog = true := by kernel_rfl
set_option maxRecDepth 100000 in
theorem lifted (os : Os) (started : os.Started) (H : Type) (enc : TypeId × Value → H) :
  ReturnsInHanded {} Tryz.checked os 9 .any (Rows.repoStaysSpec.pre6 enc Tryz.prog Tryz.f9 Rows.repoStaysRow.domain false) (Rows.repoStaysSpec.post enc Tryz.prog Tryz.f9 false true false false) :=
 nOb (C := Tryz.checked) rCb own started Tryz.func9 (by kernel_rfl) laidOut (n := 64) (by kernel_rfl) (by kernel_rfl) rfl Tryz.underlying4 rfl (by first | rfl | kernel_rfl)
  (fun ds h => by
   match ds, h with
   | [d0, d1, d2, d3, d4, d5], _ => rfl)
  (ChangeSpec.witness6 (enc := enc) (C := Tryz.checked) false ⟨#[], #[.agg #[.int .i64 0, .slice none 0 0, .slice none 0 0, .slice none 0 0, .int .i64 0], .slice none 0 0, .string ByteArray.empty, .agg #[.int .i64 0, .int .i64 0], .string ByteArray.empty, .string ByteArray.empty], []⟩ 8 (by kernel_rfl) (by kernel_rfl) (by kernel_rfl) (by kernel_rfl))
  (lGa.cons Tab (lGa.cons Ljb (lGa.cons Oga (lGa.cons Syb (lGa.cons Oga (lGa.cons Oga lGa.nil)))))) (fun p h => Slb Xya (Wda p.1 p.2.1 p.2.2.1 p.2.2.2.1 p.2.2.2.2.1 p.2.2.2.2.2.1 h.1 (Ezb h.2.1).1 (Ezb h.2.1).2))
theorem over : Rows.repoStaysRow.holds Tryz.pinned (OpenSpec.ofChange Rows.repoStaysSpec) :=
 OpenClaim.holds_of_wide 9 Tryz.f9 rfl rfl rfl rfl rfl rfl rfl ⟨rfl, rfl, rfl, rfl, rfl⟩ rfl rfl rfl rfl rfl (by kernel_rfl) Tryz.func9 (by kernel_rfl)
  (of_decide_eq_true (by kernel_rfl)) (by unfold Func.isWrapper; first | (rw [if_pos (by decide +kernel)]; kernel_rfl) | (rw [if_neg (by decide +kernel)]; exact ⟨rfl, rfl⟩))
  (fun os started H enc _ => lifted os started H enc)
end Go.Proofs.YtpeaaophmddhnaaGreat.repoStays
namespace Go.Proofs.YtpeaaophmddhnaaGreat
theorem repoStays_holds : Rows.RepoStaysSaid := repoStays.over
#print axioms repoStays_holds
end Go.Proofs.YtpeaaophmddhnaaGreat
