/-
  RepoRecords: behind a Record nothing is news, and what stood there is what is recorded; unrecorded it is as it was, but for how many patches it made. Without conditions.
-/
import Derived.Test.YtpeaaophmddhnaaGreatVRO1
namespace Go.Proofs.YtpeaaophmddhnaaGreat.repoRecords
open Go Go.ChangeShapes Go.WideShapes Go.ChangeAt Go.RowKit Go.Proofs.YtpeaaophmddhnaaGreat.LI
theorem own : ownKnob Tryz.prog.godebug = none := by kernel_rfl
theorem laidOut : laidOutB Tryz.prog = true := by kernel_rfl
set_option maxRecDepth 100000 in
theorem lifted (os : Os) (started : os.Started) (H : Type) (enc : TypeId × Value → H) :
    ReturnsInHanded {} Tryz.checked os 7 .any (Rows.repoRecordsSpec.pre6 enc Tryz.prog Tryz.f7 Rows.repoRecordsRow.domain false) (Rows.repoRecordsSpec.post enc Tryz.prog Tryz.f7 false true false false) :=
  nOb (C := Tryz.checked) rCb own started Tryz.func7 (by kernel_rfl) laidOut (n := 64) (by kernel_rfl) (by kernel_rfl) rfl Tryz.underlying4 rfl (by first | rfl | kernel_rfl)
    (fun ds h => by
      match ds, h with
      | [d0, d1], _ => rfl)
    (ChangeSpec.witness6 (enc := enc) (C := Tryz.checked) false ⟨#[], #[.agg #[.int .i64 0, .slice none 0 0, .slice none 0 0, .slice none 0 0, .int .i64 0], .string ByteArray.empty], []⟩ 8 (by kernel_rfl) (by kernel_rfl) (by kernel_rfl) (by kernel_rfl))
    (lGa.cons Oib (lGa.cons Vga lGa.nil)) (fun p h => Nzb Toa (Rua p.1 p.2.1 h.1))
theorem over : Rows.repoRecordsRow.holds Tryz.pinned (OpenSpec.ofChange Rows.repoRecordsSpec) :=
  OpenClaim.holds_of_wide 7 Tryz.f7 rfl rfl rfl rfl rfl rfl rfl ⟨rfl, rfl, rfl, rfl, rfl⟩ rfl rfl rfl rfl rfl (by kernel_rfl) Tryz.func7 (by kernel_rfl)
    (of_decide_eq_true (by kernel_rfl)) (by unfold Func.isWrapper; first | (rw [if_pos (by decide +kernel)]; kernel_rfl) | (rw [if_neg (by decide +kernel)]; exact ⟨rfl, rfl⟩))
    (fun os started H enc _ => lifted os started H enc)
end Go.Proofs.YtpeaaophmddhnaaGreat.repoRecords
namespace Go.Proofs.YtpeaaophmddhnaaGreat
theorem repoRecords_holds : Rows.RepoRecordsSaid := repoRecords.over
#print axioms repoRecords_holds
end Go.Proofs.YtpeaaophmddhnaaGreat
