/-
  All operations together. No program is named here.
-/
import Derived.Test.YtecokfbldjekiaaLiSB
namespace Go.Proofs.Ytecokfbldjekiaa.LI
open Go Go.RowKit
section
variable {P : Program} {w0 w : World} {f0 : Nat → List Value} {ms : List Nat} {σ : St} {g : G}

theorem opStep_sound (hTy : TyOK P) {e : Env} {a : Act} (hT : TRel g e.t a.tmps) (h : SRel w0 f0 ms σ g w) {o : Oper} {r : LV × St} (hop : opStep P o e.ev σ = some r) :
    OpGood w0 f0 ms g r.1 r.2 ((execOp a.eval o).run P w) := by
  have hop0 := hop
  unfold opStep at hop
  split at hop
  · rename_i x ho
    cases hop
    exact sound_move hT h (.inl ho)
  · rename_i x ho
    cases hop
    exact sound_move hT h (.inr ho)
  · rename_i c x y ho
    simp only [Option.map_eq_some_iff] at hop
    obtain ⟨lv, h1, rfl⟩ := hop
    exact sound_pick hT h ho h1
  · rename_i t ho
    simp only [Option.map_eq_some_iff] at hop
    obtain ⟨cs, h1, rfl⟩ := hop
    exact sound_alloc hTy h ho h1
  · rename_i t x ho
    simp only [Option.bind_eq_bind, Option.bind_eq_some_iff] at hop
    obtain ⟨n, h1, hop⟩ := hop
    split at hop
    · rename_i hc
      cases hop
      exact sound_box hT h ho hc.2
    · cases hop
  · rename_i t parts ho
    exact sound_build hTy hT h ho hop0
  · rename_i t len parts ho
    exact sound_buildSlice hTy hT h ho hop0
  · rename_i t x ho
    exact sound_load hT h ho hop0
  · rename_i t x y ho
    exact sound_store hT h ho hop0
  · rename_i op t x y c ho
    simp only [Option.map_eq_some_iff] at hop
    obtain ⟨lv, h1, rfl⟩ := hop
    obtain ⟨z, h2, h3⟩ := binTL_sound (P := P) (w := w) (t := t) (xo := x) (yo := y) (ev_rel hT x) (ev_rel hT y) h1
    exact good_same h h3 (by simp only [execOp, ho, Sem.run_bind] at h2 ⊢; simp only [h2, Result.andThen_ok, Sem.run_pure])
  · rename_i op t x ho
    simp only [Option.map_eq_some_iff] at hop
    obtain ⟨lv, h1, rfl⟩ := hop
    obtain ⟨z, h2, h3⟩ := unLV_sound (P := P) (w := w) (ev_rel hT x) h1
    exact good_same h h3 (by simp only [execOp, ho, Sem.run_bind, h2, Result.andThen_ok, Sem.run_pure])
  · rename_i src dst x ho
    exact sound_convert hT h ho hop0
  · rename_i x ho
    exact sound_nilCheck hT h ho hop0
  · rename_i fn fst caps ho
    cases fn with
    | yield l => simp at hop
    | _ => cases hop; exact sound_makeFunc hT h ho (by intro l hl; cases hl)
  · rename_i t x lo hi mx ho
    exact sound_slice hT h ho hop0
  · rename_i s x f ho
    exact sound_fieldAddr hT h ho hop0
  · rename_i s x f ho
    exact sound_field hT h ho hop0
  · rename_i t x i ho
    exact sound_indexAddr hT h ho hop0
  · rename_i t x i ho
    exact sound_index hT h ho hop0
  · rename_i t i ho
    exact sound_extract hT h ho hop0
  · rename_i b args ats ho
    exact sound_builtin hTy hT h ho hop
  · cases hop

end
end Go.Proofs.Ytecokfbldjekiaa.LI
