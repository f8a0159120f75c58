/-
  The logical interpreter without rounds to count: 'run', and its equation. No program is named here.
-/
import Derived.Test.YticpcfchhcjjeaaGreatLiA
namespace Go.Proofs.YticpcfchhcjjeaaGreat.LI
open Go Go.RowKit
variable {P : Program} {Θ : Th}

/-- What an expression over the inner answers asks of them is finite. -/
def Fin_ {α : Type} (e : (Task → Option Res) → Option α) : Prop :=
  ∀ g r, e g = some r → ∃ L : List (Task × Res), (∀ p ∈ L, g p.1 = some p.2) ∧ ∀ g', (∀ p ∈ L, g' p.1 = some p.2) → e g' = some r
theorem Fin_.const {α : Type} (x : Option α) : Fin_ (fun _ => x) := fun _ _ h => ⟨[], by simp, fun _ _ => h⟩
theorem Fin_.app (t : Task) : Fin_ (fun g => g t) := fun g r h => ⟨[(t, r)], by simpa using h, fun g' h' => h' (t, r) (by simp)⟩
theorem Fin_.bind {α β : Type} {e : (Task → Option Res) → Option α} {f : α → (Task → Option Res) → Option β} (he : Fin_ e) (hf : ∀ a, Fin_ (f a)) :
    Fin_ (fun g => (e g).bind fun a => f a g) := by
  intro g r h
  obtain ⟨a, h1, h2⟩ := Option.bind_eq_some_iff.1 h
  obtain ⟨L1, a1, b1⟩ := he g a h1
  obtain ⟨L2, a2, b2⟩ := hf a g r h2
  refine ⟨L1 ++ L2, ?_, ?_⟩
  · intro p hp
    rcases List.mem_append.1 hp with hp | hp
    · exact a1 p hp
    · exact a2 p hp
  · intro g' hg
    show (e g').bind _ = _
    rw [b1 g' (fun p hp => hg p (List.mem_append_left _ hp))]
    exact b2 g' (fun p hp => hg p (List.mem_append_right _ hp))
theorem Fin_.map {α β : Type} {e : (Task → Option Res) → Option α} (f : α → β) (he : Fin_ e) : Fin_ (fun g => (e g).map f) := by
  intro g r h
  obtain ⟨a, h1, h2⟩ := Option.map_eq_some_iff.1 h
  obtain ⟨L1, a1, b1⟩ := he g a h1
  exact ⟨L1, a1, fun g' hg => by show (e g').map f = _; rw [b1 g' hg, ← h2]; rfl⟩
theorem Fin_.ite {α : Type} {c : Prop} [Decidable c] {e f : (Task → Option Res) → Option α} (he : Fin_ e) (hf : Fin_ f) : Fin_ (fun g => if c then e g else f g) := by
  by_cases h : c
  · simpa [h] using he
  · simpa [h] using hf

open Classical in
theorem execOps_fin (strict : Bool) (all : List Oper) : ∀ (os : List Oper) (e : Env) (σ : St), Fin_ (fun g => execOps P Θ g strict all os e σ)
  | [], e, σ => Fin_.const _
  | o :: os, e, σ => by
    simp only [execOps]
    refine Fin_.bind (Fin_.const _) fun b => ?_
    cases b with
    | false => exact execOps_fin strict all os _ _
    | true =>
      simp only [cond_true]
      refine Fin_.bind ?_ fun r => ?_
      · unfold opEval
        refine Fin_.map _ ?_
        unfold opRaw
        split
        · exact Fin_.map _ (Fin_.app _)
        · exact Fin_.const _
      · exact Fin_.ite (Fin_.const _) (execOps_fin strict all os _ _)

theorem stepT_fin (t : Task) : Fin_ (fun g => stepT P Θ g t) := by
  cases t with
  | call f args =>
    simp only [stepT]
    cases Θ.prim f with
    | some p => exact Fin_.const _
    | none => exact Fin_.ite (Fin_.bind (Fin_.app _) fun r => Fin_.const _) (Fin_.const _)
  | callS f args σ =>
    simp only [stepT]
    exact Fin_.bind (Fin_.const _) fun fn => Fin_.bind (Fin_.const _) fun c => Fin_.bind (Fin_.app _) fun r => Fin_.const _
  | apply own f args σ =>
    cases f with
    | func fn fst caps =>
      cases fn with
      | func f =>
        simp only [stepT]
        refine Fin_.ite (Fin_.ite (Fin_.map _ (Fin_.app _)) ?_) (Fin_.const _)
        cases Θ.extS f with
        | some p => exact Fin_.const _
        | none => exact Fin_.app _
      | yield l =>
        cases fst with
        | cons x xs => exact Fin_.const _
        | nil =>
        cases caps with
        | cons x xs => exact Fin_.const _
        | nil =>
        simp only [stepT]
        refine Fin_.bind (Fin_.const _) fun lr => Fin_.ite ?_ (Fin_.const _)
        refine Fin_.bind (Fin_.app _) fun r1 => Fin_.ite ?_ (Fin_.const _)
        exact Fin_.map _ (Fin_.app _)
      | _ => exact Fin_.const _
    | _ => exact Fin_.const _
  | code c e σ =>
    cases c with
    | region id ops draw =>
      simp only [stepT]
      refine Fin_.ite (Fin_.ite (Fin_.map _ (execOps_fin _ _ _ _ _)) (Fin_.const _)) ?_
      cases litStart P ops.toList with
      | false => exact Fin_.map _ (execOps_fin _ _ _ _ _)
      | true =>
        simp only [cond_true]
        split
        · exact Fin_.bind (Fin_.const _) fun _ => Fin_.bind (Fin_.const _) fun r => Fin_.map _ (execOps_fin _ _ _ _ _)
        · exact Fin_.const _
    | seq a b =>
      simp only [stepT]
      refine Fin_.bind (Fin_.app _) fun r => ?_
      cases r.ex with
      | normal => exact Fin_.app _
      | _ => exact Fin_.const _
    | cond c a b =>
      simp only [stepT]
      generalize e.ev c = v
      cases v with
      | sc v =>
        cases v with
        | bool b => cases b <;> exact Fin_.app _
        | _ => exact Fin_.const _
      | _ => exact Fin_.const _
    | block id a =>
      simp only [stepT]
      exact Fin_.bind (Fin_.app _) fun r => Fin_.const _
    | loop a =>
      simp only [stepT]
      refine Fin_.bind (Fin_.app _) fun r => ?_
      cases r.ex with
      | normal => exact Fin_.app _
      | _ => exact Fin_.const _
    | rangeFunc f ps assign body =>
      simp only [stepT]
      exact Fin_.ite (Fin_.const _) (Fin_.bind (Fin_.app _) fun r => Fin_.const _)
    | _ => exact Fin_.const _

theorem runF_succ {k : Nat} {t : Task} {r : Res} (h : runF P Θ k t = some r) : runF P Θ (k + 1) t = some r := by
  induction k generalizing t r with
  | zero => simp [runF] at h
  | succ k ih =>
    obtain ⟨L, a, b⟩ := stepT_fin t _ r h
    exact b _ (fun p hp => ih (a p hp))
theorem runF_le {k k' : Nat} (hk : k ≤ k') {t : Task} {r : Res} (h : runF P Θ k t = some r) : runF P Θ k' t = some r := by
  induction hk with
  | refl => exact h
  | step _ ih => exact runF_succ ih

open Classical in
/-- The interpreter's answer, whatever number of rounds it takes. -/
noncomputable def run (P : Program) (Θ : Th) (t : Task) : Option Res := if h : ∃ k r, runF P Θ k t = some r then some h.choose_spec.choose else none

theorem run_iff {t : Task} {r : Res} : run P Θ t = some r ↔ ∃ k, runF P Θ k t = some r := by
  unfold run
  constructor
  · intro h
    split at h
    · rename_i hx
      injection h with h
      exact ⟨hx.choose, h ▸ hx.choose_spec.choose_spec⟩
    · cases h
  · rintro ⟨k, hk⟩
    have hx : ∃ k r, runF P Θ k t = some r := ⟨k, r, hk⟩
    rw [dif_pos hx]
    have h1 := hx.choose_spec.choose_spec
    have h2 := runF_le (Nat.le_max_left k hx.choose) hk
    have h3 := runF_le (Nat.le_max_right k hx.choose) h1
    rw [h2] at h3
    exact h3.symm ▸ rfl

theorem run_step (t : Task) : run P Θ t = stepT P Θ (run P Θ) t := by
  apply Option.ext
  intro r
  constructor
  · intro h
    obtain ⟨k, hk⟩ := run_iff.1 h
    cases k with
    | zero => simp [runF] at hk
    | succ k =>
      obtain ⟨L, a, b⟩ := stepT_fin t _ r hk
      exact b _ (fun p hp => run_iff.2 ⟨k, a p hp⟩)
  · intro h
    obtain ⟨L, a, b⟩ := stepT_fin t _ r h
    have : ∃ K, ∀ p ∈ L, runF P Θ K p.1 = some p.2 := by
      clear b h
      induction L with
      | nil => exact ⟨0, by simp⟩
      | cons p L ih =>
        obtain ⟨K, hK⟩ := ih (fun q hq => a q (List.mem_cons_of_mem _ hq))
        obtain ⟨k, hk⟩ := run_iff.1 (a p List.mem_cons_self)
        refine ⟨max K k, fun q hq => ?_⟩
        rcases List.mem_cons.1 hq with rfl | hq
        · exact runF_le (Nat.le_max_right _ _) hk
        · exact runF_le (Nat.le_max_left _ _) (hK q hq)
    obtain ⟨K, hK⟩ := this
    exact run_iff.2 ⟨K + 1, b _ hK⟩

end Go.Proofs.YticpcfchhcjjeaaGreat.LI
