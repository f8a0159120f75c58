/-
  The interpreter for what is written out: the kernel carries it out. No program is named here.
-/
import Derived.Test.YtecokfbldjekiaaLiY
namespace Go.Proofs.Ytecokfbldjekiaa.LI
open Go Go.RowKit

/-- Does an operation that looks leave the store as it is? -/
def looksB (Θ : Th) (o : Oper) (e : Env) : Bool :=
  match callV o with
  | some (f, args) => match e.ev f with
    | .func (.func f) fst caps => Θ.ent f && Θ.pureF f && (rowsIn.rowsInL (fst ++ args.toList.map e.ev ++ caps)).isEmpty
    | _ => false
  | none => match o.op with
    | .slice _ x _ _ _ => (rowsIn (e.ev x)).isEmpty
    | .buildSlice _ _ parts => (rowsIn.rowsInL (parts.toList.map fun p => e.ev p.2)).isEmpty
    | _ => true

noncomputable section
variable (P : Program) (Θ : Th)
def execD (rec : Task → Option Res) (all : List Oper) : List Oper → Env → St → Option (Env × St)
  | [], e, σ => some (e, σ)
  | o :: os, e, σ => (wantedL all o e).bind fun b =>
    bif b then
      (opEval P rec o e σ).bind fun r =>
        bif (opClass o == 0 || Nat.ble 2 (opClass o)) || looksB Θ o e then execD rec all os (e.put o.dst r.1) r.2 else none
    else execD rec all os (e.put o.dst (.tuple [])) σ
def stepD (rec : Task → Option Res) : Task → Option Res
  | .code (.region id ops draw) e σ => bif draw then (bif drawOk ops then (execD P Θ rec ops.toList ops.toList e σ).map opsRes else none) else stepT P Θ rec (.code (.region id ops false) e σ)
  | t => stepT P Θ rec t
def runD : Nat → Task → Option Res
  | 0, _ => none
  | k + 1, t => stepD P Θ (runD k) t
end

section
variable {P : Program} {Θ : Th}
theorem looks_same {o : Oper} {e : Env} {σ : St} {r : LV × St} (hc : opClass o ≤ 1) (hl : looksB Θ o e = true) (h : opEval P (run P Θ) o e σ = some r) : r.2 = σ := by
  unfold opEval at h
  unfold looksB at hl
  cases hv : callV o with
  | some p =>
    obtain ⟨f, args⟩ := p
    rw [hv] at h hl
    simp only at h hl
    split at hl
    · rename_i f' fst caps he
      simp only [Bool.and_eq_true, List.isEmpty_iff] at hl
      rw [he, run_apply_pure f' fst caps _ σ hl.1.1 hl.1.2] at h
      simp only [hl.2, frzS, Option.map_map, Option.map_eq_some_iff] at h
      obtain ⟨a, _, rfl⟩ := h
      rfl
    · cases hl
  | none =>
    rw [hv] at h hl
    simp only at h hl
    by_cases h0 : opClass o = 0
    · have h' : opEval P (run P Θ) o e σ = some (r.1, r.2) := by
        unfold opEval
        rw [hv]
        exact h
      exact (class0 h0 h').1
    · unfold opClass at hc h0
      split at hc
      all_goals (rename_i ho; simp only [opStep, ho] at h hl h0)
      all_goals first
        | exact absurd rfl h0
        | exact absurd trivial h0
        | (exfalso; omega)
        | skip
      all_goals (try (simp only [Option.bind_eq_bind] at h))
      all_goals (try (unfold builtinL at h))
      all_goals (try (simp only [List.isEmpty_iff] at hl; simp only [layS, hl, frzS] at h))
      all_goals (repeat' first
        | split at h
        | (simp only [Option.map_eq_some_iff] at h; obtain ⟨_, _, h⟩ := h)
        | (simp only [Option.bind_eq_some_iff] at h; obtain ⟨_, _, h⟩ := h)
        | (simp only [Option.some.injEq] at h; subst h; rfl)
        | (simp only [reduceCtorEq] at h; done)
        | (subst h; rfl)
        | (obtain ⟨_, _, h⟩ := h)
        | (simp only [List.isEmpty_iff] at hl; simp only [hl, frzS]; done)
        | (rename_i hb _ _; cases hb; done)
        | (exfalso; simp_all; done)
        | (simp only [Option.some.injEq] at h; subst h; simp only [List.isEmpty_iff] at hl; simp only [hl, frzS]))
theorem execD_exec {rec : Task → Option Res} (hr : ∀ t r, rec t = some r → run P Θ t = some r) (all : List Oper) : ∀ (os : List Oper) (e : Env) (σ : St) (r : Env × St), execD P Θ rec all os e σ = some r → exec P Θ true all os e σ = some r
  | [], e, σ, r, h => h
  | o :: os, e, σ, r, h => by
    unfold exec
    simp only [execD, execOps] at h ⊢
    obtain ⟨b, h1, h⟩ := Option.bind_eq_some_iff.1 h
    rw [h1]
    simp only [Option.bind_some]
    cases b with
    | false => exact execD_exec hr all os _ _ _ h
    | true =>
      simp only [cond_true] at h ⊢
      obtain ⟨q, h2, h⟩ := Option.bind_eq_some_iff.1 h
      have h2' : opEval P (run P Θ) o e σ = some q := by
        unfold opEval at h2 ⊢
        split
        · rename_i hc
          rw [hc] at h2
          obtain ⟨a, ha, hq⟩ := Option.map_eq_some_iff.1 h2
          rw [hr _ _ ha, ← hq]; rfl
        · rename_i hc
          rw [hc] at h2; exact h2
      rw [h2']
      simp only [Option.bind_some]
      cases hb : ((opClass o == 0 || Nat.ble 2 (opClass o)) || looksB Θ o e) with
      | false => rw [hb] at h; cases h
      | true =>
        rw [hb, cond_true] at h
        rw [if_neg]
        · exact execD_exec hr all os _ _ _ h
        · rintro ⟨_, hc, hn⟩
          simp only [Bool.or_eq_true, beq_iff_eq, Nat.ble_eq] at hb
          rcases hb with (hb | hb) | hb
          · exact hn (class0 hb (lv := q.1) (σ' := q.2) h2').1
          · omega
          · exact hn (looks_same hc hb h2')
theorem stepD_step {rec : Task → Option Res} (hr : ∀ t r, rec t = some r → run P Θ t = some r) {t : Task} {r : Res} (h : stepD P Θ rec t = some r) : run P Θ t = some r := by
  have gen : stepT P Θ rec t = some r → run P Θ t = some r := fun h => by
    rw [run_step]
    obtain ⟨L, a, b⟩ := stepT_fin t _ r h
    exact b _ fun p hp => hr _ _ (a p hp)
  cases t with
  | code c e σ =>
    cases c with
    | region id ops draw =>
      cases draw with
      | false => exact gen h
      | true =>
        simp only [stepD, cond_true] at h
        cases hd : drawOk ops with
        | false => rw [hd] at h; cases h
        | true =>
          rw [hd, cond_true] at h
          rw [run_region_draw id ops e σ hd]
          obtain ⟨q, h1, rfl⟩ := Option.map_eq_some_iff.1 h
          rw [execD_exec hr _ _ _ _ _ h1]; rfl
    | _ => exact gen h
  | _ => exact gen h
theorem runD_run : ∀ (k : Nat) (t : Task) (r : Res), runD P Θ k t = some r → run P Θ t = some r
  | 0, _, _, h => by cases h
  | k + 1, t, r, h => stepD_step (runD_run k) h
end
end Go.Proofs.Ytecokfbldjekiaa.LI
