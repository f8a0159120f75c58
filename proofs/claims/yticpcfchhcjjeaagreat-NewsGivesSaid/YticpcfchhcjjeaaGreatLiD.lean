/-
  The interpreter for what is written out: the kernel carries it out. No program is named here.
-/
import Derived.Test.YticpcfchhcjjeaaGreatLiX
namespace Go.Proofs.YticpcfchhcjjeaaGreat.LI
open Go Go.RowKit

/-- What has come of a row of operations. -/
def opsRes (r : Env × St) : Res := { env := r.1, σ := r.2 }
/-- Does an operation that looks leave the store as it is? -/
def looksB (Θ : Th) (o : Oper) (e : Env) (v : LV) : Bool :=
  match callV o with
  | some (f, args) => match e.ev f with
    | .func (.func f) fst caps => Θ.ent f && Θ.pureF f && (noMem v || (rowsIn.rowsInL (fst ++ args.toList.map e.ev ++ caps)).isEmpty)
    | _ => false
  | none => match o.op with
    | .slice _ x _ _ _ => Θ.owns e.fn o.dst || (rowsIn (e.ev x)).isEmpty
    | .buildSlice _ _ parts => (rowsIn.rowsInL (parts.toList.map fun p => e.ev p.2)).isEmpty
    | _ => true

noncomputable section
variable (P : Program) (Θ : Th)
def execD (rec : Task → Option Res) (all : List Oper) : List Oper → Env → St → Option (Env × St)
  | [], e, σ => some (e, σ)
  | o :: os, e, σ => (wantedL all o e).bind fun b =>
    bif b then
      (opEval P Θ rec o e σ).bind fun r =>
        bif (opClass Θ e.fn o == 0 || Nat.ble 2 (opClass Θ e.fn o)) || looksB Θ o e r.1 then execD rec all os (e.put o.dst r.1) r.2 else none
    else execD rec all os (e.put o.dst (.tuple [])) σ
def stepD (rec : Task → Option Res) : Task → Option Res
  | .code (.region id ops draw) e σ => bif draw then (bif drawOk Θ e.fn ops then (execD P Θ rec ops.toList ops.toList e σ).map opsRes else none) else stepT P Θ rec (.code (.region id ops false) e σ)
  | t => stepT P Θ rec t
def runD : Nat → Task → Option Res
  | 0, _ => none
  | k + 1, t => stepD P Θ (runD k) t
end

section
variable {P : Program} {Θ : Th}
mutual
theorem noMem_frz {σ : St} : ∀ v : LV, noMem (frzV σ v) = true → noMem v = true
  | .sc u, _ => rfl
  | .tuple vs, h => by simp only [frzV, noMem] at h ⊢; exact noMemL_frz vs h
  | .agg cs, h => by simp only [frzV, noMem] at h ⊢; exact noMemL_frz cs h
  | .undef, h => by simp [frzV, noMem] at h
  | .nils, h => by simp [frzV, noMem] at h
  | .slice _, h => by simp [frzV, noMem] at h
  | .nslice _, h => by simp [frzV, noMem] at h
  | .mref r n, h => by
    simp only [frzV] at h
    split at h
    · split at h <;> simp [noMem] at h
    · simp [noMem] at h
  | .mview r n lo hi sz, h => by
    simp only [frzV] at h
    split at h
    · split at h <;> simp [noMem] at h
    · simp [noMem] at h
  | .mapr _, h => by simp [frzV, noMem] at h
  | .bptr _ _, h => by simp [frzV, noMem] at h
  | .pptr _, h => by simp [frzV, noMem] at h
  | .rptr _ _ _ _ _, h => by simp [frzV, noMem] at h
  | .func _ _ _, h => by simp [frzV, noMem] at h
theorem noMemL_frz {σ : St} : ∀ vs : List LV, noMem.noMemL (frzV.frzL σ vs) = true → noMem.noMemL vs = true
  | [], _ => rfl
  | x :: xs, h => by
    simp only [frzV.frzL, noMem.noMemL, Bool.and_eq_true] at h ⊢
    exact ⟨noMem_frz x h.1, noMemL_frz xs h.2⟩
end
theorem run_apply_pure (own : Bool) (f : FuncId) (fst caps args : List LV) (σ : St) (h1 : Θ.ent f = true) (h2 : Θ.pureF f = true) :
    run P Θ (.apply own (.func (.func f) fst caps) args σ) = (run P Θ (.call f (frzV.frzL σ (fst ++ args ++ caps)))).map fun r =>
      { v := (afterPure own r.v r.σ.rows σ (rowsIn.rowsInL (fst ++ args ++ caps))).1, σ := (afterPure own r.v r.σ.rows σ (rowsIn.rowsInL (fst ++ args ++ caps))).2 } := by
  rw [run_step]; simp [stepT, h1, h2]
theorem looks_same {o : Oper} {e : Env} {σ : St} {r : LV × St} (hc : opClass Θ e.fn o ≤ 1) (hl : looksB Θ o e r.1 = true) (h : opEval P Θ (run P Θ) o e σ = some r) : r.2 = σ := by
  obtain ⟨hfr, hcr⟩ := class_raw (Θ := Θ) (o := o) (fn := e.fn) (by omega)
  rw [← hcr] at hc
  rw [frz_raw hfr] at h
  unfold opRaw at h
  unfold looksB at hl
  cases hv : callV o with
  | some p =>
    obtain ⟨f, args⟩ := p
    rw [hv] at h hl
    simp only at h hl
    have hown : Θ.owns e.fn o.dst = false := by
      unfold callV at hv
      split at hv
      · rename_i f' a' t' ho
        simp only [opClass0, ho] at hc
        cases hb : Θ.owns e.fn o.dst with
        | false => rfl
        | true => rw [hb] at hc; simp at hc
      · cases hv
    rw [hown] at h
    split at hl
    · rename_i f' fst caps he
      simp only [Bool.and_eq_true, Bool.or_eq_true, List.isEmpty_iff] at hl
      rw [he, run_apply_pure _ f' fst caps _ σ hl.1.1 hl.1.2] at h
      simp only [Option.map_map, Option.map_eq_some_iff] at h
      obtain ⟨a, _, rfl⟩ := h
      have hl := hl.2
      simp only [Function.comp, afterPure] at hl ⊢
      split
      · rfl
      · rename_i hn
        rw [if_neg hn] at hl
        simp only [takeOver, Bool.false_eq_true, if_false] at hl ⊢
        rcases hl with hl | hl
        · exact absurd (noMem_frz _ hl) hn
        · rw [hl]; rfl
    · cases hl
  | none =>
    rw [hv] at h hl
    simp only at h hl
    by_cases h0 : opClass0 Θ e.fn o = 0
    · have h' : opEval P Θ (run P Θ) o e σ = some (r.1, r.2) := by
        rw [frz_raw hfr]
        unfold opRaw
        rw [hv]
        exact h
      exact (class0 (by rw [← hcr]; exact h0) h').1
    · by_cases hbs : ∃ t n ps, o.op = .buildSlice t n ps
      · obtain ⟨t, n, ps, ho⟩ := hbs
        have hown : Θ.owns e.fn o.dst = false := by
          cases hb : Θ.owns e.fn o.dst with
          | false => rfl
          | true => simp [opClass0, ho, hb] at hc
        rw [hown] at h
        simp only [ho, List.isEmpty_iff] at hl
        simp only [opStep, ho, Bool.false_and, cond_false, Option.bind_eq_some_iff] at h
        obtain ⟨_, _, _, _, _, _, h⟩ := h
        split at h
        · cases h; rfl
        · split at h
          · cases h; simp only [layS, hl, frzS]
          · cases h
      by_cases hap : ∃ args ats, o.op = .call { callee := .builtin .append, args, argTypes := ats }
      · obtain ⟨args, ats, ho⟩ := hap
        have hown : Θ.owns e.fn o.dst = true := by
          cases hb : Θ.owns e.fn o.dst with
          | true => rfl
          | false => simp [opClass0, ho, hb] at hc
        rw [hown] at h
        simp only [opStep, ho, isApp, Bool.and_self, cond_true] at h
        unfold appendNew at h
        split at h
        · simp only [Option.bind_eq_some_iff] at h
          obtain ⟨_, _, _, _, _, _, _, _, _, _, h⟩ := h
          split at h
          · cases h; rfl
          · cases h
        · cases h
      unfold opClass0 at hc h0
      split at hc
      all_goals (rename_i ho; simp only [opStep, ho, isApp, Bool.and_false, cond_false] at h hl h0)
      all_goals first
        | exact absurd rfl h0
        | exact absurd trivial h0
        | exact absurd ⟨_, _, _, ‹o.op = .buildSlice _ _ _›⟩ hbs
        | exact absurd ⟨_, _, ‹o.op = .call { callee := .builtin .append, args := _, argTypes := _ }›⟩ hap
        | (exfalso; omega)
        | (exfalso; split at hc <;> simp_all <;> omega)
        | skip
      all_goals (try (simp only [Option.bind_eq_bind] at h))
      all_goals (try (unfold builtinL at h))
      all_goals (try (simp only [List.isEmpty_iff] at hl; simp only [layS, hl, frzS] at h))
      all_goals (repeat' first
        | split at h
        | (simp only [Option.map_eq_some_iff] at h; obtain ⟨_, _, h⟩ := h)
        | (simp only [Option.bind_eq_some_iff] at h; obtain ⟨_, _, h⟩ := h)
        | (simp only [Option.some.injEq] at h; subst h; rfl)
        | (simp only [reduceCtorEq] at h; done)
        | (subst h; rfl)
        | (obtain ⟨_, _, h⟩ := h)
        | (simp only [List.isEmpty_iff] at hl; simp only [hl, frzS]; done)
        | (rename_i hb _ _; cases hb; done)
        | (exfalso; simp_all; done)
        | (simp only [Option.some.injEq] at h; subst h; simp only [List.isEmpty_iff] at hl; simp only [hl, frzS])
        | (simp_all [frzS]; done))
theorem execD_exec {rec : Task → Option Res} (hr : ∀ t r, rec t = some r → run P Θ t = some r) (all : List Oper) : ∀ (os : List Oper) (e : Env) (σ : St) (r : Env × St), execD P Θ rec all os e σ = some r → exec P Θ true all os e σ = some r
  | [], e, σ, r, h => h
  | o :: os, e, σ, r, h => by
    unfold exec
    simp only [execD, execOps] at h ⊢
    obtain ⟨b, h1, h⟩ := Option.bind_eq_some_iff.1 h
    rw [h1]
    simp only [Option.bind_some]
    cases b with
    | false => exact execD_exec hr all os _ _ _ h
    | true =>
      simp only [cond_true] at h ⊢
      obtain ⟨q, h2, h⟩ := Option.bind_eq_some_iff.1 h
      have h2' : opEval P Θ (run P Θ) o e σ = some q := by
        unfold opEval at h2 ⊢
        obtain ⟨q0, h2, hq0⟩ := Option.map_eq_some_iff.1 h2
        have h3 : opRaw P Θ (run P Θ) o e σ = some q0 := by
          unfold opRaw at h2 ⊢
          split
          · rename_i hc
            rw [hc] at h2
            obtain ⟨a, ha, hq⟩ := Option.map_eq_some_iff.1 h2
            rw [hr _ _ ha, ← hq]; rfl
          · rename_i hc
            rw [hc] at h2; exact h2
        rw [h3, ← hq0]; rfl
      rw [h2']
      simp only [Option.bind_some]
      cases hb : ((opClass Θ e.fn o == 0 || Nat.ble 2 (opClass Θ e.fn o)) || looksB Θ o e q.1) with
      | false => rw [hb] at h; cases h
      | true =>
        rw [hb, cond_true] at h
        rw [if_neg]
        · exact execD_exec hr all os _ _ _ h
        · rintro ⟨_, hc, hn⟩
          simp only [Bool.or_eq_true, beq_iff_eq, Nat.ble_eq] at hb
          rcases hb with (hb | hb) | hb
          · exact hn (class0 hb (lv := q.1) (σ' := q.2) h2').1
          · omega
          · exact hn (looks_same hc hb h2')
theorem stepD_step {rec : Task → Option Res} (hr : ∀ t r, rec t = some r → run P Θ t = some r) {t : Task} {r : Res} (h : stepD P Θ rec t = some r) : run P Θ t = some r := by
  have gen : stepT P Θ rec t = some r → run P Θ t = some r := fun h => by
    rw [run_step]
    obtain ⟨L, a, b⟩ := stepT_fin t _ r h
    exact b _ fun p hp => hr _ _ (a p hp)
  cases t with
  | code c e σ =>
    cases c with
    | region id ops draw =>
      cases draw with
      | false => exact gen h
      | true =>
        simp only [stepD, cond_true] at h
        cases hd : drawOk Θ e.fn ops with
        | false => rw [hd] at h; cases h
        | true =>
          rw [hd, cond_true] at h
          obtain ⟨q, h1, rfl⟩ := Option.map_eq_some_iff.1 h
          have h2 := execD_exec hr _ _ _ _ _ h1
          unfold exec at h2
          rw [run_step]
          simp only [stepT, hd, if_true, h2]
          rfl
    | _ => exact gen h
  | _ => exact gen h
theorem runD_run : ∀ (k : Nat) (t : Task) (r : Res), runD P Θ k t = some r → run P Θ t = some r
  | 0, _, _, h => by cases h
  | k + 1, t, r, h => stepD_step (runD_run k) h
end
end Go.Proofs.YticpcfchhcjjeaaGreat.LI
