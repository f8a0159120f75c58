/-
  What the interpreter answers, the machine does: calls. No program is named here.
-/
import Derived.Test.YtecokfbldjekiaaLiSG
namespace Go.Proofs.Ytecokfbldjekiaa.LI
open Go Go.RowKit

/-- A function whose answers are given. -/
structure PrimOK (P : Program) (f : FuncId) (p : List LV → Option LV) : Prop where
  ok : ∀ (args : List LV) (v : LV) (g : G) (w : World) (vs : Array Value), p args = some v → refFree v = true → refFree.refFreeL args = true → FzOK g w → VsRel g args vs.toList → CallsIn Fence.wide 0 P f vs w (PureEnd g v w)

/-- A function without a body that the model answers at once. -/
structure ExtOK (P : Program) (f : FuncId) (p : List LV → Option LV) : Prop where
  ok : ∀ (args : List LV) (v : LV) (g : G) (w : World) (vs : Array Value), p args = some v → FzOK g w → VsRel g args vs.toList → ∃ u, (callFunc f vs).run P w = .ok (.value u) w ∧ VRel g v u

/-- What is asked of the tables. -/
structure ThOK (P : Program) (Θ : Th) : Prop where
  ty : TyOK P
  ord : P.follows .mixedOrders = true
  ent : ∀ f, Θ.ent f = true → ∀ args w, (callFunc f args).run P w = .ok (.enter f args) w
  prim : ∀ f p, Θ.prim f = some p → PrimOK P f p
  ext : ∀ f p, Θ.ext f = some p → ExtOK P f p

structure Good (P : Program) (Θ : Th) (k : Nat) : Prop where
  call : ∀ {f : FuncId} {args : List LV} {r : Res}, runF P Θ k (.call f args) = some r → ∀ {g : G} {w : World} {vs : Array Value}, FzOK g w → VsRel g args vs.toList → refFree r.v = true ∧ CallsIn Fence.wide 0 P f vs w (PureEnd g r.v w)
  callS : ∀ {f : FuncId} {args : List LV} {σ : St} {r : Res}, runF P Θ k (.callS f args σ) = some r → ∀ {w0 : World} {f0 : Nat → List Value} {ms : List Nat} {g : G} {w : World} {vs : Array Value},
    SRel w0 f0 ms σ g w → VsRel g args vs.toList → CallsIn Fence.wide 0 P f vs w (StEnd w0 f0 ms g r.v r.σ)
  apply : ∀ {f : FuncId} {fst caps args : List LV} {σ : St} {r : Res}, runF P Θ k (.apply (.func (.func f) fst caps) args σ) = some r → ∀ {w0 : World} {f0 : Nat → List Value} {ms : List Nat} {g : G} {w : World} {vf va vc : Array Value},
    SRel w0 f0 ms σ g w → VsRel g fst vf.toList → VsRel g args va.toList → VsRel g caps vc.toList →
    (Θ.ent f = true → CallsIn Fence.wide 0 P f (vf ++ va ++ vc) w (StEnd w0 f0 ms g r.v r.σ)) ∧
    (Θ.ent f = false → ∃ u g', (callFunc f (vf ++ va ++ vc)).run P w = .ok (.value u) w ∧ g.le g' ∧ VRel g' r.v u ∧ SRel w0 f0 ms r.σ g' w)
  yield : ∀ {l : Nat} {args : List LV} {σ : St} {r : Res}, runF P Θ k (.apply (.func (.yield l) [] []) args σ) = some r → ∀ {w0 : World} {f0 : Nat → List Value} {ms : List Nat} {g : G} {w : World} {b : Nat} {va : Array Value},
    SRel w0 f0 ms σ g w → VsRel g args va.toList → g.loop[l]? = some b → ∃ fn tmps assign body, (Instr.yield b va).run P w = .ok (.round b fn tmps assign body) w ∧ RoundIn Fence.wide 0 P b fn tmps assign body w (StEnd w0 f0 ms g r.v r.σ)
  code : ∀ {c : Code} {e : Env} {σ : St} {r : Res}, runF P Θ k (.code c e σ) = some r → ∀ {ro : Option Nat} {w0 : World} {f0 : Nat → List Value} {ms : List Nat} {g : G} {w : World} {a : Act},
    SRel w0 f0 ms σ g w → TRel g e.t a.tmps → (∀ l, ro = some l → l ∈ g.loop) → c.wpIn (FF ro) 0 P (CEnd w0 f0 ms g r a.defers ro) a w

section
variable {P : Program} {Θ : Th} {k : Nat}

theorem apply_inv {f : LV} {args : List LV} {σ : St} {r : Res} (h : runF P Θ k (.apply f args σ) = some r) : (∃ fn fst caps, f = .func (.func fn) fst caps) ∨ ∃ l, f = .func (.yield l) [] [] := by
  cases k with
  | zero => simp [runF] at h
  | succ k =>
    simp only [runF] at h
    cases f with
    | func fn fst caps =>
      cases fn with
      | func f => exact .inl ⟨_, _, _, rfl⟩
      | yield l =>
        cases fst with
        | cons x xs => simp [stepT] at h
        | nil =>
          cases caps with
          | cons x xs => simp [stepT] at h
          | nil => exact .inr ⟨l, rfl⟩
      | _ => simp [stepT] at h
    | _ => simp [stepT] at h

theorem step_call (H : ThOK P Θ) (I : Good P Θ k) {f : FuncId} {args : List LV} {r : Res} (h : runF P Θ (k + 1) (.call f args) = some r) {g : G} {w : World} {vs : Array Value} (hf : FzOK g w) (hv : VsRel g args vs.toList) :
    refFree r.v = true ∧ CallsIn Fence.wide 0 P f vs w (PureEnd g r.v w) := by
  simp only [runF, stepT] at h
  split at h
  · rename_i p hp
    split at h
    · rename_i ha
      obtain ⟨v, h1, h2⟩ := Option.bind_eq_some_iff.1 h
      split at h2
      · rename_i hfr
        cases h2
        exact ⟨hfr, (H.prim f p hp).ok args v g w vs h1 hfr ha hf hv⟩
      · cases h2
    · cases h
  · split at h
    · rename_i ha
      obtain ⟨r1, h1, h2⟩ := Option.bind_eq_some_iff.1 h
      split at h2
      · rename_i hfr
        cases h2
        refine ⟨hfr, CallsIn.mono (I.callS h1 (SRel.empty hf) (VsRel_free (g := g) (g' := g.bare) (fun b => List.prefix_refl _) _ _ ha hv)) ?_⟩
        rintro e w' ⟨u, g', he, hle, hvu, hs⟩
        obtain ⟨g2, k1, k2, k3⟩ := hs.freeze (rowsIn r1.v)
        exact ⟨u, g2, he, fun b => (hle.fz b).trans (k1.le.fz b), k2.f0, k2.fz, frzV_rel k1.le _ _ k3 hvu, k2.below⟩
      · cases h2
    · cases h

theorem step_callS (I : Good P Θ k) {f : FuncId} {args : List LV} {σ : St} {r : Res} (h : runF P Θ (k + 1) (.callS f args σ) = some r) {w0 : World} {f0 : Nat → List Value} {ms : List Nat} {g : G} {w : World} {vs : Array Value}
    (hs : SRel w0 f0 ms σ g w) (hv : VsRel g args vs.toList) : CallsIn Fence.wide 0 P f vs w (StEnd w0 f0 ms g r.v r.σ) := by
  simp only [runF, stepT, Option.bind_eq_some_iff] at h
  obtain ⟨fn, hfn, c, hb, r1, h1, h2⟩ := h
  have fin : ∀ lv, resultL P fn r1.env r1.σ = some lv → (r1.ex = .normal ∨ r1.ex = .ret) → CallsIn Fence.wide 0 P f vs w (StEnd w0 f0 ms g lv r1.σ) := by
    intro lv hlv hx
    refine callsIn_of_wp_marks hfn hb trivial (wpIn_mono (I.code h1 (ro := none) (a := { tmps := vs ++ Array.replicate (fn.ntmps - vs.size) Go.undef, defers := [] }) hs (frame_rel hv _) (fun l hl => by cases hl)) ?_)
    rintro x a w' ⟨rfl, g', nms, k1, k2, k3, k4, _⟩
    have := leaves_marks (P := P) (fn := fn) (R := StEnd w0 f0 ms g lv r1.σ) hlv k2 (fun u w'' hu hsr => ⟨u, g', rfl, k1, hu, hsr⟩) nms w' k3
    rw [List.append_nil] at k4
    rw [← k4] at this
    rcases hx with hx | hx <;> rw [hx] <;> exact this
  split at h2
  · rename_i hx
    obtain ⟨lv, h3, h4⟩ := Option.map_eq_some_iff.1 h2
    subst h4
    exact fin lv h3 (.inl hx)
  · rename_i hx
    obtain ⟨lv, h3, h4⟩ := Option.map_eq_some_iff.1 h2
    subst h4
    exact fin lv h3 (.inr hx)
  · cases h2

theorem step_apply (H : ThOK P Θ) (I : Good P Θ k) {f : FuncId} {fst caps args : List LV} {σ : St} {r : Res} (h : runF P Θ (k + 1) (.apply (.func (.func f) fst caps) args σ) = some r) {w0 : World} {f0 : Nat → List Value} {ms : List Nat} {g : G} {w : World} {vf va vc : Array Value}
    (hs : SRel w0 f0 ms σ g w) (hf : VsRel g fst vf.toList) (ha : VsRel g args va.toList) (hc : VsRel g caps vc.toList) :
    (Θ.ent f = true → CallsIn Fence.wide 0 P f (vf ++ va ++ vc) w (StEnd w0 f0 ms g r.v r.σ)) ∧
    (Θ.ent f = false → ∃ u g', (callFunc f (vf ++ va ++ vc)).run P w = .ok (.value u) w ∧ g.le g' ∧ VRel g' r.v u ∧ SRel w0 f0 ms r.σ g' w) := by
  simp only [runF, stepT] at h
  have hall : VsRel g (fst ++ args ++ caps) (vf ++ va ++ vc).toList := by
    simp only [Array.toList_append]
    exact VsRel_append (VsRel_append hf ha) hc
  split at h
  · rename_i he
    refine ⟨fun _ => ?_, fun hn => by rw [he] at hn; cases hn⟩
    split at h
    · obtain ⟨r0, h1, h2⟩ := Option.map_eq_some_iff.1 h
      subst h2
      obtain ⟨g1, k1, k2, k3⟩ := hs.freeze (rowsIn.rowsInL (fst ++ args ++ caps))
      obtain ⟨c1, c2⟩ := I.call h1 k2.fz (frzL_rel k1.le _ _ k3 hall)
      refine CallsIn.mono c2 ?_
      rintro e w' ⟨u, g2, he', hle, hsame, hfz, hvu, hbel⟩
      have hsr : SRel w0 f0 ms (frzS σ (rowsIn.rowsInL (fst ++ args ++ caps))) { g1 with fz := g2.fz } w' := k2.fzmore (g' := { g1 with fz := g2.fz }) hle hsame ⟨rfl, rfl, rfl⟩ hbel hfz
      exact ⟨u, { g1 with fz := g2.fz }, he', k1.le.trans ⟨hle, List.prefix_refl _, fun _ _ _ h => h, List.prefix_refl _⟩, VRel_free (g := g2) (g' := { g1 with fz := g2.fz }) (fun b => List.prefix_refl _) _ _ c1 hvu, hsr⟩
    · exact I.callS h hs hall
  · rename_i he
    refine ⟨fun hn => absurd hn he, fun _ => ?_⟩
    unfold extL at h
    split at h
    · rename_i p hp
      obtain ⟨v, h1, h2⟩ := Option.bind_eq_some_iff.1 h
      split at h2
      · cases h2
        obtain ⟨g1, k1, k2, k3⟩ := hs.freeze (rowsIn.rowsInL (fst ++ args ++ caps))
        obtain ⟨u, m1, m2⟩ := (H.ext f p hp).ok _ v g1 w _ h1 k2.fz (frzL_rel k1.le _ _ k3 hall)
        exact ⟨u, g1, m1, k1.le, m2, k2⟩
      · cases h2
    · cases h

end
end Go.Proofs.Ytecokfbldjekiaa.LI
