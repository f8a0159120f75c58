/-
  What the interpreter answers, the machine does: calls. No program is named here.
-/
import Derived.Test.YticpcfchhcjjeaaGreatLiST
namespace Go.Proofs.YticpcfchhcjjeaaGreat.LI
open Go Go.RowKit

/-- A function whose answers are given. -/
structure PrimOK (P : Program) (f : FuncId) (p : List LV → Option (LV × List Row)) : Prop where
  ok : ∀ (args : List LV) (q : LV × List Row) (g : G) (w : World) (vs : Array Value), p args = some q → callOk q.1 q.2 = true → refFree.refFreeL args = true → FzOK g w → VsRel g args vs.toList → CallsIn Fence.wide 0 P f vs w (PureEnd g q.1 q.2 w)
/-- A function whose answers are given, and what it does to the store. -/
structure ExtSOK (P : Program) (f : FuncId) (p : List LV → St → Option (LV × St)) : Prop where
  ok : ∀ (args : List LV) (σ : St) (q : LV × St) (w0 : World) (f0 : Nat → List Value) (ms : List Nat) (g : G) (w : World) (vs : Array Value), p args σ = some q → SRel w0 f0 ms σ g w → VsRel g args vs.toList → CallsIn Fence.wide 0 P f vs w (StEnd w0 f0 ms g q.1 q.2)

/-- A function without a body that the model answers at once. -/
structure ExtOK (P : Program) (f : FuncId) (p : List LV → Option LV) : Prop where
  ok : ∀ (args : List LV) (v : LV) (g : G) (w : World) (vs : Array Value), p args = some v → FzOK g w → VsRel g args vs.toList → ∃ u, (callFunc f vs).run P w = .ok (.value u) w ∧ VRel g v u

/-- What is asked of the tables. -/
structure ThOK (P : Program) (Θ : Th) : Prop where
  ty : TyOK P
  ord : P.follows .mixedOrders = true
  ent : ∀ f, Θ.ent f = true → ∀ args w, (callFunc f args).run P w = .ok (.enter f args) w
  prim : ∀ f p, Θ.prim f = some p → PrimOK P f p
  ext : ∀ f p, Θ.ext f = some p → ExtOK P f p
  extS : ∀ f p, Θ.extS f = some p → ExtSOK P f p

structure Good (P : Program) (Θ : Th) (k : Nat) : Prop where
  call : ∀ {f : FuncId} {args : List LV} {r : Res}, runF P Θ k (.call f args) = some r → ∀ {g : G} {w : World} {vs : Array Value}, FzOK g w → VsRel g args vs.toList → callOk r.v r.σ.rows = true ∧ CallsIn Fence.wide 0 P f vs w (PureEnd g r.v r.σ.rows w)
  callS : ∀ {f : FuncId} {args : List LV} {σ : St} {r : Res}, runF P Θ k (.callS f args σ) = some r → ∀ {w0 : World} {f0 : Nat → List Value} {ms : List Nat} {g : G} {w : World} {vs : Array Value},
    SRel w0 f0 ms σ g w → VsRel g args vs.toList → CallsIn Fence.wide 0 P f vs w (StEnd w0 f0 ms g r.v r.σ)
  apply : ∀ {own : Bool} {f : FuncId} {fst caps args : List LV} {σ : St} {r : Res}, runF P Θ k (.apply own (.func (.func f) fst caps) args σ) = some r → ∀ {w0 : World} {f0 : Nat → List Value} {ms : List Nat} {g : G} {w : World} {vf va vc : Array Value},
    SRel w0 f0 ms σ g w → VsRel g fst vf.toList → VsRel g args va.toList → VsRel g caps vc.toList →
    (Θ.ent f = true → CallsIn Fence.wide 0 P f (vf ++ va ++ vc) w (StEnd w0 f0 ms g r.v r.σ)) ∧
    (Θ.ent f = false → ∃ u g', (callFunc f (vf ++ va ++ vc)).run P w = .ok (.value u) w ∧ g.le g' ∧ VRel g' r.v u ∧ SRel w0 f0 ms r.σ g' w)
  yield : ∀ {own : Bool} {l : Nat} {args : List LV} {σ : St} {r : Res}, runF P Θ k (.apply own (.func (.yield l) [] []) args σ) = some r → ∀ {w0 : World} {f0 : Nat → List Value} {ms : List Nat} {g : G} {w : World} {b : Nat} {va : Array Value},
    SRel w0 f0 ms σ g w → VsRel g args va.toList → g.loop[l]? = some b → ∃ fn tmps assign body, (Instr.yield b va).run P w = .ok (.round b fn tmps assign body) w ∧ RoundIn Fence.wide 0 P b fn tmps assign body w (StEnd w0 f0 ms g r.v r.σ)
  code : ∀ {c : Code} {e : Env} {σ : St} {r : Res}, runF P Θ k (.code c e σ) = some r → ∀ {ro : Option Nat} {w0 : World} {f0 : Nat → List Value} {ms : List Nat} {g : G} {w : World} {a : Act},
    SRel w0 f0 ms σ g w → TRel g e.t a.tmps → (∀ l, ro = some l → l ∈ g.loop) → c.wpIn (FF ro) 0 P (CEnd w0 f0 ms g r a.defers ro) a w

section
variable {P : Program} {Θ : Th} {k : Nat}

theorem apply_inv {own : Bool} {f : LV} {args : List LV} {σ : St} {r : Res} (h : runF P Θ k (.apply own f args σ) = some r) : (∃ fn fst caps, f = .func (.func fn) fst caps) ∨ ∃ l, f = .func (.yield l) [] [] := by
  cases k with
  | zero => simp [runF] at h
  | succ k =>
    simp only [runF] at h
    cases f with
    | func fn fst caps =>
      cases fn with
      | func f => exact .inl ⟨_, _, _, rfl⟩
      | yield l =>
        cases fst with
        | cons x xs => simp [stepT] at h
        | nil =>
          cases caps with
          | cons x xs => simp [stepT] at h
          | nil => exact .inr ⟨l, rfl⟩
      | _ => simp [stepT] at h
    | _ => simp [stepT] at h

mutual
theorem VRel_flat {g g' : G} : ∀ (x : LV) (v : Value), noMem x = true → VRel g x v → VRel g' x v
  | .sc u, v, _, h => by simpa [VRel] using h
  | .tuple vs, v, hf, h => by
    simp only [VRel] at h ⊢
    obtain ⟨arr, h1, h2⟩ := h
    exact ⟨arr, h1, VsRel_flat vs _ hf h2⟩
  | .agg cs, v, hf, h => by
    simp only [VRel] at h ⊢
    obtain ⟨arr, h1, h2, h3⟩ := h
    exact ⟨arr, h1, VsRel_flat cs _ hf h2, h3⟩
  | .undef, _, hf, _ => by simp [noMem] at hf
  | .nils, _, hf, _ => by simp [noMem] at hf
  | .slice _, _, hf, _ => by simp [noMem] at hf
  | .nslice _, _, hf, _ => by simp [noMem] at hf
  | .mref _ _, _, hf, _ => by simp [noMem] at hf
  | .mview _ _ _ _ _, _, hf, _ => by simp [noMem] at hf
  | .mapr _, _, hf, _ => by simp [noMem] at hf
  | .bptr _ _, _, hf, _ => by simp [noMem] at hf
  | .pptr _, _, hf, _ => by simp [noMem] at hf
  | .rptr _ _ _ _ _, _, hf, _ => by simp [noMem] at hf
  | .func _ _ _, _, hf, _ => by simp [noMem] at hf
theorem VsRel_flat {g g' : G} : ∀ (xs : List LV) (vs : List Value), noMem.noMemL xs = true → VsRel g xs vs → VsRel g' xs vs
  | [], vs, _, h => by simpa [VsRel] using h
  | x :: xs, vs, hf, h => by
    simp only [noMem.noMemL, Bool.and_eq_true] at hf
    simp only [VsRel] at h ⊢
    obtain ⟨v, vs', h1, h2, h3⟩ := h
    exact ⟨v, vs', h1, VRel_flat x _ hf.1 h2, VsRel_flat xs _ hf.2 h3⟩
end
theorem callEnd_inv {q : LV × List Row} {r : Res} (h : callEnd q = some r) : callOk q.1 q.2 = true ∧ r.v = q.1 ∧ r.σ.rows = q.2 := by
  unfold callEnd at h
  split at h
  · rename_i hc; cases h; exact ⟨hc, rfl, rfl⟩
  · cases h

theorem step_call (H : ThOK P Θ) (I : Good P Θ k) {f : FuncId} {args : List LV} {r : Res} (h : runF P Θ (k + 1) (.call f args) = some r) {g : G} {w : World} {vs : Array Value} (hf : FzOK g w) (hv : VsRel g args vs.toList) :
    callOk r.v r.σ.rows = true ∧ CallsIn Fence.wide 0 P f vs w (PureEnd g r.v r.σ.rows w) := by
  simp only [runF, stepT] at h
  split at h
  · rename_i p hp
    split at h
    · rename_i ha
      obtain ⟨q, h1, h2⟩ := Option.bind_eq_some_iff.1 h
      obtain ⟨e1, e2, e3⟩ := callEnd_inv h2
      rw [e2, e3]
      exact ⟨e1, (H.prim f p hp).ok args q g w vs h1 e1 ha hf hv⟩
    · cases h
  · split at h
    · rename_i ha
      obtain ⟨r1, h1, h2⟩ := Option.bind_eq_some_iff.1 h
      obtain ⟨q, h3, h4⟩ := Option.bind_eq_some_iff.1 h2
      obtain ⟨e1, e2, e3⟩ := callEnd_inv h4
      rw [e2, e3]
      refine ⟨e1, CallsIn.mono (I.callS h1 (SRel.empty hf) (VsRel_free (g := g) (g' := g.bare) (fun b => List.prefix_refl _) _ _ ha hv)) ?_⟩
      rintro e w' ⟨u, g', he, hle, hvu, hs⟩
      obtain ⟨g2, k1, k2, k3⟩ := thaw_sound hs hvu h3
      exact ⟨u, g2, he, fun b => (hle.fz b).trans (k1 b), k2, k3⟩
    · cases h

theorem step_callS (I : Good P Θ k) {f : FuncId} {args : List LV} {σ : St} {r : Res} (h : runF P Θ (k + 1) (.callS f args σ) = some r) {w0 : World} {f0 : Nat → List Value} {ms : List Nat} {g : G} {w : World} {vs : Array Value}
    (hs : SRel w0 f0 ms σ g w) (hv : VsRel g args vs.toList) : CallsIn Fence.wide 0 P f vs w (StEnd w0 f0 ms g r.v r.σ) := by
  simp only [runF, stepT, Option.bind_eq_some_iff] at h
  obtain ⟨fn, hfn, c, hb, r1, h1, h2⟩ := h
  have fin : ∀ lv, resultL P fn r1.env r1.σ = some lv → (r1.ex = .normal ∨ r1.ex = .ret) → CallsIn Fence.wide 0 P f vs w (StEnd w0 f0 ms g lv (trim σ.sz [lv] r1.σ)) := by
    intro lv hlv hx
    refine callsIn_of_wp_marks hfn hb trivial (wpIn_mono (I.code h1 (ro := none) (a := { tmps := vs ++ Array.replicate (fn.ntmps - vs.size) Go.undef, defers := [] }) hs (frame_rel hv _) (fun l hl => by cases hl)) ?_)
    rintro x a w' ⟨rfl, g', nms, k1, k2, k3, k4, _⟩
    have := leaves_marks (P := P) (fn := fn) (R := StEnd w0 f0 ms g lv (trim σ.sz [lv] r1.σ)) hlv k2 (fun u w'' hu hsr => by
      obtain ⟨g2, n1, n2, n3⟩ := hsr.trimmed σ.sz [lv] k1 hs.boxl hs.loopl hs.mapl (fun r' k' v' hv' => by
        obtain ⟨row, hr, _⟩ := hs.phys _ _ _ hv'
        exact (List.getElem?_eq_some_iff.1 hr).1)
      exact ⟨u, g2, rfl, n1, n3 lv (List.mem_singleton.2 rfl) u hu, n2⟩) nms w' k3
    rw [List.append_nil] at k4
    rw [← k4] at this
    rcases hx with hx | hx <;> rw [hx] <;> exact this
  split at h2
  · rename_i hx
    obtain ⟨lv, h3, h4⟩ := Option.map_eq_some_iff.1 h2
    subst h4
    exact fin lv h3 (.inl hx)
  · rename_i hx
    obtain ⟨lv, h3, h4⟩ := Option.map_eq_some_iff.1 h2
    subst h4
    exact fin lv h3 (.inr hx)
  · cases h2

theorem step_apply (H : ThOK P Θ) (I : Good P Θ k) {own : Bool} {f : FuncId} {fst caps args : List LV} {σ : St} {r : Res} (h : runF P Θ (k + 1) (.apply own (.func (.func f) fst caps) args σ) = some r) {w0 : World} {f0 : Nat → List Value} {ms : List Nat} {g : G} {w : World} {vf va vc : Array Value}
    (hs : SRel w0 f0 ms σ g w) (hf : VsRel g fst vf.toList) (ha : VsRel g args va.toList) (hc : VsRel g caps vc.toList) :
    (Θ.ent f = true → CallsIn Fence.wide 0 P f (vf ++ va ++ vc) w (StEnd w0 f0 ms g r.v r.σ)) ∧
    (Θ.ent f = false → ∃ u g', (callFunc f (vf ++ va ++ vc)).run P w = .ok (.value u) w ∧ g.le g' ∧ VRel g' r.v u ∧ SRel w0 f0 ms r.σ g' w) := by
  simp only [runF, stepT] at h
  have hall : VsRel g (fst ++ args ++ caps) (vf ++ va ++ vc).toList := by
    simp only [Array.toList_append]
    exact VsRel_append (VsRel_append hf ha) hc
  split at h
  · rename_i he
    refine ⟨fun _ => ?_, fun hn => by rw [he] at hn; cases hn⟩
    split at h
    · obtain ⟨r0, h1, h2⟩ := Option.map_eq_some_iff.1 h
      subst h2
      obtain ⟨g1, k1, k2, k3⟩ := hs.freeze (rowsIn.rowsInL (fst ++ args ++ caps))
      obtain ⟨c1, c2⟩ := I.call h1 k2.fz (frzL_rel k1.le _ _ k3 hall)
      refine CallsIn.mono c2 ?_
      rintro e w' ⟨u, g2, he', hle, hsr, hvu⟩
      unfold afterPure
      split
      · rename_i hfl
        exact ⟨u, g, he', G.le.refl g, VRel_flat _ _ hfl hvu, hs.kept hsr.below⟩
      · obtain ⟨g3, m1, m2, m3⟩ := takeOver_sound own k2 hsr hle hvu c1
        exact ⟨u, g3, he', k1.le.trans m1, m2, m3⟩
    · split at h
      · rename_i p hp
        obtain ⟨q, h1, h2⟩ := Option.map_eq_some_iff.1 h
        subst h2
        exact (H.extS f p hp).ok _ σ q w0 f0 ms g w _ h1 hs hall
      · exact I.callS h hs hall
  · rename_i he
    refine ⟨fun hn => absurd hn he, fun _ => ?_⟩
    unfold extL at h
    split at h
    · rename_i p hp
      obtain ⟨v, h1, h2⟩ := Option.bind_eq_some_iff.1 h
      split at h2
      · cases h2
        obtain ⟨g1, k1, k2, k3⟩ := hs.freeze (rowsIn.rowsInL (fst ++ args ++ caps))
        obtain ⟨u, m1, m2⟩ := (H.ext f p hp).ok _ v g1 w _ h1 k2.fz (frzL_rel k1.le _ _ k3 hall)
        exact ⟨u, g1, m1, k1.le, m2, k2⟩
      · cases h2
    · cases h

end
end Go.Proofs.YticpcfchhcjjeaaGreat.LI
