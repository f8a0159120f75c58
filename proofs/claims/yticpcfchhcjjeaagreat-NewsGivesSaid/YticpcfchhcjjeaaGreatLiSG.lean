/-
  What stands between the operations: guards, results, frames left and entered. No program is named here.
-/
import Derived.Test.YticpcfchhcjjeaaGreatLiSF
import Derived.RangeFuncLeaves
namespace Go.Proofs.YticpcfchhcjjeaaGreat.LI
open Go Go.RowKit
section
variable {P : Program} {Θ : Th} {w0 w : World} {f0 : Nat → List Value} {ms : List Nat} {σ : St} {g : G}

/-- The fence of an activation, or of a round of a loop. -/
def FF (ro : Option Nat) : Fence := { Fence.wide with round := ro }
theorem ff_depth (ro : Option Nat) {p : Prop} : (FF ro).depth.isSome = true → p := fun h => by simp [FF, Fence.wide] at h

theorem getD_val {l : List Value} {i : Nat} {v : Value} (h : l.getD i Go.undef = v) (hv : v ≠ Go.undef) : l[i]? = some v := by
  rw [List.getD_eq_getElem?_getD] at h
  cases hx : l[i]? with
  | none => rw [hx] at h; exact absurd h.symm hv
  | some y => rw [hx] at h; simpa using h

theorem wanted_rel {ops : Array Oper} {e : Env} {a : Act} (hT : TRel g e.t a.tmps) {o : Oper} {b : Bool} (h : wantedL ops.toList o e = some b) : Region.wanted o (yielded ops a.tmps) = b := by
  unfold wantedL at h
  unfold Region.wanted
  split at h
  · rename_i hg
    cases h
    rw [hg]
  · rename_i j want hg
    rw [hg]
    simp only
    split at h
    · cases h
    · rename_i d hd
      have hd' : (ops[j]?).bind (·.dst) = some d := by rw [← hd]; simp
      have hx := hT.2 d
      split at h
      · rename_i c hc
        cases h
        rw [hc] at hx
        have hv := VRel_bool hx
        have hv' : a.tmps[d]? = some (.bool c) := by
          have := getD_val (l := a.tmps.toList) (i := d) (v := .bool c) (by rw [← hv]; simp [Array.getD_eq_getD_getElem?, List.getD_eq_getElem?_getD]) (by simp [Go.undef])
          simpa using this
        simp only [yielded, hd', Option.bind_some, hv']
        rfl
      · rename_i hc
        cases h
        rw [hc] at hx
        simp only [VRel, VsRel] at hx
        obtain ⟨arr, hv, ha⟩ := hx
        have hn : yielded ops a.tmps j = none := by
          simp only [yielded, hd', Option.bind_some]
          cases hq : a.tmps[d]? with
          | none => rfl
          | some y =>
            have : y = .tuple arr := by rw [← hv]; simp [Array.getD_eq_getD_getElem?, hq]
            rw [this]
        rw [hn]; rfl
      · cases h

theorem TRel_put {e : Env} {a : Act} (h : TRel g e.t a.tmps) (dst : Option Tmp) {x : LV} {v : Value} (hx : VRel g x v) : TRel g (Env.put e dst x).t (Act.put a dst v).tmps := by
  cases dst with
  | none => exact h
  | some d => exact TRel_set h d hx
theorem put_defersL (a : Act) (dst : Option Tmp) (v : Value) : (a.put dst v).defers = a.defers := by cases dst <;> rfl

theorem maskL_len : ∀ (m : List Bool) (t : List LV), (maskL m t).length = t.length
  | true :: m, v :: t => by simp [maskL, maskL_len m t]
  | false :: m, v :: t => by simp [maskL, maskL_len m t]
  | [], v :: t => by simp [maskL, maskL_len [] t]
  | [], [] => rfl
  | _ :: _, [] => by simp [maskL]
theorem maskL_get : ∀ (m : List Bool) (t : List LV) (i : Nat), (maskL m t).getD i .undef = t.getD i .undef ∨ (maskL m t).getD i .undef = .undef
  | true :: m, v :: t, 0 => by simp [maskL]
  | true :: m, v :: t, i + 1 => by simpa [maskL] using maskL_get m t i
  | false :: m, v :: t, 0 => by simp [maskL]
  | false :: m, v :: t, i + 1 => by simpa [maskL] using maskL_get m t i
  | [], v :: t, 0 => by simp [maskL]
  | [], v :: t, i + 1 => by simpa [maskL] using maskL_get [] t i
  | [], [], i => by simp [maskL]
  | _ :: _, [], i => by simp [maskL]
theorem tidy_rel {k : Option Nat} {e : Env} {a : Array Value} (h : TRel g e.t a) : TRel g (tidy Θ k e).t a := by
  refine ⟨by rw [h.1]; simp [tidy, maskL_len], fun i => ?_⟩
  rcases maskL_get (Θ.keep e.fn k) e.t i with hk | hk
  · simp only [tidy, hk]; exact h.2 i
  · simp only [tidy, hk]; simp [VRel]

/-! ### results -/
theorem resOne_rel {e : Env} {a : Act} (hT : TRel g e.t a.tmps) (h : SRel w0 f0 ms σ g w) {rv : ResultVar} {lv : LV} (hr : resOne P e σ rv = some lv) :
    ∃ v, (match rv with | .tmp t => pure (a.tmps.getD t Go.undef) | .cell p t => do loadVar t (← asAddr (a.tmps.getD p Go.undef)) : Sem Value).run P w = .ok v w ∧ VRel g lv v := by
  cases rv with
  | tmp t =>
    simp only [resOne, Option.some.injEq] at hr
    subst hr
    exact ⟨_, rfl, hT.2 t⟩
  | cell p t =>
    simp only [resOne] at hr
    have hx := hT.2 p
    split at hr
    · rename_i b hb
      rw [hb] at hx
      simp only [VRel] at hx
      obtain ⟨k, hk, hv⟩ := hx
      simp only [Option.bind_eq_some_iff] at hr
      obtain ⟨cs, hcs, hrd⟩ := hr
      obtain ⟨_, _, cur, T, h5, h6, h7⟩ := h.box b cs k hcs hk
      have hl : Lies w k 0 cur.toList := fun j u hj => by rw [Nat.zero_add, cell_block h5]; simpa using hj
      obtain ⟨v, h1, h2⟩ := load_sound (P := P) (off := 0) hrd hl h7 h6
      refine ⟨v, ?_, h2⟩
      simp only
      rw [hv]
      simpa [Instr.loadAt, Instr.sureAddr, asAddr] using h1
    · cases hr

theorem results_rel {fn : Func} {e : Env} {a : Act} (hT : TRel g e.t a.tmps) (h : SRel w0 f0 ms σ g w) {lv : LV} (hr : resultL P fn e σ = some lv) :
    ∃ v, (results fn a.tmps).run P w = .ok v w ∧ VRel g lv v := by
  have gen : ∀ (rs : List ResultVar) (lvs : List LV), rs.mapM (resOne P e σ) = some lvs →
      ∃ vs, (rs.mapM (fun rv => (match rv with | .tmp t => pure (a.tmps.getD t Go.undef) | .cell p t => do loadVar t (← asAddr (a.tmps.getD p Go.undef)) : Sem Value))).run P w = .ok vs w ∧ VsRel g lvs vs := by
    intro rs
    induction rs with
    | nil => intro lvs h'; simp at h'; subst h'; exact ⟨[], rfl, by simp [VsRel]⟩
    | cons r rs ih =>
      intro lvs h'
      simp only [List.mapM_cons, Option.pure_def, Option.bind_eq_bind, Option.bind_eq_some_iff] at h'
      obtain ⟨x, h1, xs, h2, h3⟩ := h'
      cases h3
      obtain ⟨v, k1, k2⟩ := resOne_rel hT h h1
      obtain ⟨vs, k3, k4⟩ := ih xs h2
      refine ⟨v :: vs, ?_, by simp only [VsRel]; exact ⟨v, vs, rfl, k2, k4⟩⟩
      rw [List.mapM_cons, Sem.run_bind, k1, Result.andThen_ok, Sem.run_bind, k3, Result.andThen_ok, Sem.run_pure]
  have hrun : ∀ lvs, fn.results.toList.mapM (resOne P e σ) = some lvs → ∃ vs, VsRel g lvs vs ∧ (results fn a.tmps).run P w = .ok (if h : vs.toArray.size = 1 then vs.toArray[0] else .tuple vs.toArray) w := by
    intro lvs hl
    obtain ⟨vs, k1, k2⟩ := gen _ _ hl
    refine ⟨vs, k2, ?_⟩
    unfold results
    rw [Array.mapM_eq_mapM_toList, map_eq_pure_bind]
    simp only [Sem.run_bind]
    erw [k1]
    rfl
  unfold resultL at hr
  split at hr
  · rename_i h0
    cases hr
    obtain ⟨vs, k1, k2⟩ := hrun [] (by rw [h0]; rfl)
    simp only [VsRel] at k1
    subst k1
    exact ⟨_, k2, by simp [VRel, VsRel]⟩
  · rename_i rv h0
    obtain ⟨vs, k1, k2⟩ := hrun [lv] (by rw [h0]; simp [hr])
    simp only [VsRel] at k1
    obtain ⟨v, vs', rfl, h1, rfl⟩ := k1
    exact ⟨v, by simpa using k2, h1⟩
  · rename_i rs h1 h2
    simp only [Option.map_eq_some_iff] at hr
    obtain ⟨lvs, h3, rfl⟩ := hr
    obtain ⟨vs, k1, k2⟩ := hrun lvs h3
    refine ⟨_, k2, ?_⟩
    have hl : vs.length ≠ 1 := by
      have e1 := VsRel_length k1
      have e2 : ∀ (l : List ResultVar) (r : List LV), l.mapM (resOne P e σ) = some r → r.length = l.length := by
        intro l
        induction l with
        | nil => intro r hr; simp at hr; subst hr; rfl
        | cons x l ih =>
          intro r hr
          simp only [List.mapM_cons, Option.pure_def, Option.bind_eq_bind, Option.bind_eq_some_iff] at hr
          obtain ⟨y, _, ys, h5, h6⟩ := hr
          cases h6
          rw [List.length_cons, List.length_cons, ih ys h5]
      have := e2 _ _ h3
      intro h4
      have h6 : fn.results.toList.length = 1 := by rw [← this, ← e1]; exact h4
      obtain ⟨x, hx⟩ := List.length_eq_one_iff.1 h6
      exact h2 x hx
    have : ¬ (vs.toArray.size = 1) := by simpa using hl
    rw [dif_neg this]
    simp only [VRel]
    exact ⟨_, rfl, by simpa using k1⟩

/-! ### a call has gone well -/
def PureEnd (g : G) (v : LV) (rows : List Row) (w : World) (e : Ending) (w' : World) : Prop :=
  ∃ u g', e = .returned u ∧ (∀ b, g.fz b <+: g'.fz b) ∧ SRel w g.fz [] { rows := rows } g' w' ∧ VRel g' v u
def StEnd (w0 : World) (f0 : Nat → List Value) (ms : List Nat) (g : G) (v : LV) (σ' : St) (e : Ending) (w' : World) : Prop :=
  ∃ u g', e = .returned u ∧ g.le g' ∧ VRel g' v u ∧ SRel w0 f0 ms σ' g' w'
def exOf : Ex → Exit
  | .normal => .normal
  | .exit id => .exit id
  | .goto l => .goto l
  | .ret => .ret
def CEnd (w0 : World) (f0 : Nat → List Value) (ms : List Nat) (g : G) (r : Res) (ds : List Deferred) (ro : Option Nat) (x : Exit) (a : Act) (w : World) : Prop :=
  x = exOf r.ex ∧ ∃ g' nms, g.le g' ∧ TRel g' r.env.t a.tmps ∧ SRel w0 f0 (nms ++ ms) r.σ g' w ∧ a.defers = nms.map mkMark ++ ds ∧ (ro.isSome = true → nms = [])

theorem CEnd.on {g1 : G} {r : Res} {ds : List Deferred} {ro : Option Nat} {x : Exit} {a : Act} {w : World} {nms : List Nat} (h : CEnd w0 f0 (nms ++ ms) g1 r (nms.map mkMark ++ ds) ro x a w) (hg : g.le g1) (hn : ro.isSome = true → nms = []) : CEnd w0 f0 ms g r ds ro x a w := by
  obtain ⟨h1, g', nms', h2, h3, h4, h5, h6⟩ := h
  refine ⟨h1, g', nms' ++ nms, hg.trans h2, h3, by rw [List.append_assoc]; exact h4, by rw [h5]; simp, fun hs => by rw [h6 hs, hn hs]; rfl⟩

/-- The marks are come to; the frame leaves. -/
theorem leaves_marks {fn : Func} {e : Env} {lv : LV} {a : Act} {R : Ending → World → Prop} (hr : resultL P fn e σ = some lv) (hT : TRel g e.t a.tmps) (hR : ∀ u w', VRel g lv u → SRel w0 f0 ms σ g w' → R (.returned u) w') :
    ∀ (nms : List Nat) (w : World), SRel w0 f0 (nms ++ ms) σ g w → LeavesInM Fence.wide 0 P fn a.tmps R (nms.map mkMark) .returning w
  | [], w, h => by
    obtain ⟨v, h1, h2⟩ := results_rel (P := P) (fn := fn) hT h hr
    exact ⟨v, h1, hR v w h2 h⟩
  | k :: nms, w, h => by
    refine ⟨by simp, .inl ⟨k, w.putObj k (.deferred none), rfl, run_takeDeferred (h.marks k (by simp)).2, ?_⟩⟩
    exact leaves_marks hr hT hR nms _ (SRel.shut (ms := nms ++ ms) h)

theorem frame_rel {args : List LV} {vs : Array Value} (h : VsRel g args vs.toList) (n : Nat) : TRel g (args ++ List.replicate (n - args.length) .undef) (vs ++ Array.replicate (n - vs.size) Go.undef) := by
  have hl := VsRel_length h
  rw [Array.length_toList] at hl
  refine ⟨by simp [hl], fun i => ?_⟩
  by_cases hi : i < args.length
  · obtain ⟨v, h1, h2⟩ := VsRel_get h (List.getElem?_eq_getElem hi)
    have e1 : (args ++ List.replicate (n - args.length) LV.undef).getD i .undef = args[i] := by
      rw [List.getD_eq_getElem?_getD, List.getElem?_append_left hi]; simp [hi]
    have e2 : (vs ++ Array.replicate (n - vs.size) Go.undef).getD i Go.undef = v := by
      have : vs[i]? = some v := by simpa using h1
      rw [Array.getD_eq_getD_getElem?, Array.getElem?_append_left (by omega), this]; rfl
    rw [e1, e2]; exact h2
  · have e1 : (args ++ List.replicate (n - args.length) LV.undef).getD i .undef = .undef := by
      rw [List.getD_eq_getElem?_getD, List.getElem?_append_right (by omega), List.getElem?_replicate]
      split <;> rfl
    rw [e1]; simp [VRel]

end
end Go.Proofs.YticpcfchhcjjeaaGreat.LI
