/-
  Loops one round at a time, contracts one by one. No program is named here.
-/
import Derived.Test.YtecokfbldjekiaaLiKH
namespace Go.Proofs.Ytecokfbldjekiaa.LI
open Go Go.RowKit
open KV (toL)
open KV.toL (toLs)

def theLoop (P : Program) (f : FuncId) (key : Option Nat) : Code := ((loopsOf (bodyOf P f)).filter fun a => loopKey a == key).headD .skip
theorem theLoop_eq {P : Program} {f : FuncId} {key : Option Nat} (h : ((loopsOf (bodyOf P f)).filter fun a => loopKey a == key).length = 1) {a : Code} (ha : a ∈ loopsOf (bodyOf P f)) (hk : loopKey a = key) : a = theLoop P f key := by
  have hm : a ∈ (loopsOf (bodyOf P f)).filter fun a => loopKey a == key := List.mem_filter.2 ⟨ha, by simp [hk]⟩
  unfold theLoop
  generalize ((loopsOf (bodyOf P f)).filter fun a => loopKey a == key) = l at *
  match l, h with
  | [b], _ => simpa using hm
theorem theLoop_mem {P : Program} {f : FuncId} {key : Option Nat} (h : ((loopsOf (bodyOf P f)).filter fun a => loopKey a == key).length = 1) : theLoop P f key ∈ loopsOf (bodyOf P f) := by
  unfold theLoop
  have := fun b => List.mem_filter (x := b) (p := fun a => loopKey a == key) (as := loopsOf (bodyOf P f))
  generalize hl : ((loopsOf (bodyOf P f)).filter fun a => loopKey a == key) = l at *
  match l, h with
  | [b], _ => exact ((this b).1 (by simp)).1
theorem loops_sub : ∀ (c a : Code), a ∈ loopsOf c → (∀ b ∈ loopsOf a, b ∈ loopsOf c) ∧ ∀ b ∈ rangesOf a, b ∈ rangesOf c
  | .seq x y, a, ha => by
    simp only [loopsOf, rangesOf, List.mem_append] at ha ⊢
    rcases ha with ha | ha
    · exact ⟨fun b hb => .inl ((loops_sub x a ha).1 b hb), fun b hb => .inl ((loops_sub x a ha).2 b hb)⟩
    · exact ⟨fun b hb => .inr ((loops_sub y a ha).1 b hb), fun b hb => .inr ((loops_sub y a ha).2 b hb)⟩
  | .cond _ x y, a, ha => by
    simp only [loopsOf, rangesOf, List.mem_append] at ha ⊢
    rcases ha with ha | ha
    · exact ⟨fun b hb => .inl ((loops_sub x a ha).1 b hb), fun b hb => .inl ((loops_sub x a ha).2 b hb)⟩
    · exact ⟨fun b hb => .inr ((loops_sub y a ha).1 b hb), fun b hb => .inr ((loops_sub y a ha).2 b hb)⟩
  | .block _ x, a, ha => by
    simp only [loopsOf, rangesOf] at ha ⊢
    exact loops_sub x a ha
  | .loop x, a, ha => by
    simp only [loopsOf, rangesOf, List.mem_cons] at ha ⊢
    rcases ha with rfl | ha
    · exact ⟨fun b hb => .inr hb, fun b hb => hb⟩
    · exact ⟨fun b hb => .inr ((loops_sub x a ha).1 b hb), (loops_sub x a ha).2⟩
  | .rangeFunc _ _ x y, a, ha => by
    simp only [loopsOf, rangesOf, List.mem_append, List.mem_cons] at ha ⊢
    rcases ha with ha | ha
    · exact ⟨fun b hb => .inl ((loops_sub x a ha).1 b hb), fun b hb => .inr (.inl ((loops_sub x a ha).2 b hb))⟩
    · exact ⟨fun b hb => .inr ((loops_sub y a ha).1 b hb), fun b hb => .inr (.inr ((loops_sub y a ha).2 b hb))⟩
  | .skip, _, ha => by simp [loopsOf] at ha
  | .label _, _, ha => by simp [loopsOf] at ha
  | .region _ _ _, _, ha => by simp [loopsOf] at ha
  | .exit _, _, ha => by simp [loopsOf] at ha
  | .goto _, _, ha => by simp [loopsOf] at ha
  | .ret, _, ha => by simp [loopsOf] at ha
  | .scope _, _, ha => by simp [loopsOf] at ha
  | .refuse _, _, ha => by simp [loopsOf] at ha
def theRange (P : Program) (f : FuncId) (key : Option Nat) : List Tmp × Code × Code := ((rangesOf (bodyOf P f)).filter fun a => loopKey a.2.1 == key).headD ([], .skip, .skip)
theorem theRange_eq {P : Program} {f : FuncId} {key : Option Nat} (h : ((rangesOf (bodyOf P f)).filter fun a => loopKey a.2.1 == key).length = 1) {a : List Tmp × Code × Code} (ha : a ∈ rangesOf (bodyOf P f)) (hk : loopKey a.2.1 = key) : a = theRange P f key := by
  have hm : a ∈ (rangesOf (bodyOf P f)).filter fun a => loopKey a.2.1 == key := List.mem_filter.2 ⟨ha, by simp [hk]⟩
  unfold theRange
  generalize ((rangesOf (bodyOf P f)).filter fun a => loopKey a.2.1 == key) = l at *
  match l, h with
  | [b], _ => simpa using hm
/-- The same blanks, and pointers to variables. -/
def KV.same : KV → KV → Bool
  | .undef, .undef => true
  | .bptr a b, .bptr c d => Nat.beq a c && Nat.beq b d
  | _, _ => false
def sameT : List KV → List KV → Bool
  | [], [] => true
  | x :: xs, y :: ys => KV.same x y && sameT xs ys
  | _, _ => false
theorem same_eq {x y : KV} (h : KV.same x y = true) : x = y := by
  unfold KV.same at h
  split at h
  · rfl
  · simp only [Bool.and_eq_true] at h
    rw [Nat.eq_of_beq_eq_true h.1, Nat.eq_of_beq_eq_true h.2]
  · cases h
theorem sameT_eq : ∀ {xs ys : List KV}, sameT xs ys = true → xs = ys
  | [], [], _ => rfl
  | x :: xs, y :: ys, h => by
    simp only [sameT, Bool.and_eq_true] at h
    rw [same_eq h.1, sameT_eq h.2]
  | [], _ :: _, h => by cases h
  | _ :: _, [], h => by cases h
/-- Slots, and blanks behind them. -/
def padK (l : List KV) (n : Nat) : List KV := l ++ List.replicate (n - l.length) .undef
/-- A range over a function that is under way. -/
def recOf (P : Program) (f : FuncId) (key : Option Nat) (t : List KV) (pending : Option Code) (state : LoopState) : KLoop :=
  ⟨⟨f, t⟩, (theRange P f key).1, (theRange P f key).2.1, (theRange P f key).2.2, pending, state⟩
/-- Is it that range, about to be run? -/
def isRec (lr : KLoop) (f : FuncId) (key : Nat) (t : List KV) : Bool := Nat.beq lr.env.fn f && (loopKey lr.assign == some key) && sameT lr.env.t t && lr.pending.isNone && decide (lr.state = .ready)
theorem isRec_eq {P : Program} {σ : KSt} {lr : KLoop} {f : FuncId} {key : Nat} {t : List KV} (hk : ((rangesOf (bodyOf P f)).filter fun a => loopKey a.2.1 == some key).length = 1) (h : isRec lr f key t = true) (hs : StOK P σ) (hm : lr ∈ σ.loops) : lr = recOf P f (some key) t none .ready := by
  unfold isRec at h
  simp only [Bool.and_eq_true, beq_iff_eq, decide_eq_true_eq, Option.isNone_iff_eq_none] at h
  obtain ⟨⟨⟨⟨h1, h2⟩, h3⟩, h4⟩, h5⟩ := h
  have h1 := Nat.eq_of_beq_eq_true h1
  have h6 := (hs lr hm).2
  rw [h1] at h6
  have h7 := theRange_eq hk h6 h2
  have h3 := sameT_eq h3
  obtain ⟨⟨fn, t'⟩, ps, as, body, pd, st⟩ := lr
  simp only at h1 h2 h3 h4 h5 h7
  subst h1 h3 h4 h5
  unfold recOf
  rw [← h7]
theorem StOK.same {P : Program} {σ σ' : KSt} (h : StOK P σ) (e : σ'.loops.map (fun l => (l.env.fn, l.params, l.assign, l.body)) = σ.loops.map (fun l => (l.env.fn, l.params, l.assign, l.body))) : StOK P σ' := by
  intro lr hl
  have : (lr.env.fn, lr.params, lr.assign, lr.body) ∈ σ.loops.map (fun l => (l.env.fn, l.params, l.assign, l.body)) := by
    rw [← e]; exact List.mem_map_of_mem hl
  obtain ⟨lr', h1, h2⟩ := List.mem_map.1 this
  have h3 := h lr' h1
  simp only [Prod.mk.injEq] at h2
  obtain ⟨e1, e2, e3, e4⟩ := h2
  rw [← e1, ← e2, ← e3, ← e4]
  exact h3
theorem mask_expand : ∀ (m : List Bool) (n : Nat) (vs : List KV), maskK m (expand m n vs) = expand m n vs
  | _, 0, _ => by simp [expand, maskK]
  | true :: m, n + 1, v :: vs => by simp only [expand, maskK, mask_expand m n vs]
  | true :: m, n + 1, [] => by simp only [expand, maskK, mask_expand m n []]
  | false :: m, n + 1, vs => by simp only [expand, maskK, mask_expand m n vs]
  | [], n + 1, vs => by simp only [expand, maskK, mask_expand [] n vs]
theorem expand_len : ∀ (m : List Bool) (n : Nat) (vs : List KV), (expand m n vs).length = n
  | _, 0, _ => by simp [expand]
  | true :: m, n + 1, v :: vs => by simp only [expand, List.length_cons, expand_len m n vs]
  | true :: m, n + 1, [] => by simp only [expand, List.length_cons, expand_len m n []]
  | false :: m, n + 1, vs => by simp only [expand, List.length_cons, expand_len m n vs]
  | [], n + 1, vs => by simp only [expand, List.length_cons, expand_len [] n vs]

section
variable (P : Program) (Θ : Th) (S : Cs)
/-- A function's answer. -/
def fnK (n : Nat) (f : FuncId) (args : List KV) : Option KV := runK P Θ S n (.call f args) fun r => some r.v.dyn
/-- A round of a loop: how it ends, the slots that are kept, the store. -/
def iterK (n : Nat) (f : FuncId) (key : Option Nat) (vs : List KV) (σ : KSt) : Option (Ex × List KV × KSt) :=
  runK P Θ S n (.code (theLoop P f key) ⟨f, expand (Θ.keep f) (ntm P f) vs⟩ σ) fun r =>
    bif Nat.beq r.env.t.length (ntm P f) then
      match r.v with
      | .undef => match r.ex with
        | .normal => some (.normal, KV.dyn.dyns (compress (Θ.keep f) r.env.t), trimK σ.sz (tidyK Θ ⟨f, r.env.t⟩).t r.σ)
        | ex => some (ex, KV.dyn.dyns (compress (Θ.keep f) r.env.t), r.σ)
      | _ => none
    else none
def LoopTo (f : FuncId) (key : Option Nat) (vs : List KV) (σ : KSt) (ex : Ex) (vs' : List KV) (σ' : KSt) : Prop :=
  run P Θ (.code (.loop (theLoop P f key)) ⟨f, toLs (expand (Θ.keep f) (ntm P f) vs)⟩ σ.toL) = some ⟨ex, .undef, ⟨f, toLs (expand (Θ.keep f) (ntm P f) vs')⟩, σ'.toL⟩
end
section
variable {P : Program} {Θ : Th} {S : Cs} [FkOK S]
theorem call_shape {f : FuncId} {args : List LV} {r : Res} (h : run P Θ (.call f args) = some r) : r = ⟨.normal, r.v, default, {}⟩ := by
  rw [run_step] at h
  simp only [stepT] at h
  split at h
  · split at h
    · obtain ⟨v, _, h⟩ := Option.bind_eq_some_iff.1 h
      split at h <;> cases h
      rfl
    · cases h
  · split at h
    · obtain ⟨v, _, h⟩ := Option.bind_eq_some_iff.1 h
      split at h <;> cases h
      rfl
    · cases h
theorem fnK_sound (hS : CsOK P Θ S) {n : Nat} {f : FuncId} {args : List KV} {v : KV} (h : fnK P Θ S n f args = some v) : run P Θ (.call f (toLs args)) = some ⟨.normal, v.toL, default, {}⟩ := by
  obtain ⟨r, h1, _, h2⟩ := runK_sound hS n (.call f args) _ _ trivial h
  cases h2
  have h1 : run P Θ (.call f (toLs args)) = some r.toL := h1
  have := call_shape h1
  rw [h1, this, dyn_toL]; rfl
theorem iterK_sound (hS : CsOK P Θ S) {n : Nat} {f : FuncId} {key : Option Nat} {vs vs' : List KV} {σ σ' : KSt} {ex : Ex} (hk : ((loopsOf (bodyOf P f)).filter fun a => loopKey a == key).length = 1) (hσ : StOK P σ) (h : iterK P Θ S n f key vs σ = some (ex, vs', σ')) :
    ∃ r : KRes, run P Θ (.code (theLoop P f key) ⟨f, toLs (expand (Θ.keep f) (ntm P f) vs)⟩ σ.toL) = some r.toL ∧ r.v = .undef ∧ r.ex = ex ∧ r.env.fn = f ∧ r.env.t.length = ntm P f ∧ vs' = KV.dyn.dyns (compress (Θ.keep f) r.env.t) ∧ (ex = .normal → σ' = trimK σ.sz (tidyK Θ r.env).t r.σ) ∧ (ex ≠ .normal → σ' = r.σ) ∧ StOK P σ' := by
  have hm := theLoop_mem hk
  have hT : TaskOK P (.code (theLoop P f key) ⟨f, expand (Θ.keep f) (ntm P f) vs⟩ σ) := ⟨loops_sub _ _ hm, hσ⟩
  obtain ⟨r, h1, ⟨h2, h3⟩, h4⟩ := runK_sound hS n _ _ _ hT h
  have h3 : r.env.fn = f := h3
  have he : r.env = ⟨f, r.env.t⟩ := by rw [← h3]
  cases hl : Nat.beq r.env.t.length (ntm P f) with
  | false => rw [hl] at h4; cases h4
  | true =>
    rw [hl, cond_true] at h4
    have hl := Nat.eq_of_beq_eq_true hl
    split at h4
    · rename_i hv
      split at h4
      · rename_i hex
        simp only [Option.some.injEq, Prod.mk.injEq] at h4
        obtain ⟨rfl, rfl, rfl⟩ := h4
        exact ⟨r, h1, hv, hex, h3, hl, rfl, fun _ => by rw [← he], fun h => absurd rfl h, StOK.trim h2⟩
      · rename_i hex
        simp only [Option.some.injEq, Prod.mk.injEq] at h4
        obtain ⟨rfl, rfl, rfl⟩ := h4
        exact ⟨r, h1, hv, rfl, h3, hl, rfl, fun h => absurd h hex, fun _ => rfl, h2⟩
    · cases h4
theorem LoopTo.next (hS : CsOK P Θ S) {n : Nat} {f : FuncId} {key : Option Nat} {vs vs1 vs' : List KV} {σ σ1 σ' : KSt} {ex : Ex} (hk : ((loopsOf (bodyOf P f)).filter fun a => loopKey a == key).length = 1) (hσ : StOK P σ) (h : iterK P Θ S n f key vs σ = some (.normal, vs1, σ1))
    (h2 : LoopTo P Θ f key vs1 σ1 ex vs' σ') : LoopTo P Θ f key vs σ ex vs' σ' := by
  obtain ⟨r, h1, hv, hex, hfn, hl, rfl, hσ1, _, _⟩ := iterK_sound hS hk hσ h
  have hσ1 := hσ1 rfl
  unfold LoopTo at *
  rw [run_loop]
  have e1 : tidy Θ ⟨f, toLs (expand (Θ.keep f) (ntm P f) vs)⟩ = ⟨f, toLs (expand (Θ.keep f) (ntm P f) vs)⟩ := by
    simp only [tidy, maskK_eq, mask_expand]
  rw [e1, h1]
  simp only [Option.bind_some, Res.again, KRes.toL, hex]
  have e2 : tidy Θ r.env.toL = ⟨f, toLs (expand (Θ.keep f) (ntm P f) (KV.dyn.dyns (compress (Θ.keep f) r.env.t)))⟩ := by
    rw [tidyK_eq]
    simp only [tidyK, KEnv.toL, hfn, maskK_expand, hl, expand_dyn]
  rw [← h2, e2, hσ1]
  congr 2
  have e3 : toLs (expand (Θ.keep f) (ntm P f) (KV.dyn.dyns (compress (Θ.keep f) r.env.t))) = toLs (tidyK Θ r.env).t := by
    have := congrArg Env.t e2
    rw [tidyK_eq] at this
    exact this.symm
  have e4 : (⟨f, toLs (expand (Θ.keep f) (ntm P f) vs)⟩ : Env) = (⟨f, expand (Θ.keep f) (ntm P f) vs⟩ : KEnv).toL := rfl
  rw [sz_eq, e3]
  exact trimK_eq _ _ _
theorem LoopTo.stop (hS : CsOK P Θ S) {n : Nat} {f : FuncId} {key : Option Nat} {vs vs' : List KV} {σ σ' : KSt} {ex : Ex} (hk : ((loopsOf (bodyOf P f)).filter fun a => loopKey a == key).length = 1) (hσ : StOK P σ) (h : iterK P Θ S n f key vs σ = some (ex, vs', σ')) (hne : ex ≠ .normal) :
    LoopTo P Θ f key vs σ ex vs' σ' := by
  obtain ⟨r, h1, hv, hex, hfn, hl, rfl, _, hσ1, _⟩ := iterK_sound hS hk hσ h
  have hσ1 := hσ1 hne
  unfold LoopTo at *
  rw [run_loop]
  have e1 : tidy Θ ⟨f, toLs (expand (Θ.keep f) (ntm P f) vs)⟩ = ⟨f, toLs (expand (Θ.keep f) (ntm P f) vs)⟩ := by
    simp only [tidy, maskK_eq, mask_expand]
  have e2 : tidy Θ r.env.toL = ⟨f, toLs (expand (Θ.keep f) (ntm P f) (KV.dyn.dyns (compress (Θ.keep f) r.env.t)))⟩ := by
    rw [tidyK_eq]
    simp only [tidyK, KEnv.toL, hfn, maskK_expand, hl, expand_dyn]
  rw [e1, h1]
  simp only [Option.bind_some, Res.again, KRes.toL, hex, hv, e2, hσ1]
  cases ex <;> first | exact absurd rfl hne | rfl

/-! ### contracts, one by one -/
def Cs.addC (S : Cs) (f : FuncId) (p : List KV → Option (Ck × KV)) : Cs := { S with ct := fun g => if g = f then some p else S.ct g }
def Cs.addL (S : Cs) (f : FuncId) (key : Nat) (p : List KV → KSt → Option (Ck × Out)) : Cs :=
  { S with lt := fun g j => if g = f then (if j = some key then some p else S.lt g j) else S.lt g j }
instance {f : FuncId} {p : List KV → Option (Ck × KV)} : FkOK (S.addC f p) := ⟨FkOK.eq (S := S)⟩
instance {f : FuncId} {key : Nat} {p : List KV → KSt → Option (Ck × Out)} : FkOK (S.addL f key p) := ⟨FkOK.eq (S := S)⟩
omit [FkOK S] in
theorem CsOK.addC (hS : CsOK P Θ S) {f : FuncId} {p : List KV → Option (Ck × KV)} (h : ∀ args c v, p args = some (c, v) → c.val = true → run P Θ (.call f (toLs args)) = some ⟨.normal, v.toL, default, {}⟩) : CsOK P Θ (S.addC f p) where
  ct := fun g q args c v hq hv hc => by
    simp only [Cs.addC] at hq
    split at hq
    · rename_i hg; subst hg; cases hq; exact h _ _ _ hv hc
    · exact hS.ct _ _ _ _ _ hq hv hc
  xt := hS.xt
  lt := hS.lt
omit [FkOK S] in
theorem CsOK.addL (hS : CsOK P Θ S) {f : FuncId} {key : Nat} {p : List KV → KSt → Option (Ck × Out)} (hk : ((loopsOf (bodyOf P f)).filter fun a => loopKey a == some key).length = 1)
    (h : ∀ vs σ c o, p vs σ = some (c, o) → c.val = true → StOK P σ → LoopTo P Θ f (some key) vs σ o.pick.1 o.pick.2.1 o.pick.2.2 ∧ StOK P o.pick.2.2) : CsOK P Θ (S.addL f key p) where
  ct := hS.ct
  xt := hS.xt
  lt := fun g j q vs σ c o hq hv hc a ha hj hσ => by
    simp only [Cs.addL] at hq
    split at hq
    · rename_i hg
      subst hg
      split at hq
      · rename_i hj'
        subst hj'
        cases hq
        have := theLoop_eq hk ha hj
        subst this
        exact h _ _ _ _ hv hc hσ
      · exact hS.lt _ _ _ _ _ _ _ hq hv hc a ha hj hσ
    · exact hS.lt _ _ _ _ _ _ _ hq hv hc a ha hj hσ
end
end Go.Proofs.Ytecokfbldjekiaa.LI
