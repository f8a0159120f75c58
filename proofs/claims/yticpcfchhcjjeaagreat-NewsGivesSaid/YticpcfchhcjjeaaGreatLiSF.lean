/-
  Regions: the machine's walk, over an invariant whatever. No program is named here.
-/
import Derived.Test.YticpcfchhcjjeaaGreatLiSE
namespace Go.Proofs.YticpcfchhcjjeaaGreat.LI
open Go Go.RowKit
section
variable {P : Program} {Θ : Th} {fn : FuncId} {rec : Task → Option Res} {ops : Array Oper} {F : Fence} {n : Nat} {Q : Exit → Act → World → Prop} {Inv : Env → St → Act → World → Prop}

/-- Each operation of the region, in its turn, keeps the invariant. -/
def StepOK (P : Program) (Θ : Th) (rec : Task → Option Res) (ops : Array Oper) (F : Fence) (n : Nat) (Q : Exit → Act → World → Prop) (Inv : Env → St → Act → World → Prop) (strict : Bool) : Prop :=
  ∀ (i : Nat) (o : Oper) (e : Env) (σ : St) (lv : LV) (σ' : St) (a : Act) (w : World) (K : Act → World → Prop), ops[i]? = some o → Yld P Θ rec ops strict o e σ lv σ' → Inv e σ a w →
    (∀ a' w', Inv (e.put o.dst lv) σ' a' w' → K a' w') → wpOpIn F n P ops Q i K a w

theorem seq_sound (hs : StepOK P Θ rec ops F n Q Inv false) : ∀ (idxs : List Nat) (e : Env) (σ : St) (r : Env × St) (a : Act) (w : World),
    (∀ i ∈ idxs, i < ops.size) → execOps P Θ rec false ops.toList (idxs.filterMap (ops[·]?)) e σ = some r → Inv e σ a w → (∀ a w, Inv r.1 r.2 a w → Q .normal a w) → wpOpsIn F n P ops Q idxs a w
  | [], e, σ, r, a, w, _, h, hi, hq => by
    simp only [List.filterMap_nil, execOps, Option.some.injEq] at h
    subst h
    exact hq _ _ hi
  | i :: idxs, e, σ, r, a, w, hlt, h, hi, hq => by
    have ho : ops[i]? = some ops[i]! := by
      have := hlt i List.mem_cons_self
      simp [this]
    rw [List.filterMap_cons_some ho] at h
    obtain ⟨lv, σ', y, h'⟩ := execOps_cons.1 h
    rw [wpOpsIn_cons]
    exact hs i _ e σ lv σ' a w _ ho y hi fun a' w' hi' => seq_sound hs idxs _ _ r a' w' (fun j hj => hlt j (List.mem_cons_of_mem _ hj)) h' hi' hq

theorem filterMap_range (ops : Array Oper) : (List.range ops.size).filterMap (ops[·]?) = ops.toList := by
  have gen : ∀ l : List Oper, (List.range l.length).filterMap (fun i => l[i]?) = l := by
    intro l
    induction l with
    | nil => rfl
    | cons x l ih =>
      rw [List.length_cons, List.range_succ_eq_map, List.filterMap_cons_some (b := x) (by rfl), List.filterMap_map]
      have : ((fun i => (x :: l)[i]?) ∘ Nat.succ) = fun i => l[i]? := by funext i; simp
      rw [this, ih]
  have := gen ops.toList
  simpa using this

/-- What is not listed yet, in the text's order. -/
def unl (ops : Array Oper) (listed : Array Bool) : List Nat := (List.range ops.size).filter fun i => !listed.getD i true

theorem mem_unl {listed : Array Bool} {i : Nat} : i ∈ unl ops listed ↔ i < ops.size ∧ listed.getD i true = false := by simp [unl]

theorem unl_split {listed : Array Bool} {i : Nat} (h : i ∈ unl ops listed) : ∃ A B, unl ops listed = A ++ i :: B ∧ (∀ j ∈ A, j < i) ∧ unl ops (listed.setIfInBounds i true) = A ++ B := by
  obtain ⟨A, B, he⟩ := List.append_of_mem h
  have hs : (unl ops listed).Pairwise (· < ·) := List.Pairwise.filter _ List.pairwise_lt_range
  rw [he, List.pairwise_append] at hs
  obtain ⟨h1, h2, h3⟩ := hs
  have hA : ∀ j ∈ A, j < i := fun j hj => h3 j hj i List.mem_cons_self
  have hB : ∀ j ∈ B, i < j := fun j hj => (List.pairwise_cons.1 h2).1 j hj
  refine ⟨A, B, he, hA, ?_⟩
  have hf : unl ops (listed.setIfInBounds i true) = (unl ops listed).filter (fun k => k != i) := by
    simp only [unl, List.filter_filter]
    apply List.filter_congr
    intro k hk
    by_cases hki : k = i
    · subst hki
      have hsz : k < listed.size ∨ listed.size ≤ k := Nat.lt_or_ge _ _
      rcases hsz with hs | hs
      · simp [hs]
      · simp [Nat.not_lt.2 hs]
    · rw [getD_set_ne true (Ne.symm hki)]
      simp [hki]
  rw [hf, he, List.filter_append, List.filter_cons]
  simp only [bne_self_eq_false, Bool.false_eq_true, if_false]
  rw [List.filter_eq_self.2 (fun j hj => by have := hA j hj; simp; omega), List.filter_eq_self.2 (fun j hj => by have := hB j hj; simp; omega)]

def Shut (ops : Array Oper) (listed : Array Bool) : Prop := ∀ i o, ops[i]? = some o → listed.getD i false = true → ∀ e ∈ o.after, Region.binds .any e = true → listed.getD e.on false = true

theorem Shut.anc {listed : Array Bool} (hs : Shut ops listed) : ∀ (i j : Nat), j ∈ (ancs ops.toList).getD i [] → listed.getD i false = true → listed.getD j false = true := by
  intro i
  induction i using Nat.strongRecOn with
  | _ i ih =>
    intro j hj hi
    obtain ⟨o, ho, e, he, hb, hc⟩ := ancs_spec _ hj
    have ho' : ops[i]? = some o := by simpa using ho
    have hon := hs i o ho' hi e (by simpa using he) hb
    rcases hc with hc | ⟨hc1, hc2⟩
    · rw [← hc]; exact hon
    · exact ih e.on hc1 j hc2 hon

theorem getD_ft {listed : Array Bool} {i : Nat} (h : listed.getD i false = true) : listed.getD i true ≠ false := by
  intro h'
  rcases Nat.lt_or_ge i listed.size with hl | hl
  · simp [hl] at h h'; rw [h] at h'; cases h'
  · simp [Nat.not_lt.2 hl] at h

theorem draw_sound (hmono : RecMono Θ rec) (hok : drawOk Θ fn ops = true) (hs : StepOK P Θ rec ops F n Q Inv true) : ∀ (fuel : Nat) (listed : Array Bool) (e : Env) (σ : St) (r : Env × St) (a : Act) (w : World),
    e.fn = fn → listed.size = ops.size → Shut ops listed → (unl ops listed).length ≤ fuel → execOps P Θ rec true ops.toList ((unl ops listed).filterMap (ops[·]?)) e σ = some r → Inv e σ a w → (∀ a w, Inv r.1 r.2 a w → Q .normal a w) →
    wpAnyIn F n P .any ops Q fuel listed a w := by
  have hone : ∀ i, i < ops.size → ∃ b, ops[i]? = some b ∧ (∀ e ∈ b.after, Region.binds .any e = true → e.on < i) ∧
      ∀ j, j < i → j ∈ (ancs ops.toList).getD i [] ∨ ∃ x, ops[j]? = some x ∧ mayTurn Θ fn x b = true ∧ x.apart ops b = true := by
    intro i hi
    have h1 := List.all_eq_true.1 hok i (List.mem_range.2 hi)
    unfold drawOne at h1
    split at h1
    · rename_i b hb
      rw [Bool.and_eq_true] at h1
      refine ⟨b, hb, fun e he hbd => ?_, fun j hj => ?_⟩
      · have := List.all_eq_true.1 h1.1 e (by simpa using he)
        simpa [hbd] using this
      · have := List.all_eq_true.1 h1.2 j (List.mem_range.2 hj)
        rw [Bool.or_eq_true] at this
        rcases this with h2 | h2
        · exact .inl (ancB_mem h2)
        · split at h2
          · rename_i x hx
            simp only [Bool.and_eq_true] at h2
            exact .inr ⟨x, hx, h2.1.1, h2.1.2⟩
          · cases h2
    · cases h1
  intro fuel
  induction fuel with
  | zero =>
    intro listed e σ r a w hfn hsz hsh hl h hi hq
    have hu : unl ops listed = [] := List.eq_nil_of_length_eq_zero (by omega)
    rw [hu] at h
    simp only [List.filterMap_nil, execOps, Option.some.injEq] at h
    subst h
    refine ⟨?_, hq _ _ hi⟩
    apply List.eq_nil_iff_forall_not_mem.2
    intro j hj
    obtain ⟨h1, o, ho, _⟩ := mem_ready.1 hj
    have : j ∈ unl ops listed := mem_unl.2 ⟨(Array.getElem?_eq_some_iff.1 ho).1, h1⟩
    rw [hu] at this
    simp at this
  | succ fuel ih =>
    intro listed e σ r a w hfn hsz hsh hl h hi hq
    refine ⟨fun hr => ?_, fun i hri => ?_⟩
    · cases hu : unl ops listed with
      | nil =>
        rw [hu] at h
        simp only [List.filterMap_nil, execOps, Option.some.injEq] at h
        subst h
        exact hq _ _ hi
      | cons i rest =>
        exfalso
        have hiu : i ∈ unl ops listed := by rw [hu]; exact List.mem_cons_self
        obtain ⟨h1, h2⟩ := mem_unl.1 hiu
        obtain ⟨b, hb, hdown, _⟩ := hone i h1
        have hs' : (unl ops listed).Pairwise (· < ·) := List.Pairwise.filter _ List.pairwise_lt_range
        rw [hu, List.pairwise_cons] at hs'
        have : i ∈ Region.ready .any ops listed := by
          refine mem_ready.2 ⟨h2, b, hb, fun e he hbd => ?_⟩
          have hlt := hdown e he hbd
          by_cases hle : listed.getD e.on true = false
          · have hm : e.on ∈ unl ops listed := mem_unl.2 ⟨by omega, hle⟩
            rw [hu] at hm
            rcases List.mem_cons.1 hm with hm | hm
            · omega
            · have := hs'.1 _ hm; omega
          · have hlt' : e.on < listed.size := by omega
            simp [hlt'] at hle ⊢
            exact hle
        rw [hr] at this
        simp at this
    · obtain ⟨h1, o, ho, hall⟩ := mem_ready.1 hri
      have hlt : i < ops.size := (Array.getElem?_eq_some_iff.1 ho).1
      have hiu : i ∈ unl ops listed := mem_unl.2 ⟨hlt, h1⟩
      obtain ⟨A, B, hsp, hA, hset⟩ := unl_split hiu
      obtain ⟨b, hb, hdown, hpair⟩ := hone i hlt
      rw [ho] at hb; cases hb
      have hfr : ∀ x ∈ A.filterMap (ops[·]?), mayTurn Θ fn x o = true ∧ x.apart ops o = true := by
        intro x hx
        obtain ⟨j, hj, hjx⟩ := List.mem_filterMap.1 hx
        have hju : j ∈ unl ops listed := by rw [hsp]; exact List.mem_append_left _ hj
        have hjl := (mem_unl.1 hju).2
        rcases hpair j (hA j hj) with hanc | ⟨x', hx', hm, hap⟩
        · exfalso
          obtain ⟨o', ho', e', he', hbd, hc⟩ := ancs_spec _ hanc
          have : o' = o := by
            have : ops[i]? = some o' := by simpa using ho'
            rw [ho] at this; exact (Option.some.inj this).symm
          subst this
          have hon := hall e' (by simpa using he') hbd
          rcases hc with hc | ⟨hc1, hc2⟩
          · exact getD_ft (hc ▸ hon) hjl
          · exact getD_ft (hsh.anc e'.on j hc2 hon) hjl
        · rw [hx'] at hjx; cases hjx
          exact ⟨hm, hap⟩
      have h' := h
      rw [hsp, List.filterMap_append, List.filterMap_cons_some ho] at h'
      obtain ⟨lv, σ', y, h2⟩ := execOps_cons.1 (to_front hmono (by rw [hfn]; exact hfr) h')
      refine hs i o e σ lv σ' a w _ ho y hi fun a' w' hi' => ih _ _ _ r a' w' (by rw [put_fnL]; exact hfn) (by simpa using hsz) ?_ ?_ ?_ hi' hq
      · intro k ok hok' hkl e' he' hbd
        by_cases hki : i = k
        · subst hki
          rw [ho] at hok'; cases hok'
          exact getD_set_true (hall e' he' hbd)
        · rw [getD_set_ne false hki] at hkl
          exact getD_set_true (hsh k ok hok' hkl e' he' hbd)
      · rw [hset]
        rw [hsp] at hl
        simp at hl ⊢
        omega
      · rw [hset, List.filterMap_append]
        exact h2

end
end Go.Proofs.YticpcfchhcjjeaaGreat.LI
