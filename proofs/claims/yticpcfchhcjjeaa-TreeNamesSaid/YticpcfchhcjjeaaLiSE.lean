/-
  A region that draws its order: whatever order, the same outcome. No program is named here.
-/
import Derived.Test.YticpcfchhcjjeaaLiSD
import Derived.OrdersIn
namespace Go.Proofs.Yticpcfchhcjjeaa.LI
open Go Go.RowKit
section
variable {P : Program} {Θ : Th} {rec : Task → Option Res} {ops : Array Oper}

theorem opStep_congr {own : Bool} {ρ ρ' : Operand → LV} (o : Oper) (σ : St) (h : ∀ x ∈ o.op.operands, ρ x = ρ' x) : opStep P own o ρ σ = opStep P own o ρ' σ := by
  obtain ⟨dst, op, type, pos, after, guard⟩ := o
  have pairs : ∀ ps : Array (Nat × Operand), (∀ x ∈ (ps.toList.map (·.2)).toArray, ρ x = ρ' x) → (ps.toList.map fun p => (p.1, ρ p.2)) = (ps.toList.map fun p => (p.1, ρ' p.2)) ∧ (ps.toList.map fun p => ρ p.2) = (ps.toList.map fun p => ρ' p.2) := fun ps hp =>
    ⟨List.map_congr_left fun p hm => by rw [hp p.2 (by simpa using ⟨p.1, by simpa using hm⟩)], List.map_congr_left fun p hm => hp p.2 (by simpa using ⟨p.1, by simpa using hm⟩)⟩
  cases op <;> simp only [Op.operands] at h <;> simp only [opStep]
  case build t ps => rw [(pairs ps h).1]
  case buildSlice t n ps => rw [(pairs ps h).2]
  case makeFunc fn first captured =>
    have e1 : first.toList.map ρ = first.toList.map ρ' := List.map_congr_left fun x hx => h x (by simp at hx ⊢; exact .inl hx)
    have e2 : captured.toList.map ρ = captured.toList.map ρ' := List.map_congr_left fun x hx => h x (by simp at hx ⊢; exact .inr hx)
    simp only [e1, e2]
  case call c =>
    obtain ⟨callee, args, ats⟩ := c
    have e1 : args.toList.map ρ = args.toList.map ρ' := List.map_congr_left fun x hx => h x (by simp only [Call.operands, Array.mem_append]; exact .inr (by simpa using hx))
    cases callee <;> simp only [e1]
  case slice t x lo hi mx => cases lo <;> cases hi <;> cases mx <;> simp_all
  case makeMap t r => cases r <;> rfl
  all_goals (first | rfl | (simp_all; done))

theorem opEval_congr {e e' : Env} (o : Oper) (σ : St) (hf : e.fn = e'.fn) (h : ∀ x ∈ o.op.operands, e.ev x = e'.ev x) : opEval P Θ rec o e σ = opEval P Θ rec o e' σ := by
  unfold opEval
  rw [hf]
  congr 1
  unfold opRaw
  split
  · rename_i f args hc
    unfold callV at hc
    split at hc
    · rename_i f' args' ats ho
      cases hc
      have e1 : args.toList.map e.ev = args.toList.map e'.ev := List.map_congr_left fun x hx => h x (by rw [ho]; simp only [Op.operands, Call.operands, Array.mem_append]; exact .inr (by simpa using hx))
      have e2 : e.ev f = e'.ev f := h f (by rw [ho]; simp [Op.operands, Call.operands])
      rw [e1, e2, hf]
    · cases hc
  · rw [hf]; exact opStep_congr o σ h

theorem ev_putL {e : Env} {dst : Option Tmp} {v : LV} {x : Operand} (h : ∀ d, dst = some d → x ≠ .tmp d) : (e.put dst v).ev x = e.ev x := by
  cases dst with
  | none => rfl
  | some d =>
    cases x with
    | tmp t =>
      have hne : d ≠ t := fun e => h d rfl (e ▸ rfl)
      simp only [Env.put, Env.ev]
      exact getD_set_ne' _ _ _ _ _ hne
    | _ => rfl

theorem put_commL (e : Env) {x y : Option Tmp} (v u : LV) (h : ∀ d, x = some d → y ≠ some d) : (e.put x v).put y u = (e.put y u).put x v := by
  cases x with
  | none => rfl
  | some d =>
    cases y with
    | none => rfl
    | some d' =>
      have hne : d ≠ d' := fun he => h d rfl (he ▸ rfl)
      simp only [Env.put, List.set_comm _ _ hne]

theorem wantedL_put (o : Oper) (e : Env) (dst : Option Tmp) (v : LV) (h : ∀ d, dst = some d → d ∉ o.looksAt ops) : wantedL ops.toList o (e.put dst v) = wantedL ops.toList o e := by
  cases dst with
  | none => rfl
  | some d =>
    unfold wantedL
    cases hg : o.guard with
    | none => rfl
    | some gw =>
      obtain ⟨j, want⟩ := gw
      simp only
      cases ht : (ops.toList[j]?).bind (·.dst) with
      | none => rfl
      | some t =>
        have ht' : (ops[j]?).bind (·.dst) = some t := by rw [← ht]; simp
        have hne : d ≠ t := fun e => h d rfl (by subst e; simp [Oper.looksAt, hg, ht'])
        simp only [Env.put, getD_set_ne' _ _ _ _ _ hne]

theorem opEval_put (o : Oper) (e : Env) (dst : Option Tmp) (v : LV) (σ : St) (h : ∀ d, dst = some d → d ∉ o.looksAt ops) : opEval P Θ rec o (e.put dst v) σ = opEval P Θ rec o e σ :=
  opEval_congr o σ (by cases dst <;> rfl) fun x hx => ev_putL fun d hd hxd => h d hd (by
    subst hxd
    exact List.mem_append_left _ (List.mem_filterMap.2 ⟨.tmp d, by simpa using hx, rfl⟩))

/-- What one operation, in its turn, comes to. -/
def Yld (P : Program) (Θ : Th) (rec : Task → Option Res) (ops : Array Oper) (strict : Bool) (o : Oper) (e : Env) (σ : St) (lv : LV) (σ' : St) : Prop :=
  (wantedL ops.toList o e = some false ∧ lv = .tuple [] ∧ σ' = σ) ∨
  (wantedL ops.toList o e = some true ∧ opEval P Θ rec o e σ = some (lv, σ') ∧ (strict = true → opClass Θ e.fn o ≤ 1 → σ' = σ))

theorem execOps_cons {strict : Bool} {o : Oper} {os : List Oper} {e : Env} {σ : St} {r : Env × St} :
    execOps P Θ rec strict ops.toList (o :: os) e σ = some r ↔ ∃ lv σ', Yld P Θ rec ops strict o e σ lv σ' ∧ execOps P Θ rec strict ops.toList os (e.put o.dst lv) σ' = some r := by
  simp only [execOps]
  constructor
  · intro h
    obtain ⟨b, hb, h⟩ := Option.bind_eq_some_iff.1 h
    cases b with
    | false => exact ⟨_, _, .inl ⟨hb, rfl, rfl⟩, h⟩
    | true =>
      simp only [cond_true] at h
      obtain ⟨⟨lv, σ'⟩, h1, h⟩ := Option.bind_eq_some_iff.1 h
      split at h
      · cases h
      · rename_i hc
        refine ⟨lv, σ', .inr ⟨hb, h1, fun hs hcl => ?_⟩, h⟩
        by_cases hn : σ' = σ
        · exact hn
        · exact absurd ⟨hs, hcl, hn⟩ hc
  · rintro ⟨lv, σ', (⟨hb, rfl, rfl⟩ | ⟨hb, h1, hc⟩), h⟩
    · rw [hb]; exact h
    · rw [hb]
      simp only [Option.bind_some, cond_true, h1]
      rw [if_neg]
      · exact h
      · rintro ⟨hs, hcl, hn⟩
        exact hn (hc hs hcl)

theorem put_fnL (e : Env) (dst : Option Tmp) (v : LV) : (e.put dst v).fn = e.fn := by cases dst <;> rfl
theorem Yld.put {strict : Bool} {o : Oper} {e : Env} {σ σ' : St} {lv : LV} (dst : Option Tmp) (v : LV) (hd : ∀ d, dst = some d → d ∉ o.looksAt ops) :
    Yld P Θ rec ops strict o (e.put dst v) σ lv σ' ↔ Yld P Θ rec ops strict o e σ lv σ' := by
  unfold Yld
  rw [wantedL_put o e dst v hd, opEval_put o e dst v σ hd, put_fnL]

theorem frz_raw {o : Oper} {e : Env} (hf : Θ.frzs e.fn o.dst = false) (σ : St) : opEval P Θ rec o e σ = opRaw P Θ rec o e σ := by
  unfold opEval
  rw [hf]
  cases opRaw P Θ rec o e σ <;> rfl
theorem class_raw {o : Oper} {fn : FuncId} (hc : opClass Θ fn o ≤ 2) : Θ.frzs fn o.dst = false ∧ opClass0 Θ fn o = opClass Θ fn o := by
  unfold opClass at *
  cases hb : Θ.frzs fn o.dst with
  | false => exact ⟨rfl, rfl⟩
  | true => rw [hb, cond_true] at hc; omega
theorem class0 {o : Oper} {e : Env} (hc : opClass Θ e.fn o = 0) {σ σ' : St} {lv : LV} (h : opEval P Θ rec o e σ = some (lv, σ')) : σ' = σ ∧ ∀ τ, opEval P Θ rec o e τ = some (lv, τ) := by
  obtain ⟨hfr, hcr⟩ := class_raw (Θ := Θ) (o := o) (fn := e.fn) (by omega)
  rw [hc] at hcr
  clear hc
  have hc := hcr
  clear hcr
  rw [frz_raw hfr] at h
  simp only [frz_raw hfr]
  have hn : callV o = none := by
    unfold callV
    split
    · rename_i f args ats ho
      simp only [opClass0, ho] at hc
      split at hc <;> cases hc
    · rfl
  simp only [opRaw, hn] at h ⊢
  have hmv : ∀ x, (o.op = .move x ∨ o.op = .assign x) → σ' = σ ∧ ∀ τ, opStep P (Θ.owns e.fn o.dst) o e.ev τ = some (lv, τ) := fun x hx => by
    have ho : Θ.owns e.fn o.dst = false := by
      cases hb : Θ.owns e.fn o.dst with
      | false => rfl
      | true => rcases hx with hx | hx <;> simp [opClass0, hx, hb] at hc
    rw [ho] at h ⊢
    rcases hx with hx | hx
    · simp only [opStep, hx, ownNil, Option.some.injEq, Prod.mk.injEq] at h ⊢
      exact ⟨h.2.symm, fun τ => ⟨h.1, trivial⟩⟩
    · simp only [opStep, hx, ownNil, Option.some.injEq, Prod.mk.injEq] at h ⊢
      exact ⟨h.2.symm, fun τ => ⟨h.1, trivial⟩⟩
  unfold opClass0 at hc
  split at hc <;> first | cases hc | skip
  · rename_i x ho; exact hmv x (.inl ho)
  · rename_i x ho; exact hmv x (.inr ho)
  all_goals (try (split at hc <;> cases hc; done))
  all_goals (rename_i ho; simp only [opStep, ho] at h ⊢)
  all_goals (try simp only [Option.map_eq_some_iff, Option.bind_eq_bind, Option.bind_eq_some_iff, Prod.exists] at h ⊢)
  all_goals (first | (cases h; exact ⟨rfl, fun _ => rfl⟩) | skip)
  · obtain ⟨a, h1, h2⟩ := h; cases h2; exact ⟨rfl, fun _ => ⟨_, h1, rfl⟩⟩
  · obtain ⟨a, h1, h2⟩ := h; cases h2; exact ⟨rfl, fun _ => ⟨_, h1, rfl⟩⟩
  · obtain ⟨a, h1, h2⟩ := h; cases h2; exact ⟨rfl, fun _ => ⟨_, h1, rfl⟩⟩
  · obtain ⟨a, b, h1, c, h2, h3⟩ := h
    split at h3
    · cases h3
    · rename_i hz
      refine ⟨?_, fun τ => ⟨a, b, h1, c, h2, ?_⟩⟩
      · split at h3 <;> first | (cases h3; rfl) | (split at h3 <;> cases h3; rfl) | cases h3
      · rw [if_neg hz]
        split at h3 <;> first | (cases h3; rfl) | (split at h3 <;> cases h3; simp [*]) | cases h3
  · obtain ⟨a, b, h1, h3⟩ := h
    split at h3
    · simp only [Option.map_eq_some_iff] at h3
      obtain ⟨c, h4, h5⟩ := h3
      cases h5
      exact ⟨rfl, fun τ => ⟨a, b, h1, by simp [h4]⟩⟩
    · cases h3
  · obtain ⟨a, h1, h3⟩ := h
    split at h3
    · rename_i s hu hs
      split at h3
      · rename_i h0
        simp only [Option.map_eq_some_iff] at h3
        obtain ⟨c, h4, h5⟩ := h3
        cases h5
        exact ⟨rfl, fun τ => ⟨a, h1, by simp [h0, h4]⟩⟩
      · cases h3
    · split at h3
      · rename_i hkm
        simp only [Option.bind_eq_some_iff, Option.map_eq_some_iff] at h3
        obtain ⟨sz, h4, c, h5, h6⟩ := h3
        cases h6
        exact ⟨rfl, fun τ => ⟨a, h1, by simp [hkm, h4, h5]⟩⟩
      · cases h3
    · cases h3
  · split at h
    · simp only [Option.map_eq_some_iff] at h
      obtain ⟨c, h4, h5⟩ := h
      cases h5
      exact ⟨rfl, fun τ => by simp [h4]⟩
    · cases h
  · split at h
    · cases h
    · cases h; exact ⟨rfl, fun _ => rfl⟩
  · split at h <;> first | (cases h; exact ⟨rfl, fun _ => rfl⟩) | cases h

theorem Yld.class0 {strict : Bool} {o : Oper} {e : Env} (hc : opClass Θ e.fn o = 0) {σ σ' : St} {lv : LV} (h : Yld P Θ rec ops strict o e σ lv σ') : σ' = σ ∧ ∀ τ, Yld P Θ rec ops strict o e τ lv τ := by
  rcases h with ⟨h1, h2, h3⟩ | ⟨h1, h2, h3⟩
  · exact ⟨h3, fun τ => .inl ⟨h1, h2, rfl⟩⟩
  · obtain ⟨k1, k2⟩ := LI.class0 hc h2
    exact ⟨k1, fun τ => .inr ⟨h1, k2 τ, fun _ _ => rfl⟩⟩
theorem Yld.class1 {o : Oper} {e : Env} (hc : opClass Θ e.fn o ≤ 1) {σ σ' : St} {lv : LV} (h : Yld P Θ rec ops true o e σ lv σ') : σ' = σ := by
  rcases h with ⟨_, _, h3⟩ | ⟨_, _, h3⟩
  · exact h3
  · exact h3 rfl hc

theorem swap {a b : Oper} {os : List Oper} {e : Env} {σ : St} {r : Env × St} (hm : mayTurn Θ e.fn a b = true) (h1 : a.apart ops b = true)
    (h : execOps P Θ rec true ops.toList (a :: b :: os) e σ = some r) : execOps P Θ rec true ops.toList (b :: a :: os) e σ = some r := by
  obtain ⟨va, σ1, y1, ha⟩ := execOps_cons.1 h
  obtain ⟨vb, σ2, y2, hb⟩ := execOps_cons.1 ha
  obtain ⟨p1, p2, p3⟩ := Oper.apart_spec h1
  rw [Yld.put _ _ p1] at y2
  rw [put_commL e va vb p2] at hb
  clear h ha
  simp only [mayTurn, Bool.or_eq_true, Bool.and_eq_true, beq_iff_eq] at hm
  rcases hm with (hm | hm) | ⟨hm1, hm2⟩
  · obtain ⟨rfl, k⟩ := y1.class0 hm
    exact execOps_cons.2 ⟨vb, σ2, y2, execOps_cons.2 ⟨va, σ2, (Yld.put _ _ p3).2 (k σ2), hb⟩⟩
  · obtain ⟨rfl, k⟩ := y2.class0 hm
    exact execOps_cons.2 ⟨vb, σ, k σ, execOps_cons.2 ⟨va, _, (Yld.put _ _ p3).2 y1, hb⟩⟩
  · have e1 := y1.class1 (by omega)
    subst e1
    have e2 := y2.class1 (by omega)
    subst e2
    exact execOps_cons.2 ⟨vb, _, y2, execOps_cons.2 ⟨va, _, (Yld.put _ _ p3).2 y1, hb⟩⟩

theorem to_front {i : Oper} : ∀ {A B : List Oper} {e : Env} {σ : St} {r : Env × St}, (∀ a ∈ A, mayTurn Θ e.fn a i = true ∧ a.apart ops i = true) →
    execOps P Θ rec true ops.toList (A ++ i :: B) e σ = some r → execOps P Θ rec true ops.toList (i :: (A ++ B)) e σ = some r
  | [], B, e, σ, r, _, h => h
  | a :: A, B, e, σ, r, hA, h => by
    obtain ⟨va, σ1, y1, h'⟩ := execOps_cons.1 h
    have := to_front (fun x hx => by rw [put_fnL]; exact hA x (List.mem_cons_of_mem _ hx)) h'
    obtain ⟨k1, k2⟩ := hA a List.mem_cons_self
    exact swap k1 k2 (execOps_cons.2 ⟨va, σ1, y1, this⟩)

/-! ### what must come ahead -/
theorem ancs_snoc (os : List Oper) (o : Oper) : ancs (os ++ [o]) = ancStep (ancs os) o := by simp [ancs]
theorem ancs_length (os : List Oper) : (ancs os).length = os.length := by
  have gen : ∀ (os : List Oper) (acc : List (List Nat)), (os.foldl ancStep acc).length = acc.length + os.length := by
    intro os
    induction os with
    | nil => intro acc; simp
    | cons o os ih => intro acc; simp only [List.foldl_cons, ih, ancStep, List.length_append, List.length_cons, List.length_nil]; omega
  simpa [ancs] using gen os []
theorem snoc_ind {α : Type} {p : List α → Prop} (h0 : p []) (h1 : ∀ l x, p l → p (l ++ [x])) (l : List α) : p l := by
  have gen : ∀ m : List α, p m.reverse := fun m => by
    induction m with
    | nil => exact h0
    | cons x m ih => rw [List.reverse_cons]; exact h1 _ _ ih
  have := gen l.reverse
  rwa [List.reverse_reverse] at this
theorem ancs_spec (os : List Oper) : ∀ {i j : Nat}, j ∈ (ancs os).getD i [] → ∃ o, os[i]? = some o ∧ ∃ e ∈ o.after.toList, Region.binds .any e = true ∧ (e.on = j ∨ (e.on < i ∧ j ∈ (ancs os).getD e.on [])) := by
  refine snoc_ind (p := fun os => ∀ {i j : Nat}, j ∈ (ancs os).getD i [] → ∃ o, os[i]? = some o ∧ ∃ e ∈ o.after.toList, Region.binds .any e = true ∧ (e.on = j ∨ (e.on < i ∧ j ∈ (ancs os).getD e.on []))) ?_ ?_ os
  · intro i j h; simp [ancs] at h
  · intro os o ih i j h
    have hl := ancs_length os
    have left : ∀ {k : Nat}, k < os.length → (ancs (os ++ [o])).getD k [] = (ancs os).getD k [] := fun {k} hk => by
      rw [ancs_snoc, ancStep, List.getD_eq_getElem?_getD, List.getElem?_append_left (by omega), ← List.getD_eq_getElem?_getD]
    by_cases hi : i < os.length
    · rw [left hi] at h
      obtain ⟨o', h1, e, h2, h3, h4⟩ := ih h
      refine ⟨o', by rw [List.getElem?_append_left hi]; exact h1, e, h2, h3, h4.imp id fun h5 => ⟨h5.1, ?_⟩⟩
      rw [left (by omega)]; exact h5.2
    · by_cases hi' : i = os.length
      · subst hi'
        rw [ancs_snoc, ancStep, List.getD_eq_getElem?_getD, List.getElem?_append_right (by omega), hl, Nat.sub_self] at h
        simp only [List.getElem?_cons_zero, Option.getD_some, List.mem_flatMap] at h
        obtain ⟨e, he, h⟩ := h
        refine ⟨o, by simp, e, he, ?_⟩
        split at h
        · rename_i hb
          refine ⟨hb, ?_⟩
          rcases List.mem_cons.1 h with h | h
          · exact .inl h.symm
          · by_cases hlt : e.on < os.length
            · exact .inr ⟨hlt, by rw [left hlt]; exact h⟩
            · rw [List.getD_eq_getElem?_getD, List.getElem?_eq_none (by omega)] at h
              simp at h
        · simp at h
      · rw [List.getD_eq_getElem?_getD, List.getElem?_eq_none (by rw [ancs_length, List.length_append]; simp; omega)] at h
        simp at h

end
end Go.Proofs.Yticpcfchhcjjeaa.LI
