/-
  A region that draws its order: whatever order, the same outcome. No program is named here.
-/
import Derived.Test.YticpcfchhcjjeaaGreatLiSD
import Derived.OrdersIn
namespace Go.Proofs.YticpcfchhcjjeaaGreat.LI
open Go Go.RowKit
section
variable {P : Program} {Θ : Th} {rec : Task → Option Res} {ops : Array Oper}

theorem opStep_congr {own : Bool} {ρ ρ' : Operand → LV} (o : Oper) (σ : St) (h : ∀ x ∈ o.op.operands, ρ x = ρ' x) : opStep P own o ρ σ = opStep P own o ρ' σ := by
  obtain ⟨dst, op, type, pos, after, guard⟩ := o
  have pairs : ∀ ps : Array (Nat × Operand), (∀ x ∈ (ps.toList.map (·.2)).toArray, ρ x = ρ' x) → (ps.toList.map fun p => (p.1, ρ p.2)) = (ps.toList.map fun p => (p.1, ρ' p.2)) ∧ (ps.toList.map fun p => ρ p.2) = (ps.toList.map fun p => ρ' p.2) := fun ps hp =>
    ⟨List.map_congr_left fun p hm => by rw [hp p.2 (by simpa using ⟨p.1, by simpa using hm⟩)], List.map_congr_left fun p hm => hp p.2 (by simpa using ⟨p.1, by simpa using hm⟩)⟩
  cases op <;> simp only [Op.operands] at h <;> simp only [opStep]
  case build t ps => rw [(pairs ps h).1]
  case buildSlice t n ps => rw [(pairs ps h).2]
  case makeFunc fn first captured =>
    have e1 : first.toList.map ρ = first.toList.map ρ' := List.map_congr_left fun x hx => h x (by simp at hx ⊢; exact .inl hx)
    have e2 : captured.toList.map ρ = captured.toList.map ρ' := List.map_congr_left fun x hx => h x (by simp at hx ⊢; exact .inr hx)
    simp only [e1, e2]
  case call c =>
    obtain ⟨callee, args, ats⟩ := c
    have e1 : args.toList.map ρ = args.toList.map ρ' := List.map_congr_left fun x hx => h x (by simp only [Call.operands, Array.mem_append]; exact .inr (by simpa using hx))
    cases callee <;> simp only [e1]
  case slice t x lo hi mx => cases lo <;> cases hi <;> cases mx <;> simp_all
  case makeMap t r => cases r <;> rfl
  all_goals (first | rfl | (simp_all; done))

theorem opEval_congr {e e' : Env} (o : Oper) (σ : St) (hf : e.fn = e'.fn) (h : ∀ x ∈ o.op.operands, e.ev x = e'.ev x) : opEval P Θ rec o e σ = opEval P Θ rec o e' σ := by
  unfold opEval
  rw [hf]
  congr 1
  unfold opRaw
  split
  · rename_i f args hc
    unfold callV at hc
    split at hc
    · rename_i f' args' ats ho
      cases hc
      have e1 : args.toList.map e.ev = args.toList.map e'.ev := List.map_congr_left fun x hx => h x (by rw [ho]; simp only [Op.operands, Call.operands, Array.mem_append]; exact .inr (by simpa using hx))
      have e2 : e.ev f = e'.ev f := h f (by rw [ho]; simp [Op.operands, Call.operands])
      rw [e1, e2, hf]
    · cases hc
  · rw [hf]; exact opStep_congr o σ h

theorem ev_putL {e : Env} {dst : Option Tmp} {v : LV} {x : Operand} (h : ∀ d, dst = some d → x ≠ .tmp d) : (e.put dst v).ev x = e.ev x := by
  cases dst with
  | none => rfl
  | some d =>
    cases x with
    | tmp t =>
      have hne : d ≠ t := fun e => h d rfl (e ▸ rfl)
      simp only [Env.put, Env.ev]
      exact getD_set_ne' _ _ _ _ _ hne
    | _ => rfl

theorem put_commL (e : Env) {x y : Option Tmp} (v u : LV) (h : ∀ d, x = some d → y ≠ some d) : (e.put x v).put y u = (e.put y u).put x v := by
  cases x with
  | none => rfl
  | some d =>
    cases y with
    | none => rfl
    | some d' =>
      have hne : d ≠ d' := fun he => h d rfl (he ▸ rfl)
      simp only [Env.put, List.set_comm _ _ hne]

theorem wantedL_put (o : Oper) (e : Env) (dst : Option Tmp) (v : LV) (h : ∀ d, dst = some d → d ∉ o.looksAt ops) : wantedL ops.toList o (e.put dst v) = wantedL ops.toList o e := by
  cases dst with
  | none => rfl
  | some d =>
    unfold wantedL
    cases hg : o.guard with
    | none => rfl
    | some gw =>
      obtain ⟨j, want⟩ := gw
      simp only
      cases ht : (ops.toList[j]?).bind (·.dst) with
      | none => rfl
      | some t =>
        have ht' : (ops[j]?).bind (·.dst) = some t := by rw [← ht]; simp
        have hne : d ≠ t := fun e => h d rfl (by subst e; simp [Oper.looksAt, hg, ht'])
        simp only [Env.put, getD_set_ne' _ _ _ _ _ hne]

theorem opEval_put (o : Oper) (e : Env) (dst : Option Tmp) (v : LV) (σ : St) (h : ∀ d, dst = some d → d ∉ o.looksAt ops) : opEval P Θ rec o (e.put dst v) σ = opEval P Θ rec o e σ :=
  opEval_congr o σ (by cases dst <;> rfl) fun x hx => ev_putL fun d hd hxd => h d hd (by
    subst hxd
    exact List.mem_append_left _ (List.mem_filterMap.2 ⟨.tmp d, by simpa using hx, rfl⟩))

/-- What one operation, in its turn, comes to. -/
def Yld (P : Program) (Θ : Th) (rec : Task → Option Res) (ops : Array Oper) (strict : Bool) (o : Oper) (e : Env) (σ : St) (lv : LV) (σ' : St) : Prop :=
  (wantedL ops.toList o e = some false ∧ lv = .tuple [] ∧ σ' = σ) ∨
  (wantedL ops.toList o e = some true ∧ opEval P Θ rec o e σ = some (lv, σ') ∧ (strict = true → opClass Θ e.fn o ≤ 1 → σ' = σ))

theorem execOps_cons {strict : Bool} {o : Oper} {os : List Oper} {e : Env} {σ : St} {r : Env × St} :
    execOps P Θ rec strict ops.toList (o :: os) e σ = some r ↔ ∃ lv σ', Yld P Θ rec ops strict o e σ lv σ' ∧ execOps P Θ rec strict ops.toList os (e.put o.dst lv) σ' = some r := by
  simp only [execOps]
  constructor
  · intro h
    obtain ⟨b, hb, h⟩ := Option.bind_eq_some_iff.1 h
    cases b with
    | false => exact ⟨_, _, .inl ⟨hb, rfl, rfl⟩, h⟩
    | true =>
      simp only [cond_true] at h
      obtain ⟨⟨lv, σ'⟩, h1, h⟩ := Option.bind_eq_some_iff.1 h
      split at h
      · cases h
      · rename_i hc
        refine ⟨lv, σ', .inr ⟨hb, h1, fun hs hcl => ?_⟩, h⟩
        by_cases hn : σ' = σ
        · exact hn
        · exact absurd ⟨hs, hcl, hn⟩ hc
  · rintro ⟨lv, σ', (⟨hb, rfl, rfl⟩ | ⟨hb, h1, hc⟩), h⟩
    · rw [hb]; exact h
    · rw [hb]
      simp only [Option.bind_some, cond_true, h1]
      rw [if_neg]
      · exact h
      · rintro ⟨hs, hcl, hn⟩
        exact hn (hc hs hcl)

theorem put_fnL (e : Env) (dst : Option Tmp) (v : LV) : (e.put dst v).fn = e.fn := by cases dst <;> rfl
theorem Yld.put {strict : Bool} {o : Oper} {e : Env} {σ σ' : St} {lv : LV} (dst : Option Tmp) (v : LV) (hd : ∀ d, dst = some d → d ∉ o.looksAt ops) :
    Yld P Θ rec ops strict o (e.put dst v) σ lv σ' ↔ Yld P Θ rec ops strict o e σ lv σ' := by
  unfold Yld
  rw [wantedL_put o e dst v hd, opEval_put o e dst v σ hd, put_fnL]

theorem frz_raw {o : Oper} {e : Env} (hf : Θ.frzs e.fn o.dst = false) (σ : St) : opEval P Θ rec o e σ = opRaw P Θ rec o e σ := by
  unfold opEval
  rw [hf]
  cases opRaw P Θ rec o e σ <;> rfl
theorem class_raw {o : Oper} {fn : FuncId} (hc : opClass Θ fn o ≤ 2) : Θ.frzs fn o.dst = false ∧ opClass0 Θ fn o = opClass Θ fn o := by
  unfold opClass at *
  cases hb : Θ.frzs fn o.dst with
  | false => exact ⟨rfl, rfl⟩
  | true => rw [hb, cond_true] at hc; omega
theorem class0 {o : Oper} {e : Env} (hc : opClass Θ e.fn o = 0) {σ σ' : St} {lv : LV} (h : opEval P Θ rec o e σ = some (lv, σ')) : σ' = σ ∧ ∀ τ, opEval P Θ rec o e τ = some (lv, τ) := by
  obtain ⟨hfr, hcr⟩ := class_raw (Θ := Θ) (o := o) (fn := e.fn) (by omega)
  rw [hc] at hcr
  clear hc
  have hc := hcr
  clear hcr
  rw [frz_raw hfr] at h
  simp only [frz_raw hfr]
  have hn : callV o = none := by
    unfold callV
    split
    · rename_i f args ats ho
      simp only [opClass0, ho] at hc
      split at hc <;> cases hc
    · rfl
  simp only [opRaw, hn] at h ⊢
  have hmv : ∀ x, (o.op = .move x ∨ o.op = .assign x) → σ' = σ ∧ ∀ τ, opStep P (Θ.owns e.fn o.dst) o e.ev τ = some (lv, τ) := fun x hx => by
    have ho : Θ.owns e.fn o.dst = false := by
      cases hb : Θ.owns e.fn o.dst with
      | false => rfl
      | true => rcases hx with hx | hx <;> simp [opClass0, hx, hb] at hc
    rw [ho] at h ⊢
    rcases hx with hx | hx
    · simp only [opStep, hx, ownNil, Option.some.injEq, Prod.mk.injEq] at h ⊢
      exact ⟨h.2.symm, fun τ => ⟨h.1, trivial⟩⟩
    · simp only [opStep, hx, ownNil, Option.some.injEq, Prod.mk.injEq] at h ⊢
      exact ⟨h.2.symm, fun τ => ⟨h.1, trivial⟩⟩
  unfold opClass0 at hc
  split at hc <;> first | cases hc | skip
  · rename_i x ho; exact hmv x (.inl ho)
  · rename_i x ho; exact hmv x (.inr ho)
  all_goals (try (split at hc <;> cases hc; done))
  all_goals (rename_i ho; simp only [opStep, ho] at h ⊢)
  all_goals (try simp only [Option.map_eq_some_iff, Option.bind_eq_bind, Option.bind_eq_some_iff, Prod.exists] at h ⊢)
  all_goals (first | (cases h; exact ⟨rfl, fun _ => rfl⟩) | skip)
  · obtain ⟨a, h1, h2⟩ := h; cases h2; exact ⟨rfl, fun _ => ⟨_, h1, rfl⟩⟩
  · obtain ⟨a, h1, h2⟩ := h; cases h2; exact ⟨rfl, fun _ => ⟨_, h1, rfl⟩⟩
  · obtain ⟨a, h1, h2⟩ := h; cases h2; exact ⟨rfl, fun _ => ⟨_, h1, rfl⟩⟩
  · obtain ⟨a, b, h1, c, h2, h3⟩ := h
    split at h3
    · cases h3
    · rename_i hz
      refine ⟨?_, fun τ => ⟨a, b, h1, c, h2, ?_⟩⟩
      · split at h3 <;> first | (cases h3; rfl) | (split at h3 <;> cases h3; rfl) | cases h3
      · rw [if_neg hz]
        split at h3 <;> first | (cases h3; rfl) | (split at h3 <;> cases h3; simp [*]) | cases h3
  · obtain ⟨a, b, h1, h3⟩ := h
    split at h3
    · simp only [Option.map_eq_some_iff] at h3
      obtain ⟨c, h4, h5⟩ := h3
      cases h5
      exact ⟨rfl, fun τ => ⟨a, b, h1, by simp [h4]⟩⟩
    · cases h3
  · obtain ⟨a, h1, h3⟩ := h
    split at h3
    · rename_i s hu hs
      split at h3
      · rename_i h0
        simp only [Option.map_eq_some_iff] at h3
        obtain ⟨c, h4, h5⟩ := h3
        cases h5
        exact ⟨rfl, fun τ => ⟨a, h1, by simp [h0, h4]⟩⟩
      · cases h3
    · split at h3
      · rename_i hkm
        simp only [Option.bind_eq_some_iff, Option.map_eq_some_iff] at h3
        obtain ⟨sz, h4, c, h5, h6⟩ := h3
        cases h6
        exact ⟨rfl, fun τ => ⟨a, h1, by simp [hkm, h4, h5]⟩⟩
      · cases h3
    · cases h3
  · split at h
    · simp only [Option.map_eq_some_iff] at h
      obtain ⟨c, h4, h5⟩ := h
      cases h5
      exact ⟨rfl, fun τ => by simp [h4]⟩
    · cases h
  · split at h
    · cases h
    · cases h; exact ⟨rfl, fun _ => rfl⟩
  · split at h <;> first | (cases h; exact ⟨rfl, fun _ => rfl⟩) | cases h

theorem Yld.class0 {strict : Bool} {o : Oper} {e : Env} (hc : opClass Θ e.fn o = 0) {σ σ' : St} {lv : LV} (h : Yld P Θ rec ops strict o e σ lv σ') : σ' = σ ∧ ∀ τ, Yld P Θ rec ops strict o e τ lv τ := by
  rcases h with ⟨h1, h2, h3⟩ | ⟨h1, h2, h3⟩
  · exact ⟨h3, fun τ => .inl ⟨h1, h2, rfl⟩⟩
  · obtain ⟨k1, k2⟩ := LI.class0 hc h2
    exact ⟨k1, fun τ => .inr ⟨h1, k2 τ, fun _ _ => rfl⟩⟩
theorem Yld.class1 {o : Oper} {e : Env} (hc : opClass Θ e.fn o ≤ 1) {σ σ' : St} {lv : LV} (h : Yld P Θ rec ops true o e σ lv σ') : σ' = σ := by
  rcases h with ⟨_, _, h3⟩ | ⟨_, _, h3⟩
  · exact h3
  · exact h3 rfl hc

/-! ### more variables -/
def St.addB (σ : St) (B : List (List LV)) : St := { σ with boxes := σ.boxes ++ B }
theorem addB_elems (σ : St) (B : List (List LV)) (x : LV) : elems (σ.addB B) x = elems σ x := by cases x <;> rfl
theorem addB_partOf (σ : St) (B : List (List LV)) (x : LV) : partOf (σ.addB B) x = partOf σ x := by cases x <;> rfl
mutual
theorem addB_frzV (σ : St) (B : List (List LV)) : ∀ v : LV, frzV (σ.addB B) v = frzV σ v
  | .agg cs => by simp only [frzV, addB_frzL σ B cs]
  | .tuple cs => by simp only [frzV, addB_frzL σ B cs]
  | .func fn fst caps => by simp only [frzV, addB_frzL σ B fst, addB_frzL σ B caps]
  | .undef | .sc _ | .nils | .slice _ | .nslice _ | .mref _ _ | .mview _ _ _ _ _ | .mapr _ | .bptr _ _ | .pptr _ | .rptr _ _ _ _ _ => rfl
theorem addB_frzL (σ : St) (B : List (List LV)) : ∀ vs : List LV, frzV.frzL (σ.addB B) vs = frzV.frzL σ vs
  | [] => rfl
  | v :: vs => by simp only [frzV.frzL, addB_frzV σ B v, addB_frzL σ B vs]
end
theorem addB_frzS (B : List (List LV)) : ∀ (rs : List Nat) (σ : St), frzS (σ.addB B) rs = (frzS σ rs).addB B
  | [], _ => rfl
  | r :: rs, σ => by
    show frzS (St.addB { σ with rows := match σ.rows[r]? with | some row => σ.rows.set r { row with wr := false } | none => σ.rows } B) rs = _
    rw [addB_frzS B rs]
    rfl
theorem addB_inj {σ τ : St} {B : List (List LV)} (h : σ = τ) : σ.addB B = τ.addB B := by rw [h]
theorem addB_sourceL (P : Program) (tx : TypeId) (sz : Nat) (σ : St) (B : List (List LV)) (x : LV) : sourceL P tx sz (σ.addB B) x = sourceL P tx sz σ x := by
  unfold sourceL; simp only [addB_elems]
theorem addB_map {α : Type} {q : Option α} {f : α → LV} {σ : St} {r : LV × St} (B : List (List LV)) (h : (q.map fun v => (f v, σ)) = some r) : (q.map fun v => (f v, σ.addB B)) = some (r.1, r.2.addB B) := by
  cases q with
  | none => cases h
  | some x => simp only [Option.map_some, Option.some.injEq] at h ⊢; rw [← h]
theorem addB_bind {α : Type} {q : Option α} {f f' : α → Option (LV × St)} {r : LV × St} (B : List (List LV)) (hf : ∀ x, f x = some r → f' x = some (r.1, r.2.addB B)) (h : q.bind f = some r) : q.bind f' = some (r.1, r.2.addB B) := by
  cases q with
  | none => cases h
  | some x => exact hf x h
theorem addB_rows (σ : St) (B : List (List LV)) : (σ.addB B).rows = σ.rows := rfl
theorem addB_maps (σ : St) (B : List (List LV)) : (σ.addB B).maps = σ.maps := rfl
theorem mono_load {own : Bool} {o : Oper} {ρ : Operand → LV} {σ : St} {t : TypeId} {a : Operand} {r : LV × St} (B : List (List LV)) (ho : o.op = .load t a) (h : opStep P own o ρ σ = some r) : opStep P own o ρ (σ.addB B) = some (r.1, r.2.addB B) := by
  simp only [opStep, ho] at h ⊢
  cases hρ : ρ a <;> simp only [hρ] at h ⊢ <;> first | cases h | skip
  · rename_i b off
    simp only [Option.bind_eq_bind, Option.bind_eq_some_iff] at h
    obtain ⟨cs, h1, v, h2, h3⟩ := h
    cases h3
    have : (σ.addB B).boxes[b]? = some cs := by
      show (σ.boxes ++ B)[b]? = _
      rw [List.getElem?_append_left (List.getElem?_eq_some_iff.1 h1).1]; exact h1
    simp only [this, h2, Option.bind_eq_bind, Option.bind_some]
  · exact addB_map (f := id) B h
  · rw [addB_rows]
    refine addB_bind B (fun row hrow => addB_bind B (fun x hx => ?_) hrow) h
    split at hx
    · rename_i hc; rw [if_pos hc]; exact addB_map (f := id) B hx
    · cases hx
theorem mono_len {ats : List TypeId} {args : List LV} {σ : St} {r : LV × St} (B : List (List LV)) (h : builtinL P .len ats args σ = some r) : builtinL P .len ats args (σ.addB B) = some (r.1, r.2.addB B) := by
  rcases ats with _ | ⟨t, _ | ⟨t2, ats⟩⟩ <;> rcases args with _ | ⟨x, _ | ⟨x2, args⟩⟩ <;> first | (simp only [builtinL] at h ⊢; cases h; done) | skip
  simp only [builtinL, addB_elems, addB_maps] at h ⊢
  split at h
  · cases h; rfl
  · exact addB_map (f := fun es : List LV => .int es.length) B h
  · exact addB_map (f := fun q : MapS => .int q.ks.length) B h
  · cases h
theorem mono_app {ats : List TypeId} {args : List LV} {σ : St} {r : LV × St} (B : List (List LV)) (h : appendNew P ats args σ = some r) : appendNew P ats args (σ.addB B) = some (r.1, r.2.addB B) := by
  unfold appendNew at h ⊢
  split at h
  · rename_i t tx x
    simp only [addB_sourceL]
    refine addB_bind B (fun e he => addB_bind B (fun sz hs => addB_bind B (fun _ hz => addB_bind B (fun bs hb => addB_bind B (fun ys hy => ?_) hb) hz) hs) he) h
    split at hy
    · rename_i hc; rw [if_pos hc]; cases hy; rfl
    · cases hy
  · cases h
theorem mono_step {own : Bool} {o : Oper} {ρ : Operand → LV} {σ : St} {r : LV × St} (B : List (List LV)) (hm : monoOp Θ o = true) (hv : callV o = none) (hap : ∀ args ats, o.op = .call { callee := .builtin .append, args, argTypes := ats } → own = true) (h : opStep P own o ρ σ = some r) : opStep P own o ρ (σ.addB B) = some (r.1, r.2.addB B) := by
  obtain ⟨dst, op, type, pos, after, guard⟩ := o
  cases op <;> simp only [monoOp] at hm <;> first | cases hm | skip
  case load t a => exact mono_load B rfl h
  case slice t x lo hi mx =>
    simp only [opStep, addB_elems, addB_partOf, addB_frzS] at h ⊢
    split at h
    · rename_i s hu hs
      split at h
      · cases h
      · rename_i hm; rw [if_neg hm]
        exact addB_map (f := fun b : Nat × Nat => .str (s.extract b.1 b.2)) B h
    · split at h
      · cases h
      · rename_i hm; rw [if_neg hm]
        refine addB_bind B (fun _ h1 => ?_) h
        exact addB_map (f := fun _ : Nat × Nat => .nils) B h1
    · refine addB_bind B (fun sz h1 => ?_) h
      split at h1
      · rename_i ho; rw [if_pos ho]
        refine addB_bind B (fun p h2 => ?_) h1
        split at h2
        · exact addB_bind B (fun q h3 => addB_bind B (fun hh h4 => addB_bind B (fun _ h5 => by cases h5; rfl) h4) h3) h2
        · split at h2 <;> first | cases h2 | skip
          all_goals
            split at h2
            · rename_i hc; rw [if_pos hc]
              rename_i n _ _ _
              first
                | exact addB_map (f := fun b : Nat × Nat => _) B h2
                | skip
            · cases h2
      · rename_i ho; rw [if_neg ho]
        refine addB_bind B (fun es h2 => ?_) h1
        split at h2
        · refine addB_bind B (fun b h3 => ?_) h2
          split at h3
          · rename_i hc; rw [if_pos hc]; cases h3; rfl
          · cases h3
        · refine addB_bind B (fun q h3 => addB_bind B (fun hh h4 => addB_bind B (fun l h5 => ?_) h4) h3) h2
          split at h5
          · rename_i hc; rw [if_pos hc]; cases h5; rfl
          · cases h5
    · cases h
  case lookup t m k ok =>
    simp only [opStep, addB_maps] at h ⊢
    split at h
    · refine addB_bind B (fun ke h1 => addB_bind B (fun q h2 => addB_bind B (fun o h3 => addB_bind B (fun z h4 => ?_) h3) h2) h1) h
      split at h4
      · exact addB_map (f := fun v => bif ok then .tuple [v, .bool true] else v) B h4
      · cases h4; rfl
    · cases h
  case build t parts =>
    simp only [opStep] at h ⊢
    exact addB_map (f := fun cs => .agg cs) B h
  case indexAddr t x i =>
    simp only [opStep, addB_rows] at h ⊢
    split at h
    · refine addB_bind B (fun sz h1 => addB_bind B (fun k h2 => ?_) h1) h
      split at h2
      · rename_i hc; rw [if_pos hc]
        split at h2 <;> first | (cases h2; done) | (cases h2; rfl) | skip
        split at h2
        · rename_i hd; rw [if_pos hd]; cases h2; rfl
        · cases h2
      · cases h2
    · simp only [Option.bind_eq_bind] at h ⊢
      refine addB_bind B (fun e h1 => addB_bind B (fun sz h2 => addB_bind B (fun k h3 => ?_) h2) h1) h
      split at h3
      · rename_i hc; rw [if_pos hc]
        split at h3 <;> first | (cases h3; done) | skip
        all_goals
          refine addB_bind B (fun y h4 => ?_) h3
          split at h4
          · rename_i hd; rw [if_pos hd]; cases h4; rfl
          · cases h4
      · cases h3
  case convert src dst x =>
    simp only [opStep, addB_elems] at h ⊢
    split at h
    · cases h; rfl
    · cases h; rfl
    · split at h
      · simp only [Option.bind_eq_bind] at h ⊢
        exact addB_bind B (fun es he => addB_bind B (fun bs hb => by cases hb; rfl) he) h
      · cases h
    · split at h
      · split at h
        · rename_i hc; rw [if_pos hc]; cases h; rfl
        · cases h
      · cases h
    · cases h
  case buildSlice t len parts =>
    simp only [opStep] at h ⊢
    cases hb : (own && (Nat.beq len 0 && parts.toList.isEmpty)) with
    | true =>
      simp only [hb, cond_true] at h ⊢
      refine addB_bind B (fun e he => addB_bind B (fun sz hs => addB_bind B (fun _ hz => ?_) hs) he) h
      split at hz
      · rename_i h0; rw [if_pos h0]; cases hz; rfl
      · cases hz
    | false =>
      simp only [hb, cond_false] at h ⊢
      refine addB_bind B (fun e he => addB_bind B (fun sz hs => addB_bind B (fun _ hz => ?_) hs) he) h
      have e1 : ∀ xs, layS (σ.addB B) xs = ((layS σ xs).1, (layS σ xs).2.addB B) := fun xs => by simp only [layS, addB_frzL, addB_frzS]
      simp only [e1]
      split at hz
      · rename_i h0; rw [if_pos h0]; cases hz; rfl
      · rename_i h0; rw [if_neg h0]
        split at hz
        · rename_i h1; rw [if_pos h1]; cases hz; rfl
        · cases hz
  case call c =>
    obtain ⟨callee, args, ats⟩ := c
    cases callee with
    | value f => simp [callV] at hv
    | builtin b =>
      simp only [opStep] at h ⊢
      cases b <;> simp only at hm <;> first | cases hm | skip
      · rw [hap args ats rfl] at h ⊢
        exact mono_app B h
      · simp only [isApp, Bool.and_false, cond_false] at h ⊢
        exact mono_len B h
    | _ => cases hm
/-- What is asked of the inner answers: a pure function's does not hang on the variables that there are. -/
def RecMono (Θ : Th) (rec : Task → Option Res) : Prop := ∀ (f : FuncId) (args : List LV) (σ : St) (r : Res) (B : List (List LV)), Θ.ent f = true → Θ.pureF f = true →
  rec (.apply false (.func (.func f) [] []) args σ) = some r → rec (.apply false (.func (.func f) [] []) args (σ.addB B)) = some { r with σ := r.σ.addB B }
theorem recMono_runF : ∀ k : Nat, RecMono Θ (runF P Θ k)
  | 0 => fun f args σ r B h1 h2 h => by simp [runF] at h
  | k + 1 => fun f args σ r B h1 h2 h => by
    simp only [runF, stepT, h1, h2, if_true, addB_frzL] at h ⊢
    obtain ⟨q, h3, rfl⟩ := Option.map_eq_some_iff.1 h
    rw [h3]
    simp only [Option.map_some, afterPure, takeOver]
    split <;> simp [addB_frzS]
theorem mono_eval (hr : RecMono Θ rec) {a : Oper} {e : Env} {σ : St} {r : LV × St} (B : List (List LV)) (hm : monoOp Θ a = true) (hc : opClass Θ e.fn a = 1) (h : opEval P Θ rec a e σ = some r) : opEval P Θ rec a e (σ.addB B) = some (r.1, r.2.addB B) := by
  obtain ⟨hfr, hcr⟩ := class_raw (Θ := Θ) (o := a) (fn := e.fn) (by omega)
  rw [hc] at hcr
  rw [frz_raw hfr] at h ⊢
  unfold opRaw at h ⊢
  cases hv : callV a with
  | none =>
    rw [hv] at h
    refine mono_step B hm hv (fun args ats ho => ?_) h
    simp only [opClass0, ho] at hcr
    cases hb : Θ.owns e.fn a.dst with
    | true => rfl
    | false => simp [hb] at hcr
  | some p =>
    rw [hv] at h
    obtain ⟨f, args⟩ := p
    unfold callV at hv
    split at hv
    · rename_i f' args' ats ho
      cases hv
      simp only [monoOp, ho] at hm
      cases f <;> simp only at hm <;> first | cases hm | skip
      rename_i f
      simp only [Bool.and_eq_true] at hm
      have hown : Θ.owns e.fn a.dst = false := by
        simp only [opClass0, ho] at hcr
        cases hb : Θ.owns e.fn a.dst with
        | false => rfl
        | true => rw [hb] at hcr; simp at hcr
      rw [hown] at h ⊢
      simp only [Option.map_eq_some_iff] at h ⊢
      obtain ⟨q, h1, h2⟩ := h
      cases h2
      exact ⟨_, hr f _ σ q B hm.1 hm.2 h1, rfl⟩
    · cases hv
theorem grow_eval {b : Oper} {e : Env} {σ : St} {r : LV × St} (hg : growOp b = true) (hc : opClass Θ e.fn b = 2) (h : opEval P Θ rec b e σ = some r) : ∃ B, r.2 = σ.addB B := by
  obtain ⟨hfr, hcr⟩ := class_raw (Θ := Θ) (o := b) (fn := e.fn) (by omega)
  rw [hc] at hcr
  rw [frz_raw hfr] at h
  have hn : callV b = none := by
    unfold callV
    split
    · rename_i f args ats ho
      simp only [growOp, ho] at hg
      cases hg
    · rfl
  simp only [opRaw, hn] at h
  have hown : Θ.owns e.fn b.dst = false := by
    cases hb : Θ.owns e.fn b.dst with
    | false => rfl
    | true =>
      unfold growOp at hg
      split at hg
      · rename_i t ho; simp [opClass0, ho, hb] at hcr
      · rename_i t x ho; simp [opClass0, ho, hb] at hcr
      · cases hg
  rw [hown] at h
  unfold growOp at hg
  split at hg
  · rename_i t ho
    simp only [opStep, ho, Option.map_eq_some_iff] at h
    obtain ⟨cs, _, rfl⟩ := h
    exact ⟨[cs], rfl⟩
  · rename_i t x ho
    simp only [opStep, ho, Option.bind_eq_bind, Option.bind_eq_some_iff] at h
    obtain ⟨n, _, h⟩ := h
    split at h
    · cases h; exact ⟨[(e.ev x).cells], rfl⟩
    · cases h
  · cases hg
theorem swap (hr : RecMono Θ rec) {a b : Oper} {os : List Oper} {e : Env} {σ : St} {r : Env × St} (hm : mayTurn Θ e.fn a b = true) (h1 : a.apart ops b = true)
    (h : execOps P Θ rec true ops.toList (a :: b :: os) e σ = some r) : execOps P Θ rec true ops.toList (b :: a :: os) e σ = some r := by
  obtain ⟨va, σ1, y1, ha⟩ := execOps_cons.1 h
  obtain ⟨vb, σ2, y2, hb⟩ := execOps_cons.1 ha
  obtain ⟨p1, p2, p3⟩ := Oper.apart_spec h1
  rw [Yld.put _ _ p1] at y2
  rw [put_commL e va vb p2] at hb
  clear h ha
  simp only [mayTurn, Bool.or_eq_true, Bool.and_eq_true, beq_iff_eq] at hm
  rcases hm with ((hm | hm) | ⟨hm1, hm2⟩) | ⟨⟨⟨hm1, hm2⟩, hm3⟩, hm4⟩
  · obtain ⟨rfl, k⟩ := y1.class0 hm
    exact execOps_cons.2 ⟨vb, σ2, y2, execOps_cons.2 ⟨va, σ2, (Yld.put _ _ p3).2 (k σ2), hb⟩⟩
  · obtain ⟨rfl, k⟩ := y2.class0 hm
    exact execOps_cons.2 ⟨vb, σ, k σ, execOps_cons.2 ⟨va, _, (Yld.put _ _ p3).2 y1, hb⟩⟩
  · have e1 := y1.class1 (by omega)
    subst e1
    have e2 := y2.class1 (by omega)
    subst e2
    exact execOps_cons.2 ⟨vb, _, y2, execOps_cons.2 ⟨va, _, (Yld.put _ _ p3).2 y1, hb⟩⟩
  · have e1 := y1.class1 (by omega)
    subst e1
    have hσ : ∃ B, σ2 = σ1.addB B := by
      rcases y2 with ⟨_, _, h3⟩ | ⟨_, h2, _⟩
      · exact ⟨[], by rw [h3]; simp [St.addB]⟩
      · exact grow_eval hm4 hm2 h2
    obtain ⟨B, rfl⟩ := hσ
    refine execOps_cons.2 ⟨vb, _, y2, execOps_cons.2 ⟨va, _, (Yld.put _ _ p3).2 ?_, hb⟩⟩
    rcases y1 with ⟨k1, k2, k3⟩ | ⟨k1, k2, k3⟩
    · exact .inl ⟨k1, k2, rfl⟩
    · exact .inr ⟨k1, mono_eval hr B hm3 hm1 k2, fun _ _ => rfl⟩

theorem to_front (hr : RecMono Θ rec) {i : Oper} : ∀ {A B : List Oper} {e : Env} {σ : St} {r : Env × St}, (∀ a ∈ A, mayTurn Θ e.fn a i = true ∧ a.apart ops i = true) →
    execOps P Θ rec true ops.toList (A ++ i :: B) e σ = some r → execOps P Θ rec true ops.toList (i :: (A ++ B)) e σ = some r
  | [], B, e, σ, r, _, h => h
  | a :: A, B, e, σ, r, hA, h => by
    obtain ⟨va, σ1, y1, h'⟩ := execOps_cons.1 h
    have := to_front hr (fun x hx => by rw [put_fnL]; exact hA x (List.mem_cons_of_mem _ hx)) h'
    obtain ⟨k1, k2⟩ := hA a List.mem_cons_self
    exact swap hr k1 k2 (execOps_cons.2 ⟨va, σ1, y1, this⟩)

/-! ### what must come ahead -/
theorem ancs_snoc (os : List Oper) (o : Oper) : ancs (os ++ [o]) = ancStep (ancs os) o := by simp [ancs]
theorem ancs_length (os : List Oper) : (ancs os).length = os.length := by
  have gen : ∀ (os : List Oper) (acc : List (List Nat)), (os.foldl ancStep acc).length = acc.length + os.length := by
    intro os
    induction os with
    | nil => intro acc; simp
    | cons o os ih => intro acc; simp only [List.foldl_cons, ih, ancStep, List.length_append, List.length_cons, List.length_nil]; omega
  simpa [ancs] using gen os []
theorem snoc_ind {α : Type} {p : List α → Prop} (h0 : p []) (h1 : ∀ l x, p l → p (l ++ [x])) (l : List α) : p l := by
  have gen : ∀ m : List α, p m.reverse := fun m => by
    induction m with
    | nil => exact h0
    | cons x m ih => rw [List.reverse_cons]; exact h1 _ _ ih
  have := gen l.reverse
  rwa [List.reverse_reverse] at this
theorem ancB_bits {acc : List (List Nat)} {accB : List Nat} (h : ∀ i j, (accB.getD i 0).testBit j = true → j ∈ acc.getD i []) (j : Nat) : ∀ (es : List Edge) (m : Nat), (es.foldl (ancBit accB) m).testBit j = true →
    m.testBit j = true ∨ j ∈ es.flatMap fun e => if Region.binds .any e then e.on :: acc.getD e.on [] else []
  | [], m, hj => .inl hj
  | e :: es, m, hj => by
    rcases ancB_bits h j es _ hj with h1 | h1
    · unfold ancBit at h1
      cases hb : Region.binds .any e with
      | false => rw [hb, cond_false] at h1; exact .inl h1
      | true =>
        rw [hb, cond_true] at h1
        have h2 : ((m ||| accB.getD e.on 0) ||| (1 <<< e.on)).testBit j = true := h1
        rw [Nat.testBit_or, Nat.testBit_or, Bool.or_eq_true, Bool.or_eq_true] at h2
        rcases h2 with (h2 | h2) | h2
        · exact .inl h2
        · exact .inr (List.mem_flatMap.2 ⟨e, List.mem_cons_self, by rw [if_pos hb]; exact List.mem_cons_of_mem _ (h _ _ h2)⟩)
        · refine .inr (List.mem_flatMap.2 ⟨e, List.mem_cons_self, ?_⟩)
          rw [Nat.one_shiftLeft, Nat.testBit_two_pow] at h2
          rw [if_pos hb, of_decide_eq_true h2]
          exact List.mem_cons_self
    · obtain ⟨e', h2, h3⟩ := List.mem_flatMap.1 h1
      exact .inr (List.mem_flatMap.2 ⟨e', List.mem_cons_of_mem _ h2, h3⟩)
theorem ancB_go : ∀ (os : List Oper) (acc : List (List Nat)) (accB : List Nat), acc.length = accB.length → (∀ i j, (accB.getD i 0).testBit j = true → j ∈ acc.getD i []) →
    ∀ i j, ((os.foldl ancBStep accB).getD i 0).testBit j = true → j ∈ (os.foldl ancStep acc).getD i []
  | [], _, _, _, h => h
  | o :: os, acc, accB, hl, h => by
    refine ancB_go os _ _ (by simp [ancStep, ancBStep, hl]) fun i j hj => ?_
    unfold ancBStep at hj
    unfold ancStep
    rw [List.getD_eq_getElem?_getD] at hj ⊢
    rcases Nat.lt_trichotomy i acc.length with hi | hi | hi
    · rw [List.getElem?_append_left (by omega), ← List.getD_eq_getElem?_getD] at hj ⊢
      exact h i j hj
    · rw [List.getElem?_append_right (by omega), show i - accB.length = 0 by omega] at hj
      rw [List.getElem?_append_right (by omega), show i - acc.length = 0 by omega]
      simp only [List.getElem?_cons_zero, Option.getD_some] at hj ⊢
      rcases ancB_bits h j _ _ hj with h1 | h1
      · simp at h1
      · exact h1
    · rw [List.getElem?_eq_none (by simp; omega)] at hj
      simp at hj
theorem ancB_mem {os : List Oper} {i j : Nat} (h : ((ancB os).getD i 0).testBit j = true) : j ∈ (ancs os).getD i [] :=
  ancB_go os [] [] rfl (fun i j h => by simp at h) i j h
theorem ancs_spec (os : List Oper) : ∀ {i j : Nat}, j ∈ (ancs os).getD i [] → ∃ o, os[i]? = some o ∧ ∃ e ∈ o.after.toList, Region.binds .any e = true ∧ (e.on = j ∨ (e.on < i ∧ j ∈ (ancs os).getD e.on [])) := by
  refine snoc_ind (p := fun os => ∀ {i j : Nat}, j ∈ (ancs os).getD i [] → ∃ o, os[i]? = some o ∧ ∃ e ∈ o.after.toList, Region.binds .any e = true ∧ (e.on = j ∨ (e.on < i ∧ j ∈ (ancs os).getD e.on []))) ?_ ?_ os
  · intro i j h; simp [ancs] at h
  · intro os o ih i j h
    have hl := ancs_length os
    have left : ∀ {k : Nat}, k < os.length → (ancs (os ++ [o])).getD k [] = (ancs os).getD k [] := fun {k} hk => by
      rw [ancs_snoc, ancStep, List.getD_eq_getElem?_getD, List.getElem?_append_left (by omega), ← List.getD_eq_getElem?_getD]
    by_cases hi : i < os.length
    · rw [left hi] at h
      obtain ⟨o', h1, e, h2, h3, h4⟩ := ih h
      refine ⟨o', by rw [List.getElem?_append_left hi]; exact h1, e, h2, h3, h4.imp id fun h5 => ⟨h5.1, ?_⟩⟩
      rw [left (by omega)]; exact h5.2
    · by_cases hi' : i = os.length
      · subst hi'
        rw [ancs_snoc, ancStep, List.getD_eq_getElem?_getD, List.getElem?_append_right (by omega), hl, Nat.sub_self] at h
        simp only [List.getElem?_cons_zero, Option.getD_some, List.mem_flatMap] at h
        obtain ⟨e, he, h⟩ := h
        refine ⟨o, by simp, e, he, ?_⟩
        split at h
        · rename_i hb
          refine ⟨hb, ?_⟩
          rcases List.mem_cons.1 h with h | h
          · exact .inl h.symm
          · by_cases hlt : e.on < os.length
            · exact .inr ⟨hlt, by rw [left hlt]; exact h⟩
            · rw [List.getD_eq_getElem?_getD, List.getElem?_eq_none (by omega)] at h
              simp at h
        · simp at h
      · rw [List.getD_eq_getElem?_getD, List.getElem?_eq_none (by rw [ancs_length, List.length_append]; simp; omega)] at h
        simp at h

end
end Go.Proofs.YticpcfchhcjjeaaGreat.LI
