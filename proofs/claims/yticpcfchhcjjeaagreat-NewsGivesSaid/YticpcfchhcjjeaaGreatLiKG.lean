/-
  What the interpreter with letters in it answers, the interpreter answers. No program is named here.
-/
import Derived.Test.YticpcfchhcjjeaaGreatLiK0
namespace Go.Proofs.YticpcfchhcjjeaaGreat.LI
open Go Go.RowKit
set_option linter.unusedSimpArgs false
set_option linter.unusedVariables false
open KV (toL)
open KV.toL (toLs)

theorem fk_true {S : Cs} [hF : FkOK S] {α : Type} (x y : Option α) : S.fk true x y = x := hF.eq true x y
theorem fk_false {S : Cs} [hF : FkOK S] {α : Type} (x y : Option α) : S.fk false x y = y := hF.eq false x y
theorem chk_some {S : Cs} [FkOK S] {α : Type} : ∀ {c : Ck} {x : Option α} {r : α}, chk S c x = some r → c.val = true ∧ x = some r
  | .ok, _, _, h => ⟨rfl, h⟩
  | .is b, _, _, h => by
    simp only [chk] at h
    cases b with
    | true => rw [fk_true] at h; exact ⟨rfl, h⟩
    | false => rw [fk_false] at h; cases h
  | .and a b, _, _, h => by
    simp only [chk] at h
    obtain ⟨h1, h2⟩ := chk_some h
    obtain ⟨h3, h4⟩ := chk_some h2
    exact ⟨by simp only [Ck.val, h1, h3, Bool.and_self], h4⟩

/-! ### the store -/
mutual
theorem below_free (n : Sz) : ∀ (v : LV), refFree v = true → below n v = true
  | .undef, _ => rfl
  | .sc _, _ => rfl
  | .nils, _ => rfl
  | .slice es, h => by simp only [refFree] at h; simp only [below, belowL_free n es h]
  | .nslice es, h => by simp only [refFree] at h; simp only [below, belowL_free n es h]
  | .mref _ _, h => by cases h
  | .mview _ _ _ _ _, h => by cases h
  | .mapr _, h => by cases h
  | .agg cs, h => by simp only [refFree] at h; simp only [below, belowL_free n cs h]
  | .tuple cs, h => by simp only [refFree] at h; simp only [below, belowL_free n cs h]
  | .bptr _ _, h => by cases h
  | .pptr cs, h => by simp only [refFree] at h; simp only [below, belowL_free n cs h]
  | .rptr _ _ _ _ _, h => by cases h
  | .func fn fst caps, h => by
    simp only [refFree, Bool.and_eq_true] at h
    simp only [below, belowL_free n fst h.1.2, belowL_free n caps h.2, Bool.and_true]
    have h1 := h.1.1
    cases fn <;> first | rfl | (simp at h1)
theorem belowL_free (n : Sz) : ∀ (vs : List LV), refFree.refFreeL vs = true → below.belowL n vs = true
  | [], _ => rfl
  | v :: vs, h => by
    simp only [refFree.refFreeL, Bool.and_eq_true] at h
    simp only [below.belowL, below_free n v h.1, belowL_free n vs h.2, Bool.and_self]
end
theorem encLs_free (t : Ty) : ∀ l : List t.den, refFree.refFreeL (l.map (encL t)) = true
  | [] => rfl
  | x :: l => by simp only [List.map_cons, refFree.refFreeL, encL_free, encLs_free t l, Bool.and_self]
theorem blt_eq (a b : Nat) : decide (a < b) = Nat.blt a b := by
  cases h : Nat.blt a b with
  | true => exact decide_eq_true (by have := Nat.le_of_ble_eq_true (show Nat.ble (a + 1) b = true from h); omega)
  | false => exact decide_eq_false (fun hlt => by
      have : Nat.blt a b = true := Nat.ble_eq_true_of_le (show a + 1 ≤ b from hlt)
      rw [this] at h; cases h)
mutual
theorem belowK_eq (n : Sz) : ∀ (v : KV), below n v.toL = belowK n v
  | .undef => rfl
  | .sc _ => rfl
  | .st _ => rfl
  | .nils => rfl
  | .lst t l => below_free n _ (lstL_free t l)
  | .mref r _ => blt_eq _ _
  | .mview r _ _ _ _ => blt_eq _ _
  | .mapr _ => blt_eq _ _
  | .agg cs => by simp only [toL, below, belowK, belowKL_eq n cs]
  | .tuple cs => by simp only [toL, below, belowK, belowKL_eq n cs]
  | .bptr _ _ => blt_eq _ _
  | .pptr cs => by simp only [toL, below, belowK, belowKL_eq n cs]
  | .rptr _ _ _ _ _ => blt_eq _ _
  | .func fn fst caps => by simp only [toL, below, belowK, belowKL_eq n fst, belowKL_eq n caps]; cases fn <;> first | rfl | (simp only [blt_eq])
theorem belowKL_eq (n : Sz) : ∀ (vs : List KV), below.belowL n (toLs vs) = belowK.belowKL n vs
  | [] => rfl
  | v :: vs => by simp only [toLs, below.belowL, belowK.belowKL, belowK_eq n v, belowKL_eq n vs]
end
theorem sz_eq (σ : KSt) : σ.toL.sz = σ.sz := by simp only [St.sz, KSt.sz, KSt.toL, List.length_map]
theorem trimK_eq (n : Sz) (vs : List KV) (σ : KSt) : trim n (toLs vs) σ.toL = (trimK n vs σ).toL := by
  unfold trim trimK
  have e1 : σ.toL.boxes.length = σ.boxes.length := by simp [KSt.toL]
  have e2 : σ.toL.rows.length = σ.rows.length := by simp [KSt.toL]
  have e3 : σ.toL.loops.length = σ.loops.length := by simp [KSt.toL]
  have e4 : σ.toL.maps.length = σ.maps.length := by simp [KSt.toL]
  rw [e1, e2, e3, e4]
  split
  · rfl
  · have : trimOk n (toLs vs) σ.toL = trimOkK n vs σ := by
      unfold trimOk trimOkK
      have r1 : (σ.toL.rows.take n.nr).all (fun r => below.belowL n r.xs) = true := by
        rw [List.all_eq_true]
        intro r hr
        have := List.mem_of_mem_take hr
        simp only [KSt.toL, List.mem_map] at this
        obtain ⟨r0, _, rfl⟩ := this
        exact belowL_free _ _ (encLs_free _ _)
      have r2 : (σ.toL.maps.take n.nm).all (fun q => below.belowL n q.ks && below.belowL n q.vs) = true := by
        rw [List.all_eq_true]
        intro r hr
        have := List.mem_of_mem_take hr
        simp only [KSt.toL, List.mem_map] at this
        obtain ⟨r0, _, rfl⟩ := this
        have k1 := encLs_free r0.kt (r0.l.map (·.1))
        have k2 := encLs_free r0.vt (r0.l.map (·.2))
        simp only [List.map_map] at k1 k2
        rw [Bool.and_eq_true]
        exact ⟨belowL_free _ _ k1, belowL_free _ _ k2⟩
      rw [r1, r2, Bool.and_true, Bool.and_true, belowKL_eq]
      simp only [KSt.toL, ← List.map_take, List.all_map, Function.comp_def, belowKL_eq, KLoop.toL, KEnv.toL]
    rw [this]
    split
    · simp only [KSt.toL, List.map_take]
    · rfl
theorem setStateK_eq (σ : KSt) (l : Nat) {f : LoopRec → LoopRec} {g : KLoop → KLoop} (h : ∀ q, f q.toL = (g q).toL) : setState σ.toL l f = (setStateK σ l g).toL := by
  unfold setState setStateK
  have e : σ.toL.loops[l]? = (σ.loops[l]?).map KLoop.toL := by simp only [KSt.toL, List.getElem?_map]
  rw [e]
  cases σ.loops[l]? with
  | none => rfl
  | some q => simp only [Option.map_some, h, KSt.toL, List.map_set]
theorem isReadyK_eq (σ : KSt) (l : Nat) : isReady σ.toL l = isReadyK σ l := by
  unfold isReady isReadyK
  have e : σ.toL.loops[l]? = (σ.loops[l]?).map KLoop.toL := by simp only [KSt.toL, List.getElem?_map]
  rw [e]
  cases σ.loops[l]? <;> rfl
theorem endK_eq (σ : KSt) (e : KEnv) (τ : KSt) : endL σ.toL e.toL τ.toL = (endK σ e τ).toL := by
  unfold endL endK
  have e3 : σ.toL.loops.length = σ.loops.length := by simp [KSt.toL]
  rw [e3, sz_eq, setStateK_eq τ σ.loops.length (g := fun q => { q with state := .exhausted }) (fun q => rfl)]
  exact trimK_eq _ _ _
theorem maskK_eq : ∀ (m : List Bool) (t : List KV), maskL m (toLs t) = toLs (maskK m t)
  | true :: m, v :: t => by simp only [toLs, maskL, maskK, maskK_eq m t]
  | false :: m, v :: t => by simp only [toLs, maskL, maskK, maskK_eq m t, toL]
  | [], v :: t => by simp only [toLs, maskL, maskK, maskK_eq [] t, toL]
  | [], [] => rfl
  | _ :: _, [] => by simp only [toLs, maskL, maskK]
theorem maskK_expand : ∀ (m : List Bool) (t : List KV), maskK m t = expand m t.length (compress m t)
  | true :: m, v :: t => by simp only [maskK, compress, List.length_cons, expand, maskK_expand m t]
  | false :: m, v :: t => by simp only [maskK, compress, List.length_cons, expand, maskK_expand m t]
  | [], v :: t => by
    have := maskK_expand [] t
    have e : compress [] (v :: t) = [] := by simp [compress]
    have e' : compress [] t = [] := by simp [compress]
    rw [e'] at this
    rw [e]; simp only [maskK, List.length_cons, expand, this]
  | [], [] => by simp [maskK, expand]
  | _ :: _, [] => by simp [maskK, expand]
section
variable {P : Program} {Θ : Th} {S : Cs} [FkOK S]
theorem tidyK_eq (k : Option Nat) (e : KEnv) : tidy Θ k e.toL = (tidyK Θ k e).toL := by
  simp only [tidy, tidyK, KEnv.toL, maskK_eq]

/-! ### what the codes at hand are -/
def CodeOK (P : Program) (f : FuncId) (c : Code) : Prop := (∀ a ∈ loopsOf c, a ∈ loopsOf (bodyOf P f)) ∧ ∀ a ∈ rangesOf c, a ∈ rangesOf (bodyOf P f)
def StOK (P : Program) (σ : KSt) : Prop := ∀ lr ∈ σ.loops, (CodeOK P lr.env.fn lr.assign ∧ CodeOK P lr.env.fn lr.body) ∧ (lr.params, lr.assign, lr.body) ∈ rangesOf (bodyOf P lr.env.fn)
theorem CodeOK.seq {f : FuncId} {a b : Code} (h : CodeOK P f (.seq a b)) : CodeOK P f a ∧ CodeOK P f b :=
  ⟨⟨fun y hy => h.1 y (by simp [loopsOf, hy]), fun y hy => h.2 y (by simp [rangesOf, hy])⟩, ⟨fun y hy => h.1 y (by simp [loopsOf, hy]), fun y hy => h.2 y (by simp [rangesOf, hy])⟩⟩
theorem CodeOK.cond {f : FuncId} {c : Operand} {a b : Code} (h : CodeOK P f (.cond c a b)) : CodeOK P f a ∧ CodeOK P f b :=
  ⟨⟨fun y hy => h.1 y (by simp [loopsOf, hy]), fun y hy => h.2 y (by simp [rangesOf, hy])⟩, ⟨fun y hy => h.1 y (by simp [loopsOf, hy]), fun y hy => h.2 y (by simp [rangesOf, hy])⟩⟩
theorem CodeOK.block {f : FuncId} {id : Nat} {a : Code} (h : CodeOK P f (.block id a)) : CodeOK P f a :=
  ⟨fun y hy => h.1 y (by simp [loopsOf, hy]), fun y hy => h.2 y (by simp [rangesOf, hy])⟩
theorem CodeOK.loop {f : FuncId} {a : Code} (h : CodeOK P f (.loop a)) : CodeOK P f a :=
  ⟨fun y hy => h.1 y (by simp [loopsOf, hy]), fun y hy => h.2 y (by simp [rangesOf, hy])⟩
theorem CodeOK.range {f : FuncId} {o : Operand} {ps : Array Tmp} {a b : Code} (h : CodeOK P f (.rangeFunc o ps a b)) : (CodeOK P f a ∧ CodeOK P f b) ∧ (ps.toList, a, b) ∈ rangesOf (bodyOf P f) :=
  ⟨⟨⟨fun y hy => h.1 y (by simp [loopsOf, hy]), fun y hy => h.2 y (by simp [rangesOf, hy])⟩, ⟨fun y hy => h.1 y (by simp [loopsOf, hy]), fun y hy => h.2 y (by simp [rangesOf, hy])⟩⟩, h.2 _ (by simp [rangesOf])⟩
theorem StOK.loops {σ σ' : KSt} (h : StOK P σ) (e : σ'.loops = σ.loops) : StOK P σ' := by unfold StOK at *; rw [e]; exact h
theorem StOK.trim {σ : KSt} {n : Sz} {vs : List KV} (h : StOK P σ) : StOK P (trimK n vs σ) := by
  unfold trimK
  split
  · exact h
  · split
    · exact fun lr hl => h lr (List.mem_of_mem_take hl)
    · exact h
theorem StOK.set {σ : KSt} {l : Nat} {g : KLoop → KLoop} (h : StOK P σ) (hg : ∀ q, (g q).env = q.env ∧ (g q).params = q.params ∧ (g q).assign = q.assign ∧ (g q).body = q.body) : StOK P (setStateK σ l g) := by
  intro lr hl
  unfold setStateK at hl
  simp only at hl
  split at hl
  · rename_i q hq
    rcases List.mem_or_eq_of_mem_set hl with hl | rfl
    · exact h lr hl
    · obtain ⟨h1, h2, h3, h4⟩ := hg q
      rw [h1, h2, h3, h4]
      exact h q (List.mem_of_getElem? hq)
  · exact h lr hl
theorem StOK.end {σ τ : KSt} {e : KEnv} (h : StOK P τ) : StOK P (endK σ e τ) := StOK.trim (StOK.set h fun q => ⟨rfl, rfl, rfl, rfl⟩)
theorem StOK.frz {σ : KSt} {rs : List Nat} (h : StOK P σ) : StOK P (frzKS σ rs) := h.loops (frzKS_loops rs σ)
theorem StOK.nil : StOK P {} := fun _ h => by cases h

structure CsOK (P : Program) (Θ : Th) (S : Cs) : Prop where
  bt : ∀ f p args b y, S.bt f = some p → p args = some b → b.c.val = true → b.x = some y → run P Θ (.call f (toLs args)) = some ⟨.normal, (b.e y).1.toL, default, { rows := (b.e y).2.map KRow.toL }⟩
  bl : ∀ f key p vs σ b y, S.bl f key = some p → p vs σ = some b → b.c.val = true → b.x = some y → ∀ a ∈ loopsOf (bodyOf P f), loopKey a = key → StOK P σ →
    (∀ {γ : Type} (k : Ex → List KV → KSt → Option γ), b.e S.sm y k = k (b.pick y).1 (b.pick y).2.1 (b.pick y).2.2) ∧
    run P Θ (.code (.loop a) ⟨f, toLs (expand (Θ.keep f key) (ntm P f) vs)⟩ σ.toL) = (if (b.pick y).1 = .normal then run P Θ (.code (.loop a) ⟨f, toLs (expand (Θ.keep f key) (ntm P f) (b.pick y).2.1)⟩ (b.pick y).2.2.toL) else some ⟨(b.pick y).1, .undef, ⟨f, toLs (expand (Θ.keep f key) (ntm P f) (b.pick y).2.1)⟩, (b.pick y).2.2.toL⟩) ∧ StOK P (b.pick y).2.2
  ct : ∀ f p args c v rows, S.ct f = some p → p args = some (c, v, rows) → c.val = true → run P Θ (.call f (toLs args)) = some ⟨.normal, v.toL, default, { rows := rows.map KRow.toL }⟩
  xt : ∀ f p args c v, S.xt f = some p → p args = some (c, v) → c.val = true → Θ.ent f = false ∧ ∃ q, Θ.ext f = some q ∧ q (toLs args) = some v.toL ∧ freeK v = true
  st : ∀ f p args σ c v σ', S.st f = some p → p args σ = some (c, v, σ') → c.val = true → (∃ q, Θ.extS f = some q ∧ q (toLs args) σ.toL = some (v.toL, σ'.toL)) ∧ σ'.loops = σ.loops
  lt : ∀ f key p vs σ c o, S.lt f key = some p → p vs σ = some (c, o) → c.val = true → ∀ a ∈ loopsOf (bodyOf P f), loopKey a = key → StOK P σ →
    run P Θ (.code (.loop a) ⟨f, toLs (expand (Θ.keep f key) (ntm P f) vs)⟩ σ.toL) = (if o.pick.1 = .normal then run P Θ (.code (.loop a) ⟨f, toLs (expand (Θ.keep f key) (ntm P f) o.pick.2.1)⟩ o.pick.2.2.toL) else some ⟨o.pick.1, .undef, ⟨f, toLs (expand (Θ.keep f key) (ntm P f) o.pick.2.1)⟩, o.pick.2.2.toL⟩) ∧ StOK P o.pick.2.2

def TaskOK (P : Program) : KTask → Prop
  | .call _ _ => True
  | .callS _ _ σ => StOK P σ
  | .apply _ _ _ σ => StOK P σ
  | .code c e σ => CodeOK P e.fn c ∧ StOK P σ
def PostOK (P : Program) (t : KTask) (r : KRes) : Prop := StOK P r.σ ∧ match t with
  | .code _ e _ => r.env.fn = e.fn
  | _ => True
def Sound (P : Program) (Θ : Th) {α : Type} (rec : Rec α) : Prop := ∀ t k x, TaskOK P t → rec t k = some x → ∃ r : KRes, run P Θ t.toL = some r.toL ∧ PostOK P t r ∧ k r = some x

mutual
theorem noMemK_eq : ∀ v : KV, noMem v.toL = noMemK v
  | .undef => rfl
  | .sc _ => rfl
  | .st _ => rfl
  | .nils => rfl
  | .lst _ _ => rfl
  | .mref _ _ => rfl
  | .mview _ _ _ _ _ => rfl
  | .mapr _ => rfl
  | .agg cs => by simp only [toL, noMem, noMemK, noMemKL_eq cs]
  | .tuple cs => by simp only [toL, noMem, noMemK, noMemKL_eq cs]
  | .bptr _ _ => rfl
  | .pptr _ => rfl
  | .rptr _ _ _ _ _ => rfl
  | .func _ _ _ => rfl
theorem noMemKL_eq : ∀ vs : List KV, noMem.noMemL (toLs vs) = noMemK.noMemKL vs
  | [] => rfl
  | v :: vs => by simp only [toLs, noMem.noMemL, noMemK.noMemKL, noMemK_eq v, noMemKL_eq vs]
end
theorem looksK_eq {o : Oper} {e : KEnv} {v : KV} (h : looksK Θ o e v = true) : looksB Θ o e.toL v.toL = true := by
  unfold looksK at h
  unfold looksB
  have hfn : e.toL.fn = e.fn := rfl
  cases hc : callV o with
  | some p =>
    obtain ⟨f, args⟩ := p
    rw [hc] at h
    simp only at h ⊢
    rw [ev_eq]
    split at h
    · rename_i f' fst caps hf
      rw [hf]
      simp only [toL]
      have e1 : (args.toList.map e.toL.ev) = toLs (args.toList.map e.ev) := by
        rw [toLs_map, List.map_map]; exact List.map_congr_left fun y _ => ev_eq e y
      have app : ∀ xs ys, toLs xs ++ toLs ys = toLs (xs ++ ys) := fun xs ys => by simp only [toLs_map, List.map_append]
      rw [e1, app, app, rowsKL_eq, noMemK_eq]
      exact h
    · cases h
  | none =>
    rw [hc] at h
    simp only at h ⊢
    split at h
    · rename_i x _ _ _ ho
      rw [ho]; simp only
      rw [ev_eq, rowsK_eq, hfn]; exact h
    · rename_i parts ho
      rw [ho]; simp only
      have e1 : (parts.toList.map fun p => e.toL.ev p.2) = toLs (parts.toList.map fun p => e.ev p.2) := by
        rw [toLs_map, List.map_map]; exact List.map_congr_left fun y _ => ev_eq e y.2
      rw [e1, rowsKL_eq]; exact h
    · rename_i h1 h2
      split
      · rename_i ho; exact absurd ho (h1 _ _ _ _ _)
      · rename_i ho; exact absurd ho (h2 _ _ _)
      · rfl
variable {α : Type} {rec : Rec α}
theorem fineK_same {strict : Bool} {o : Oper} {e : KEnv} {σ σ' : St} {v : KV} (hf : fineK Θ strict o e v = true) (h : opEval P Θ (run P Θ) o e.toL σ = some (v.toL, σ')) : ¬ (strict = true ∧ opClass Θ e.fn o ≤ 1 ∧ σ' ≠ σ) := by
  rintro ⟨hs, hc, hn⟩
  subst hs
  simp only [fineK, Bool.not_true, Bool.false_or, Bool.or_eq_true, beq_iff_eq, Nat.ble_eq] at hf
  rcases hf with (hf | hf) | hf
  · exact hn (class0 (e := e.toL) hf h).1
  · omega
  · exact hn (looks_same (e := e.toL) (r := (v.toL, σ')) hc (looksK_eq hf) h)
theorem frzResK_eq {b : Bool} {v : KV} {σ : KSt} (hc : (frzResK b v σ).1.val = true) : frzRes b (v.toL, σ.toL) = ((frzResK b v σ).2.1.toL, (frzResK b v σ).2.2.toL) ∧ (frzResK b v σ).2.2.loops = σ.loops := by
  cases b with
  | false => exact ⟨rfl, rfl⟩
  | true =>
    simp only [frzResK] at hc
    refine ⟨?_, frzKS_loops _ _⟩
    simp only [frzRes, cond_true, frzResK, frzK_sound σ v hc, rowsK_eq, frzKS_eq]
theorem setK_same {l : List KV} {d : Nat} {v : KV} (h : l.getD d .undef = v) (hv : v ≠ .undef) : l.set d v = l := by
  apply List.ext_getElem?
  intro i
  rw [List.getElem?_set]
  split
  · rename_i hd
    subst hd
    rw [List.getD_eq_getElem?_getD] at h
    cases hl : l[d]? with
    | none => rw [hl] at h; exact absurd h.symm hv
    | some x =>
      rw [hl] at h
      have : d < l.length := (List.getElem?_eq_some_iff.1 hl).1
      simp [this]
      exact h.symm
  · rfl
theorem eqT_sound : ∀ {t : Ty} {a b : t.den}, eqT t a b = true → a = b
  | .int _, a, b, h => by simp only [eqT, decide_eq_true_eq] at h; exact h
  | .byte, a, b, h => by simp only [eqT, decide_eq_true_eq] at h; exact h
  | .bool, a, b, h => by simp only [eqT, decide_eq_true_eq] at h; exact h
  | .str, a, b, h => by
    simp only [eqT, decide_eq_true_eq] at h
    exact ByteArray.ext (Array.toList_inj.1 h)
  | .list t, a, b, h => by
    simp only [eqT] at h
    have gen : ∀ (l l' : List t.den), eqT.eqL t l l' = true → l = l' := fun l => by
      induction l with
      | nil => intro l' h; cases l' with
        | nil => rfl
        | cons y ys => simp [eqT.eqL] at h
      | cons x xs ih => intro l' h; cases l' with
        | nil => simp [eqT.eqL] at h
        | cons y ys =>
          simp only [eqT.eqL, Bool.and_eq_true] at h
          rw [eqT_sound h.1, ih ys h.2]
    exact gen a b h
  | .unit, a, b, h => rfl
  | .pair x y, a, b, h => by
    simp only [eqT, Bool.and_eq_true] at h
    exact Prod.ext (eqT_sound h.1) (eqT_sound h.2)
theorem eqRowK_sound {a b : KRow} {c : Ck} (h : eqRowK a b = some c) (hc : c.val = true) : a.toL = b.toL := by
  unfold eqRowK at h
  split at h
  · rename_i l hl
    split at h
    · rename_i hs
      cases h
      simp only [Ck.val] at hc
      simp only [Bool.and_eq_true, beq_iff_eq] at hs
      obtain ⟨c1, _⟩ := castL_sound hl
      have := eqT_sound hc
      simp only [KRow.toL, c1, ← this, Nat.eq_of_beq_eq_true hs.1, Nat.eq_of_beq_eq_true hs.2.1, hs.2.2]
    · cases h
  · cases h
theorem eqRowsK_sound : ∀ {as bs : List KRow} {c : Ck}, eqRowsK as bs = some c → c.val = true → as.map KRow.toL = bs.map KRow.toL
  | [], [], _, _, _ => rfl
  | a :: as, b :: bs, c, h, hc => by
    simp only [eqRowsK] at h
    split at h
    · rename_i c1 c2 h1 h2
      cases h
      simp only [Ck.val, Bool.and_eq_true] at hc
      simp only [List.map_cons, eqRowK_sound h1 hc.1, eqRowsK_sound h2 hc.2]
    · cases h
  | [], _ :: _, _, h, _ => by cases h
  | _ :: _, [], _, h, _ => by cases h
theorem eqScK_sound {a b : Value} {c : Ck} (h : eqScK a b = some c) (hc : c.val = true) : a = b := by
  unfold eqScK at h
  split at h
  · cases h; simp only [Ck.val, decide_eq_true_eq] at hc; rw [hc]
  · split at h
    · rename_i hk; cases h; simp only [Ck.val, decide_eq_true_eq] at hc; rw [hc, hk]
    · cases h
  · cases h; simp only [Ck.val] at hc; have := eqT_sound (t := .str) hc; rw [this]
  · rfl
  · rfl
  · rfl
  · rfl
  · cases h
mutual
theorem eqVK_sound : ∀ (x y : KV) (c : Ck), eqVK x y = some c → c.val = true → x.toL = y.toL
  | .agg cs, y, c, h, hc => by
    cases y <;> simp only [eqVK] at h <;> first | (cases h; done) | skip
    simp only [toL, eqVsK_sound cs _ c h hc]
  | .func _ _ _, y, c, h, hc => by cases y <;> simp only [eqVK] at h <;> cases h
  | .undef, y, c, h, hc => by cases y <;> simp only [eqVK] at h <;> first | (cases h; done) | rfl
  | .nils, y, c, h, hc => by cases y <;> simp only [eqVK] at h <;> first | (cases h; done) | rfl
  | .sc a, y, c, h, hc => by
    cases y <;> simp only [eqVK] at h <;> first | (cases h; done) | simp only [toL, eqScK_sound h hc]
  | .st a, y, c, h, hc => by
    cases y <;> simp only [eqVK] at h <;> first | (cases h; done) | simp only [toL, eqScK_sound h hc]
  | .lst t l, y, c, h, hc => by
    cases y <;> simp only [eqVK] at h <;> first | (cases h; done) | skip
    split at h
    · rename_i l' hl
      cases h
      simp only [Ck.val] at hc
      have := eqT_sound hc
      simp only [toL, lstL_eq, (castL_sound hl).1, ← this]
    · cases h
  | .mref r n, y, c, h, hc => by
    cases y <;> simp only [eqVK] at h <;> first | (cases h; done) | skip
    split at h
    · rename_i hr
      cases h
      simp only [Ck.val, decide_eq_true_eq] at hc
      simp only [toL, hc, Nat.eq_of_beq_eq_true hr]
    · cases h
  | .mapr m, y, c, h, hc => by
    cases y <;> simp only [eqVK] at h <;> first | (cases h; done) | skip
    split at h
    · rename_i hr
      simp only [toL, Nat.eq_of_beq_eq_true hr]
    · cases h
  | .bptr b o, y, c, h, hc => by
    cases y <;> simp only [eqVK] at h <;> first | (cases h; done) | skip
    split at h
    · rename_i hr
      simp only [Bool.and_eq_true] at hr
      simp only [toL, Nat.eq_of_beq_eq_true hr.1, Nat.eq_of_beq_eq_true hr.2]
    · cases h
  | .mview _ _ _ _ _, y, c, h, hc => by cases y <;> simp only [eqVK] at h <;> cases h
  | .tuple _, y, c, h, hc => by cases y <;> simp only [eqVK] at h <;> cases h
  | .pptr _, y, c, h, hc => by cases y <;> simp only [eqVK] at h <;> cases h
  | .rptr _ _ _ _ _, y, c, h, hc => by cases y <;> simp only [eqVK] at h <;> cases h
theorem eqVsK_sound : ∀ (xs ys : List KV) (c : Ck), eqVK.eqVsK xs ys = some c → c.val = true → toLs xs = toLs ys
  | [], [], _, _, _ => rfl
  | x :: xs, y :: ys, c, h, hc => by
    simp only [eqVK.eqVsK] at h
    split at h
    · rename_i c1 c2 h1 h2
      cases h
      simp only [Ck.val, Bool.and_eq_true] at hc
      simp only [toLs, eqVK_sound x y c1 h1 hc.1, eqVsK_sound xs ys c2 h2 hc.2]
    · cases h
  | [], _ :: _, _, h, _ => by cases h
  | _ :: _, [], _, h, _ => by cases h
end
theorem eqBoxesK_sound : ∀ {as bs : List (List KV)} {c : Ck}, eqBoxesK as bs = some c → c.val = true → as.map toLs = bs.map toLs
  | [], [], _, _, _ => rfl
  | a :: as, b :: bs, c, h, hc => by
    simp only [eqBoxesK] at h
    split at h
    · rename_i c1 c2 h1 h2
      cases h
      simp only [Ck.val, Bool.and_eq_true] at hc
      simp only [List.map_cons, eqVsK_sound _ _ _ h1 hc.1, eqBoxesK_sound h2 hc.2]
    · cases h
  | [], _ :: _, _, h, _ => by cases h
  | _ :: _, [], _, h, _ => by cases h
theorem sameStK_sound {σ τ : KSt} {c : Ck} (h : sameStK σ τ = some c) (hc : c.val = true) : σ.toL = τ.toL := by
  unfold sameStK at h
  split at h
  · rename_i h1 h2 h3 h4
    split at h
    · rename_i c1 c2 h5 h6
      cases h
      simp only [Ck.val, Bool.and_eq_true] at hc
      simp only [KSt.toL, h1, h2, h3, h4, eqRowsK_sound h5 hc.1, eqBoxesK_sound h6 hc.2]
    · cases h
  · cases h
theorem doneK_sound {strict : Bool} {o : Oper} {e : KEnv} {σ σ0 : KSt} {v0 : KV} {k : KEnv → KSt → Option α} {x : α} (hraw : opRaw P Θ (run P Θ) o e.toL σ.toL = some (v0.toL, σ0.toL)) (hσ : StOK P σ0) (h : doneK Θ S strict o e v0 σ σ0 k = some x) :
    ∃ v σ', opEval P Θ (run P Θ) o e.toL σ.toL = some (v.toL, σ'.toL) ∧ ¬ (strict = true ∧ opClass Θ e.fn o ≤ 1 ∧ σ'.toL ≠ σ.toL) ∧ StOK P σ' ∧ k (e.put o.dst v) σ' = some x := by
  unfold doneK at h
  have key := frzResK_eq (b := Θ.frzs e.fn o.dst) (v := v0) (σ := σ0)
  generalize frzResK (Θ.frzs e.fn o.dst) v0 σ0 = q at h key
  obtain ⟨c, v, σ1⟩ := q
  simp only at h key
  obtain ⟨hc, h2⟩ := chk_some (S := S) h
  rw [forceK_eq] at h2
  obtain ⟨h3, h4⟩ := key hc
  have h5 : opEval P Θ (run P Θ) o e.toL σ.toL = some (v.toL, σ1.toL) := by
    unfold opEval
    rw [hraw]
    have hfn : e.toL.fn = e.fn := rfl
    rw [Option.map_some, hfn, h3]
  cases hf : fineK Θ strict o e v with
  | false =>
    rw [hf, cond_false] at h2
    split at h2
    · rename_i c2 hs
      obtain ⟨hc2, h6⟩ := chk_some (S := S) h2
      have := sameStK_sound hs hc2
      exact ⟨_, _, h5, fun hh => hh.2.2 this.symm, hσ.loops h4, h6⟩
    · cases h2
  | true =>
    rw [hf, cond_true] at h2
    exact ⟨_, _, h5, fineK_same hf h5, hσ.loops h4, h2⟩
theorem plainK_sound {strict : Bool} {o : Oper} {e : KEnv} {σ : KSt} {k : KEnv → KSt → Option α} {x : α} (hc : callV o = none) (hσ : StOK P σ) (h : plainK P Θ S strict o σ k e = some x) :
    ∃ v σ', opEval P Θ (run P Θ) o e.toL σ.toL = some (v.toL, σ'.toL) ∧ ¬ (strict = true ∧ opClass Θ e.fn o ≤ 1 ∧ σ'.toL ≠ σ.toL) ∧ StOK P σ' ∧ k (e.put o.dst v) σ' = some x := by
  unfold plainK at h
  split at h
  · rename_i c v σ' ho
    obtain ⟨hcc, hq⟩ := chk_some (S := S) h
    obtain ⟨h1, h2⟩ := opK_sound ho hcc
    have h4 : opRaw P Θ (run P Θ) o e.toL σ.toL = some (v.toL, σ'.toL) := by
      unfold opRaw
      rw [hc]
      simp only
      have e1 : e.toL.ev = fun y => (e.ev y).toL := funext fun y => ev_eq e y
      rw [e1]
      exact h1
    exact doneK_sound h4 (hσ.loops h2) hq
  · cases h
theorem forkIdx_sound {e : KEnv} {j : Tmp} {kd : IntKind} {n : Int} {f : KEnv → Option α} {x : α} : ∀ {m i : Nat}, forkIdx S e j kd n f m i = some x → f { e with t := e.t.set j (.st (.int kd n)) } = some x
  | 0, _, h => by cases h
  | m + 1, i, h => by
    simp only [forkIdx, FkOK.eq (S := S)] at h
    cases hd : decide (n = (i : Int)) with
    | true =>
      rw [hd, cond_true] at h
      have := of_decide_eq_true hd
      subst this
      exact h
    | false =>
      rw [hd, cond_false] at h
      exact forkIdx_sound h
theorem doK_sound (hr : Sound P Θ rec) {strict : Bool} {o : Oper} {e : KEnv} {σ : KSt} {k : KEnv → KSt → Option α} {x : α} (hσ : StOK P σ) (h : doK P Θ S rec strict o e σ k = some x) :
    ∃ (v : KV) (σ' : KSt) (e' : KEnv), e'.toL = e.toL ∧ opEval P Θ (run P Θ) o e.toL σ.toL = some (v.toL, σ'.toL) ∧ ¬ (strict = true ∧ opClass Θ e.fn o ≤ 1 ∧ σ'.toL ≠ σ.toL) ∧ StOK P σ' ∧ k (e'.put o.dst v) σ' = some x := by
  unfold doK at h
  split at h
  · rename_i f args hc
    have hT : TaskOK P (.apply (Θ.owns e.fn o.dst) (e.ev f) (args.toList.map e.ev) σ) := hσ
    obtain ⟨r, h1, ⟨h2, _⟩, h3⟩ := hr _ _ _ hT h
    have h4 : opRaw P Θ (run P Θ) o e.toL σ.toL = some (r.v.toL, r.σ.toL) := by
      unfold opRaw
      rw [hc]
      simp only
      have e1 : (args.toList.map e.toL.ev) = toLs (args.toList.map e.ev) := by
        rw [toLs_map, List.map_map]; exact List.map_congr_left fun y _ => ev_eq e y
      rw [ev_eq, e1]
      simp only [KTask.toL] at h1
      have hfn : e.toL.fn = e.fn := rfl
      rw [hfn, h1]; rfl
    obtain ⟨v, σ', k1⟩ := doneK_sound h4 h2 h3
    exact ⟨v, σ', e, rfl, k1⟩
  · rename_i hc
    split at h
    · rename_i m j hm
      split at h
      · rename_i kd n hj
        cases hb : Nat.ble m 16 with
        | false => rw [hb] at h; cases h
        | true =>
          rw [hb, cond_true] at h
          have h := forkIdx_sound h
          have he : ({ e with t := e.t.set j (.st (.int kd n)) } : KEnv).toL = e.toL := by
            simp only [KEnv.toL, toLs_map, List.map_set]
            congr 1
            have hev := ev_eq e (.tmp j)
            simp only [Env.ev, KEnv.ev, hj, toL] at hev
            simp only [KEnv.toL, toLs_map] at hev
            exact set_same hev (fun h => by cases h)
          obtain ⟨v, σ', k1, k2, k3, k4⟩ := plainK_sound hc hσ h
          rw [he] at k1
          exact ⟨v, σ', _, he, k1, k2, k3, k4⟩
      · obtain ⟨v, σ', k1⟩ := plainK_sound hc hσ h
        exact ⟨v, σ', e, rfl, k1⟩
    · obtain ⟨v, σ', k1⟩ := plainK_sound hc hσ h
      exact ⟨v, σ', e, rfl, k1⟩
theorem put_fn (e : KEnv) (d : Option Tmp) (v : KV) : (e.put d v).fn = e.fn := by cases d <;> rfl
theorem exK_sound (hr : Sound P Θ rec) {strict : Bool} {all : List Oper} : ∀ (os : List Oper) (e : KEnv) (σ : KSt) (k : KEnv → KSt → Option α) (x : α), StOK P σ → exK P Θ S rec strict all os e σ k = some x →
    ∃ e' σ', exec P Θ strict all os e.toL σ.toL = some (e'.toL, σ'.toL) ∧ e'.fn = e.fn ∧ StOK P σ' ∧ k e' σ' = some x
  | [], e, σ, k, x, hσ, h => by
    simp only [exK] at h
    exact ⟨e, σ, rfl, rfl, hσ, h⟩
  | o :: os, e, σ, k, x, hσ, h => by
    have ih := fun e σ k x => exK_sound hr (strict := strict) (all := all) os e σ k x
    have ex_cons : ∀ e σ, exec P Θ strict all (o :: os) e σ = (wantedL all o e).bind fun b => bif b then (opEval P Θ (run P Θ) o e σ).bind fun r => open Classical in if strict = true ∧ opClass Θ e.fn o ≤ 1 ∧ r.2 ≠ σ then none else exec P Θ strict all os (e.put o.dst r.1) r.2 else exec P Θ strict all os (e.put o.dst (.tuple [])) σ := fun e σ => by
      unfold exec
      simp only [execOps]
    have skip : ∀ (e0 : KEnv), exK P Θ S rec strict all os (e0.put o.dst (.tuple [])) σ k = some x → wantedL all o e0.toL = some false → ∃ e' σ', exec P Θ strict all (o :: os) e0.toL σ.toL = some (e'.toL, σ'.toL) ∧ e'.fn = e0.fn ∧ StOK P σ' ∧ k e' σ' = some x := by
      intro e0 h hw
      obtain ⟨e', σ', h1, h2, h3, h4⟩ := ih _ _ _ _ hσ h
      refine ⟨e', σ', ?_, by rw [h2, put_fn], h3, h4⟩
      rw [ex_cons, hw]
      simp only [Option.bind_some, cond_false]
      rw [← put_eq] at h1
      exact h1
    have go : ∀ (e0 : KEnv), doK P Θ S rec strict o e0 σ (fun e σ => exK P Θ S rec strict all os e σ k) = some x → wantedL all o e0.toL = some true → ∃ e' σ', exec P Θ strict all (o :: os) e0.toL σ.toL = some (e'.toL, σ'.toL) ∧ e'.fn = e0.fn ∧ StOK P σ' ∧ k e' σ' = some x := by
      intro e0 h hw
      obtain ⟨v, σ1, e1, he1, h1, h2, h3, h4⟩ := doK_sound hr hσ h
      obtain ⟨e', σ', h5, h6, h7, h8⟩ := ih _ _ _ _ h3 h4
      have hf1 : e1.fn = e0.fn := congrArg Env.fn he1
      refine ⟨e', σ', ?_, by rw [h6, put_fn, hf1], h7, h8⟩
      rw [ex_cons, hw]
      simp only [Option.bind_some, cond_true, h1]
      have h2' : ¬ (strict = true ∧ opClass Θ e0.toL.fn o ≤ 1 ∧ σ1.toL ≠ σ.toL) := h2
      rw [if_neg h2', ← he1, put_eq]
      exact h5
    simp only [exK] at h
    split at h
    · rename_i hg
      exact go e h (by simp only [wantedL, hg])
    · rename_i j want hg
      split at h
      · cases h
      · rename_i d hd
        have hev : e.toL.t.getD d .undef = (e.t.getD d .undef).toL := by
          have := ev_eq e (.tmp d)
          exact this
        split at h
        · rename_i b hb
          have hw : wantedL all o e.toL = some (b == want) := by
            simp only [wantedL, hg, hd]
            rw [hev, bool_toL hb]
          cases b with
          | true =>
            simp only at h
            cases hwt : (true == want) with
            | true => rw [hwt] at h hw; exact go e h hw
            | false => rw [hwt] at h hw; exact skip e h hw
          | false =>
            simp only at h
            cases hwt : (false == want) with
            | true => rw [hwt] at h hw; exact go e h hw
            | false => rw [hwt] at h hw; exact skip e h hw
        · rename_i b hb
          have hset : ∀ b', b' = b → ({ e with t := e.t.set d (.st (.bool b')) } : KEnv).toL = e.toL := by
            intro b' hbb
            subst hbb
            simp only [KEnv.toL, toLs_map, List.map_set]
            congr 1
            have hg2 : (e.t.map toL).getD d .undef = .sc (.bool b') := by
              rw [← toLs_map]
              exact hev.trans (bool_toL hb)
            exact set_same hg2 (by simp [toL])
          have hw : ∀ b', b' = b → wantedL all o ({ e with t := e.t.set d (.st (.bool b')) } : KEnv).toL = some (b' == want) := by
            intro b' hbb
            rw [hset b' hbb]
            simp only [wantedL, hg, hd]
            rw [hev, bool_toL hb, hbb]
          cases b with
          | true =>
            rw [fk_true] at h
            rw [← hset true rfl]
            cases hwt : (true == want) with
            | true => rw [hwt] at h; exact go _ h (by rw [hw true rfl, hwt])
            | false => rw [hwt] at h; exact skip _ h (by rw [hw true rfl, hwt])
          | false =>
            rw [fk_false] at h
            rw [← hset false rfl]
            cases hwt : (false == want) with
            | true => rw [hwt] at h; exact go _ h (by rw [hw false rfl, hwt])
            | false => rw [hwt] at h; exact skip _ h (by rw [hw false rfl, hwt])
        · split at h
          · rename_i hb
            rw [hb] at hev
            refine skip e h ?_
            simp only [wantedL, hg, hd]
            rw [hev]; rfl
          · cases h
end
end Go.Proofs.YticpcfchhcjjeaaGreat.LI
