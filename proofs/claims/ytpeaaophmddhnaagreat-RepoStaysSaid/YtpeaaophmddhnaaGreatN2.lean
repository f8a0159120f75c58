/-
  An interpreter over values is sound, part 2.
-/
import Derived.Test.YtpeaaophmddhnaaGreatN1
namespace Go.Proofs.YtpeaaophmddhnaaGreat.LI
open Go Go.RowKit
def cLb (r : Env × St) : Res := { env := r.1, σ := r.2 }
def uGa (Θ : Th) (o : Oper) (e : Env) (v : LV) : Bool :=
 match eGa o with
 | some (f, args) => match e.ev f with
  | .func (.func f) fst caps => Θ.ent f && Θ.pureF f && (cNa v || (aQa.rowsInL (fst ++ args.toList.map e.ev ++ caps)).isEmpty)
  | _ => false
 | none => match o.op with
  | .slice _ x _ _ _ => Θ.owns e.fn o.dst || (aQa (e.ev x)).isEmpty
  | .buildSlice _ _ parts => (aQa.rowsInL (parts.toList.map fun p => e.ev p.2)).isEmpty
  | _ => true
def mTb : Value → Value → Bool
 | .bool a, .bool b => a == b
 | .int k a, .int k' b => decide (k = k') && decide (a = b)
 | .string a, .string b => decide (a.data.toList = b.data.toList)
 | .pointer none, .pointer none => true
 | .nilFunc, .nilFunc => true
 | .nilIface, .nilIface => true
 | .map none, .map none => true
 | _, _ => false
def oEa : LV → LV → Bool
 | .undef, .undef => true
 | .sc u, .sc v => mTb u v
 | .nils, .nils => true
 | .slice a, .slice b => sameVL a b
 | .nslice a, .nslice b => sameVL a b
 | .agg a, .agg b => sameVL a b
 | .tuple a, .tuple b => sameVL a b
 | .mref r n, .mref r' n' => Nat.beq r r' && Nat.beq n n'
 | .bptr r n, .bptr r' n' => Nat.beq r r' && Nat.beq n n'
 | _, _ => false
where
 sameVL : List LV → List LV → Bool
 | [], [] => true
 | x :: xs, y :: ys => oEa x y && sameVL xs ys
 | _, _ => false
def uRa : List (List LV) → List (List LV) → Bool
 | [], [] => true
 | x :: xs, y :: ys => oEa.sameVL x y && uRa xs ys
 | _, _ => false
theorem kNb {u v : Value} (h : mTb u v = true) : u = v := by
 unfold mTb at h
 split at h <;> first | rfl | cases h | skip
 ·rw [eq_of_beq h]
 ·simp only [Bool.and_eq_true, decide_eq_true_eq] at h
  rw [h.1, h.2]
 ·rename_i a b
  have h := of_decide_eq_true h
  cases a; cases b
  congr 2
  exact Array.toList_inj.1 h
mutual
theorem kOb : ∀ {x y : LV}, oEa x y = true → x = y
 | .undef, y, h => by cases y <;> first | rfl | cases h
 | .sc u, y, h => by cases y <;> first | (cases h; done) | (simp only [oEa] at h; rw [kNb h])
 | .nils, y, h => by cases y <;> first | rfl | cases h
 | .slice a, y, h => by cases y <;> first | (cases h; done) | (simp only [oEa] at h; rw [hBa h])
 | .nslice a, y, h => by cases y <;> first | (cases h; done) | (simp only [oEa] at h; rw [hBa h])
 | .agg a, y, h => by cases y <;> first | (cases h; done) | (simp only [oEa] at h; rw [hBa h])
 | .tuple a, y, h => by cases y <;> first | (cases h; done) | (simp only [oEa] at h; rw [hBa h])
 | .mref r n, y, h => by cases y <;> first | (cases h; done) | (simp only [oEa, Bool.and_eq_true] at h; rw [Nat.eq_of_beq_eq_true h.1, Nat.eq_of_beq_eq_true h.2])
 | .bptr r n, y, h => by cases y <;> first | (cases h; done) | (simp only [oEa, Bool.and_eq_true] at h; rw [Nat.eq_of_beq_eq_true h.1, Nat.eq_of_beq_eq_true h.2])
 | .mview .., y, h => by cases y <;> cases h
 | .mapr .., y, h => by cases y <;> cases h
 | .pptr .., y, h => by cases y <;> cases h
 | .rptr .., y, h => by cases y <;> cases h
 | .func .., y, h => by cases y <;> cases h
theorem hBa : ∀ {x y : List LV}, oEa.sameVL x y = true → x = y
 | [], [], _ => rfl
 | x :: xs, y :: ys, h => by
  simp only [oEa.sameVL, Bool.and_eq_true] at h
  rw [kOb h.1, hBa h.2]
 | [], _ :: _, h => by cases h
 | _ :: _, [], h => by cases h
end
theorem sAa : ∀ {x y : List (List LV)}, uRa x y = true → x = y
 | [], [], _ => rfl
 | x :: xs, y :: ys, h => by
  simp only [uRa, Bool.and_eq_true] at h
  rw [hBa h.1, sAa h.2]
 | [], _ :: _, h => by cases h
 | _ :: _, [], h => by cases h
def cVb : List Row → List Row → Bool
 | [], [] => true
 | a :: as, b :: bs => ((oEa.sameVL a.xs b.xs && (decide (a.e = b.e) && decide (a.sz = b.sz))) && (a.wr == b.wr)) && cVb as bs
 | _, _ => false
theorem yRa : ∀ {x y : List Row}, cVb x y = true → x = y
 | [], [], _ => rfl
 | ⟨x, e, z, w⟩ :: xs, ⟨y, e', z', w'⟩ :: ys, h => by
  simp only [cVb, Bool.and_eq_true, decide_eq_true_eq, beq_iff_eq] at h
  obtain ⟨⟨⟨h1, h2, h3⟩, h4⟩, h5⟩ := h
  rw [hBa h1, h2, h3, h4, yRa h5]
 | [], _ :: _, h => by cases h
 | _ :: _, [], h => by cases h
def wJa (a b : St) : Bool := (uRa a.boxes b.boxes && cVb a.rows b.rows) && ((a.loops.isEmpty && b.loops.isEmpty) && (a.maps.isEmpty && b.maps.isEmpty))
theorem eNb {a b : St} (h : wJa a b = true) : a = b := by
 obtain ⟨b1, r1, l1, m1⟩ := a
 obtain ⟨b2, r2, l2, m2⟩ := b
 simp only [wJa, Bool.and_eq_true, List.isEmpty_iff] at h
 obtain ⟨⟨h1, h2⟩, ⟨rfl, rfl⟩, rfl, rfl⟩ := h
 rw [sAa h1, yRa h2]
theorem gJa {P : Program} {Θ : Th} {fn : FuncId} {dr : Dr} {all : List Oper} {o : Oper} (h : eBa P Θ fn dr all o = .keeps) : iJa Θ o = true ∧ 2 ≤ aRa Θ fn o := by
 unfold eBa at h
 split at h
 ·cases h
 ·rename_i hf
  split at h
  ·unfold mPb at h
   split at h
   ·cases hb : Nat.blt _ _ with
    | true => rw [hb] at h; cases h
    | false => rw [hb] at h; cases h
   ·cases h
  ·unfold nGb at h
   split at h <;> cases h
  ·cases h
  ·rename_i f args ats ho
   split at h
   ·rename_i hg
    refine ⟨by simp only [iJa, ho]; exact hg, ?_⟩
    have hf' : Θ.frzs fn o.dst = false := by simpa using hf
    unfold aRa
    rw [hf', cond_false]
    simp only [bUa, ho, hg, if_true]
    split <;> omega
   ·cases h
  ·split at h <;> cases h
  ·cases h
noncomputable section
variable (P : Program) (Θ : Th)
def dXb (rec : iBa → Option Res) (n : Dr) (all : List Oper) : List Oper → Env → St → Option (Env × St)
 | [], e, σ => some (e, σ)
 | o :: os, e, σ => (cDa all o e).bind fun b =>
  bif b then
   bif cBa Θ e.fn o then dXb rec n all os (e.put o.dst (.bptr (n.n + lOa Θ e.fn o all) 0)) σ
   else bif cYa (eBa P Θ e.fn n all o) o e then (bCa P Θ rec o e σ).bind fun r =>
    bif ((aRa Θ e.fn o == 0 || (Nat.ble 2 (aRa Θ e.fn o) && !iJa Θ o)) || (Nat.ble (aRa Θ e.fn o) 1 && uGa Θ o e r.1)) || ((Nat.ble 2 (aRa Θ e.fn o) && uRa (r.2.boxes.take n.n) (σ.boxes.take n.n)) || (Nat.ble (aRa Θ e.fn o) 1 && wJa r.2 σ)) then dXb rec n all os (e.put o.dst r.1) r.2 else none
   else none
  else dXb rec n all os (e.put o.dst (.tuple [])) σ
def mXb (rec : iBa → Option Res) : iBa → Option Res
 | .code (.region id ops draw) e σ => bif draw then (bif kZa P Θ e.fn ⟨σ.boxes.length, e.bx⟩ ops then (fHb P Θ e.fn ops.toList).bind fun B => (dXb P Θ rec ⟨σ.boxes.length, e.bx⟩ ops.toList ops.toList e (σ.addB B)).map fun r => kVa Θ e.fn id (cLb r) else none) else bEa P Θ rec (.code (.region id ops false) e σ)
 | t => bEa P Θ rec t
def qTb : Nat → iBa → Option Res
 | 0, _ => none
 | k + 1, t => mXb P Θ (qTb k) t
end
section
variable {P : Program} {Θ : Th}
mutual
theorem yGa {σ : St} : ∀ v : LV, cNa (bIa σ v) = true → cNa v = true
 | .sc u, _ => rfl
 | .tuple vs, h => by simp only [bIa, cNa] at h ⊢; exact nYa vs h
 | .agg cs, h => by simp only [bIa, cNa] at h ⊢; exact nYa cs h
 | .undef, h => by simp [bIa, cNa] at h
 | .nils, h => by simp [bIa, cNa] at h
 | .slice _, h => by simp [bIa, cNa] at h
 | .nslice _, h => by simp [bIa, cNa] at h
 | .mref r n, h => by
  simp only [bIa] at h
  split at h
  ·split at h <;> simp [cNa] at h
  ·simp [cNa] at h
 | .mview r n lo hi sz, h => by
  simp only [bIa] at h
  split at h
  ·split at h <;> simp [cNa] at h
  ·simp [cNa] at h
 | .mapr _, h => by simp [bIa, cNa] at h
 | .bptr _ _, h => by simp [bIa, cNa] at h
 | .pptr _, h => by simp [bIa, cNa] at h
 | .rptr _ _ _ _ _, h => by simp [bIa, cNa] at h
 | .func _ _ _, h => by simp [bIa, cNa] at h
theorem nYa {σ : St} : ∀ vs : List LV, cNa.noMemL (bIa.frzL σ vs) = true → cNa.noMemL vs = true
 | [], _ => rfl
 | x :: xs, h => by
  simp only [bIa.frzL, cNa.noMemL, Bool.and_eq_true] at h ⊢
  exact ⟨yGa x h.1, nYa xs h.2⟩
end
theorem lCa (own : Bool) (f : FuncId) (fst caps args : List LV) (σ : St) (h1 : Θ.ent f = true) (h2 : Θ.pureF f = true) :
  run P Θ (.apply own (.func (.func f) fst caps) args σ) = (run P Θ (.call f (bIa.frzL σ (fst ++ args ++ caps)))).map fun r =>
   { v := (eUa own r.v r.σ.rows σ (aQa.rowsInL (fst ++ args ++ caps))).1, σ := (eUa own r.v r.σ.rows σ (aQa.rowsInL (fst ++ args ++ caps))).2 } := by
 rw [aUa]; simp [bEa, h1, h2]
theorem uHa {o : Oper} {e : Env} {σ : St} {r : LV × St} (hp : cBa Θ e.fn o = false) (hc : aRa Θ e.fn o ≤ 1) (hl : uGa Θ o e r.1 = true) (h : bCa P Θ (run P Θ) o e σ = some r) : r.2 = σ := by
 obtain ⟨hfr, hcr⟩ := jJa (Θ := Θ) (o := o) (fn := e.fn) (by omega)
 rw [← hcr] at hc
 rw [fGa hfr] at h
 unfold eQa at h
 unfold uGa at hl
 cases hv : eGa o with
 | some p =>
  obtain ⟨f, args⟩ := p
  rw [hv] at h hl
  simp only at h hl
  have hown : Θ.owns e.fn o.dst = false := by
   unfold eGa at hv
   split at hv
   ·rename_i f' a' t' ho
    simp only [bUa, ho] at hc
    cases hb : Θ.owns e.fn o.dst with
    | false => rfl
    | true => rw [hb] at hc; simp at hc
   ·cases hv
  rw [hown] at h
  split at hl
  ·rename_i f' fst caps he
   simp only [Bool.and_eq_true, Bool.or_eq_true, List.isEmpty_iff] at hl
   rw [he, lCa _ f' fst caps _ σ hl.1.1 hl.1.2] at h
   simp only [Option.map_map, Option.map_eq_some_iff] at h
   obtain ⟨a, _, rfl⟩ := h
   have hl := hl.2
   simp only [Function.comp, eUa] at hl ⊢
   split
   ·rfl
   ·rename_i hn
    rw [if_neg hn] at hl
    simp only [gBa, Bool.false_eq_true, if_false] at hl ⊢
    rcases hl with hl | hl
    ·exact absurd (yGa _ hl) hn
    ·rw [hl]; rfl
  ·cases hl
 | none =>
  rw [hv] at h hl
  simp only at h hl
  by_cases h0 : bUa Θ e.fn o = 0
  ·have h' : bCa P Θ (run P Θ) o e σ = some (r.1, r.2) := by
    rw [fGa hfr]
    unfold eQa
    rw [hv]
    exact h
   exact (class0 hp (by rw [← hcr]; exact h0) h').1
  ·by_cases hbs : ∃ t n ps, o.op = .buildSlice t n ps
   ·obtain ⟨t, n, ps, ho⟩ := hbs
    have hown : Θ.owns e.fn o.dst = false := by
     cases hb : Θ.owns e.fn o.dst with
     | false => rfl
     | true => simp [bUa, ho, hb] at hc
    rw [hown] at h
    simp only [ho, List.isEmpty_iff] at hl
    simp only [aDa, ho, Bool.false_and, cond_false, Option.bind_eq_some_iff] at h
    obtain ⟨_, _, _, _, _, _, h⟩ := h
    split at h
    ·cases h; rfl
    ·split at h
     ·cases h; simp only [aGb, hl, gVa]
     ·cases h
   by_cases hap : ∃ args ats, o.op = .call { callee := .builtin .append, args, argTypes := ats }
   ·obtain ⟨args, ats, ho⟩ := hap
    have hown : Θ.owns e.fn o.dst = true := by
     cases hb : Θ.owns e.fn o.dst with
     | true => rfl
     | false => simp [bUa, ho, hb] at hc
    rw [hown] at h
    simp only [aDa, ho, rEa, Bool.and_self, cond_true] at h
    unfold cZa at h
    split at h
    ·simp only [Option.bind_eq_some_iff] at h
     obtain ⟨_, _, _, _, _, _, _, _, _, _, h⟩ := h
     split at h
     ·cases h; rfl
     ·cases h
    ·cases h
   unfold bUa at hc h0
   split at hc
   all_goals (rename_i ho; simp only [aDa, ho, rEa, Bool.and_false, cond_false] at h hl h0)
   all_goals first
    | exact absurd rfl h0
    | exact absurd trivial h0
    | exact absurd ⟨_, _, _, ‹o.op = .buildSlice _ _ _›⟩ hbs
    | exact absurd ⟨_, _, ‹o.op = .call { callee := .builtin .append, args := _, argTypes := _ }›⟩ hap
    | (exfalso; omega)
    | (exfalso; split at hc <;> simp_all <;> omega)
    | skip
   all_goals (try (simp only [Option.bind_eq_bind] at h))
   all_goals (try (unfold aTa at h))
   all_goals (try (simp only [List.isEmpty_iff] at hl; simp only [aGb, hl, gVa] at h))
   all_goals (repeat' first
    | split at h
    | (simp only [Option.map_eq_some_iff] at h; obtain ⟨_, _, h⟩ := h)
    | (simp only [Option.bind_eq_some_iff] at h; obtain ⟨_, _, h⟩ := h)
    | (simp only [Option.some.injEq] at h; subst h; rfl)
    | (simp only [reduceCtorEq] at h; done)
    | (subst h; rfl)
    | (obtain ⟨_, _, h⟩ := h)
    | (simp only [List.isEmpty_iff] at hl; simp only [hl, gVa]; done)
    | (rename_i hb _ _; cases hb; done)
    | (exfalso; simp_all; done)
    | (simp only [Option.some.injEq] at h; subst h; simp only [List.isEmpty_iff] at hl; simp only [hl, gVa])
    | (simp_all [gVa]; done))
theorem kGa {rec : iBa → Option Res} (hr : ∀ t r, rec t = some r → run P Θ t = some r) (n : Dr) (all : List Oper) : ∀ (os : List Oper) (e : Env) (σ : St) (r : Env × St), dXb P Θ rec n all os e σ = some r → exec P Θ (some n) all os e σ = some r
 | [], e, σ, r, h => h
 | o :: os, e, σ, r, h => by
  unfold exec
  simp only [dXb, bHa] at h ⊢
  obtain ⟨b, h1, h⟩ := Option.bind_eq_some_iff.1 h
  rw [h1]
  simp only [Option.bind_some]
  cases b with
  | false => exact kGa hr n all os _ _ _ h
  | true =>
   simp only [cond_true] at h ⊢
   cases hp : cBa Θ e.fn o with
   | true =>
    rw [hp, cond_true] at h
    rw [nBa hp]
    simp only [Option.bind_some]
    rw [if_pos (fun _ _ => dEa _ _ _ _ _)]
    exact kGa hr n all os _ _ _ h
   | false =>
   rw [hp, cond_false] at h
   cases hfit : cYa (eBa P Θ e.fn n all o) o e with
   | false => rw [hfit, cond_false] at h; cases h
   | true =>
   rw [hfit, cond_true] at h
   rw [kJa hp hfit]
   obtain ⟨q, h2, h⟩ := Option.bind_eq_some_iff.1 h
   have h2' : bCa P Θ (run P Θ) o e σ = some q := by
    unfold bCa at h2 ⊢
    obtain ⟨q0, h2, hq0⟩ := Option.map_eq_some_iff.1 h2
    have h3 : eQa P Θ (run P Θ) o e σ = some q0 := by
     unfold eQa at h2 ⊢
     split
     ·rename_i hc
      rw [hc] at h2
      obtain ⟨a, ha, hq⟩ := Option.map_eq_some_iff.1 h2
      rw [hr _ _ ha, ← hq]; rfl
     ·rename_i hc
      rw [hc] at h2; exact h2
    rw [h3, ← hq0]; rfl
   rw [h2']
   simp only [Option.bind_some]
   cases hb : (((aRa Θ e.fn o == 0 || (Nat.ble 2 (aRa Θ e.fn o) && !iJa Θ o)) || (Nat.ble (aRa Θ e.fn o) 1 && uGa Θ o e q.1)) || ((Nat.ble 2 (aRa Θ e.fn o) && uRa (q.2.boxes.take n.n) (σ.boxes.take n.n)) || (Nat.ble (aRa Θ e.fn o) 1 && wJa q.2 σ))) with
   | false => rw [hb] at h; cases h
   | true =>
    rw [hb, cond_true] at h
    rw [if_pos]
    ·exact kGa hr n all os _ _ _ h
    ·intro dr hdr
     cases hdr
     simp only [Bool.or_eq_true, Bool.and_eq_true, Bool.not_eq_true', beq_iff_eq, Nat.ble_eq] at hb
     rcases hb with ((hb | ⟨hb, hg⟩) | ⟨hc, hb⟩) | (⟨hb, hs⟩ | ⟨hc, hs⟩)
     ·exact ⟨fun _ => (class0 hp hb (lv := q.1) (σ' := q.2) h2').1, fun hk => by have := (gJa hk).2; omega⟩
     ·exact ⟨fun _ => by omega, fun hk => by rw [(gJa hk).1] at hg; cases hg⟩
     ·exact ⟨fun _ => uHa hp hc hb h2', fun hk => by have := (gJa hk).2; omega⟩
     ·exact ⟨fun _ => by omega, fun _ => sAa hs⟩
     ·rw [eNb hs]; exact dEa _ _ _ _ _
theorem eTb {rec : iBa → Option Res} (hr : ∀ t r, rec t = some r → run P Θ t = some r) {t : iBa} {r : Res} (h : mXb P Θ rec t = some r) : run P Θ t = some r := by
 have gen : bEa P Θ rec t = some r → run P Θ t = some r := fun h => by
  rw [aUa]
  obtain ⟨L, a, b⟩ := nIa t _ r h
  exact b _ fun p hp => hr _ _ (a p hp)
 cases t with
 | code c e σ =>
  cases c with
  | region id ops draw =>
   cases draw with
   | false => exact gen h
   | true =>
    simp only [mXb, cond_true] at h
    cases hd : kZa P Θ e.fn ⟨σ.boxes.length, e.bx⟩ ops with
    | false => rw [hd] at h; cases h
    | true =>
     rw [hd, cond_true] at h
     obtain ⟨B, hB, h⟩ := Option.bind_eq_some_iff.1 h
     obtain ⟨q, h1, rfl⟩ := Option.map_eq_some_iff.1 h
     have h2 := kGa hr _ _ _ _ _ _ h1
     unfold exec at h2
     rw [aUa]
     simp only [bEa, iPa, hd, if_true, hB, Option.bind_some, h2]
     rfl
  | _ => exact gen h
 | _ => exact gen h
theorem kIb : ∀ (k : Nat) (t : iBa) (r : Res), qTb P Θ k t = some r → run P Θ t = some r
 | 0, _, _, h => by cases h
 | k + 1, t, r, h => eTb (kIb k) h
end
end Go.Proofs.YtpeaaophmddhnaaGreat.LI
