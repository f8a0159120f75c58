/-
  An interpreter over values is sound, part 9.
-/
import Derived.Test.YtpeaaophmddhnaaGreatN8
namespace Go.Proofs.YtpeaaophmddhnaaGreat.LI
open Go Go.RowKit
set_option linter.unusedSimpArgs false
set_option linter.unusedVariables false
open KV (toL)
open KV.toL (toLs)
theorem vPa {S : Cs} [hF : FkOK S] {α : Type} (x y : Option α) : S.fk true x y = x := hF.eq true x y
theorem pLa {S : Cs} [hF : FkOK S] {α : Type} (x y : Option α) : S.fk false x y = y := hF.eq false x y
theorem bTa {S : Cs} [FkOK S] {α : Type} : ∀ {c : Ck} {x : Option α} {r : α}, chk S c x = some r → c.val = true ∧ x = some r
 | .ok, _, _, h => ⟨rfl, h⟩
 | .is b, _, _, h => by
  simp only [chk] at h
  cases b with
  | true => rw [vPa] at h; exact ⟨rfl, h⟩
  | false => rw [pLa] at h; cases h
 | .and a b, _, _, h => by
  simp only [chk] at h
  obtain ⟨h1, h2⟩ := bTa h
  obtain ⟨h3, h4⟩ := bTa h2
  exact ⟨by simp only [Ck.val, h1, h3, Bool.and_self], h4⟩
mutual
theorem tKa (n : Sz) : ∀ (v : LV), aAa v = true → below n v = true
 | .undef, _ => rfl
 | .sc _, _ => rfl
 | .nils, _ => rfl
 | .slice es, h => by simp only [aAa] at h; simp only [below, bXa n es h]
 | .nslice es, h => by simp only [aAa] at h; simp only [below, bXa n es h]
 | .mref _ _, h => by cases h
 | .mview _ _ _ _ _, h => by cases h
 | .mapr _, h => by cases h
 | .agg cs, h => by simp only [aAa] at h; simp only [below, bXa n cs h]
 | .tuple cs, h => by simp only [aAa] at h; simp only [below, bXa n cs h]
 | .bptr _ _, h => by cases h
 | .pptr cs, h => by simp only [aAa] at h; simp only [below, bXa n cs h]
 | .rptr _ _ _ _ _, h => by cases h
 | .func fn fst caps, h => by
  simp only [aAa, Bool.and_eq_true] at h
  simp only [below, bXa n fst h.1.2, bXa n caps h.2, Bool.and_true]
  have h1 := h.1.1
  cases fn <;> first | rfl | (simp at h1)
theorem bXa (n : Sz) : ∀ (vs : List LV), aAa.refFreeL vs = true → below.belowL n vs = true
 | [], _ => rfl
 | v :: vs, h => by
  simp only [aAa.refFreeL, Bool.and_eq_true] at h
  simp only [below.belowL, tKa n v h.1, bXa n vs h.2, Bool.and_self]
end
theorem fEa (t : Ty) : ∀ l : List t.den, aAa.refFreeL (l.map (eEa t)) = true
 | [] => rfl
 | x :: l => by simp only [List.map_cons, aAa.refFreeL, gIb, fEa t l, Bool.and_self]
theorem tLa (a b : Nat) : decide (a < b) = Nat.blt a b := by
 cases h : Nat.blt a b with
 | true => exact decide_eq_true (by have := Nat.le_of_ble_eq_true (show Nat.ble (a + 1) b = true from h); omega)
 | false => exact decide_eq_false (fun hlt => by
   have : Nat.blt a b = true := Nat.ble_eq_true_of_le (show a + 1 ≤ b from hlt)
   rw [this] at h; cases h)
mutual
theorem fXb (n : Sz) : ∀ (v : KV), below n v.toL = iWa n v
 | .undef => rfl
 | .sc _ => rfl
 | .st _ => rfl
 | .nils => rfl
 | .lst t l => tKa n _ (rJa t l)
 | .mref r _ => tLa _ _
 | .mview r _ _ _ _ => tLa _ _
 | .mapr _ => tLa _ _
 | .agg cs => by simp only [toL, below, iWa, dTa n cs]
 | .tuple cs => by simp only [toL, below, iWa, dTa n cs]
 | .bptr _ _ => tLa _ _
 | .pptr cs => by simp only [toL, below, iWa, dTa n cs]
 | .vec cs => by simp only [toL, below, iWa, dTa n cs]
 | .rptr _ _ _ _ _ => tLa _ _
 | .func fn fst caps => by simp only [toL, below, iWa, dTa n fst, dTa n caps]; cases fn <;> first | rfl | (simp only [tLa])
theorem dTa (n : Sz) : ∀ (vs : List KV), below.belowL n (toLs vs) = iWa.belowKL n vs
 | [] => rfl
 | v :: vs => by simp only [toLs, below.belowL, iWa.belowKL, fXb n v, dTa n vs]
end
mutual
theorem kHb : ∀ (v : KV), lBa v.toL = tCa v
 | .undef | .sc _ | .st _ | .nils | .lst _ _ | .mref _ _ | .mview _ _ _ _ _ | .mapr _ | .bptr _ _ | .pptr _ | .vec _ | .rptr _ _ _ _ _ => rfl
 | .agg cs => by simp only [toL, lBa, tCa, gZa cs]
 | .tuple cs => by simp only [toL, lBa, tCa, gZa cs]
 | .func fn fst caps => by simp only [toL, lBa, tCa, gZa fst, gZa caps]
theorem gZa : ∀ (vs : List KV), lBa.refsInL (toLs vs) = tCa.refsKL vs
 | [] => rfl
 | v :: vs => by simp only [toLs, lBa.refsInL, tCa.refsKL, kHb v, gZa vs]
end
mutual
theorem mQb (K : List Nat) : ∀ (v : KV), iRa K v.toL = (pOa K v).map toL
 | .undef | .sc _ | .st _ | .nils | .mapr _ | .bptr _ _ => rfl
 | .lst t l => by
  have h := rJa t l
  simp only [kBb, aAa] at h
  simp only [toL, kBb, iRa, pOa, h, if_true, Option.map_some]
 | .mref r n => by simp only [toL, iRa, pOa]; cases pEa r K 0 <;> rfl
 | .mview r _ _ _ _ => by simp only [toL, iRa, pOa]; cases pEa r K 0 <;> rfl
 | .rptr r _ _ _ _ => by simp only [toL, iRa, pOa]; cases pEa r K 0 <;> rfl
 | .pptr cs => by
  simp only [toL, iRa, pOa, cHa]
  cases fAa.freeKL cs <;> rfl
 | .vec cs => by
  simp only [toL, iRa, pOa, cHa]
  cases fAa.freeKL cs <;> rfl
 | .agg cs => by
  simp only [toL, iRa, pOa, iQa K cs]
  cases pOa.renKL K cs <;> rfl
 | .tuple cs => by
  simp only [toL, iRa, pOa, iQa K cs]
  cases pOa.renKL K cs <;> rfl
 | .func fn fst caps => by
  simp only [toL, iRa, pOa, iQa K fst, iQa K caps]
  cases pOa.renKL K fst <;> cases pOa.renKL K caps <;> rfl
theorem iQa (K : List Nat) : ∀ (vs : List KV), iRa.renL K (toLs vs) = (pOa.renKL K vs).map toLs
 | [] => rfl
 | v :: vs => by
  simp only [toLs, iRa.renL, pOa.renKL, mQb K v, iQa K vs]
  cases pOa K v <;> cases pOa.renKL K vs <;> rfl
end
theorem cRb (K : List Nat) : ∀ (bs : List (List KV)), lHb K (bs.map toLs) = (aPb K bs).map (List.map toLs)
 | [] => rfl
 | v :: vs => by
  simp only [List.map_cons, lHb, aPb, iQa K v, cRb K vs]
  cases pOa.renKL K v <;> cases aPb K vs <;> rfl
theorem kAb (t : List KV) (σ : KSt) : aFb (toLs t) σ.toL = pCa t σ := by
 have h : (σ.boxes.map toLs).flatMap lBa.refsInL = σ.boxes.flatMap tCa.refsKL := by
  simp only [List.flatMap_map, gZa]
 simp only [aFb, pCa, gZa, KSt.toL, List.length_map, h]
theorem oNb (e : bNa) (σ : KSt) : gcS e.toL σ.toL = ((gcK e σ).1.toL, (gcK e σ).2.toL) := by
 have h1 : σ.toL.loops.isEmpty = σ.loops.isEmpty := by simp [KSt.toL]
 have h2 : σ.toL.maps.isEmpty = σ.maps.isEmpty := by simp [KSt.toL]
 have h3 : σ.toL.rows.all (fun r => aAa.refFreeL r.xs) = true := by
  rw [List.all_eq_true]
  intro r hr
  simp only [KSt.toL, List.mem_map] at hr
  obtain ⟨r0, _, rfl⟩ := hr
  exact fEa _ _
 have h4 : aFb e.toL.t σ.toL = pCa e.t σ := kAb e.t σ
 have h5 : iRa.renL (pCa e.t σ) e.toL.t = (pOa.renKL (pCa e.t σ) e.t).map toLs := iQa _ _
 have h6 : lHb (pCa e.t σ) σ.toL.boxes = (aPb (pCa e.t σ) σ.boxes).map (List.map toLs) := cRb _ _
 unfold gcS gcK
 rw [h1, h2, h3, h4, h5, h6, Bool.and_true]
 cases (σ.loops.isEmpty && σ.maps.isEmpty) with
 | false => rfl
 | true =>
  simp only [cond_true]
  cases pOa.renKL (pCa e.t σ) e.t with
  | none => rfl
  | some t =>
   cases aPb (pCa e.t σ) σ.boxes with
   | none => rfl
   | some B =>
    simp only [Option.map_some, bNa.toL, KSt.toL]
    congr 2
    simp only [List.getElem?_map, List.map_filterMap]
theorem aCb (σ : KSt) : σ.toL.isEmpty = σ.isEmpty := by simp [KSt.toL, St.isEmpty, KSt.isEmpty]
theorem iVb (σ : KSt) : σ.toL.sz = σ.sz := by simp only [St.sz, KSt.sz, KSt.toL, List.length_map]
theorem nLa (n : Sz) (vs : List KV) (σ : KSt) : trim n (toLs vs) σ.toL = (kUa n vs σ).toL := by
 unfold trim kUa
 have e1 : σ.toL.boxes.length = σ.boxes.length := by simp [KSt.toL]
 have e2 : σ.toL.rows.length = σ.rows.length := by simp [KSt.toL]
 have e3 : σ.toL.loops.length = σ.loops.length := by simp [KSt.toL]
 have e4 : σ.toL.maps.length = σ.maps.length := by simp [KSt.toL]
 rw [e1, e2, e3, e4]
 split
 ·rfl
 ·have : sMa n (toLs vs) σ.toL = bKb n vs σ := by
   unfold sMa bKb
   have r1 : (σ.toL.rows.take n.nr).all (fun r => below.belowL n r.xs) = true := by
    rw [List.all_eq_true]
    intro r hr
    have := List.mem_of_mem_take hr
    simp only [KSt.toL, List.mem_map] at this
    obtain ⟨r0, _, rfl⟩ := this
    exact bXa _ _ (fEa _ _)
   have r2 : (σ.toL.maps.take n.nm).all (fun q => below.belowL n q.ks && below.belowL n q.vs) = true := by
    rw [List.all_eq_true]
    intro r hr
    have := List.mem_of_mem_take hr
    simp only [KSt.toL, List.mem_map] at this
    obtain ⟨r0, _, rfl⟩ := this
    have k1 := fEa r0.kt (r0.l.map (·.1))
    have k2 := fEa r0.vt (r0.l.map (·.2))
    simp only [List.map_map] at k1 k2
    rw [Bool.and_eq_true]
    exact ⟨bXa _ _ k1, bXa _ _ k2⟩
   rw [r1, r2, Bool.and_true, Bool.and_true, dTa]
   simp only [KSt.toL, ← List.map_take, List.all_map, Function.comp_def, dTa, hJa.toL, bNa.toL]
  rw [this]
  split
  ·simp only [KSt.toL, List.map_take]
  ·rfl
theorem jVa (σ : KSt) (l : Nat) {f : cOa → cOa} {g : hJa → hJa} (h : ∀ q, f q.toL = (g q).toL) : eXa σ.toL l f = (dRa σ l g).toL := by
 unfold eXa dRa
 have e : σ.toL.loops[l]? = (σ.loops[l]?).map hJa.toL := by simp only [KSt.toL, List.getElem?_map]
 rw [e]
 cases σ.loops[l]? with
 | none => rfl
 | some q => simp only [Option.map_some, h, KSt.toL, List.map_set]
theorem aEb (σ : KSt) (l : Nat) : rFa σ.toL l = pMa σ l := by
 unfold rFa pMa
 have e : σ.toL.loops[l]? = (σ.loops[l]?).map hJa.toL := by simp only [KSt.toL, List.getElem?_map]
 rw [e]
 cases σ.loops[l]? <;> rfl
theorem lYb (σ : KSt) (e : bNa) (τ : KSt) : gRb σ.toL e.toL τ.toL = (lXb σ e τ).toL := by
 unfold gRb lXb
 have e3 : σ.toL.loops.length = σ.loops.length := by simp [KSt.toL]
 rw [e3, iVb, jVa τ σ.loops.length (g := fun q => { q with state := .exhausted }) (fun q => rfl)]
 exact nLa _ _ _
theorem mWa : ∀ (m : List Bool) (t : List KV), eIa m (toLs t) = toLs (hOa m t)
 | true :: m, v :: t => by simp only [toLs, eIa, hOa, mWa m t]
 | false :: m, v :: t => by simp only [toLs, eIa, hOa, mWa m t, toL]
 | [], v :: t => by simp only [toLs, eIa, hOa, mWa [] t, toL]
 | [], [] => rfl
 | _ :: _, [] => by simp only [toLs, eIa, hOa]
theorem eNa : ∀ (m : List Bool) (t : List KV), hOa m t = aOa m t.length (cGa m t)
 | true :: m, v :: t => by simp only [hOa, cGa, List.length_cons, aOa, eNa m t]
 | false :: m, v :: t => by simp only [hOa, cGa, List.length_cons, aOa, eNa m t]
 | [], v :: t => by
  have := eNa [] t
  have e : cGa [] (v :: t) = [] := by simp [cGa]
  have e' : cGa [] t = [] := by simp [cGa]
  rw [e'] at this
  rw [e]; simp only [hOa, List.length_cons, aOa, this]
 | [], [] => by simp [hOa, aOa]
 | _ :: _, [] => by simp [hOa, aOa]
section
variable {P : Program} {Θ : Th} {S : Cs} [FkOK S]
theorem gCa (k : Option Nat) (e : bNa) : iZa Θ k e.toL = (fIa Θ k e).toL := by
 simp only [iZa, fIa, bNa.toL, mWa]
def bSa (P : Program) (f : FuncId) (c : Code) : Prop := (∀ a ∈ aGa c, a ∈ aGa (aWa P f)) ∧ ∀ a ∈ aFa c, a ∈ aFa (aWa P f)
def cEa (P : Program) (σ : KSt) : Prop := ∀ lr ∈ σ.loops, (bSa P lr.env.fn lr.assign ∧ bSa P lr.env.fn lr.body) ∧ (lr.params, lr.assign, lr.body) ∈ aFa (aWa P lr.env.fn)
theorem bSa.seq {f : FuncId} {a b : Code} (h : bSa P f (.seq a b)) : bSa P f a ∧ bSa P f b :=
 ⟨⟨fun y hy => h.1 y (by simp [aGa, hy]), fun y hy => h.2 y (by simp [aFa, hy])⟩, ⟨fun y hy => h.1 y (by simp [aGa, hy]), fun y hy => h.2 y (by simp [aFa, hy])⟩⟩
theorem bSa.cond {f : FuncId} {c : Operand} {a b : Code} (h : bSa P f (.cond c a b)) : bSa P f a ∧ bSa P f b :=
 ⟨⟨fun y hy => h.1 y (by simp [aGa, hy]), fun y hy => h.2 y (by simp [aFa, hy])⟩, ⟨fun y hy => h.1 y (by simp [aGa, hy]), fun y hy => h.2 y (by simp [aFa, hy])⟩⟩
theorem bSa.block {f : FuncId} {id : Nat} {a : Code} (h : bSa P f (.block id a)) : bSa P f a :=
 ⟨fun y hy => h.1 y (by simp [aGa, hy]), fun y hy => h.2 y (by simp [aFa, hy])⟩
theorem bSa.scope {f : FuncId} {a : Code} (h : bSa P f (.scope a)) : bSa P f a :=
 ⟨fun y hy => h.1 y (by simp [aGa, hy]), fun y hy => h.2 y (by simp [aFa, hy])⟩
theorem bSa.loop {f : FuncId} {a : Code} (h : bSa P f (.loop a)) : bSa P f a :=
 ⟨fun y hy => h.1 y (by simp [aGa, hy]), fun y hy => h.2 y (by simp [aFa, hy])⟩
theorem bSa.range {f : FuncId} {o : Operand} {ps : Array Tmp} {a b : Code} (h : bSa P f (.rangeFunc o ps a b)) : (bSa P f a ∧ bSa P f b) ∧ (ps.toList, a, b) ∈ aFa (aWa P f) :=
 ⟨⟨⟨fun y hy => h.1 y (by simp [aGa, hy]), fun y hy => h.2 y (by simp [aFa, hy])⟩, ⟨fun y hy => h.1 y (by simp [aGa, hy]), fun y hy => h.2 y (by simp [aFa, hy])⟩⟩, h.2 _ (by simp [aFa])⟩
theorem cEa.loops {σ σ' : KSt} (h : cEa P σ) (e : σ'.loops = σ.loops) : cEa P σ' := by unfold cEa at *; rw [e]; exact h
theorem cEa.trim {σ : KSt} {n : Sz} {vs : List KV} (h : cEa P σ) : cEa P (kUa n vs σ) := by
 unfold kUa
 split
 ·exact h
 ·split
  ·exact fun lr hl => h lr (List.mem_of_mem_take hl)
  ·exact h
theorem cEa.set {σ : KSt} {l : Nat} {g : hJa → hJa} (h : cEa P σ) (hg : ∀ q, (g q).env = q.env ∧ (g q).params = q.params ∧ (g q).assign = q.assign ∧ (g q).body = q.body) : cEa P (dRa σ l g) := by
 intro lr hl
 unfold dRa at hl
 simp only at hl
 split at hl
 ·rename_i q hq
  rcases List.mem_or_eq_of_mem_set hl with hl | rfl
  ·exact h lr hl
  ·obtain ⟨h1, h2, h3, h4⟩ := hg q
   rw [h1, h2, h3, h4]
   exact h q (List.mem_of_getElem? hq)
 ·exact h lr hl
theorem cEa.gc {σ : KSt} {e : bNa} (h : cEa P σ) : cEa P (gcK e σ).2 := by
 unfold gcK
 cases (σ.loops.isEmpty && σ.maps.isEmpty) with
 | false => exact h
 | true =>
  rw [cond_true]
  split
  ·exact h.loops rfl
  ·exact h
theorem cEa.end {σ τ : KSt} {e : bNa} (h : cEa P τ) : cEa P (lXb σ e τ) := cEa.trim (cEa.set h fun q => ⟨rfl, rfl, rfl, rfl⟩)
theorem cEa.frz {σ : KSt} {rs : List Nat} (h : cEa P σ) : cEa P (hMa σ rs) := h.loops (bYa rs σ)
theorem cEa.nil : cEa P {} := fun _ h => by cases h
structure sSa (P : Program) (Θ : Th) (S : Cs) : Prop where
 bt : ∀ f p args b y, S.bt f = some p → p args = some b → b.c.val = true → b.x = some y → run P Θ (.call f (toLs args)) = some ⟨.normal, (b.e y).1.toL, default, { rows := (b.e y).2.map aYa.toL }⟩
 bl : ∀ f key p vs σ b y, S.bl f key = some p → p vs σ = some b → b.c.val = true → b.x = some y → ∀ a ∈ aGa (aWa P f), aCa a = key → cEa P σ →
  (∀ {γ : Type} (k : Ex → List KV → KSt → Option γ), b.e S.sm y k = k (b.pick y).1 (b.pick y).2.1 (b.pick y).2.2) ∧
  run P Θ (.code (.loop a) ⟨f, toLs (aOa (Θ.keep f key) (ntm P f) vs)⟩ σ.toL) = (if (b.pick y).1 = .normal then run P Θ (.code (.loop a) ⟨f, toLs (aOa (Θ.keep f key) (ntm P f) (b.pick y).2.1)⟩ (b.pick y).2.2.toL) else some ⟨(b.pick y).1, .undef, ⟨f, toLs (aOa (Θ.keep f key) (ntm P f) (b.pick y).2.1)⟩, (b.pick y).2.2.toL⟩) ∧ cEa P (b.pick y).2.2
 ct : ∀ f p args c v rows, S.ct f = some p → p args = some (c, v, rows) → c.val = true → run P Θ (.call f (toLs args)) = some ⟨.normal, v.toL, default, { rows := rows.map aYa.toL }⟩
 xt : ∀ f p args c v, S.xt f = some p → p args = some (c, v) → c.val = true → Θ.ent f = false ∧ ∃ q, Θ.ext f = some q ∧ q (toLs args) = some v.toL ∧ fAa v = true
 st : ∀ f p args σ c v σ', S.st f = some p → p args σ = some (c, v, σ') → c.val = true → (∃ q, Θ.extS f = some q ∧ q (toLs args) σ.toL = some (v.toL, σ'.toL)) ∧ σ'.loops = σ.loops
 lt : ∀ f key p vs σ c o, S.lt f key = some p → p vs σ = some (c, o) → c.val = true → ∀ a ∈ aGa (aWa P f), aCa a = key → cEa P σ →
  run P Θ (.code (.loop a) ⟨f, toLs (aOa (Θ.keep f key) (ntm P f) vs)⟩ σ.toL) = (if o.pick.1 = .normal then run P Θ (.code (.loop a) ⟨f, toLs (aOa (Θ.keep f key) (ntm P f) o.pick.2.1)⟩ o.pick.2.2.toL) else some ⟨o.pick.1, .undef, ⟨f, toLs (aOa (Θ.keep f key) (ntm P f) o.pick.2.1)⟩, o.pick.2.2.toL⟩) ∧ cEa P o.pick.2.2
def eKa (P : Program) : sTa → Prop
 | .call _ _ => True
 | .callS _ _ σ => cEa P σ
 | .apply _ _ _ σ => cEa P σ
 | .code c e σ => bSa P e.fn c ∧ cEa P σ
def nSb (P : Program) (t : sTa) (r : dXa) : Prop := cEa P r.σ ∧ match t with
 | .code _ e _ => r.env.fn = e.fn
 | _ => True
def kTa (P : Program) (Θ : Th) {α : Type} (rec : Rec α) : Prop := ∀ t k x, eKa P t → rec t k = some x → ∃ r : dXa, run P Θ t.toL = some r.toL ∧ nSb P t r ∧ k r = some x
mutual
theorem rMa : ∀ v : KV, cNa v.toL = mZa v
 | .undef => rfl
 | .sc _ => rfl
 | .st _ => rfl
 | .nils => rfl
 | .lst _ _ => rfl
 | .mref _ _ => rfl
 | .mview _ _ _ _ _ => rfl
 | .mapr _ => rfl
 | .agg cs => by simp only [toL, cNa, mZa, nXa cs]
 | .tuple cs => by simp only [toL, cNa, mZa, nXa cs]
 | .bptr _ _ => rfl
 | .pptr _ => rfl
 | .vec _ => rfl
 | .rptr _ _ _ _ _ => rfl
 | .func _ _ _ => rfl
theorem nXa : ∀ vs : List KV, cNa.noMemL (toLs vs) = mZa.noMemKL vs
 | [] => rfl
 | v :: vs => by simp only [toLs, cNa.noMemL, mZa.noMemKL, rMa v, nXa vs]
end
theorem hOb {o : Oper} {e : bNa} {v : KV} (h : hMb Θ o e v = true) : uGa Θ o e.toL v.toL = true := by
 unfold hMb at h
 unfold uGa
 have hfn : e.toL.fn = e.fn := rfl
 cases hc : eGa o with
 | some p =>
  obtain ⟨f, args⟩ := p
  rw [hc] at h
  simp only at h ⊢
  rw [iHa]
  split at h
  ·rename_i f' fst caps hf
   rw [hf]
   simp only [toL]
   have e1 : (args.toList.map e.toL.ev) = toLs (args.toList.map e.ev) := by
    rw [aHa, List.map_map]; exact List.map_congr_left fun y _ => iHa e y
   have app : ∀ xs ys, toLs xs ++ toLs ys = toLs (xs ++ ys) := fun xs ys => by simp only [aHa, List.map_append]
   rw [e1, app, app, dCa, rMa]
   exact h
  ·cases h
 | none =>
  rw [hc] at h
  simp only at h ⊢
  split at h
  ·rename_i x _ _ _ ho
   rw [ho]; simp only
   rw [iHa, gAa, hfn]; exact h
  ·rename_i parts ho
   rw [ho]; simp only
   have e1 : (parts.toList.map fun p => e.toL.ev p.2) = toLs (parts.toList.map fun p => e.ev p.2) := by
    rw [aHa, List.map_map]; exact List.map_congr_left fun y _ => iHa e y.2
   rw [e1, dCa]; exact h
  ·rename_i h1 h2
   split
   ·rename_i ho; exact absurd ho (h1 _ _ _ _ _)
   ·rename_i ho; exact absurd ho (h2 _ _ _)
   ·rfl
variable {α : Type} {rec : Rec α}
theorem dYb {strict : Bool} {o : Oper} {e : bNa} {σ σ' : St} {v : KV} (dr : Dr) (all : List Oper) (hp : strict = true → cBa Θ e.fn o = false) (hf : jUb Θ strict o e v = true) (h : bCa P Θ (run P Θ) o e.toL σ = some (v.toL, σ')) : strict = true → pUa P Θ e.fn dr all o σ σ' := by
 rintro hs
 subst hs
 have hp := hp rfl
 simp only [jUb, Bool.not_true, Bool.false_or, Bool.or_eq_true, Bool.and_eq_true, beq_iff_eq, Nat.ble_eq] at hf
 rcases hf with (hf | ⟨hf, hg⟩) | ⟨hc, hf⟩
 ·exact ⟨fun _ => (class0 (e := e.toL) hp hf h).1, fun hk => by have := (gJa hk).2; omega⟩
 ·exact ⟨fun _ => by omega, fun hk => by rw [(gJa hk).1] at hg; cases hg⟩
 ·exact ⟨fun _ => uHa (e := e.toL) (r := (v.toL, σ')) hp hc (hOb hf) h, fun hk => by have := (gJa hk).2; omega⟩
theorem dZb {own b : Bool} {v : KV} {σ : KSt} (hc : (iIa own b v σ).1.val = true) : qZa own b (v.toL, σ.toL) = ((iIa own b v σ).2.1.toL, (iIa own b v σ).2.2.toL) ∧ (iIa own b v σ).2.2.loops = σ.loops := by
 cases b with
 | false => cases own <;> exact ⟨rfl, rfl⟩
 | true =>
  cases own with
  | false =>
   simp only [iIa] at hc
   refine ⟨?_, bYa _ _⟩
   simp only [qZa, cond_true, cond_false, iIa, fFa σ v hc, gAa, dUa]
  | true =>
   refine ⟨?_, bYa _ _⟩
   simp only [qZa, cond_true, iIa, gAa, dUa]
theorem pCb {l : List KV} {d : Nat} {v : KV} (h : l.getD d .undef = v) (hv : v ≠ .undef) : l.set d v = l := by
 apply List.ext_getElem?
 intro i
 rw [List.getElem?_set]
 split
 ·rename_i hd
  subst hd
  rw [List.getD_eq_getElem?_getD] at h
  cases hl : l[d]? with
  | none => rw [hl] at h; exact absurd h.symm hv
  | some x =>
   rw [hl] at h
   have : d < l.length := (List.getElem?_eq_some_iff.1 hl).1
   simp [this]
   exact h.symm
 ·rfl
theorem hQa : ∀ {t : Ty} {a b : t.den}, eqT t a b = true → a = b
 | .int _, a, b, h => by simp only [eqT, decide_eq_true_eq] at h; exact h
 | .byte, a, b, h => by simp only [eqT, decide_eq_true_eq] at h; exact h
 | .bool, a, b, h => by simp only [eqT, decide_eq_true_eq] at h; exact h
 | .str, a, b, h => by
  simp only [eqT, decide_eq_true_eq] at h
  exact ByteArray.ext (Array.toList_inj.1 h)
 | .list t, a, b, h => by
  simp only [eqT] at h
  have gen : ∀ (l l' : List t.den), eqT.eqL t l l' = true → l = l' := fun l => by
   induction l with
   | nil => intro l' h; cases l' with
    | nil => rfl
    | cons y ys => simp [eqT.eqL] at h
   | cons x xs ih => intro l' h; cases l' with
    | nil => simp [eqT.eqL] at h
    | cons y ys =>
     simp only [eqT.eqL, Bool.and_eq_true] at h
     rw [hQa h.1, ih ys h.2]
  exact gen a b h
 | .unit, a, b, h => rfl
 | .pair x y, a, b, h => by
  simp only [eqT, Bool.and_eq_true] at h
  exact Prod.ext (hQa h.1) (hQa h.2)
theorem xNa {a b : aYa} {c : Ck} (h : gTb a b = some c) (hc : c.val = true) : a.toL = b.toL := by
 unfold gTb at h
 split at h
 ·rename_i l hl
  split at h
  ·rename_i hs
   cases h
   simp only [Ck.val] at hc
   simp only [Bool.and_eq_true, beq_iff_eq] at hs
   obtain ⟨c1, _⟩ := cUa hl
   have := hQa hc
   simp only [aYa.toL, c1, ← this, Nat.eq_of_beq_eq_true hs.1, Nat.eq_of_beq_eq_true hs.2.1, hs.2.2]
  ·cases h
 ·cases h
theorem mLa : ∀ {as bs : List aYa} {c : Ck}, vKa as bs = some c → c.val = true → as.map aYa.toL = bs.map aYa.toL
 | [], [], _, _, _ => rfl
 | a :: as, b :: bs, c, h, hc => by
  simp only [vKa] at h
  split at h
  ·rename_i c1 c2 h1 h2
   cases h
   simp only [Ck.val, Bool.and_eq_true] at hc
   simp only [List.map_cons, xNa h1 hc.1, mLa h2 hc.2]
  ·cases h
 | [], _ :: _, _, h, _ => by cases h
 | _ :: _, [], _, h, _ => by cases h
theorem qTa {a b : Value} {c : Ck} (h : jSb a b = some c) (hc : c.val = true) : a = b := by
 unfold jSb at h
 split at h
 ·cases h; simp only [Ck.val, decide_eq_true_eq] at hc; rw [hc]
 ·split at h
  ·rename_i hk; cases h; simp only [Ck.val, decide_eq_true_eq] at hc; rw [hc, hk]
  ·cases h
 ·cases h; simp only [Ck.val] at hc; have := hQa (t := .str) hc; rw [this]
 ·rfl
 ·rfl
 ·rfl
 ·rfl
 ·cases h
mutual
theorem dWb : ∀ (x y : KV) (c : Ck), tTa x y = some c → c.val = true → x.toL = y.toL
 | .agg cs, y, c, h, hc => by
  cases y <;> simp only [tTa] at h <;> first | (cases h; done) | skip
  simp only [toL, lKa cs _ c h hc]
 | .func _ _ _, y, c, h, hc => by cases y <;> simp only [tTa] at h <;> cases h
 | .undef, y, c, h, hc => by cases y <;> simp only [tTa] at h <;> first | (cases h; done) | rfl
 | .nils, y, c, h, hc => by cases y <;> simp only [tTa] at h <;> first | (cases h; done) | rfl
 | .sc a, y, c, h, hc => by
  cases y <;> simp only [tTa] at h <;> first | (cases h; done) | simp only [toL, qTa h hc]
 | .st a, y, c, h, hc => by
  cases y <;> simp only [tTa] at h <;> first | (cases h; done) | simp only [toL, qTa h hc]
 | .lst t l, y, c, h, hc => by
  cases y <;> simp only [tTa] at h <;> first | (cases h; done) | skip
  split at h
  ·rename_i l' hl
   cases h
   simp only [Ck.val] at hc
   have := hQa hc
   simp only [toL, hNa, (cUa hl).1, ← this]
  ·cases h
 | .mref r n, y, c, h, hc => by
  cases y <;> simp only [tTa] at h <;> first | (cases h; done) | skip
  split at h
  ·rename_i hr
   cases h
   simp only [Ck.val, decide_eq_true_eq] at hc
   simp only [toL, hc, Nat.eq_of_beq_eq_true hr]
  ·cases h
 | .mapr m, y, c, h, hc => by
  cases y <;> simp only [tTa] at h <;> first | (cases h; done) | skip
  split at h
  ·rename_i hr
   simp only [toL, Nat.eq_of_beq_eq_true hr]
  ·cases h
 | .bptr b o, y, c, h, hc => by
  cases y <;> simp only [tTa] at h <;> first | (cases h; done) | skip
  split at h
  ·rename_i hr
   simp only [Bool.and_eq_true] at hr
   simp only [toL, Nat.eq_of_beq_eq_true hr.1, Nat.eq_of_beq_eq_true hr.2]
  ·cases h
 | .mview _ _ _ _ _, y, c, h, hc => by cases y <;> simp only [tTa] at h <;> cases h
 | .tuple _, y, c, h, hc => by cases y <;> simp only [tTa] at h <;> cases h
 | .pptr _, y, c, h, hc => by cases y <;> simp only [tTa] at h <;> cases h
 | .vec _, y, c, h, hc => by cases y <;> simp only [tTa] at h <;> cases h
 | .rptr _ _ _ _ _, y, c, h, hc => by cases y <;> simp only [tTa] at h <;> cases h
theorem lKa : ∀ (xs ys : List KV) (c : Ck), tTa.eqVsK xs ys = some c → c.val = true → toLs xs = toLs ys
 | [], [], _, _, _ => rfl
 | x :: xs, y :: ys, c, h, hc => by
  simp only [tTa.eqVsK] at h
  split at h
  ·rename_i c1 c2 h1 h2
   cases h
   simp only [Ck.val, Bool.and_eq_true] at hc
   simp only [toLs, dWb x y c1 h1 hc.1, lKa xs ys c2 h2 hc.2]
  ·cases h
 | [], _ :: _, _, h, _ => by cases h
 | _ :: _, [], _, h, _ => by cases h
end
theorem hLa : ∀ {as bs : List (List KV)} {c : Ck}, mKa as bs = some c → c.val = true → as.map toLs = bs.map toLs
 | [], [], _, _, _ => rfl
 | a :: as, b :: bs, c, h, hc => by
  simp only [mKa] at h
  split at h
  ·rename_i c1 c2 h1 h2
   cases h
   simp only [Ck.val, Bool.and_eq_true] at hc
   simp only [List.map_cons, lKa _ _ _ h1 hc.1, hLa h2 hc.2]
  ·cases h
 | [], _ :: _, _, h, _ => by cases h
 | _ :: _, [], _, h, _ => by cases h
theorem wIa {σ τ : KSt} {c : Ck} (h : aTb σ τ = some c) (hc : c.val = true) : σ.toL = τ.toL := by
 unfold aTb at h
 split at h
 ·rename_i h1 h2 h3 h4
  split at h
  ·rename_i c1 c2 h5 h6
   cases h
   simp only [Ck.val, Bool.and_eq_true] at hc
   simp only [KSt.toL, h1, h2, h3, h4, mLa h5 hc.1, hLa h6 hc.2]
  ·cases h
 ·cases h
theorem qMa (all : List Oper) {strict : Option Nat} {o : Oper} {e : bNa} {σ σ0 : KSt} {v0 : KV} {k : bNa → KSt → Option α} {x : α} (hp : strict.isSome = true → cBa Θ e.fn o = false) (hraw : eQa P Θ (run P Θ) o e.toL σ.toL = some (v0.toL, σ0.toL)) (hσ : cEa P σ0) (h : jPb Θ S strict o e v0 σ σ0 k = some x) :
  ∃ v σ', bCa P Θ (run P Θ) o e.toL σ.toL = some (v.toL, σ'.toL) ∧ (∀ dr : Dr, strict = some dr.n → pUa P Θ e.fn dr all o σ.toL σ'.toL) ∧ cEa P σ' ∧ k (e.put o.dst v) σ' = some x := by
 unfold jPb at h
 have key := dZb (own := Θ.owns e.fn o.dst) (b := Θ.frzs e.fn o.dst) (v := v0) (σ := σ0)
 generalize iIa (Θ.owns e.fn o.dst) (Θ.frzs e.fn o.dst) v0 σ0 = q at h key
 obtain ⟨c, v, σ1⟩ := q
 simp only at h key
 obtain ⟨hc, h2⟩ := bTa (S := S) h
 rw [xSa] at h2
 obtain ⟨h3, h4⟩ := key hc
 have h5 : bCa P Θ (run P Θ) o e.toL σ.toL = some (v.toL, σ1.toL) := by
  unfold bCa
  rw [hraw]
  have hfn : e.toL.fn = e.fn := rfl
  rw [Option.map_some, hfn, h3]
 cases hf : jUb Θ strict.isSome o e v with
 | false =>
  rw [hf, cond_false] at h2
  split at h2
  ·rename_i c2 hs
   obtain ⟨hc2, h6⟩ := bTa (S := S) h2
   refine ⟨_, _, h5, fun dr hdr => ?_, hσ.loops h4, h6⟩
   subst hdr
   simp only [oVb] at hs
   cases hg : (iJa Θ o && Nat.ble 2 (aRa Θ e.fn o)) with
   | false =>
    rw [hg, cond_false] at hs
    have hs : σ.toL = σ1.toL := wIa hs hc2
    rw [hs]; exact dEa _ _ _ _ _
   | true =>
    rw [hg, cond_true] at hs
    simp only [Bool.and_eq_true, Nat.ble_eq] at hg
    refine ⟨fun hc => by have hc : aRa Θ e.fn o ≤ 1 := hc; omega, fun _ => ?_⟩
    have := hLa hs hc2
    simp only [KSt.toL, ← List.map_take]
    exact this
  ·cases h2
 | true =>
  rw [hf, cond_true] at h2
  exact ⟨_, _, h5, fun dr hdr => dYb dr all (fun _ => hp (by rw [hdr]; rfl)) (by rw [hdr] at hf; exact hf) h5 rfl, hσ.loops h4, h2⟩
theorem jQa (all : List Oper) {strict : Option Nat} {o : Oper} {e : bNa} {σ : KSt} {k : bNa → KSt → Option α} {x : α} (hp : strict.isSome = true → cBa Θ e.fn o = false) (hc : eGa o = none) (hσ : cEa P σ) (h : yNa P Θ S strict o σ k e = some x) :
  ∃ v σ', bCa P Θ (run P Θ) o e.toL σ.toL = some (v.toL, σ'.toL) ∧ (∀ dr : Dr, strict = some dr.n → pUa P Θ e.fn dr all o σ.toL σ'.toL) ∧ cEa P σ' ∧ k (e.put o.dst v) σ' = some x := by
 unfold yNa at h
 split at h
 ·rename_i c v σ' ho
  obtain ⟨hcc, hq⟩ := bTa (S := S) h
  obtain ⟨h1, h2⟩ := yJa ho hcc
  have h4 : eQa P Θ (run P Θ) o e.toL σ.toL = some (v.toL, σ'.toL) := by
   unfold eQa
   rw [hc]
   simp only
   have e1 : e.toL.ev = fun y => (e.ev y).toL := funext fun y => iHa e y
   rw [e1]
   exact h1
  exact qMa all hp h4 (hσ.loops h2) hq
 ·cases h
theorem mQa {e : bNa} {j : Tmp} {kd : IntKind} {n : Int} {f : bNa → Option α} {x : α} : ∀ {m i : Nat}, vTa S e j kd n f m i = some x → f { e with t := e.t.set j (.st (.int kd n)) } = some x
 | 0, _, h => by cases h
 | m + 1, i, h => by
  simp only [vTa, FkOK.eq (S := S)] at h
  cases hd : decide (n = (i : Int)) with
  | true =>
   rw [hd, cond_true] at h
   have := of_decide_eq_true hd
   subst this
   exact h
  | false =>
   rw [hd, cond_false] at h
   exact mQa h
theorem xLa (all : List Oper) (hr : kTa P Θ rec) {strict : Option Nat} {o : Oper} {e : bNa} {σ : KSt} {k : bNa → KSt → Option α} {x : α} (hp : strict.isSome = true → cBa Θ e.fn o = false) (hσ : cEa P σ) (h : doK P Θ S rec strict o e σ k = some x) :
  ∃ (v : KV) (σ' : KSt) (e' : bNa), e'.toL = e.toL ∧ bCa P Θ (run P Θ) o e.toL σ.toL = some (v.toL, σ'.toL) ∧ (∀ dr : Dr, strict = some dr.n → pUa P Θ e.fn dr all o σ.toL σ'.toL) ∧ cEa P σ' ∧ k (e'.put o.dst v) σ' = some x := by
 unfold doK at h
 split at h
 ·rename_i f args hc
  have hT : eKa P (.apply (Θ.owns e.fn o.dst) (e.ev f) (args.toList.map e.ev) σ) := hσ
  obtain ⟨r, h1, ⟨h2, _⟩, h3⟩ := hr _ _ _ hT h
  have h4 : eQa P Θ (run P Θ) o e.toL σ.toL = some (r.v.toL, r.σ.toL) := by
   unfold eQa
   rw [hc]
   simp only
   have e1 : (args.toList.map e.toL.ev) = toLs (args.toList.map e.ev) := by
    rw [aHa, List.map_map]; exact List.map_congr_left fun y _ => iHa e y
   rw [iHa, e1]
   simp only [sTa.toL] at h1
   have hfn : e.toL.fn = e.fn := rfl
   rw [hfn, h1]; rfl
  obtain ⟨v, σ', k1⟩ := qMa all hp h4 h2 h3
  exact ⟨v, σ', e, rfl, k1⟩
 ·rename_i hc
  split at h
  ·rename_i m j hm
   split at h
   ·rename_i kd n hj
    cases hb : Nat.ble m 16 with
    | false => rw [hb] at h; cases h
    | true =>
     rw [hb, cond_true] at h
     have h := mQa h
     have he : ({ e with t := e.t.set j (.st (.int kd n)) } : bNa).toL = e.toL := by
      simp only [bNa.toL, aHa, List.map_set]
      congr 1
      have hev := iHa e (.tmp j)
      simp only [Env.ev, bNa.ev, hj, toL] at hev
      simp only [bNa.toL, aHa] at hev
      exact cXb hev (fun h => by cases h)
     obtain ⟨v, σ', k1, k2, k3, k4⟩ := jQa all (e := { e with t := e.t.set j (.st (.int kd n)) }) hp hc hσ h
     rw [he] at k1
     exact ⟨v, σ', _, he, k1, k2, k3, k4⟩
   ·obtain ⟨v, σ', k1⟩ := jQa all hp hc hσ h
    exact ⟨v, σ', e, rfl, k1⟩
  ·obtain ⟨v, σ', k1⟩ := jQa all hp hc hσ h
   exact ⟨v, σ', e, rfl, k1⟩
theorem cQb (e : bNa) (d : Option Tmp) (v : KV) : (e.put d v).fn = e.fn := by cases d <;> rfl
theorem xQa (f : fFb) (o : Oper) (e : bNa) : cYa f o e.toL = mPa f o e := by
 have key : ∀ a b lo, (e.toL.ev a).isAt b lo = (e.ev a).isAt b lo := fun a b lo => by
  rw [iHa]
  cases e.ev a <;> rfl
 have key2 : ∀ ps : List (Nat × Operand), aAa.refFreeL (ps.map fun p => e.toL.ev p.2) = fAa.freeKL (ps.map fun p => e.ev p.2) := fun ps => by
  have e1 : (ps.map fun p => e.toL.ev p.2) = toLs (ps.map fun p => e.ev p.2) := by
   rw [aHa, List.map_map]; exact List.map_congr_left fun y _ => iHa e y.2
  rw [e1, cHa]
 cases f <;> simp only [cYa, mPa] <;> cases o.op <;> first | exact key _ _ _ | exact key2 _ | rfl
theorem dPb (hr : kTa P Θ rec) {strict : Option Dr} {all : List Oper} {o : Oper} {e : bNa} {σ : KSt} {k : bNa → KSt → Option α} {x : α} (hσ : cEa P σ) (h : nZb P Θ S rec strict all o e σ k = some x) :
  ∃ (v : KV) (σ' : KSt) (e' : bNa), e'.toL = e.toL ∧ yHa P Θ (run P Θ) strict all o e.toL σ.toL = some (v.toL, σ'.toL) ∧ (∀ dr, strict = some dr → pUa P Θ e.fn dr all o σ.toL σ'.toL) ∧ cEa P σ' ∧ k (e'.put o.dst v) σ' = some x := by
 unfold nZb at h
 cases strict with
 | none =>
  obtain ⟨v, σ', e', h1, h2, _, h4, h5⟩ := xLa all hr (strict := none) (fun h => by cases h) hσ h
  exact ⟨v, σ', e', h1, h2, fun _ h => (by cases h), h4, h5⟩
 | some dr =>
  simp only at h
  cases hp : cBa Θ e.fn o with
  | true =>
   rw [hp, cond_true] at h
   exact ⟨_, σ, e, rfl, by rw [nBa (e := e.toL) hp]; simp only [toL]; rfl, fun _ _ => dEa _ _ _ _ _, hσ, h⟩
  | false =>
   rw [hp, cond_false] at h
   cases hfit : mPa (eBa P Θ e.fn dr all o) o e with
   | false => rw [hfit, cond_false] at h; cases h
   | true =>
    rw [hfit, cond_true] at h
    obtain ⟨v, σ', e', h1, h2, h3, h4, h5⟩ := xLa all hr (strict := some dr.n) (fun _ => hp) hσ h
    exact ⟨v, σ', e', h1, by rw [kJa (e := e.toL) hp (by rw [xQa]; exact hfit)]; exact h2, fun dr' hdr => by cases hdr; exact h3 dr rfl, h4, h5⟩
theorem mMa (hr : kTa P Θ rec) {strict : Option Dr} {all : List Oper} : ∀ (os : List Oper) (e : bNa) (σ : KSt) (k : bNa → KSt → Option α) (x : α), cEa P σ → exK P Θ S rec strict all os e σ k = some x →
  ∃ e' σ', exec P Θ strict all os e.toL σ.toL = some (e'.toL, σ'.toL) ∧ e'.fn = e.fn ∧ cEa P σ' ∧ k e' σ' = some x
 | [], e, σ, k, x, hσ, h => by
  simp only [exK] at h
  exact ⟨e, σ, rfl, rfl, hσ, h⟩
 | o :: os, e, σ, k, x, hσ, h => by
  have ih := fun e σ k x => mMa hr (strict := strict) (all := all) os e σ k x
  have ex_cons : ∀ e σ, exec P Θ strict all (o :: os) e σ = (cDa all o e).bind fun b => bif b then (yHa P Θ (run P Θ) strict all o e σ).bind fun r => open Classical in if ∀ dr, strict = some dr → pUa P Θ e.fn dr all o σ r.2 then exec P Θ strict all os (e.put o.dst r.1) r.2 else none else exec P Θ strict all os (e.put o.dst (.tuple [])) σ := fun e σ => by
   unfold exec
   simp only [bHa]
  have skip : ∀ (e0 : bNa), exK P Θ S rec strict all os (e0.put o.dst (.tuple [])) σ k = some x → cDa all o e0.toL = some false → ∃ e' σ', exec P Θ strict all (o :: os) e0.toL σ.toL = some (e'.toL, σ'.toL) ∧ e'.fn = e0.fn ∧ cEa P σ' ∧ k e' σ' = some x := by
   intro e0 h hw
   obtain ⟨e', σ', h1, h2, h3, h4⟩ := ih _ _ _ _ hσ h
   refine ⟨e', σ', ?_, by rw [h2, cQb], h3, h4⟩
   rw [ex_cons, hw]
   simp only [Option.bind_some, cond_false]
   rw [← cPb] at h1
   exact h1
  have go : ∀ (e0 : bNa), nZb P Θ S rec strict all o e0 σ (fun e σ => exK P Θ S rec strict all os e σ k) = some x → cDa all o e0.toL = some true → ∃ e' σ', exec P Θ strict all (o :: os) e0.toL σ.toL = some (e'.toL, σ'.toL) ∧ e'.fn = e0.fn ∧ cEa P σ' ∧ k e' σ' = some x := by
   intro e0 h hw
   obtain ⟨v, σ1, e1, he1, h1, h2, h3, h4⟩ := dPb hr hσ h
   obtain ⟨e', σ', h5, h6, h7, h8⟩ := ih _ _ _ _ h3 h4
   have hf1 : e1.fn = e0.fn := congrArg Env.fn he1
   refine ⟨e', σ', ?_, by rw [h6, cQb, hf1], h7, h8⟩
   rw [ex_cons, hw]
   simp only [Option.bind_some, cond_true, h1]
   have h2' : ∀ dr, strict = some dr → pUa P Θ e0.toL.fn dr all o σ.toL σ1.toL := h2
   rw [if_pos h2', ← he1, cPb]
   exact h5
  simp only [exK] at h
  split at h
  ·rename_i hg
   exact go e h (by simp only [cDa, hg])
  ·rename_i j want hg
   split at h
   ·cases h
   ·rename_i d hd
    have hev : e.toL.t.getD d .undef = (e.t.getD d .undef).toL := by
     have := iHa e (.tmp d)
     exact this
    split at h
    ·rename_i b hb
     have hw : cDa all o e.toL = some (b == want) := by
      simp only [cDa, hg, hd]
      rw [hev, cTa hb]
     cases b with
     | true =>
      simp only at h
      cases hwt : (true == want) with
      | true => rw [hwt] at h hw; exact go e h hw
      | false => rw [hwt] at h hw; exact skip e h hw
     | false =>
      simp only at h
      cases hwt : (false == want) with
      | true => rw [hwt] at h hw; exact go e h hw
      | false => rw [hwt] at h hw; exact skip e h hw
    ·rename_i b hb
     have hset : ∀ b', b' = b → ({ e with t := e.t.set d (.st (.bool b')) } : bNa).toL = e.toL := by
      intro b' hbb
      subst hbb
      simp only [bNa.toL, aHa, List.map_set]
      congr 1
      have hg2 : (e.t.map toL).getD d .undef = .sc (.bool b') := by
       rw [← aHa]
       exact hev.trans (cTa hb)
      exact cXb hg2 (by simp [toL])
     have hw : ∀ b', b' = b → cDa all o ({ e with t := e.t.set d (.st (.bool b')) } : bNa).toL = some (b' == want) := by
      intro b' hbb
      rw [hset b' hbb]
      simp only [cDa, hg, hd]
      rw [hev, cTa hb, hbb]
     cases b with
     | true =>
      rw [vPa] at h
      rw [← hset true rfl]
      cases hwt : (true == want) with
      | true => rw [hwt] at h; exact go _ h (by rw [hw true rfl, hwt])
      | false => rw [hwt] at h; exact skip _ h (by rw [hw true rfl, hwt])
     | false =>
      rw [pLa] at h
      rw [← hset false rfl]
      cases hwt : (false == want) with
      | true => rw [hwt] at h; exact go _ h (by rw [hw false rfl, hwt])
      | false => rw [hwt] at h; exact skip _ h (by rw [hw false rfl, hwt])
    ·split at h
     ·rename_i hb
      rw [hb] at hev
      refine skip e h ?_
      simp only [cDa, hg, hd]
      rw [hev]; rfl
     ·cases h
end
end Go.Proofs.YtpeaaophmddhnaaGreat.LI
