/-
  An interpreter over values is sound, part 4.
-/
import Derived.Test.YtpeaaophmddhnaaGreatN3
namespace Go.Proofs.YtpeaaophmddhnaaGreat.LI
open Go Go.RowKit
open KV (toL)
open KV.toL (toLs)
theorem aHa : ∀ vs : List KV, toLs vs = vs.map toL
 | [] => rfl
 | v :: vs => by rw [toLs, aHa vs]; rfl
theorem hNa (t : Ty) (l : List t.den) : kBb t l = .slice (l.map (eEa t)) := rfl
theorem dSa (v : KV) : v.toL.cells = v.cells.map toL := by
 cases v <;> first | rfl | simp only [toL, KV.cells, LV.cells, aHa]
theorem ePa (v : KV) : storable v.toL = v.storable := by
 cases v <;> rfl
theorem fJa : ∀ (t : Ty) (x : t.den), (oLa t x).map toL = cPa t x
 | .int _, _ => rfl
 | .byte, _ => rfl
 | .bool, _ => rfl
 | .str, _ => rfl
 | .list _, _ => rfl
 | .unit, _ => rfl
 | .pair a b, p => by simp only [oLa, cPa, List.map_append, fJa a, fJa b]
theorem kRa (t : Ty) (x : t.den) : (jRb t x).toL = eEa t x := by
 unfold jRb eEa kFb
 cases h : t.isAgg with
 | true => simp only [cond_true, toL, aHa, fJa]
 | false => simp only [cond_false]; rw [← fJa]; cases oLa t x <;> rfl
theorem tQa (t : Ty) (x : t.den) : (jRb t x).cells = oLa t x := by
 cases t <;> rfl
theorem gHa (t : Ty) (x : t.den) : (eEa t x).cells = cPa t x := by
 rw [← kRa, dSa, tQa, fJa]
theorem fDa : ∀ (t : Ty) (x : t.den), (cPa t x).length = t.ncells
 | .int _, _ => rfl
 | .byte, _ => rfl
 | .bool, _ => rfl
 | .str, _ => rfl
 | .list _, _ => rfl
 | .unit, _ => rfl
 | .pair a b, p => by simp only [cPa, List.length_append, fDa a, fDa b, Ty.ncells]
theorem cXa (t : Ty) (x : t.den) : storable (eEa t x) = true := by
 rw [← kRa, ePa]
 cases t <;> rfl
theorem cWa (t : Ty) (l : List t.den) (sz : Nat) (h : t.ncells = sz) : bGa sz (l.map (eEa t)) = true := by
 unfold bGa
 rw [List.all_map, List.all_eq_true]
 intro x _
 simp only [Function.comp, gHa, fDa, h, cXa, beq_self_eq_true, Bool.and_self]
theorem cCa {x : KV} {s : Bool} {k : IntKind} {n : Int} (h : x.int? = some (s, k, n)) : x.toL = .sc (.int k n) := by
 unfold KV.int? at h
 split at h <;> cases h <;> rfl
theorem cTa {x : KV} {s b : Bool} (h : x.bool? = some (s, b)) : x.toL = .sc (.bool b) := by
 unfold KV.bool? at h
 split at h <;> cases h <;> rfl
theorem hCa {x : KV} {s : Bool} {b : ByteArray} (h : x.str? = some (s, b)) : x.toL = .sc (.string b) := by
 unfold KV.str? at h
 split at h <;> cases h <;> rfl
theorem fTa (s : Bool) (v : Value) : (KV.mk s v).toL = .sc v := by cases s <;> rfl
theorem jXa (s b : Bool) : (Ck.st s b).val = b := by cases s <;> cases b <;> rfl
mutual
theorem gGb : ∀ (v : KV), v.dyn.toL = v.toL
 | .undef => rfl
 | .sc _ => rfl
 | .st _ => rfl
 | .nils => rfl
 | .lst _ _ => rfl
 | .mref _ _ => rfl
 | .mview _ _ _ _ _ => rfl
 | .mapr _ => rfl
 | .agg cs => by simp only [KV.dyn, toL, iFa cs]
 | .tuple cs => by simp only [KV.dyn, toL, iFa cs]
 | .bptr _ _ => rfl
 | .pptr cs => by simp only [KV.dyn, toL, iFa cs]
 | .vec _ => rfl
 | .rptr _ _ _ _ _ => rfl
 | .func fn fst caps => by simp only [KV.dyn, toL, iFa fst, iFa caps]
theorem iFa : ∀ (vs : List KV), toLs (KV.dyn.dyns vs) = toLs vs
 | [] => rfl
 | v :: vs => by simp only [KV.dyn.dyns, toLs, gGb v, iFa vs]
end
theorem nQa : ∀ (t : Ty) (cs : List KV) (c : Ck) (x : t.den) (r : List KV), jHb t cs = some (c, x, r) → c.val = true → cs.map toL = cPa t x ++ r.map toL
 | .int k, cs, c, x, r, h, hc => by
  simp only [jHb] at h
  unfold lAb at h
  split at h
  ·split at h
   ·rename_i hx
    split at h <;> cases h
    rename_i hk; subst hk
    simp only [List.map_cons, cCa hx, cPa, List.cons_append, List.nil_append]
   ·cases h
  ·cases h
 | .byte, cs, c, x, r, h, hc => by
  simp only [jHb] at h
  unfold gDb at h
  split at h
  ·rename_i y r0
   split at h
   ·rename_i s n hx
    injection h with h
    have e1 : Ck.st s (decide (0 ≤ n) && decide (n < 256)) = c := congrArg Prod.fst h
    have e2 : UInt8.ofNat n.toNat = x := congrArg (fun p => p.2.1) h
    have e3 : r0 = r := congrArg (fun p => p.2.2) h
    subst e1 e2 e3
    simp only [jXa, Bool.and_eq_true, decide_eq_true_eq] at hc
    obtain ⟨h1, h2⟩ := hc
    have : (UInt8.toNat (UInt8.ofNat n.toNat) : Int) = n := by
     rw [UInt8.toNat_ofNat']
     omega
    simp only [List.map_cons, cPa, this, cCa hx, List.cons_append, List.nil_append]
   ·cases h
  ·cases h
 | .bool, cs, c, x, r, h, hc => by
  simp only [jHb] at h
  unfold gCb at h
  split at h
  ·split at h
   ·rename_i hx; cases h
    simp only [List.map_cons, cTa hx, cPa, List.cons_append, List.nil_append]
   ·cases h
  ·cases h
 | .str, cs, c, x, r, h, hc => by
  simp only [jHb] at h
  unfold lBb at h
  split at h
  ·split at h
   ·rename_i hx; cases h
    simp only [List.map_cons, hCa hx, cPa, List.cons_append, List.nil_append]
   ·cases h
  ·cases h
 | .list t, cs, c, x, r, h, hc => by
  simp only [jHb] at h
  unfold gEb at h
  split at h
  ·split at h
   ·rename_i ht; subst ht
    cases h
    rfl
   ·split at h
    ·cases h; rfl
    ·cases h
  ·cases h
 | .unit, cs, c, x, r, h, hc => by cases h; rfl
 | .pair a b, cs, c, x, r, h, hc => by
  simp only [jHb] at h
  split at h
  ·rename_i c1 x1 r1 h1
   split at h
   ·rename_i c2 y r2 h2
    simp only [Option.some.injEq, Prod.mk.injEq] at h
    obtain ⟨rfl, rfl, rfl⟩ := h
    simp only [Ck.val, Bool.and_eq_true] at hc
    rw [nQa a _ _ _ _ h1 hc.1, nQa b _ _ _ _ h2 hc.2]
    simp only [cPa, List.append_assoc]
   ·cases h
  ·cases h
theorem dDa {t : Ty} {v : KV} {c : Ck} {x : t.den} (h : fGb t v = some (c, x)) (hc : c.val = true) : v.toL = eEa t x := by
 unfold fGb at h
 split at h
 ·rename_i ha
  split at h
  ·rename_i c' x' hd
   cases h
   have h1 := nQa t _ _ _ _ hd hc
   rw [List.map_nil, List.append_nil, ← dSa] at h1
   unfold eEa kFb
   rw [← h1]
   cases hb : t.isAgg with
   | true =>
    rw [hb] at ha
    cases v <;> first | (cases ha; done) | rfl
   | false =>
    rw [hb] at ha
    cases v <;> first | (cases ha; done) | rfl
  ·cases h
 ·cases h
theorem qLa {t : Ty} : ∀ {vs : List KV} {c : Ck} {xs : List t.den}, jOb t vs = some (c, xs) → c.val = true → vs.map toL = xs.map (eEa t)
 | [], c, xs, h, hc => by cases h; rfl
 | v :: vs, c, xs, h, hc => by
  simp only [jOb] at h
  split at h
  ·rename_i c1 x c2 xs' h1 h2
   simp only [Option.some.injEq, Prod.mk.injEq] at h
   obtain ⟨rfl, rfl⟩ := h
   simp only [Ck.val, Bool.and_eq_true] at hc
   rw [List.map_cons, List.map_cons, dDa h1 hc.1, qLa h2 hc.2]
  ·cases h
theorem cUa {t' t : Ty} {l : List t'.den} {l' : List t.den} (h : qEa t' t l = some l') : l.map (eEa t') = l'.map (eEa t) ∧ l.length = l'.length := by
 unfold qEa at h
 split at h
 ·rename_i ht; subst ht; cases h; exact ⟨rfl, rfl⟩
 ·cases h
theorem cIa (σ : KSt) (r : Nat) : σ.toL.rows[r]? = (σ.rows[r]?).map aYa.toL := by simp only [KSt.toL, List.getElem?_map]
theorem pHb (σ : St) (t : Ty) (l : List t.den) : bIa σ (kBb t l) = kBb t l := rfl
mutual
theorem fFa (σ : KSt) : ∀ (v : KV), (gIa σ v).1.val = true → bIa σ.toL v.toL = (gIa σ v).2.toL
 | .undef, _ => rfl
 | .sc _, _ => rfl
 | .st _, _ => rfl
 | .nils, _ => rfl
 | .lst _ _, _ => rfl
 | .mref r n, h => by
  simp only [gIa] at h ⊢
  simp only [toL, bIa, cIa]
  cases hr : σ.rows[r]? with
  | none => rw [hr] at h; cases h
  | some row =>
   rw [hr] at h
   simp only [Ck.val, decide_eq_true_eq] at h
   simp only [Option.map_some, aYa.toL, List.length_map, h, if_true, toL, hNa]
 | .mview r n lo hi sz, h => by
  simp only [gIa] at h ⊢
  simp only [toL, bIa, cIa]
  cases hr : σ.rows[r]? with
  | none => rw [hr] at h; cases h
  | some row =>
   rw [hr] at h
   simp only [Ck.val, Bool.and_eq_true, decide_eq_true_eq, jXa] at h
   have h2 : row.sz = sz := Nat.eq_of_beq_eq_true h.2.1
   simp only [Option.map_some, h2, aYa.toL, List.length_map, h, and_self, if_true, toL, hNa, List.map_take, List.map_drop]
 | .mapr _, _ => rfl
 | .agg cs, h => by simp only [gIa, toL, bIa]; rw [cLa σ cs h]
 | .tuple cs, h => by simp only [gIa, toL, bIa]; rw [cLa σ cs h]
 | .bptr _ _, _ => rfl
 | .pptr _, _ => rfl
 | .vec _, _ => rfl
 | .rptr _ _ _ _ _, _ => rfl
 | .func fn fst caps, h => by
  simp only [gIa, Ck.val, Bool.and_eq_true] at h
  simp only [gIa, toL, bIa]; rw [cLa σ fst h.1, cLa σ caps h.2]
theorem cLa (σ : KSt) : ∀ (vs : List KV), (gIa.frzKL σ vs).1.val = true → bIa.frzL σ.toL (toLs vs) = toLs (gIa.frzKL σ vs).2
 | [], _ => rfl
 | v :: vs, h => by
  simp only [gIa.frzKL, Ck.val, Bool.and_eq_true] at h
  simp only [gIa.frzKL, toLs, bIa.frzL]; rw [fFa σ v h.1, cLa σ vs h.2]
end
mutual
theorem gAa : ∀ (v : KV), aQa v.toL = fPa v
 | .undef => rfl
 | .sc _ => rfl
 | .st _ => rfl
 | .nils => rfl
 | .lst _ _ => rfl
 | .mref r n => rfl
 | .mview _ _ _ _ _ => rfl
 | .mapr _ => rfl
 | .agg cs => by simp only [toL, aQa, fPa, dCa cs]
 | .tuple cs => by simp only [toL, aQa, fPa, dCa cs]
 | .bptr _ _ => rfl
 | .pptr _ => rfl
 | .vec _ => rfl
 | .rptr _ _ _ _ _ => rfl
 | .func fn fst caps => by simp only [toL, aQa, fPa, dCa fst, dCa caps]
theorem dCa : ∀ (vs : List KV), aQa.rowsInL (toLs vs) = fPa.rowsKL vs
 | [] => rfl
 | v :: vs => by simp only [toLs, aQa.rowsInL, fPa.rowsKL, gAa v, dCa vs]
end
theorem dUa : ∀ (rs : List Nat) (σ : KSt), gVa σ.toL rs = (hMa σ rs).toL
 | [], σ => rfl
 | r :: rs, σ => by
  simp only [gVa, hMa]
  rw [← dUa rs]
  congr 1
  simp only [cIa]
  cases h : σ.rows[r]? with
  | none => rfl
  | some row => simp only [Option.map_some, KSt.toL, List.map_set, aYa.toL]
theorem bYa : ∀ (rs : List Nat) (σ : KSt), (hMa σ rs).loops = σ.loops
 | [], σ => rfl
 | r :: rs, σ => by simp only [hMa, bYa rs]
theorem gRa : ∀ (t : Ty) (x : t.den), aAa.refFreeL (cPa t x) = true
 | .int _, _ => rfl
 | .byte, _ => rfl
 | .bool, _ => rfl
 | .str, _ => rfl
 | .list t, p => by
  have : ∀ l : List t.den, aAa.refFreeL (l.map fun x => kFb t.isAgg (cPa t x)) = true := fun l => by
   induction l with
   | nil => rfl
   | cons x l ih =>
    have h1 : aAa (kFb t.isAgg (cPa t x)) = true := by
     unfold kFb
     have h2 := gRa t x
     cases t.isAgg with
     | true => simpa [aAa] using h2
     | false =>
      simp only [cond_false]
      cases hc : cPa t x with
      | nil => rfl
      | cons y ys => rw [hc] at h2; simp only [aAa.refFreeL, Bool.and_eq_true] at h2; exact h2.1
    simp only [List.map_cons, aAa.refFreeL, h1, ih, Bool.and_self]
  simp only [cPa, aAa.refFreeL, Bool.and_true, aAa]
  exact this p
 | .unit, _ => rfl
 | .pair a b, p => by
  have app : ∀ xs ys : List LV, aAa.refFreeL (xs ++ ys) = (aAa.refFreeL xs && aAa.refFreeL ys) := fun xs ys => by
   induction xs with
   | nil => rfl
   | cons x xs ih => simp only [List.cons_append, aAa.refFreeL, ih, Bool.and_assoc]
  simp only [cPa, app, gRa a, gRa b, Bool.and_self]
theorem rJa (t : Ty) (l : List t.den) : aAa (kBb t l) = true := by
 have := gRa (.list t) l
 simp only [cPa, aAa.refFreeL, Bool.and_true] at this
 exact this
mutual
theorem mRa : ∀ (v : KV), aAa v.toL = fAa v
 | .undef => rfl
 | .sc _ => rfl
 | .st _ => rfl
 | .nils => rfl
 | .lst t l => rJa t l
 | .mref r n => rfl
 | .mview _ _ _ _ _ => rfl
 | .mapr _ => rfl
 | .agg cs => by simp only [toL, aAa, fAa, cHa cs]
 | .tuple cs => by simp only [toL, aAa, fAa, cHa cs]
 | .bptr _ _ => rfl
 | .pptr cs => by simp only [toL, aAa, fAa, cHa cs]
 | .vec cs => by simp only [toL, aAa, fAa, cHa cs]
 | .rptr _ _ _ _ _ => rfl
 | .func fn fst caps => by simp only [toL, aAa, fAa, cHa fst, cHa caps]; cases fn <;> rfl
theorem cHa : ∀ (vs : List KV), aAa.refFreeL (toLs vs) = fAa.freeKL vs
 | [] => rfl
 | v :: vs => by simp only [toLs, aAa.refFreeL, fAa.freeKL, mRa v, cHa vs]
end
theorem gIb (t : Ty) (x : t.den) : aAa (eEa t x) = true := by
 have h := gRa t x
 unfold eEa kFb
 cases t.isAgg with
 | true => simp only [cond_true, aAa, h]
 | false =>
  simp only [cond_false]
  cases hc : cPa t x with
  | nil => rfl
  | cons y ys => rw [hc] at h; simp only [aAa.refFreeL, Bool.and_eq_true] at h; exact h.1
theorem pGb (σ : St) (t : Ty) (x : t.den) : bIa σ (eEa t x) = eEa t x := by
 have cell : ∀ (t : Ty) (x : t.den), bIa.frzL σ (cPa t x) = cPa t x := fun t => by
  induction t with
  | pair a b iha ihb =>
   intro p
   have app : ∀ xs ys : List LV, bIa.frzL σ (xs ++ ys) = bIa.frzL σ xs ++ bIa.frzL σ ys := fun xs ys => by
    induction xs with
    | nil => rfl
    | cons x xs ih => simp only [List.cons_append, bIa.frzL, ih]
   simp only [cPa, app, iha, ihb]
  | _ => intro x; rfl
 have h := cell t x
 unfold eEa kFb
 cases t.isAgg with
 | true => simp only [cond_true, bIa, h]
 | false =>
  simp only [cond_false]
  cases hc : cPa t x with
  | nil => rfl
  | cons y ys => rw [hc] at h; simp only [bIa.frzL, List.cons.injEq] at h; exact h.1
theorem cWb (v : Value) : (scK v).toL = .sc v := by cases v <;> rfl
theorem fOa (v : Value) : bQa v = (eCa v).toL := by
 unfold bQa eCa
 split
 ·rfl
 ·split
  ·split
   ·rename_i h _; exact absurd rfl h
   ·first | exact (cWb _).symm | (split <;> first | exact (cWb _).symm | contradiction)
  ·split
   ·rename_i h _; exact absurd rfl h
   ·first | rfl | (split <;> first | rfl | contradiction)
theorem aIb (v : Value) : nZa v = (nAa v).toL := by
 cases v
 case agg cs =>
  simp only [nZa, nAa]
  split
  ·simp only [toL, aHa, List.map_map]
   congr 1
   apply List.map_congr_left
   intro x _
   exact fOa x
  ·rfl
 case tuple vs =>
  simp only [nZa, nAa]
  split <;> rfl
 all_goals (simp only [nZa, nAa]; exact fOa _)
variable {P : Program}
theorem wSa (t : TypeId) : iVa P t = (fDb P t).map (List.map toL) := by
 unfold iVa fDb
 cases P.info? t with
 | none => rfl
 | some i =>
  simp only [Option.bind_some]
  cases i.zero with
  | none => rfl
  | some z =>
   simp only [Option.bind_some]
   split
   ·simp only [Option.map_some, List.map_map]
    congr 2
    funext x
    exact fOa x
   ·rfl
theorem iOa (t : TypeId) (cs : List KV) : bDa P t (cs.map toL) = (tBa P t cs).map toL := by
 unfold bDa tBa
 simp only [Option.bind_eq_bind]
 cases bKa P t with
 | none => rfl
 | some n =>
  simp only [Option.bind_some]
  cases xVa P t with
  | none => rfl
  | some b =>
   cases b with
   | true =>
    simp only [Option.bind_some, if_true, List.length_map]
    split
    ·simp only [Option.map_some, toL, aHa, List.map_take]
    ·rfl
   | false => simp only [Option.bind_some, Bool.false_eq_true, if_false]; cases cs <;> rfl
theorem uWa (cs : List KV) (off : Nat) (new : List KV) : dIa (cs.map toL) off (new.map toL) = (wOa cs off new).map toL := by
 simp only [dIa, wOa, List.map_append, List.map_take, List.map_drop, List.length_map]
theorem iHa (e : bNa) (y : Operand) : e.toL.ev y = (e.ev y).toL := by
 cases y with
 | tmp t =>
  simp only [bNa.toL, Env.ev, bNa.ev, aHa]
  rw [List.getD_eq_getElem?_getD, List.getD_eq_getElem?_getD, List.getElem?_map]
  cases e.t[t]? <;> rfl
 | const v => exact aIb v
 | global _ => rfl
 | func f => rfl
theorem cPb (e : bNa) (d : Option Tmp) (v : KV) : e.toL.put d v.toL = (e.put d v).toL := by
 cases d with
 | none => rfl
 | some d => simp only [Env.put, bNa.put, bNa.toL, aHa, List.map_set]
theorem cAb (place : Nat → Option (Nat × Nat)) : ∀ (parts : List (Nat × KV)) (cells : List KV), sWa place (cells.map toL) (parts.map fun p => (p.1, p.2.toL)) = (jTb place cells parts).map (List.map toL)
 | [], cells => rfl
 | (i, v) :: rest, cells => by
  simp only [List.map_cons, sWa, jTb]
  cases place i with
  | none => rfl
  | some p =>
   obtain ⟨off, n⟩ := p
   simp only [dSa, ePa, List.length_map]
   split
   ·rw [uWa]; exact cAb place rest _
   ·rfl
theorem gAb (t : TypeId) (parts : List (Nat × KV)) : xIa P t (parts.map fun p => (p.1, p.2.toL)) = (fZb P t parts).map (List.map toL) := by
 unfold xIa fZb
 rw [wSa]
 cases fDb P t with
 | none => rfl
 | some zs =>
  simp only [Option.map_some, Option.bind_some]
  cases wBa P t with
  | none => rfl
  | some pl => exact cAb _ _ _
theorem kAa {row : aYa} {n lo hi sz : Nat} : (bLb row n lo hi sz).val = true ↔ row.l.length = n ∧ row.sz = sz ∧ lo ≤ hi ∧ hi ≤ n := by
 simp only [bLb, Ck.val, Bool.and_eq_true, decide_eq_true_eq, jXa]
 exact ⟨fun h => ⟨h.1, Nat.eq_of_beq_eq_true h.2.1, h.2.2⟩, fun h => ⟨h.1, by rw [h.2.1]; exact Nat.beq_refl sz, h.2.2⟩⟩
theorem cRa {σ : KSt} {v : KV} {c : Ck} {s : (t : Ty) × List t.den} (h : qNa σ v = some (c, s)) (hc : c.val = true) : fNa σ.toL v.toL = some (s.2.map (eEa s.1)) := by
 unfold qNa at h
 split at h
 ·cases h; rfl
 ·cases h; rfl
 ·rename_i r n
  simp only [toL, fNa, cIa]
  split at h
  ·rename_i row hr
   simp only [Option.some.injEq, Prod.mk.injEq] at h
   obtain ⟨rfl, rfl⟩ := h
   simp only [Ck.val, decide_eq_true_eq] at hc
   rw [hr]
   simp only [Option.map_some, aYa.toL, List.length_map, hc, if_true]
  ·cases h
 ·rename_i r n lo hi sz
  simp only [toL, fNa, cIa]
  split at h
  ·rename_i row hr
   simp only [Option.some.injEq, Prod.mk.injEq] at h
   obtain ⟨rfl, rfl⟩ := h
   rw [kAa] at hc
   rw [hr]
   simp only [Option.map_some, aYa.toL, List.length_map, hc, and_self, if_true, List.map_take, List.map_drop]
  ·cases h
 ·cases h
theorem eDb {σ : KSt} {v : KV} {c : Ck} {s : Bool} {n : Nat} (h : qHb σ v = some (c, s, n)) (hc : c.val = true) : ∃ es, fNa σ.toL v.toL = some es ∧ es.length = n := by
 unfold qHb at h
 split at h
 ·cases h; exact ⟨[], rfl, rfl⟩
 ·cases h; exact ⟨_, rfl, by simp⟩
 ·cases h; exact ⟨_, rfl, by simp [aHa]⟩
 ·rename_i r m
  split at h
  ·rename_i row hr
   simp only [Option.some.injEq, Prod.mk.injEq] at h
   obtain ⟨rfl, _, rfl⟩ := h
   have := cRa (σ := σ) (v := .mref r m) (s := ⟨row.t, row.l⟩) (c := .is (decide (row.l.length = m))) (by simp only [qNa, hr]) hc
   exact ⟨_, this, by simp⟩
  ·cases h
 ·rename_i r m lo hi sz
  split at h
  ·rename_i row hr
   simp only [Option.some.injEq, Prod.mk.injEq] at h
   obtain ⟨rfl, _, rfl⟩ := h
   have := cRa (σ := σ) (v := .mview r m lo hi sz) (s := ⟨row.t, (row.l.drop lo).take (hi - lo)⟩) (c := bLb row m lo hi sz) (by simp only [qNa, hr]) hc
   rw [kAa] at hc
   exact ⟨_, this, by simp; omega⟩
  ·cases h
 ·cases h
theorem iLa {σ : KSt} {v : KV} {c : Ck} {r lo hi : Nat} {row : aYa} (h : eFb σ v = some (c, r, row, lo, hi)) (hc : c.val = true) : fUa σ.toL v.toL = some (r, row.toL, lo, hi) ∧ σ.rows[r]? = some row ∧ lo ≤ hi ∧ hi ≤ row.l.length := by
 unfold eFb at h
 split at h
 ·rename_i r' n
  split at h
  ·rename_i row' hr
   cases h
   simp only [Ck.val, decide_eq_true_eq] at hc
   simp only [toL, fUa, cIa, hr, Option.map_some]
   exact ⟨by rw [if_pos (by simp only [aYa.toL, List.length_map]; exact hc)], trivial, Nat.zero_le _, by omega⟩
  ·cases h
 ·rename_i r' n lo' hi' sz
  split at h
  ·rename_i row' hr
   cases h
   rw [kAa] at hc
   simp only [toL, fUa, cIa, hr, Option.map_some]
   exact ⟨by rw [if_pos (by simp only [aYa.toL, List.length_map]; exact hc)], trivial, hc.2.2.1, by omega⟩
  ·cases h
 ·cases h
theorem wAa {β : Type} (f : β → LV) (xs ys : List β) (lo : Nat) : (hYb xs lo ys).map f = rQa (xs.map f) lo (ys.map f) := by
 simp only [hYb, rQa, List.map_append, List.map_take, List.map_drop, List.length_map]
theorem hWa (σ : KSt) (r : Nat) (row : aYa) : ({ σ with rows := σ.rows.set r row } : KSt).toL = { σ.toL with rows := σ.toL.rows.set r row.toL } := by
 simp only [KSt.toL, List.map_set]
theorem pZa (σ : KSt) (row : aYa) : ({ σ with rows := σ.rows ++ [row] } : KSt).toL = { σ.toL with rows := σ.toL.rows ++ [row.toL] } := by
 simp only [KSt.toL, List.map_append, List.map]
theorem dPa {T : TypeId → Option Ty} : ∀ {ls : List (Option (TypeId × Nat))} {cs cs' : List KV} {σ σ' : KSt}, dBa T σ ls cs = some (cs', σ') → aSa σ.toL ls (cs.map toL) = (cs'.map toL, σ'.toL) ∧ σ'.loops = σ.loops ∧ σ'.boxes = σ.boxes
 | [], cs, cs', σ, σ', h => by
  simp only [dBa] at h
  cases h
  exact ⟨by cases cs <;> rfl, rfl, rfl⟩
 | none :: ls, [], cs', σ, σ', h => by simp only [dBa] at h; cases h; exact ⟨rfl, rfl, rfl⟩
 | some (e, sz) :: ls, [], cs', σ, σ', h => by simp only [dBa] at h; cases h; exact ⟨rfl, rfl, rfl⟩
 | none :: ls, c :: cs, cs', σ, σ', h => by
  simp only [dBa] at h
  split at h
  ·rename_i cs1 σ1 h1
   cases h
   obtain ⟨a, b, d⟩ := dPa h1
   exact ⟨by simp only [List.map_cons, aSa, a], b, d⟩
  ·cases h
 | some (e, sz) :: ls, c :: cs, cs', σ, σ', h => by
  by_cases hn : c = .nils
  ·subst hn
   simp only [dBa] at h
   split at h
   ·rename_i hz
    split at h
    ·rename_i t hT
     split at h
     ·rename_i cs1 σ1 h1
      cases h
      obtain ⟨a, b, d⟩ := dPa h1
      rw [pZa] at a
      have hl : σ.toL.rows.length = σ.rows.length := by simp [KSt.toL]
      refine ⟨?_, b, d⟩
      simp only [List.map_cons, toL, aSa, hz, if_true, hl]
      simp only [aYa.toL, List.map_nil] at a
      rw [a]
     ·cases h
    ·cases h
   ·rename_i hz
    split at h
    ·rename_i cs1 σ1 h1
     cases h
     obtain ⟨a, b, d⟩ := dPa h1
     exact ⟨by simp only [List.map_cons, toL, aSa, hz, if_false, a], b, d⟩
    ·cases h
  ·have h' : (match dBa T σ ls cs with
    | some (cs', σ') => some (c :: cs', σ')
    | none => none) = some (cs', σ') := by
    cases c <;> first | exact absurd rfl hn | exact h
   have hL : aSa σ.toL (some (e, sz) :: ls) ((c :: cs).map toL) = (c.toL :: (aSa σ.toL ls (cs.map toL)).1, (aSa σ.toL ls (cs.map toL)).2) := by
    cases c <;> first | exact absurd rfl hn | rfl
   split at h'
   ·rename_i cs1 σ1 h1
    cases h'
    obtain ⟨a, b, d⟩ := dPa h1
    exact ⟨by rw [hL, a]; rfl, b, d⟩
   ·cases h'
theorem fXa {T : TypeId → Option Ty} {own : Bool} {t : TypeId} {cs : List KV} {σ σ' : KSt} {v : KV} (h : vZa T P own t cs σ = some (v, σ')) : fRa P own t (cs.map toL) σ.toL = (v.toL, σ'.toL) ∧ σ'.loops = σ.loops := by
 unfold vZa at h
 have hl : σ.toL.boxes.length = σ.boxes.length := by simp [KSt.toL]
 split at h
 ·split at h
  ·rename_i cs1 σ1 h1
   cases h
   obtain ⟨a, b, d⟩ := dPa h1
   refine ⟨?_, b⟩
   simp only [fRa, if_true, hl, a, toL]
   simp only [KSt.toL, List.map_append, List.map, aHa]
  ·cases h
 ·cases h
  refine ⟨?_, rfl⟩
  simp only [fRa, Bool.false_eq_true, if_false, hl, toL]
  simp only [KSt.toL, List.map_append, List.map, aHa]
theorem fYa {T : TypeId → Option Ty} {own : Bool} {t : TypeId} {σ σ' : KSt} {x v : KV} (h : aJb T P own t x σ = some (v, σ')) : lAa P own t x.toL σ.toL = (v.toL, σ'.toL) ∧ σ'.loops = σ.loops := by
 unfold aJb at h
 have hl : σ.toL.rows.length = σ.rows.length := by simp [KSt.toL]
 split at h
 ·cases h; exact ⟨rfl, rfl⟩
 ·split at h
  ·split at h
   ·rename_i e he
    split at h
    ·rename_i sz ty hs hT
     split at h
     ·rename_i hz
      cases h
      refine ⟨?_, rfl⟩
      simp only [lAa, toL, he, hs, hz, if_true, dNa, hl, List.length_nil]
      simp only [KSt.toL, List.map_append, List.map, aYa.toL]
     ·cases h
    ·cases h
   ·cases h
  ·rename_i hn
   cases h
   refine ⟨?_, rfl⟩
   cases x <;> first | exact (hn rfl).elim | rfl
theorem sNa (t : TypeId) : kBa P t = (zCa P t).map toL := by
 have h1 : ∀ u : Value, (gIa {} (eCa u)).1.val = true := fun u => by
  unfold eCa
  split
  ·rfl
  ·split
   ·unfold scK; split <;> rfl
   ·rfl
 have h2 : ∀ us : List Value, (gIa.frzKL {} (us.map eCa)).1.val = true := fun us => by
  induction us with
  | nil => rfl
  | cons u us ih => simp only [List.map_cons, gIa.frzKL, Ck.val, h1, ih, Bool.and_self]
 unfold kBa zCa
 cases P.info? t with
 | none => rfl
 | some i =>
  simp only [Option.bind_some]
  cases i.zero with
  | none => rfl
  | some z =>
   simp only [Option.bind_some]
   split
   ·simp only [Option.map_some, Option.some.injEq]
    refine Eq.trans ?_ (fFa {} _ ?_)
    ·show bIa {} _ = bIa {} _
     congr 1
     split
     ·simp only [toL, aHa, List.map_map]
      congr 1
      exact List.map_congr_left fun u _ => fOa u
     ·rename_i hne
      cases z <;> first | exact fOa _ | exact absurd rfl (hne _)
    ·split
     ·simp only [gIa]; exact h2 _
     ·exact h1 _
   ·rfl
theorem pNa (σ : KSt) (m : Nat) : σ.toL.maps[m]? = (σ.maps[m]?).map tJa.toL := by simp only [KSt.toL, List.getElem?_map]
theorem oTb {str : Bool} {t : Ty} (ht : uEa str t = true) (a b : t.den) : eCb str (eEa t a) (eEa t b) = some (eqK t a b) := by
 cases t <;> cases str <;> first | (cases ht; done) | skip
 ·show eCb false (.sc (.int _ _)) (.sc (.int _ _)) = _
  simp only [eCb, if_true]; rfl
 ·rfl
theorem kMa {str : Bool} {kt vt : Ty} (ht : uEa str kt = true) (k : kt.den) : ∀ l : List (kt.den × vt.den), mOa str (eEa kt k) (l.map fun p => eEa kt p.1) = some (aLb kt vt k l)
 | [] => rfl
 | p :: l => by
  simp only [List.map_cons, mOa, oTb ht, aLb, List.findIdx?_cons]
  cases eqK kt k p.1 with
  | true => rfl
  | false =>
   have := kMa ht k l
   simp only [aLb] at this
   simp only [this, Option.map_some, Bool.false_eq_true, if_false]
theorem mMb {kt vt : Ty} {k : kt.den} {l : List (kt.den × vt.den)} {i : Nat} (h : aLb kt vt k l = some i) : i < l.length := by
 unfold aLb at h
 rw [List.findIdx?_eq_some_iff_findIdx_eq] at h
 exact h.1
theorem oUb {str : Bool} {kt : Ty} (ht : uEa str kt = true) (k : kt.den) : ∃ v, eEa kt k = .sc v := by
 cases kt <;> first | exact ⟨_, rfl⟩ | (cases str <;> cases ht)
end Go.Proofs.YtpeaaophmddhnaaGreat.LI
