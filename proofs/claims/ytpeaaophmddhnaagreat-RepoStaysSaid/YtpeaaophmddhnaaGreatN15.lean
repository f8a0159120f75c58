/-
  An interpreter over values is sound, part 15.
-/
import Derived.Test.YtpeaaophmddhnaaGreatN14
namespace Go.Proofs.YtpeaaophmddhnaaGreat.LI
open Go Go.RowKit
set_option linter.unusedSimpArgs false
set_option linter.unusedVariables false
open KV (toL)
open KV.toL (toLs)
def mDa (e : TypeId) (sz : Nat) : List LV → Option (LV × List Row)
 | [.slice es] => if bGa sz es = true ∧ es.length ≤ bBa then some (.mref 0 es.length, [⟨es, e, sz, true⟩]) else none
 | _ => none
def qGa (t : Ty) (e : TypeId) (sz : Nat) : List KV → Option (Ck × KV × List aYa)
 | [.lst t' l] => if t.ncells = sz then match qEa t' t l with
  | some l => some (.is (decide (l.length ≤ bBa)), .mref 0 l.length, [⟨t, l, e, sz, true⟩])
  | none => (match t', l with
   | .unit, [] => some (.ok, .mref 0 0, [⟨t, [], e, sz, true⟩])
   | _, _ => none) else none
 | _ => none
theorem gBb {t : Ty} {e : TypeId} {sz : Nat} {args : List KV} {c : Ck} {v : KV} {rows : List aYa} (h : qGa t e sz args = some (c, v, rows)) (hc : c.val = true) : mDa e sz (toLs args) = some (v.toL, rows.map aYa.toL) := by
 unfold qGa at h
 split at h
 ·rename_i t' l
  split at h
  ·rename_i hn
   split at h
   ·rename_i l1 hl
    cases h
    simp only [Ck.val, decide_eq_true_eq] at hc
    have := cUa hl
    simp only [toLs, toL, hNa, mDa, this.1]
    rw [if_pos ⟨cWa _ _ _ hn, by rw [List.length_map]; exact hc⟩]
    simp only [List.length_map, List.map, aYa.toL]
   ·split at h
    ·cases h
     rfl
    ·cases h
  ·cases h
 ·cases h
def leB (a b : ByteArray) : Bool := decide (a.data.toList ≤ b.data.toList)
def mCb (x : ByteArray) : List ByteArray → List ByteArray
 | [] => [x]
 | y :: ys => bif leB x y then x :: y :: ys else y :: mCb x ys
def lSa (l : List ByteArray) : List ByteArray := l.foldr mCb []
theorem rCa (x : ByteArray) : ∀ l : List ByteArray, (mCb x l).Perm (x :: l)
 | [] => List.Perm.refl _
 | y :: ys => by
  unfold mCb
  cases leB x y with
  | true => exact List.Perm.refl _
  | false => exact ((rCa x ys).cons y).trans (List.Perm.swap x y ys)
theorem oFa : ∀ l : List ByteArray, (lSa l).Perm l
 | [] => List.Perm.refl _
 | x :: l => (rCa x (lSa l)).trans ((oFa l).cons x)
theorem yBa {a b c : ByteArray} (h : leB a b = true) (k : leB b c = true) : leB a c = true := by
 simp only [leB, decide_eq_true_eq] at *
 exact List.le_trans h k
theorem yAa (a b : ByteArray) : leB a b = true ∨ leB b a = true := by
 simp only [leB, decide_eq_true_eq]
 exact List.le_total a.data.toList b.data.toList
theorem xZa {a b : ByteArray} (h : leB a b = true) (k : leB b a = true) : a = b := by
 simp only [leB, decide_eq_true_eq] at *
 have := List.le_antisymm h k
 cases a; cases b
 simp only [ByteArray.mk.injEq]
 exact Array.toList_inj.1 this
theorem rDa (x : ByteArray) : ∀ l : List ByteArray, l.Pairwise (fun a b => leB a b = true) → (mCb x l).Pairwise (fun a b => leB a b = true)
 | [], _ => by simp [mCb]
 | y :: ys, h => by
  unfold mCb
  obtain ⟨h1, h2⟩ := List.pairwise_cons.1 h
  cases hc : leB x y with
  | true =>
   simp only [cond_true]
   refine List.pairwise_cons.2 ⟨fun z hz => ?_, h⟩
   rcases List.mem_cons.1 hz with rfl | hz
   ·exact hc
   ·exact yBa hc (h1 z hz)
  | false =>
   simp only [cond_false]
   refine List.pairwise_cons.2 ⟨fun z hz => ?_, rDa x ys h2⟩
   rcases List.mem_cons.1 ((rCa x ys).mem_iff.1 hz) with rfl | hz
   ·rcases yAa z y with h3 | h3
    ·rw [hc] at h3; cases h3
    ·exact h3
   ·exact h1 z hz
theorem oXa : ∀ l : List ByteArray, (lSa l).Pairwise (fun a b => leB a b = true)
 | [] => List.Pairwise.nil
 | x :: l => rDa x _ (oXa l)
theorem kQb (l : List ByteArray) : lSa l = l.mergeSort fun a b => decide (a.data.toList ≤ b.data.toList) := by
 refine List.Perm.eq_of_pairwise (le := fun a b => leB a b = true) (fun a b _ _ h k => xZa h k) (oXa l) ?_ ((oFa l).trans (List.mergeSort_perm l _).symm)
 exact List.pairwise_mergeSort (le := leB) (fun a b c h k => yBa h k) (fun a b => by rw [Bool.or_eq_true]; exact yAa a b) l
def jYa : List LV → Option (List ByteArray)
 | [] => some []
 | .sc (.string s) :: l => match jYa l with
  | some l => some (s :: l)
  | none => none
 | _ => none
theorem nJa : ∀ l : List ByteArray, jYa (l.map (eEa .str)) = some l
 | [] => rfl
 | s :: l => by
  have := nJa l
  show jYa (.sc (.string s) :: l.map (eEa .str)) = _
  simp only [jYa, this]
def eQb : List LV → St → Option (LV × St)
 | [.mref r n], σ => match σ.rows[r]? with
  | some row => if row.xs.length = n ∧ row.wr = true ∧ row.sz = 1 ∧ n ≤ bBa then match jYa row.xs with
   | some l => some (.tuple [], { σ with rows := σ.rows.set r { row with xs := (lSa l).map fun s => .str s } })
   | none => none else none
  | none => none
 | _, _ => none
def mUb : List KV → KSt → Option (Ck × KV × KSt)
 | [.mref r n], σ => match σ.rows[r]? with
  | some ⟨.str, l, e, sz, wr⟩ => if wr = true ∧ sz = 1 then some (.and (.is (decide (List.length l = n))) (.is (decide (n ≤ bBa))), .tuple [], { σ with rows := σ.rows.set r ⟨.str, lSa l, e, sz, wr⟩ }) else none
  | _ => none
 | _, _ => none
theorem cZb {args : List KV} {σ σ' : KSt} {c : Ck} {v : KV} (h : mUb args σ = some (c, v, σ')) (hc : c.val = true) : eQb (toLs args) σ.toL = some (v.toL, σ'.toL) ∧ σ'.loops = σ.loops := by
 unfold mUb at h
 split at h
 ·rename_i r n
  split at h
  ·rename_i l e sz wr hr
   split at h
   ·rename_i hcc
    cases h
    simp only [Ck.val, Bool.and_eq_true, decide_eq_true_eq] at hc
    refine ⟨?_, rfl⟩
    simp only [toLs, toL, eQb, cIa, hr, Option.map_some]
    rw [if_pos (by simp only [aYa.toL, List.length_map]; exact ⟨hc.1, hcc.1, hcc.2, hc.2⟩)]
    have hs : jYa (aYa.toL ⟨.str, l, e, sz, wr⟩).xs = some l := nJa l
    rw [hs, hWa]
    rfl
   ·cases h
  ·cases h
 ·cases h
def nUa (e : TypeId) (sz : Nat) : List LV → St → Option (LV × St)
 | [.mref r n, .sc (.int .i64 i), .slice [y]], σ => match σ.rows[r]? with
  | some row => if row.xs.length = n ∧ row.wr = true ∧ row.e = e ∧ row.sz = sz ∧ bGa sz [y] = true ∧ 0 ≤ i ∧ i ≤ n ∧ n + 1 ≤ bBa then
    some (.mref r (n + 1), { σ with rows := σ.rows.set r { row with xs := row.xs.take i.toNat ++ [y] ++ row.xs.drop i.toNat } })
   else none
  | none => none
 | _, _ => none
def oPb {β : Type} (l : List β) (i : Int) (ys : List β) : List β := l.take i.toNat ++ ys ++ l.drop i.toNat
def aBb (e : TypeId) (sz : Nat) : List KV → KSt → Option (Ck × KV × KSt)
 | [.mref r n, x, .lst t l], σ => match x.int?, σ.rows[r]? with
  | some (_, .i64, i), some row => if row.wr = true ∧ Nat.beq row.e e = true ∧ row.sz = sz ∧ row.t.ncells = sz then match qEa t row.t l with
   | some [y] => some (.and (.is (decide (row.l.length = n))) (.and (.is (decide (0 ≤ i))) (.and (.is (decide (i ≤ n))) (.is (decide (n + 1 ≤ bBa))))), .mref r (oPb row.l i [y]).length, { σ with rows := σ.rows.set r { row with l := oPb row.l i [y] } })
   | _ => none else none
  | _, _ => none
 | _, _ => none
theorem uBa {e : TypeId} {sz : Nat} {args : List KV} {σ σ' : KSt} {c : Ck} {v : KV} (h : aBb e sz args σ = some (c, v, σ')) (hc : c.val = true) : nUa e sz (toLs args) σ.toL = some (v.toL, σ'.toL) ∧ σ'.loops = σ.loops := by
 unfold aBb at h
 split at h
 ·rename_i r n x t l
  split at h
  ·rename_i s i row hx hr
   split at h
   ·rename_i hcc
    split at h
    ·rename_i y hl
     cases h
     simp only [Ck.val, Bool.and_eq_true, decide_eq_true_eq] at hc
     obtain ⟨h1, h2, h3, h4⟩ := hc
     obtain ⟨c1, c2⟩ := cUa hl
     refine ⟨?_, rfl⟩
     have hl1 : l.map (eEa t) = [eEa row.t y] := by rw [c1]; rfl
     simp only [toLs, toL, cCa hx, hNa, hl1, nUa, cIa, hr, Option.map_some]
     rw [if_pos (by simp only [aYa.toL, List.length_map]; exact ⟨h1, hcc.1, Nat.eq_of_beq_eq_true hcc.2.1, hcc.2.2.1, cWa _ [y] _ hcc.2.2.2, h2, h3, h4⟩)]
     rw [hWa]
     have hlen : (oPb row.l i [y]).length = n + 1 := by
      simp only [oPb, List.length_append, List.length_take, List.length_drop, List.length_cons, List.length_nil]
      omega
     simp only [aYa.toL, oPb, List.map_append, List.map_take, List.map_drop, List.length_map, List.map_cons, List.map_nil] at hlen ⊢
     rw [hlen]
    ·cases h
   ·cases h
  ·cases h
 ·cases h
theorem nXb {P : Program} {Θ : Th} {f : FuncId} {b : Bool} (h : run P Θ (.call f []) = some ⟨.normal, .sc (.bool b), default, {}⟩) : nJb P Θ f [] (.ty .bool) [] (fun _ => some (b, ())) := fun x y e => by
 obtain rfl := (Option.some.inj e)
 exact h
abbrev OCs := Fk → Bd → Sm → Cs
structure fEb (P : Program) (Θ : Th) (S : OCs) : Prop where
 k : FkOK (S jKa lIa bFb)
 ok : sSa P Θ (S jKa lIa bFb)
noncomputable def addF (S : OCs) (P : Program) (f : FuncId) (a : List Shp) (v : Shp) (r : List sUa) (F : dens a Unit → Option (retS v r).den) : OCs := fun fk bd sm => (S fk bd sm).addF P f a v r F
noncomputable def addL (S : OCs) (P : Program) (f : FuncId) (key : Nat) (h : fCa) (os : List sQa) (L : h.den → Option (denO os)) : OCs := fun fk bd sm => (S fk bd sm).addLT P f key h os L
section
variable {P : Program} {Θ : Th} {S : OCs}
theorem fEb.fn (c : fEb P Θ S) {f : FuncId} {a : List Shp} {v : Shp} {r : List sUa} {F : dens a Unit → Option (retS v r).den} (e : F = jTa (fnT P Θ (S jKa lIa bFb) f a v r)) : nJb P Θ f a v r F :=
 have := c.k
 mAb c.ok (e.trans (jUa _))
theorem fEb.addC (c : fEb P Θ S) {f : FuncId} {a : List Shp} {v : Shp} {r : List sUa} {F : dens a Unit → Option (retS v r).den} (h : nJb P Θ f a v r F) : fEb P Θ (addF S P f a v r F) :=
 ⟨⟨c.k.eq, c.k.bd, c.k.sm⟩, c.ok.addF h⟩
theorem fEb.addF (c : fEb P Θ S) {f : FuncId} {a : List Shp} {v : Shp} {r : List sUa} {F : dens a Unit → Option (retS v r).den} (e : F = jTa (fnT P Θ (S jKa lIa bFb) f a v r)) : fEb P Θ (addF S P f a v r F) := c.addC (c.fn e)
theorem fEb.addL (c : fEb P Θ S) {f : FuncId} {key : Nat} {h : fCa} {os : List sQa} {L : h.den → Option (denO os)} (hk : ((aGa (aWa P f)).filter fun a => aCa a == some key).length = 1) (hh : okS P h = true) (hos : (os.all fun o => okS P o.s) = true)
  (e : L = jTa (pBa (nHa P Θ (S jKa lIa bFb) f key h os))) : fEb P Θ (addL S P f key h os L) :=
 have := c.k
 ⟨⟨c.k.eq, c.k.bd, c.k.sm⟩, c.ok.addLT hk hh hos (hJb c.ok hk hh hos (e.trans (jUa _)))⟩
theorem eqF {f : FuncId} {a : List Shp} {v : Shp} {r : List sUa} {x : dens a Unit} {T : Fk → Bd → Sm → Option (retS v r).den} (h : ∀ (fk : Fk) (bd : Bd) (sm : Sm), fnT P Θ (S fk bd sm) f a v r x = T fk bd sm) : jTa (fnT P Θ (S jKa lIa bFb) f a v r) x = T jKa lIa bFb :=
 (congrFun (jUa _) _).trans (h jKa lIa bFb)
theorem eqL {f : FuncId} {key : Nat} {s : fCa} {os : List sQa} {x : s.den} {T : Fk → Bd → Sm → Option (s.den ⊕ denO os)} (h : ∀ (fk : Fk) (bd : Bd) (sm : Sm), nHa P Θ (S fk bd sm) f key s os x = T fk bd sm) :
  jTa (pBa (nHa P Θ (S jKa lIa bFb) f key s os)) x = (T jKa lIa bFb).bind (Sum.elim (jTa (pBa (nHa P Θ (S jKa lIa bFb) f key s os))) some) :=
 (eOb _ _).trans (congrArg (fun q => Option.bind q (Sum.elim (jTa (pBa (nHa P Θ (S jKa lIa bFb) f key s os))) some)) (h jKa lIa bFb))
end
end Go.Proofs.YtpeaaophmddhnaaGreat.LI
