/-
  What the lettered values stand for: the operations' parts. No program is named here.
-/
import Derived.Test.YticpcfchhcjjeaaGreatLiKA
namespace Go.Proofs.YticpcfchhcjjeaaGreat.LI
open Go Go.RowKit
open KV (toL)
open KV.toL (toLs)

theorem toLs_map : ∀ vs : List KV, toLs vs = vs.map toL
  | [] => rfl
  | v :: vs => by rw [toLs, toLs_map vs]; rfl
theorem lstL_eq (t : Ty) (l : List t.den) : lstL t l = .slice (l.map (encL t)) := rfl
theorem toL_cells (v : KV) : v.toL.cells = v.cells.map toL := by
  cases v <;> first | rfl | simp only [toL, KV.cells, LV.cells, toLs_map]
theorem toL_storable (v : KV) : storable v.toL = v.storable := by
  cases v <;> rfl
theorem toLs_cellsT : ∀ (t : Ty) (x : t.den), (cellsT t x).map toL = cellsL t x
  | .int _, _ => rfl
  | .byte, _ => rfl
  | .bool, _ => rfl
  | .str, _ => rfl
  | .list _, _ => rfl
  | .unit, _ => rfl
  | .pair a b, p => by simp only [cellsT, cellsL, List.map_append, toLs_cellsT a, toLs_cellsT b]
theorem toL_encT (t : Ty) (x : t.den) : (encT t x).toL = encL t x := by
  unfold encT encL oneL
  cases h : t.isAgg with
  | true => simp only [cond_true, toL, toLs_map, toLs_cellsT]
  | false => simp only [cond_false]; rw [← toLs_cellsT]; cases cellsT t x <;> rfl
theorem encT_cells (t : Ty) (x : t.den) : (encT t x).cells = cellsT t x := by
  cases t <;> rfl
theorem encL_cells (t : Ty) (x : t.den) : (encL t x).cells = cellsL t x := by
  rw [← toL_encT, toL_cells, encT_cells, toLs_cellsT]
theorem cellsL_len : ∀ (t : Ty) (x : t.den), (cellsL t x).length = t.ncells
  | .int _, _ => rfl
  | .byte, _ => rfl
  | .bool, _ => rfl
  | .str, _ => rfl
  | .list _, _ => rfl
  | .unit, _ => rfl
  | .pair a b, p => by simp only [cellsL, List.length_append, cellsL_len a, cellsL_len b, Ty.ncells]
theorem encL_storable (t : Ty) (x : t.den) : storable (encL t x) = true := by
  rw [← toL_encT, toL_storable]
  cases t <;> rfl
theorem elemsOk_enc (t : Ty) (l : List t.den) (sz : Nat) (h : t.ncells = sz) : elemsOk sz (l.map (encL t)) = true := by
  unfold elemsOk
  rw [List.all_map, List.all_eq_true]
  intro x _
  simp only [Function.comp, encL_cells, cellsL_len, h, encL_storable, beq_self_eq_true, Bool.and_self]

theorem int_toL {x : KV} {s : Bool} {k : IntKind} {n : Int} (h : x.int? = some (s, k, n)) : x.toL = .sc (.int k n) := by
  unfold KV.int? at h
  split at h <;> cases h <;> rfl
theorem bool_toL {x : KV} {s b : Bool} (h : x.bool? = some (s, b)) : x.toL = .sc (.bool b) := by
  unfold KV.bool? at h
  split at h <;> cases h <;> rfl
theorem str_toL {x : KV} {s : Bool} {b : ByteArray} (h : x.str? = some (s, b)) : x.toL = .sc (.string b) := by
  unfold KV.str? at h
  split at h <;> cases h <;> rfl
theorem mk_toL (s : Bool) (v : Value) : (KV.mk s v).toL = .sc v := by cases s <;> rfl
theorem st_val (s b : Bool) : (Ck.st s b).val = b := by cases s <;> cases b <;> rfl
mutual
theorem dyn_toL : ∀ (v : KV), v.dyn.toL = v.toL
  | .undef => rfl
  | .sc _ => rfl
  | .st _ => rfl
  | .nils => rfl
  | .lst _ _ => rfl
  | .mref _ _ => rfl
  | .mview _ _ _ _ _ => rfl
  | .mapr _ => rfl
  | .agg cs => by simp only [KV.dyn, toL, dyns_toL cs]
  | .tuple cs => by simp only [KV.dyn, toL, dyns_toL cs]
  | .bptr _ _ => rfl
  | .pptr cs => by simp only [KV.dyn, toL, dyns_toL cs]
  | .rptr _ _ _ _ _ => rfl
  | .func fn fst caps => by simp only [KV.dyn, toL, dyns_toL fst, dyns_toL caps]
theorem dyns_toL : ∀ (vs : List KV), toLs (KV.dyn.dyns vs) = toLs vs
  | [] => rfl
  | v :: vs => by simp only [KV.dyn.dyns, toLs, dyn_toL v, dyns_toL vs]
end
theorem decT_sound : ∀ (t : Ty) (cs : List KV) (c : Ck) (x : t.den) (r : List KV), decT t cs = some (c, x, r) → c.val = true → cs.map toL = cellsL t x ++ r.map toL
  | .int k, cs, c, x, r, h, hc => by
    simp only [decT] at h
    unfold decInt at h
    split at h
    · split at h
      · rename_i hx
        split at h <;> cases h
        rename_i hk; subst hk
        simp only [List.map_cons, int_toL hx, cellsL, List.cons_append, List.nil_append]
      · cases h
    · cases h
  | .byte, cs, c, x, r, h, hc => by
    simp only [decT] at h
    unfold decByte at h
    split at h
    · rename_i y r0
      split at h
      · rename_i s n hx
        injection h with h
        have e1 : Ck.st s (decide (0 ≤ n) && decide (n < 256)) = c := congrArg Prod.fst h
        have e2 : UInt8.ofNat n.toNat = x := congrArg (fun p => p.2.1) h
        have e3 : r0 = r := congrArg (fun p => p.2.2) h
        subst e1 e2 e3
        simp only [st_val, Bool.and_eq_true, decide_eq_true_eq] at hc
        obtain ⟨h1, h2⟩ := hc
        have : (UInt8.toNat (UInt8.ofNat n.toNat) : Int) = n := by
          rw [UInt8.toNat_ofNat']
          omega
        simp only [List.map_cons, cellsL, this, int_toL hx, List.cons_append, List.nil_append]
      · cases h
    · cases h
  | .bool, cs, c, x, r, h, hc => by
    simp only [decT] at h
    unfold decBool at h
    split at h
    · split at h
      · rename_i hx; cases h
        simp only [List.map_cons, bool_toL hx, cellsL, List.cons_append, List.nil_append]
      · cases h
    · cases h
  | .str, cs, c, x, r, h, hc => by
    simp only [decT] at h
    unfold decStr at h
    split at h
    · split at h
      · rename_i hx; cases h
        simp only [List.map_cons, str_toL hx, cellsL, List.cons_append, List.nil_append]
      · cases h
    · cases h
  | .list t, cs, c, x, r, h, hc => by
    simp only [decT] at h
    unfold decList at h
    split at h
    · split at h
      · rename_i ht; subst ht
        cases h
        rfl
      · split at h
        · cases h; rfl
        · cases h
    · cases h
  | .unit, cs, c, x, r, h, hc => by cases h; rfl
  | .pair a b, cs, c, x, r, h, hc => by
    simp only [decT] at h
    split at h
    · rename_i c1 x1 r1 h1
      split at h
      · rename_i c2 y r2 h2
        simp only [Option.some.injEq, Prod.mk.injEq] at h
        obtain ⟨rfl, rfl, rfl⟩ := h
        simp only [Ck.val, Bool.and_eq_true] at hc
        rw [decT_sound a _ _ _ _ h1 hc.1, decT_sound b _ _ _ _ h2 hc.2]
        simp only [cellsL, List.append_assoc]
      · cases h
    · cases h
theorem decV_sound {t : Ty} {v : KV} {c : Ck} {x : t.den} (h : decV t v = some (c, x)) (hc : c.val = true) : v.toL = encL t x := by
  unfold decV at h
  split at h
  · rename_i ha
    split at h
    · rename_i c' x' hd
      cases h
      have h1 := decT_sound t _ _ _ _ hd hc
      rw [List.map_nil, List.append_nil, ← toL_cells] at h1
      unfold encL oneL
      rw [← h1]
      cases hb : t.isAgg with
      | true =>
        rw [hb] at ha
        cases v <;> first | (cases ha; done) | rfl
      | false =>
        rw [hb] at ha
        cases v <;> first | (cases ha; done) | rfl
    · cases h
  · cases h
theorem decVs_sound {t : Ty} : ∀ {vs : List KV} {c : Ck} {xs : List t.den}, decVs t vs = some (c, xs) → c.val = true → vs.map toL = xs.map (encL t)
  | [], c, xs, h, hc => by cases h; rfl
  | v :: vs, c, xs, h, hc => by
    simp only [decVs] at h
    split at h
    · rename_i c1 x c2 xs' h1 h2
      simp only [Option.some.injEq, Prod.mk.injEq] at h
      obtain ⟨rfl, rfl⟩ := h
      simp only [Ck.val, Bool.and_eq_true] at hc
      rw [List.map_cons, List.map_cons, decV_sound h1 hc.1, decVs_sound h2 hc.2]
    · cases h
theorem castL_sound {t' t : Ty} {l : List t'.den} {l' : List t.den} (h : castL t' t l = some l') : l.map (encL t') = l'.map (encL t) ∧ l.length = l'.length := by
  unfold castL at h
  split at h
  · rename_i ht; subst ht; cases h; exact ⟨rfl, rfl⟩
  · cases h

/-! ### the store -/
theorem rows_get (σ : KSt) (r : Nat) : σ.toL.rows[r]? = (σ.rows[r]?).map KRow.toL := by simp only [KSt.toL, List.getElem?_map]
theorem frzV_lst (σ : St) (t : Ty) (l : List t.den) : frzV σ (lstL t l) = lstL t l := rfl
mutual
theorem frzK_sound (σ : KSt) : ∀ (v : KV), (frzK σ v).1.val = true → frzV σ.toL v.toL = (frzK σ v).2.toL
  | .undef, _ => rfl
  | .sc _, _ => rfl
  | .st _, _ => rfl
  | .nils, _ => rfl
  | .lst _ _, _ => rfl
  | .mref r n, h => by
    simp only [frzK] at h ⊢
    simp only [toL, frzV, rows_get]
    cases hr : σ.rows[r]? with
    | none => rw [hr] at h; cases h
    | some row =>
      rw [hr] at h
      simp only [Ck.val, decide_eq_true_eq] at h
      simp only [Option.map_some, KRow.toL, List.length_map, h, if_true, toL, lstL_eq]
  | .mview r n lo hi sz, h => by
    simp only [frzK] at h ⊢
    simp only [toL, frzV, rows_get]
    cases hr : σ.rows[r]? with
    | none => rw [hr] at h; cases h
    | some row =>
      rw [hr] at h
      simp only [Ck.val, Bool.and_eq_true, decide_eq_true_eq, st_val] at h
      have h2 : row.sz = sz := Nat.eq_of_beq_eq_true h.2.1
      simp only [Option.map_some, h2, KRow.toL, List.length_map, h, and_self, if_true, toL, lstL_eq, List.map_take, List.map_drop]
  | .mapr _, _ => rfl
  | .agg cs, h => by simp only [frzK, toL, frzV]; rw [frzKL_sound σ cs h]
  | .tuple cs, h => by simp only [frzK, toL, frzV]; rw [frzKL_sound σ cs h]
  | .bptr _ _, _ => rfl
  | .pptr _, _ => rfl
  | .rptr _ _ _ _ _, _ => rfl
  | .func fn fst caps, h => by
    simp only [frzK, Ck.val, Bool.and_eq_true] at h
    simp only [frzK, toL, frzV]; rw [frzKL_sound σ fst h.1, frzKL_sound σ caps h.2]
theorem frzKL_sound (σ : KSt) : ∀ (vs : List KV), (frzK.frzKL σ vs).1.val = true → frzV.frzL σ.toL (toLs vs) = toLs (frzK.frzKL σ vs).2
  | [], _ => rfl
  | v :: vs, h => by
    simp only [frzK.frzKL, Ck.val, Bool.and_eq_true] at h
    simp only [frzK.frzKL, toLs, frzV.frzL]; rw [frzK_sound σ v h.1, frzKL_sound σ vs h.2]
end
mutual
theorem rowsK_eq : ∀ (v : KV), rowsIn v.toL = rowsK v
  | .undef => rfl
  | .sc _ => rfl
  | .st _ => rfl
  | .nils => rfl
  | .lst _ _ => rfl
  | .mref r n => rfl
  | .mview _ _ _ _ _ => rfl
  | .mapr _ => rfl
  | .agg cs => by simp only [toL, rowsIn, rowsK, rowsKL_eq cs]
  | .tuple cs => by simp only [toL, rowsIn, rowsK, rowsKL_eq cs]
  | .bptr _ _ => rfl
  | .pptr _ => rfl
  | .rptr _ _ _ _ _ => rfl
  | .func fn fst caps => by simp only [toL, rowsIn, rowsK, rowsKL_eq fst, rowsKL_eq caps]
theorem rowsKL_eq : ∀ (vs : List KV), rowsIn.rowsInL (toLs vs) = rowsK.rowsKL vs
  | [] => rfl
  | v :: vs => by simp only [toLs, rowsIn.rowsInL, rowsK.rowsKL, rowsK_eq v, rowsKL_eq vs]
end
theorem frzKS_eq : ∀ (rs : List Nat) (σ : KSt), frzS σ.toL rs = (frzKS σ rs).toL
  | [], σ => rfl
  | r :: rs, σ => by
    simp only [frzS, frzKS]
    rw [← frzKS_eq rs]
    congr 1
    simp only [rows_get]
    cases h : σ.rows[r]? with
    | none => rfl
    | some row => simp only [Option.map_some, KSt.toL, List.map_set, KRow.toL]
theorem frzKS_loops : ∀ (rs : List Nat) (σ : KSt), (frzKS σ rs).loops = σ.loops
  | [], σ => rfl
  | r :: rs, σ => by simp only [frzKS, frzKS_loops rs]
theorem cellsL_free : ∀ (t : Ty) (x : t.den), refFree.refFreeL (cellsL t x) = true
  | .int _, _ => rfl
  | .byte, _ => rfl
  | .bool, _ => rfl
  | .str, _ => rfl
  | .list t, p => by
    have : ∀ l : List t.den, refFree.refFreeL (l.map fun x => oneL t.isAgg (cellsL t x)) = true := fun l => by
      induction l with
      | nil => rfl
      | cons x l ih =>
        have h1 : refFree (oneL t.isAgg (cellsL t x)) = true := by
          unfold oneL
          have h2 := cellsL_free t x
          cases t.isAgg with
          | true => simpa [refFree] using h2
          | false =>
            simp only [cond_false]
            cases hc : cellsL t x with
            | nil => rfl
            | cons y ys => rw [hc] at h2; simp only [refFree.refFreeL, Bool.and_eq_true] at h2; exact h2.1
        simp only [List.map_cons, refFree.refFreeL, h1, ih, Bool.and_self]
    simp only [cellsL, refFree.refFreeL, Bool.and_true, refFree]
    exact this p
  | .unit, _ => rfl
  | .pair a b, p => by
    have app : ∀ xs ys : List LV, refFree.refFreeL (xs ++ ys) = (refFree.refFreeL xs && refFree.refFreeL ys) := fun xs ys => by
      induction xs with
      | nil => rfl
      | cons x xs ih => simp only [List.cons_append, refFree.refFreeL, ih, Bool.and_assoc]
    simp only [cellsL, app, cellsL_free a, cellsL_free b, Bool.and_self]
theorem lstL_free (t : Ty) (l : List t.den) : refFree (lstL t l) = true := by
  have := cellsL_free (.list t) l
  simp only [cellsL, refFree.refFreeL, Bool.and_true] at this
  exact this
mutual
theorem freeK_eq : ∀ (v : KV), refFree v.toL = freeK v
  | .undef => rfl
  | .sc _ => rfl
  | .st _ => rfl
  | .nils => rfl
  | .lst t l => lstL_free t l
  | .mref r n => rfl
  | .mview _ _ _ _ _ => rfl
  | .mapr _ => rfl
  | .agg cs => by simp only [toL, refFree, freeK, freeKL_eq cs]
  | .tuple cs => by simp only [toL, refFree, freeK, freeKL_eq cs]
  | .bptr _ _ => rfl
  | .pptr cs => by simp only [toL, refFree, freeK, freeKL_eq cs]
  | .rptr _ _ _ _ _ => rfl
  | .func fn fst caps => by simp only [toL, refFree, freeK, freeKL_eq fst, freeKL_eq caps]; cases fn <;> rfl
theorem freeKL_eq : ∀ (vs : List KV), refFree.refFreeL (toLs vs) = freeK.freeKL vs
  | [] => rfl
  | v :: vs => by simp only [toLs, refFree.refFreeL, freeK.freeKL, freeK_eq v, freeKL_eq vs]
end

theorem encL_free (t : Ty) (x : t.den) : refFree (encL t x) = true := by
  have h := cellsL_free t x
  unfold encL oneL
  cases t.isAgg with
  | true => simp only [cond_true, refFree, h]
  | false =>
    simp only [cond_false]
    cases hc : cellsL t x with
    | nil => rfl
    | cons y ys => rw [hc] at h; simp only [refFree.refFreeL, Bool.and_eq_true] at h; exact h.1

/-- Data are not changed by freezing. -/
theorem frzV_enc (σ : St) (t : Ty) (x : t.den) : frzV σ (encL t x) = encL t x := by
  have cell : ∀ (t : Ty) (x : t.den), frzV.frzL σ (cellsL t x) = cellsL t x := fun t => by
    induction t with
    | pair a b iha ihb =>
      intro p
      have app : ∀ xs ys : List LV, frzV.frzL σ (xs ++ ys) = frzV.frzL σ xs ++ frzV.frzL σ ys := fun xs ys => by
        induction xs with
        | nil => rfl
        | cons x xs ih => simp only [List.cons_append, frzV.frzL, ih]
      simp only [cellsL, app, iha, ihb]
    | _ => intro x; rfl
  have h := cell t x
  unfold encL oneL
  cases t.isAgg with
  | true => simp only [cond_true, frzV, h]
  | false =>
    simp only [cond_false]
    cases hc : cellsL t x with
    | nil => rfl
    | cons y ys => rw [hc] at h; simp only [frzV.frzL, List.cons.injEq] at h; exact h.1

/-! ### constants, cells, slots -/
theorem scK_eq (v : Value) : (scK v).toL = .sc v := by cases v <;> rfl
theorem ofConst1K_eq (v : Value) : ofConst1 v = (ofConst1K v).toL := by
  unfold ofConst1 ofConst1K
  split
  · rfl
  · split
    · split
      · rename_i h _; exact absurd rfl h
      · first | exact (scK_eq _).symm | (split <;> first | exact (scK_eq _).symm | contradiction)
    · split
      · rename_i h _; exact absurd rfl h
      · first | rfl | (split <;> first | rfl | contradiction)
theorem ofConstK_eq (v : Value) : ofConst v = (ofConstK v).toL := by
  cases v
  case agg cs =>
    simp only [ofConst, ofConstK]
    split
    · simp only [toL, toLs_map, List.map_map]
      congr 1
      apply List.map_congr_left
      intro x _
      exact ofConst1K_eq x
    · rfl
  case tuple vs =>
    simp only [ofConst, ofConstK]
    split <;> rfl
  all_goals (simp only [ofConst, ofConstK]; exact ofConst1K_eq _)
variable {P : Program}
theorem zeroK_eq (t : TypeId) : zeroB P t = (zeroK P t).map (List.map toL) := by
  unfold zeroB zeroK
  cases P.info? t with
  | none => rfl
  | some i =>
    simp only [Option.bind_some]
    cases i.zero with
    | none => rfl
    | some z =>
      simp only [Option.bind_some]
      split
      · simp only [Option.map_some, List.map_map]
        congr 2
        funext x
        exact ofConst1K_eq x
      · rfl
theorem readK_eq (t : TypeId) (cs : List KV) : readCells P t (cs.map toL) = (readK P t cs).map toL := by
  unfold readCells readK
  simp only [Option.bind_eq_bind]
  cases sizeB P t with
  | none => rfl
  | some n =>
    simp only [Option.bind_some]
    cases isAggB P t with
    | none => rfl
    | some b =>
      cases b with
      | true =>
        simp only [Option.bind_some, if_true, List.length_map]
        split
        · simp only [Option.map_some, toL, toLs_map, List.map_take]
        · rfl
      | false => simp only [Option.bind_some, Bool.false_eq_true, if_false]; cases cs <;> rfl
theorem spliceK_eq (cs : List KV) (off : Nat) (new : List KV) : splice (cs.map toL) off (new.map toL) = (spliceK cs off new).map toL := by
  simp only [splice, spliceK, List.map_append, List.map_take, List.map_drop, List.length_map]
theorem ev_eq (e : KEnv) (y : Operand) : e.toL.ev y = (e.ev y).toL := by
  cases y with
  | tmp t =>
    simp only [KEnv.toL, Env.ev, KEnv.ev, toLs_map]
    rw [List.getD_eq_getElem?_getD, List.getD_eq_getElem?_getD, List.getElem?_map]
    cases e.t[t]? <;> rfl
  | const v => exact ofConstK_eq v
  | global _ => rfl
  | func f => rfl
theorem put_eq (e : KEnv) (d : Option Tmp) (v : KV) : e.toL.put d v.toL = (e.put d v).toL := by
  cases d with
  | none => rfl
  | some d => simp only [Env.put, KEnv.put, KEnv.toL, toLs_map, List.map_set]
theorem fillK_eq (place : Nat → Option (Nat × Nat)) : ∀ (parts : List (Nat × KV)) (cells : List KV), fillL place (cells.map toL) (parts.map fun p => (p.1, p.2.toL)) = (fillK place cells parts).map (List.map toL)
  | [], cells => rfl
  | (i, v) :: rest, cells => by
    simp only [List.map_cons, fillL, fillK]
    cases place i with
    | none => rfl
    | some p =>
      obtain ⟨off, n⟩ := p
      simp only [toL_cells, toL_storable, List.length_map]
      split
      · rw [spliceK_eq]; exact fillK_eq place rest _
      · rfl
theorem builtK_eq (t : TypeId) (parts : List (Nat × KV)) : builtL P t (parts.map fun p => (p.1, p.2.toL)) = (builtK P t parts).map (List.map toL) := by
  unfold builtL builtK
  rw [zeroK_eq]
  cases zeroK P t with
  | none => rfl
  | some zs =>
    simp only [Option.map_some, Option.bind_some]
    cases placesB P t with
    | none => rfl
    | some pl => exact fillK_eq _ _ _
theorem viewC_val {row : KRow} {n lo hi sz : Nat} : (viewC row n lo hi sz).val = true ↔ row.l.length = n ∧ row.sz = sz ∧ lo ≤ hi ∧ hi ≤ n := by
  simp only [viewC, Ck.val, Bool.and_eq_true, decide_eq_true_eq, st_val]
  exact ⟨fun h => ⟨h.1, Nat.eq_of_beq_eq_true h.2.1, h.2.2⟩, fun h => ⟨h.1, by rw [h.2.1]; exact Nat.beq_refl sz, h.2.2⟩⟩
theorem elemsK_sound {σ : KSt} {v : KV} {c : Ck} {s : (t : Ty) × List t.den} (h : elemsK σ v = some (c, s)) (hc : c.val = true) : elems σ.toL v.toL = some (s.2.map (encL s.1)) := by
  unfold elemsK at h
  split at h
  · cases h; rfl
  · cases h; rfl
  · rename_i r n
    simp only [toL, elems, rows_get]
    split at h
    · rename_i row hr
      simp only [Option.some.injEq, Prod.mk.injEq] at h
      obtain ⟨rfl, rfl⟩ := h
      simp only [Ck.val, decide_eq_true_eq] at hc
      rw [hr]
      simp only [Option.map_some, KRow.toL, List.length_map, hc, if_true]
    · cases h
  · rename_i r n lo hi sz
    simp only [toL, elems, rows_get]
    split at h
    · rename_i row hr
      simp only [Option.some.injEq, Prod.mk.injEq] at h
      obtain ⟨rfl, rfl⟩ := h
      rw [viewC_val] at hc
      rw [hr]
      simp only [Option.map_some, KRow.toL, List.length_map, hc, and_self, if_true, List.map_take, List.map_drop]
    · cases h
  · cases h
theorem lenK_sound {σ : KSt} {v : KV} {c : Ck} {s : Bool} {n : Nat} (h : lenK σ v = some (c, s, n)) (hc : c.val = true) : ∃ es, elems σ.toL v.toL = some es ∧ es.length = n := by
  unfold lenK at h
  split at h
  · cases h; exact ⟨[], rfl, rfl⟩
  · cases h; exact ⟨_, rfl, by simp⟩
  · rename_i r m
    split at h
    · rename_i row hr
      simp only [Option.some.injEq, Prod.mk.injEq] at h
      obtain ⟨rfl, _, rfl⟩ := h
      have := elemsK_sound (σ := σ) (v := .mref r m) (s := ⟨row.t, row.l⟩) (c := .is (decide (row.l.length = m))) (by simp only [elemsK, hr]) hc
      exact ⟨_, this, by simp⟩
    · cases h
  · rename_i r m lo hi sz
    split at h
    · rename_i row hr
      simp only [Option.some.injEq, Prod.mk.injEq] at h
      obtain ⟨rfl, _, rfl⟩ := h
      have := elemsK_sound (σ := σ) (v := .mview r m lo hi sz) (s := ⟨row.t, (row.l.drop lo).take (hi - lo)⟩) (c := viewC row m lo hi sz) (by simp only [elemsK, hr]) hc
      rw [viewC_val] at hc
      exact ⟨_, this, by simp; omega⟩
    · cases h
  · cases h
theorem partK_sound {σ : KSt} {v : KV} {c : Ck} {r lo hi : Nat} {row : KRow} (h : partK σ v = some (c, r, row, lo, hi)) (hc : c.val = true) : partOf σ.toL v.toL = some (r, row.toL, lo, hi) ∧ σ.rows[r]? = some row ∧ lo ≤ hi ∧ hi ≤ row.l.length := by
  unfold partK at h
  split at h
  · rename_i r' n
    split at h
    · rename_i row' hr
      cases h
      simp only [Ck.val, decide_eq_true_eq] at hc
      simp only [toL, partOf, rows_get, hr, Option.map_some]
      exact ⟨by rw [if_pos (by simp only [KRow.toL, List.length_map]; exact hc)], trivial, Nat.zero_le _, by omega⟩
    · cases h
  · rename_i r' n lo' hi' sz
    split at h
    · rename_i row' hr
      cases h
      rw [viewC_val] at hc
      simp only [toL, partOf, rows_get, hr, Option.map_some]
      exact ⟨by rw [if_pos (by simp only [KRow.toL, List.length_map]; exact hc)], trivial, hc.2.2.1, by omega⟩
    · cases h
  · cases h
theorem overT_eq {β : Type} (f : β → LV) (xs ys : List β) (lo : Nat) : (overT xs lo ys).map f = overL (xs.map f) lo (ys.map f) := by
  simp only [overT, overL, List.map_append, List.map_take, List.map_drop, List.length_map]
theorem setRow_eq (σ : KSt) (r : Nat) (row : KRow) : ({ σ with rows := σ.rows.set r row } : KSt).toL = { σ.toL with rows := σ.toL.rows.set r row.toL } := by
  simp only [KSt.toL, List.map_set]
theorem addRow_eq (σ : KSt) (row : KRow) : ({ σ with rows := σ.rows ++ [row] } : KSt).toL = { σ.toL with rows := σ.toL.rows ++ [row.toL] } := by
  simp only [KSt.toL, List.map_append, List.map]
theorem ownCellsK_sound {T : TypeId → Option Ty} : ∀ {ls : List (Option (TypeId × Nat))} {cs cs' : List KV} {σ σ' : KSt}, ownCellsK T σ ls cs = some (cs', σ') → ownCells σ.toL ls (cs.map toL) = (cs'.map toL, σ'.toL) ∧ σ'.loops = σ.loops ∧ σ'.boxes = σ.boxes
  | [], cs, cs', σ, σ', h => by
    simp only [ownCellsK] at h
    cases h
    exact ⟨by cases cs <;> rfl, rfl, rfl⟩
  | none :: ls, [], cs', σ, σ', h => by simp only [ownCellsK] at h; cases h; exact ⟨rfl, rfl, rfl⟩
  | some (e, sz) :: ls, [], cs', σ, σ', h => by simp only [ownCellsK] at h; cases h; exact ⟨rfl, rfl, rfl⟩
  | none :: ls, c :: cs, cs', σ, σ', h => by
    simp only [ownCellsK] at h
    split at h
    · rename_i cs1 σ1 h1
      cases h
      obtain ⟨a, b, d⟩ := ownCellsK_sound h1
      exact ⟨by simp only [List.map_cons, ownCells, a], b, d⟩
    · cases h
  | some (e, sz) :: ls, c :: cs, cs', σ, σ', h => by
    by_cases hn : c = .nils
    · subst hn
      simp only [ownCellsK] at h
      split at h
      · rename_i hz
        split at h
        · rename_i t hT
          split at h
          · rename_i cs1 σ1 h1
            cases h
            obtain ⟨a, b, d⟩ := ownCellsK_sound h1
            rw [addRow_eq] at a
            have hl : σ.toL.rows.length = σ.rows.length := by simp [KSt.toL]
            refine ⟨?_, b, d⟩
            simp only [List.map_cons, toL, ownCells, hz, if_true, hl]
            simp only [KRow.toL, List.map_nil] at a
            rw [a]
          · cases h
        · cases h
      · rename_i hz
        split at h
        · rename_i cs1 σ1 h1
          cases h
          obtain ⟨a, b, d⟩ := ownCellsK_sound h1
          exact ⟨by simp only [List.map_cons, toL, ownCells, hz, if_false, a], b, d⟩
        · cases h
    · have h' : (match ownCellsK T σ ls cs with
        | some (cs', σ') => some (c :: cs', σ')
        | none => none) = some (cs', σ') := by
        cases c <;> first | exact absurd rfl hn | exact h
      have hL : ownCells σ.toL (some (e, sz) :: ls) ((c :: cs).map toL) = (c.toL :: (ownCells σ.toL ls (cs.map toL)).1, (ownCells σ.toL ls (cs.map toL)).2) := by
        cases c <;> first | exact absurd rfl hn | rfl
      split at h'
      · rename_i cs1 σ1 h1
        cases h'
        obtain ⟨a, b, d⟩ := ownCellsK_sound h1
        exact ⟨by rw [hL, a]; rfl, b, d⟩
      · cases h'
theorem newBoxK_sound {T : TypeId → Option Ty} {own : Bool} {t : TypeId} {cs : List KV} {σ σ' : KSt} {v : KV} (h : newBoxK T P own t cs σ = some (v, σ')) : newBoxS P own t (cs.map toL) σ.toL = (v.toL, σ'.toL) ∧ σ'.loops = σ.loops := by
  unfold newBoxK at h
  have hl : σ.toL.boxes.length = σ.boxes.length := by simp [KSt.toL]
  split at h
  · split at h
    · rename_i cs1 σ1 h1
      cases h
      obtain ⟨a, b, d⟩ := ownCellsK_sound h1
      refine ⟨?_, b⟩
      simp only [newBoxS, if_true, hl, a, toL]
      simp only [KSt.toL, List.map_append, List.map, toLs_map]
    · cases h
  · cases h
    refine ⟨?_, rfl⟩
    simp only [newBoxS, Bool.false_eq_true, if_false, hl, toL]
    simp only [KSt.toL, List.map_append, List.map, toLs_map]
theorem ownNilK_sound {T : TypeId → Option Ty} {own : Bool} {t : TypeId} {σ σ' : KSt} {x v : KV} (h : ownNilK T P own t x σ = some (v, σ')) : ownNil P own t x.toL σ.toL = (v.toL, σ'.toL) ∧ σ'.loops = σ.loops := by
  unfold ownNilK at h
  have hl : σ.toL.rows.length = σ.rows.length := by simp [KSt.toL]
  split at h
  · cases h; exact ⟨rfl, rfl⟩
  · split at h
    · split at h
      · rename_i e he
        split at h
        · rename_i sz ty hs hT
          split at h
          · rename_i hz
            cases h
            refine ⟨?_, rfl⟩
            simp only [ownNil, toL, he, hs, hz, if_true, newRowS, hl, List.length_nil]
            simp only [KSt.toL, List.map_append, List.map, KRow.toL]
          · cases h
        · cases h
      · cases h
    · rename_i hn
      cases h
      refine ⟨?_, rfl⟩
      cases x <;> first | exact (hn rfl).elim | rfl
theorem zeroKV_eq (t : TypeId) : zeroLV P t = (zeroKV P t).map toL := by
  have h1 : ∀ u : Value, (frzK {} (ofConst1K u)).1.val = true := fun u => by
    unfold ofConst1K
    split
    · rfl
    · split
      · unfold scK; split <;> rfl
      · rfl
  have h2 : ∀ us : List Value, (frzK.frzKL {} (us.map ofConst1K)).1.val = true := fun us => by
    induction us with
    | nil => rfl
    | cons u us ih => simp only [List.map_cons, frzK.frzKL, Ck.val, h1, ih, Bool.and_self]
  unfold zeroLV zeroKV
  cases P.info? t with
  | none => rfl
  | some i =>
    simp only [Option.bind_some]
    cases i.zero with
    | none => rfl
    | some z =>
      simp only [Option.bind_some]
      split
      · simp only [Option.map_some, Option.some.injEq]
        refine Eq.trans ?_ (frzK_sound {} _ ?_)
        · show frzV {} _ = frzV {} _
          congr 1
          split
          · simp only [toL, toLs_map, List.map_map]
            congr 1
            exact List.map_congr_left fun u _ => ofConst1K_eq u
          · rename_i hne
            cases z <;> first | exact ofConst1K_eq _ | exact absurd rfl (hne _)
        · split
          · simp only [frzK]; exact h2 _
          · exact h1 _
      · rfl

/-! ### maps -/
theorem maps_get (σ : KSt) (m : Nat) : σ.toL.maps[m]? = (σ.maps[m]?).map KMap.toL := by simp only [KSt.toL, List.getElem?_map]
theorem keyEqK {str : Bool} {t : Ty} (ht : keyOkK str t = true) (a b : t.den) : keyEq str (encL t a) (encL t b) = some (eqK t a b) := by
  cases t <;> cases str <;> first | (cases ht; done) | skip
  · show keyEq false (.sc (.int _ _)) (.sc (.int _ _)) = _
    simp only [keyEq, if_true]; rfl
  · rfl
theorem posK_sound {str : Bool} {kt vt : Ty} (ht : keyOkK str kt = true) (k : kt.den) : ∀ l : List (kt.den × vt.den), findK str (encL kt k) (l.map fun p => encL kt p.1) = some (posK kt vt k l)
  | [] => rfl
  | p :: l => by
    simp only [List.map_cons, findK, keyEqK ht, posK, List.findIdx?_cons]
    cases eqK kt k p.1 with
    | true => rfl
    | false =>
      have := posK_sound ht k l
      simp only [posK] at this
      simp only [this, Option.map_some, Bool.false_eq_true, if_false]
theorem posK_lt {kt vt : Ty} {k : kt.den} {l : List (kt.den × vt.den)} {i : Nat} (h : posK kt vt k l = some i) : i < l.length := by
  unfold posK at h
  rw [List.findIdx?_eq_some_iff_findIdx_eq] at h
  exact h.1
theorem key_sc {str : Bool} {kt : Ty} (ht : keyOkK str kt = true) (k : kt.den) : ∃ v, encL kt k = .sc v := by
  cases kt <;> first | exact ⟨_, rfl⟩ | (cases str <;> cases ht)
end Go.Proofs.YticpcfchhcjjeaaGreat.LI
