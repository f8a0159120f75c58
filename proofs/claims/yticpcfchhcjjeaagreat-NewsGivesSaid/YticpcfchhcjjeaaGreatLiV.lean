/-
  Functions of the library that are given as a whole: slices.Clone, slices.Sort of strings, slices.Insert. Definitions, and the lettered ones' agreement. No program is named here.
-/
import Derived.Test.YticpcfchhcjjeaaGreatLiKJ
namespace Go.Proofs.YticpcfchhcjjeaaGreat.LI
open Go Go.RowKit
set_option linter.unusedSimpArgs false
set_option linter.unusedVariables false
open KV (toL)
open KV.toL (toLs)

/-! ### a copy -/
def cloneL (e : TypeId) (sz : Nat) : List LV → Option (LV × List Row)
  | [.slice es] => if elemsOk sz es = true ∧ es.length ≤ maxEls then some (.mref 0 es.length, [⟨es, e, sz, true⟩]) else none
  | _ => none
def cloneK (t : Ty) (e : TypeId) (sz : Nat) : List KV → Option (Ck × KV × List KRow)
  | [.lst t' l] => if t.ncells = sz then match castL t' t l with
    | some l => some (.is (decide (l.length ≤ maxEls)), .mref 0 l.length, [⟨t, l, e, sz, true⟩])
    | none => (match t', l with
      | .unit, [] => some (.ok, .mref 0 0, [⟨t, [], e, sz, true⟩])
      | _, _ => none) else none
  | _ => none
theorem cloneK_ok {t : Ty} {e : TypeId} {sz : Nat} {args : List KV} {c : Ck} {v : KV} {rows : List KRow} (h : cloneK t e sz args = some (c, v, rows)) (hc : c.val = true) : cloneL e sz (toLs args) = some (v.toL, rows.map KRow.toL) := by
  unfold cloneK at h
  split at h
  · rename_i t' l
    split at h
    · rename_i hn
      split at h
      · rename_i l1 hl
        cases h
        simp only [Ck.val, decide_eq_true_eq] at hc
        have := castL_sound hl
        simp only [toLs, toL, lstL_eq, cloneL, this.1]
        rw [if_pos ⟨elemsOk_enc _ _ _ hn, by rw [List.length_map]; exact hc⟩]
        simp only [List.length_map, List.map, KRow.toL]
      · split at h
        · cases h
          rfl
        · cases h
    · cases h
  · cases h

/-! ### sorting -/
/-- Strings, rising. -/
def leB (a b : ByteArray) : Bool := decide (a.data.toList ≤ b.data.toList)
def insS (x : ByteArray) : List ByteArray → List ByteArray
  | [] => [x]
  | y :: ys => bif leB x y then x :: y :: ys else y :: insS x ys
/-- Strings, sorted. -/
def sortS (l : List ByteArray) : List ByteArray := l.foldr insS []
theorem insS_perm (x : ByteArray) : ∀ l : List ByteArray, (insS x l).Perm (x :: l)
  | [] => List.Perm.refl _
  | y :: ys => by
    unfold insS
    cases leB x y with
    | true => exact List.Perm.refl _
    | false => exact ((insS_perm x ys).cons y).trans (List.Perm.swap x y ys)
theorem sortS_perm : ∀ l : List ByteArray, (sortS l).Perm l
  | [] => List.Perm.refl _
  | x :: l => (insS_perm x (sortS l)).trans ((sortS_perm l).cons x)
theorem leB_trans {a b c : ByteArray} (h : leB a b = true) (k : leB b c = true) : leB a c = true := by
  simp only [leB, decide_eq_true_eq] at *
  exact List.le_trans h k
theorem leB_total (a b : ByteArray) : leB a b = true ∨ leB b a = true := by
  simp only [leB, decide_eq_true_eq]
  exact List.le_total a.data.toList b.data.toList
theorem leB_antisymm {a b : ByteArray} (h : leB a b = true) (k : leB b a = true) : a = b := by
  simp only [leB, decide_eq_true_eq] at *
  have := List.le_antisymm h k
  cases a; cases b
  simp only [ByteArray.mk.injEq]
  exact Array.toList_inj.1 this
theorem insS_sorted (x : ByteArray) : ∀ l : List ByteArray, l.Pairwise (fun a b => leB a b = true) → (insS x l).Pairwise (fun a b => leB a b = true)
  | [], _ => by simp [insS]
  | y :: ys, h => by
    unfold insS
    obtain ⟨h1, h2⟩ := List.pairwise_cons.1 h
    cases hc : leB x y with
    | true =>
      simp only [cond_true]
      refine List.pairwise_cons.2 ⟨fun z hz => ?_, h⟩
      rcases List.mem_cons.1 hz with rfl | hz
      · exact hc
      · exact leB_trans hc (h1 z hz)
    | false =>
      simp only [cond_false]
      refine List.pairwise_cons.2 ⟨fun z hz => ?_, insS_sorted x ys h2⟩
      rcases List.mem_cons.1 ((insS_perm x ys).mem_iff.1 hz) with rfl | hz
      · rcases leB_total z y with h3 | h3
        · rw [hc] at h3; cases h3
        · exact h3
      · exact h1 z hz
theorem sortS_sorted : ∀ l : List ByteArray, (sortS l).Pairwise (fun a b => leB a b = true)
  | [] => List.Pairwise.nil
  | x :: l => insS_sorted x _ (sortS_sorted l)
theorem sortS_eq (l : List ByteArray) : sortS l = l.mergeSort fun a b => decide (a.data.toList ≤ b.data.toList) := by
  refine List.Perm.eq_of_pairwise (le := fun a b => leB a b = true) (fun a b _ _ h k => leB_antisymm h k) (sortS_sorted l) ?_ ((sortS_perm l).trans (List.mergeSort_perm l _).symm)
  exact List.pairwise_mergeSort (le := leB) (fun a b c h k => leB_trans h k) (fun a b => by rw [Bool.or_eq_true]; exact leB_total a b) l
def strsL : List LV → Option (List ByteArray)
  | [] => some []
  | .sc (.string s) :: l => match strsL l with
    | some l => some (s :: l)
    | none => none
  | _ => none
theorem strsL_enc : ∀ l : List ByteArray, strsL (l.map (encL .str)) = some l
  | [] => rfl
  | s :: l => by
    have := strsL_enc l
    show strsL (.sc (.string s) :: l.map (encL .str)) = _
    simp only [strsL, this]
def sortL : List LV → St → Option (LV × St)
  | [.mref r n], σ => match σ.rows[r]? with
    | some row => if row.xs.length = n ∧ row.wr = true ∧ row.sz = 1 ∧ n ≤ maxEls then match strsL row.xs with
      | some l => some (.tuple [], { σ with rows := σ.rows.set r { row with xs := (sortS l).map fun s => .str s } })
      | none => none else none
    | none => none
  | _, _ => none
def sortK : List KV → KSt → Option (Ck × KV × KSt)
  | [.mref r n], σ => match σ.rows[r]? with
    | some ⟨.str, l, e, sz, wr⟩ => if wr = true ∧ sz = 1 then some (.and (.is (decide (List.length l = n))) (.is (decide (n ≤ maxEls))), .tuple [], { σ with rows := σ.rows.set r ⟨.str, sortS l, e, sz, wr⟩ }) else none
    | _ => none
  | _, _ => none
theorem sortK_ok {args : List KV} {σ σ' : KSt} {c : Ck} {v : KV} (h : sortK args σ = some (c, v, σ')) (hc : c.val = true) : sortL (toLs args) σ.toL = some (v.toL, σ'.toL) ∧ σ'.loops = σ.loops := by
  unfold sortK at h
  split at h
  · rename_i r n
    split at h
    · rename_i l e sz wr hr
      split at h
      · rename_i hcc
        cases h
        simp only [Ck.val, Bool.and_eq_true, decide_eq_true_eq] at hc
        refine ⟨?_, rfl⟩
        simp only [toLs, toL, sortL, rows_get, hr, Option.map_some]
        rw [if_pos (by simp only [KRow.toL, List.length_map]; exact ⟨hc.1, hcc.1, hcc.2, hc.2⟩)]
        have hs : strsL (KRow.toL ⟨.str, l, e, sz, wr⟩).xs = some l := strsL_enc l
        rw [hs, setRow_eq]
        rfl
      · cases h
    · cases h
  · cases h

/-! ### putting in -/
def insertL (e : TypeId) (sz : Nat) : List LV → St → Option (LV × St)
  | [.mref r n, .sc (.int .i64 i), .slice [y]], σ => match σ.rows[r]? with
    | some row => if row.xs.length = n ∧ row.wr = true ∧ row.e = e ∧ row.sz = sz ∧ elemsOk sz [y] = true ∧ 0 ≤ i ∧ i ≤ n ∧ n + 1 ≤ maxEls then
        some (.mref r (n + 1), { σ with rows := σ.rows.set r { row with xs := row.xs.take i.toNat ++ [y] ++ row.xs.drop i.toNat } })
      else none
    | none => none
  | _, _ => none
def insT {β : Type} (l : List β) (i : Int) (ys : List β) : List β := l.take i.toNat ++ ys ++ l.drop i.toNat
def insertK (e : TypeId) (sz : Nat) : List KV → KSt → Option (Ck × KV × KSt)
  | [.mref r n, x, .lst t l], σ => match x.int?, σ.rows[r]? with
    | some (_, .i64, i), some row => if row.wr = true ∧ Nat.beq row.e e = true ∧ row.sz = sz ∧ row.t.ncells = sz then match castL t row.t l with
      | some [y] => some (.and (.is (decide (row.l.length = n))) (.and (.is (decide (0 ≤ i))) (.and (.is (decide (i ≤ n))) (.is (decide (n + 1 ≤ maxEls))))), .mref r (insT row.l i [y]).length, { σ with rows := σ.rows.set r { row with l := insT row.l i [y] } })
      | _ => none else none
    | _, _ => none
  | _, _ => none
theorem insertK_ok {e : TypeId} {sz : Nat} {args : List KV} {σ σ' : KSt} {c : Ck} {v : KV} (h : insertK e sz args σ = some (c, v, σ')) (hc : c.val = true) : insertL e sz (toLs args) σ.toL = some (v.toL, σ'.toL) ∧ σ'.loops = σ.loops := by
  unfold insertK at h
  split at h
  · rename_i r n x t l
    split at h
    · rename_i s i row hx hr
      split at h
      · rename_i hcc
        split at h
        · rename_i y hl
          cases h
          simp only [Ck.val, Bool.and_eq_true, decide_eq_true_eq] at hc
          obtain ⟨h1, h2, h3, h4⟩ := hc
          obtain ⟨c1, c2⟩ := castL_sound hl
          refine ⟨?_, rfl⟩
          have hl1 : l.map (encL t) = [encL row.t y] := by rw [c1]; rfl
          simp only [toLs, toL, int_toL hx, lstL_eq, hl1, insertL, rows_get, hr, Option.map_some]
          rw [if_pos (by simp only [KRow.toL, List.length_map]; exact ⟨h1, hcc.1, Nat.eq_of_beq_eq_true hcc.2.1, hcc.2.2.1, elemsOk_enc _ [y] _ hcc.2.2.2, h2, h3, h4⟩)]
          rw [setRow_eq]
          have hlen : (insT row.l i [y]).length = n + 1 := by
            simp only [insT, List.length_append, List.length_take, List.length_drop, List.length_cons, List.length_nil]
            omega
          simp only [KRow.toL, insT, List.map_append, List.map_take, List.map_drop, List.length_map, List.map_cons, List.map_nil] at hlen ⊢
          rw [hlen]
        · cases h
      · cases h
    · cases h
  · cases h
/-- A function without arguments that answers a bool, carried out as it is. -/
theorem closed_ok {P : Program} {Θ : Th} {f : FuncId} {b : Bool} (h : run P Θ (.call f []) = some ⟨.normal, .sc (.bool b), default, {}⟩) : FnOK P Θ f [] (.ty .bool) [] (fun _ => some (b, ())) := fun x y e => by
  obtain rfl := (Option.some.inj e)
  exact h
end Go.Proofs.YticpcfchhcjjeaaGreat.LI
