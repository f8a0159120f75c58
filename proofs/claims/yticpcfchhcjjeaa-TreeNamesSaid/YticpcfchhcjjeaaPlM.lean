/-
  Small laws for reading what was carried out: tests, names, numbers, lists. Trees: what the program's functions come to. Lines and names, lists that are the same: what the functions come to. Names and lines that may be: what the functions come to. Trees with a file, and without one: what the functions come to. Trees: the document's Put and Del, the program's Del. The names of the files of two trees: what the functions come to. The document's names of two trees; whether a tree may be; whether it is light. Whether a tree may be, and whether it is light: what the functions come to. Light trees; the example; the two ways to names. The example of the chapter, and the laws of trees.
-/
import Derived.Test.YticpcfchhcjjeaaTaB
import Derived.Sort.Walk0
namespace Go.Proofs.Yticpcfchhcjjeaa.LI
open Go
set_option linter.unusedSimpArgs false
set_option linter.unusedVariables false

theorem condF_dec {α : Type} (p : Prop) [Decidable p] (x y : Option α) : condF (decide p) x y = if p then x else y := by
  by_cases h : p <;> simp [condF, h]
theorem condF_t {α : Type} {p : Prop} [Decidable p] (h : p) (x y : Option α) : condF (decide p) x y = x := by simp [condF, h]
theorem condF_f {α : Type} {p : Prop} [Decidable p] (h : ¬ p) (x y : Option α) : condF (decide p) x y = y := by simp [condF, h]
theorem condF_True {α : Type} [h : Decidable True] (x y : Option α) : condF (@decide True h) x y = x := condF_t trivial x y
theorem condF_T {α : Type} (x y : Option α) : condF true x y = x := rfl
theorem condF_F {α : Type} (x y : Option α) : condF false x y = y := rfl
theorem condF_not {α : Type} (b : Bool) (x y : Option α) : condF (!b) x y = condF b y x := by cases b <;> rfl
theorem condF_ite {α : Type} (b : Bool) (x y : Option α) : condF b x y = if b = true then x else y := by cases b <;> rfl
theorem bindF_some {α β : Type} (a : α) (f : α → Option β) : bindF (some a) f = f a := rfl
theorem bindF_none {α β : Type} (f : α → Option β) : bindF none f = none := rfl
theorem sumF_inl {α β γ : Type} (a : α) (f : α → Option γ) (g : β → Option γ) : sumF (.inl a) f g = f a := rfl
theorem sumF_inr {α β γ : Type} (a : β) (f : α → Option γ) (g : β → Option γ) : sumF (.inr a) f g = g a := rfl
theorem wrap_id {n : Int} (h : -4611686018427387904 ≤ n) (h' : n < 4611686018427387904) : IntKind.wrap .i64 n = n := by rw [IntKind.wrap_i64]; omega
theorem wrap_succ {i : Nat} (h : i < 4611686018427387903) : IntKind.wrap .i64 ((i : Int) + 1) = ((i + 1 : Nat) : Int) := by rw [IntKind.wrap_i64]; omega
theorem wrap_pred {i : Nat} (h : 0 < i) (h' : i < 4611686018427387903) : IntKind.wrap .i64 ((i : Int) - 1) = ((i - 1 : Nat) : Int) := by rw [IntKind.wrap_i64]; omega
theorem natle {a b : Nat} : ((a : Int) ≤ (b : Int)) = (a ≤ b) := by simp
theorem natlt {a b : Nat} : ((a : Int) < (b : Int)) = (a < b) := by simp
theorem natge {a b : Nat} : ((a : Int) ≥ (b : Int)) = (b ≤ a) := by simp
theorem natgt {a b : Nat} : ((a : Int) > (b : Int)) = (b < a) := by simp
theorem nat0 {a : Nat} : ((0 : Int) ≤ (a : Int)) = True := by simp
theorem natge0 {a : Nat} : ((a : Int) ≥ (0 : Int)) = True := by simp
theorem maxEls_eq : maxEls = 1099511627776 := rfl
theorem drop_cons {α : Type} {l : List α} {i : Nat} {a : α} {r : List α} (h : l.drop i = a :: r) : i < l.length ∧ (∀ d, l.getD i d = a) ∧ l.drop (i + 1) = r ∧ a ∈ l := by
  have hi : i < l.length := by
    by_cases hi : i < l.length
    · exact hi
    · rw [List.drop_eq_nil_of_le (by omega)] at h; cases h
  rw [List.drop_eq_getElem_cons hi] at h
  injection h with h1 h2
  refine ⟨hi, fun d => ?_, h2, h1 ▸ List.getElem_mem hi⟩
  rw [List.getD_eq_getElem?_getD, List.getElem?_eq_getElem hi, Option.getD_some, h1]
theorem drop_nil {α : Type} {l : List α} {i : Nat} (h : l.drop i = []) (hi : i ≤ l.length) : i = l.length := by
  rw [List.drop_eq_nil_iff] at h
  omega

/-- Strings are the same if their bytes are. -/
theorem beq_str (a b : ByteArray) : (ByteArray.toList a == ByteArray.toList b) = decide (a = b) := by
  rw [Bool.eq_iff_iff, beq_iff_eq, decide_eq_true_eq]
  constructor
  · intro h
    rw [Lib.toList_data, Lib.toList_data] at h
    exact ByteArray.ext (Array.toList_inj.1 h)
  · rintro rfl; rfl
/-- The order of strings. -/
def ltS (a b : ByteArray) : Prop := a.data.toList < b.data.toList
instance (a b : ByteArray) : Decidable (ltS a b) := inferInstanceAs (Decidable (a.data.toList < b.data.toList))
theorem less_str (a b : ByteArray) : Op.bytesLess (ByteArray.toList a) (ByteArray.toList b) = decide (ltS a b) := by
  rw [Go.Proofs.bytesLess_eq, Lib.toList_data, Lib.toList_data]; rfl
theorem ltS_irrefl (a : ByteArray) : ¬ ltS a a := List.lt_irrefl _
theorem ltS_trans {a b c : ByteArray} (h : ltS a b) (k : ltS b c) : ltS a c := List.lt_trans h k
theorem ltS_asymm {a b : ByteArray} (h : ltS a b) : ¬ ltS b a := fun k => ltS_irrefl a (ltS_trans h k)
theorem ltS_total (a b : ByteArray) : ltS a b ∨ a = b ∨ ltS b a := by
  by_cases h : ltS a b
  · exact .inl h
  · by_cases k : ltS b a
    · exact .inr (.inr k)
    · have h1 := List.not_lt.1 h
      have k1 := List.not_lt.1 k
      have := List.le_antisymm k1 h1
      exact .inr (.inl (ByteArray.ext (Array.toList_inj.1 this)))
theorem le_str (a b : ByteArray) : (decide (ltS a b) || decide (a = b)) = !decide (ltS b a) := by
  rcases ltS_total a b with h | h | h
  · have := ltS_asymm h; simp [h, this]
  · subst h; simp [ltS_irrefl]
  · have h1 := ltS_asymm h
    have h2 : ¬ a = b := fun e => ltS_irrefl b (e ▸ h)
    simp [h, h1, h2]
mutual
theorem eqT_refl : ∀ (t : Ty) (x : t.den), eqT t x x = true
  | .int _, _ => by simp [eqT]
  | .byte, _ => by simp [eqT]
  | .bool, _ => by simp [eqT]
  | .str, _ => by simp [eqT]
  | .list t, l => by rw [eqT]; exact eqL_refl t l
  | .unit, _ => by simp [eqT]
  | .pair a b, p => by rw [eqT, eqT_refl a, eqT_refl b]; rfl
theorem eqL_refl (t : Ty) : ∀ (l : List t.den), eqT.eqL t l l = true
  | [] => by rw [eqT.eqL]
  | x :: xs => by rw [eqT.eqL, eqT_refl t x, eqL_refl t xs]; rfl
end
abbrev Str := ByteArray
abbrev File := ByteArray × List ByteArray × Unit
abbrev Tree := List File
def Wee (t : Tree) : Prop := t.length ≤ 1000000000 ∧ ∀ f ∈ t, f.2.1.length ≤ 1000000000
end Go.Proofs.Yticpcfchhcjjeaa.LI
namespace Go.Proofs.Yticpcfchhcjjeaa.LI
open Go
set_option linter.unusedSimpArgs false

theorem tree_own_sp (s : Str) (l : List Str) (h : l.length ≤ 1000000000) : tree_own (s, l, ()) = some ((s, l, ()), ()) := by
  have hM := maxEls_eq
  rw [tree_own_eq]
  simp (disch := omega) only [Ttree_own, condF_True, condF_t, condF_f, condF_T, condF_F, condF_not, bindF_some, sumF_inl, sumF_inr, Int.toNat_natCast, wrap_succ, wrap_pred, Option.bind_some, Option.bind_none, Sum.elim_inl, Sum.elim_inr, List.length_append, List.length_cons, List.length_nil, beq_str, less_str, le_str, Bool.not_not]
theorem tree_all_L3_sp (t l0 : Tree) (hw : Wee t) : ∀ (r : Tree) (i : Nat) (l1 : Tree), t.drop i = r → i ≤ t.length → l1.length + r.length ≤ 1000000000 →
    tree_all_L3 (l0, l1, t, (t.length : Int), (i : Int), ()) = some (l0, l1 ++ r, t, (t.length : Int), (t.length : Int), ())
  | [], i, l1, h, hi, _ => by
    have := drop_nil h hi
    subst this
    rw [tree_all_L3_eq]
    simp (disch := omega) only [Ttree_all_L3, condF_True, condF_t, condF_f, condF_T, condF_F, condF_not, bindF_some, sumF_inl, sumF_inr, Int.toNat_natCast, wrap_succ, wrap_pred, Option.bind_some, Option.bind_none, Sum.elim_inl, Sum.elim_inr, List.length_append, List.length_cons, List.length_nil, beq_str, less_str, le_str, Bool.not_not, List.append_nil]
  | f :: r, i, l1, h, hi, hl => by
    obtain ⟨h1, h2, h3, h4⟩ := drop_cons h
    have hb := hw.1
    have hf := hw.2 f h4
    have hM := maxEls_eq
    rw [tree_all_L3_eq]
    simp only [List.length_cons] at hl
    simp (disch := omega) only [Ttree_all_L3, condF_True, condF_t, condF_f, condF_T, condF_F, condF_not, bindF_some, sumF_inl, sumF_inr, Int.toNat_natCast, wrap_succ, wrap_pred, Option.bind_some, Option.bind_none, Sum.elim_inl, Sum.elim_inr, List.length_append, List.length_cons, List.length_nil, beq_str, less_str, le_str, Bool.not_not, h2, tree_own_sp]
    rw [tree_all_L3_sp t l0 hw r (i + 1) _ h3 (by omega) (by simp; omega)]
    simp
theorem tree_all_sp (t : Tree) (hw : Wee t) : tree_all (t, ()) = some (t, ()) := by
  rw [tree_all_eq]
  have := tree_all_L3_sp t [] hw t 0 [] rfl (by omega) (by simpa using hw.1)
  simp only [Int.natCast_zero, List.nil_append] at this
  simp (disch := omega) only [Ttree_all, condF_True, condF_t, condF_f, condF_T, condF_F, condF_not, bindF_some, sumF_inl, sumF_inr, Int.toNat_natCast, wrap_succ, wrap_pred, Option.bind_some, Option.bind_none, Sum.elim_inl, Sum.elim_inr, List.length_append, List.length_cons, List.length_nil, beq_str, less_str, le_str, Bool.not_not, this]
/-- The number of the first file of a name. -/
def at_ (t : Tree) (s : Str) : Nat := t.findIdx fun f => decide (f.1 = s)
theorem find_L2_sp (t : Tree) (s : Str) (hb : t.length < 4611686018427387903) : ∀ (r : Tree) (i : Nat), t.drop i = r → i ≤ t.length →
    ∃ y, slices_IndexFunc_File_L2 (s, t, (t.length : Int), (i : Int), ()) = some y ∧ (match y with
      | .inl z => z.2.2.1 = ((i + r.findIdx (fun f => decide (f.1 = s)) : Nat) : Int) ∧ r.findIdx (fun f => decide (f.1 = s)) < r.length
      | .inr _ => r.findIdx (fun f => decide (f.1 = s)) = r.length)
  | [], i, h, hi => by
    have := drop_nil h hi
    subst this
    rw [slices_IndexFunc_File_L2_eq]
    simp (disch := omega) only [Tslices_IndexFunc_File_L2, condF_True, condF_t, condF_f, condF_T, condF_F, condF_not, bindF_some, sumF_inl, sumF_inr, Int.toNat_natCast, wrap_succ, wrap_pred, Option.bind_some, Option.bind_none, Sum.elim_inl, Sum.elim_inr, List.length_append, List.length_cons, List.length_nil, beq_str, less_str, le_str, Bool.not_not]
    exact ⟨_, rfl, rfl⟩
  | f :: r, i, h, hi => by
    obtain ⟨h1, h2, h3, h4⟩ := drop_cons h
    rw [slices_IndexFunc_File_L2_eq]
    by_cases hf : f.1 = s
    · simp (disch := omega) only [Tslices_IndexFunc_File_L2, condF_True, condF_t, condF_f, condF_T, condF_F, condF_not, bindF_some, sumF_inl, sumF_inr, Int.toNat_natCast, wrap_succ, wrap_pred, Option.bind_some, Option.bind_none, Sum.elim_inl, Sum.elim_inr, List.length_append, List.length_cons, List.length_nil, beq_str, less_str, le_str, Bool.not_not, h2, hf, List.findIdx_cons, decide_true, cond_true, Nat.add_zero]
      exact ⟨_, rfl, rfl, by omega⟩
    · simp (disch := omega) only [Tslices_IndexFunc_File_L2, condF_True, condF_t, condF_f, condF_T, condF_F, condF_not, bindF_some, sumF_inl, sumF_inr, Int.toNat_natCast, wrap_succ, wrap_pred, Option.bind_some, Option.bind_none, Sum.elim_inl, Sum.elim_inr, List.length_append, List.length_cons, List.length_nil, beq_str, less_str, le_str, Bool.not_not, h2, hf, List.findIdx_cons, decide_false, cond_false]
      obtain ⟨y, e, p⟩ := find_L2_sp t s hb r (i + 1) h3 (by omega)
      refine ⟨y, e, ?_⟩
      cases y with
      | inl z => simp only at p ⊢; exact ⟨by rw [p.1]; omega, by omega⟩
      | inr z => simp only at p ⊢; omega
theorem tree_where_sp (t : Tree) (s : Str) (hb : t.length < 4611686018427387903) : tree_where (t, s, ()) = some ((at_ t s : Int), ()) := by
  rw [tree_where_eq]
  obtain ⟨y, e, p⟩ := find_L2_sp t s hb t 0 rfl (by omega)
  simp only [Int.natCast_zero] at e
  cases y with
  | inl z =>
    simp only [Nat.zero_add] at p
    simp (disch := omega) only [Ttree_where, e, condF_True, condF_t, condF_f, condF_T, condF_F, condF_not, bindF_some, sumF_inl, sumF_inr, Int.toNat_natCast, wrap_succ, wrap_pred, Option.bind_some, Option.bind_none, Sum.elim_inl, Sum.elim_inr, List.length_append, List.length_cons, List.length_nil, beq_str, less_str, le_str, Bool.not_not, p.1]
    rfl
  | inr z =>
    simp only at p
    simp only [Ttree_where, e, condF_True, condF_t, condF_f, condF_T, condF_F, condF_not, bindF_some, sumF_inl, sumF_inr, Int.toNat_natCast, wrap_succ, wrap_pred, Option.bind_some, Option.bind_none, Sum.elim_inl, Sum.elim_inr, List.length_append, List.length_cons, List.length_nil, beq_str, less_str, le_str, Bool.not_not, at_, p]
/-- A file's lines. -/
def getT (t : Tree) (s : Str) : Option (List Str) := (t.find? fun f => decide (f.1 = s)).map fun f => f.2.1
theorem getT_at (t : Tree) (s : Str) : getT t s = if at_ t s < t.length then some (t.getD (at_ t s) (ByteArray.empty, [], ())).2.1 else none := by
  unfold getT at_
  induction t with
  | nil => simp
  | cons f t ih =>
    rw [List.find?_cons, List.findIdx_cons]
    by_cases hf : f.1 = s
    · simp [hf]
    · simp only [hf, decide_false, cond_false, List.length_cons, Nat.add_lt_add_iff_right, List.getD_cons_succ]
      exact ih
theorem tree_Get_sp (t : Tree) (s : Str) (hw : Wee t) : tree_Get (t, s, ()) = some ((getT t s).getD [], (getT t s).isSome, ()) := by
  have hb := hw.1
  have hM := maxEls_eq
  rw [tree_Get_eq]
  by_cases h : at_ t s < t.length
  · have hm : t.getD (at_ t s) (ByteArray.empty, [], ()) ∈ t := by
      rw [List.getD_eq_getElem?_getD, List.getElem?_eq_getElem h]; exact List.getElem_mem h
    have := hw.2 _ hm
    simp (disch := omega) only [Ttree_Get, tree_where_sp, condF_True, condF_t, condF_f, condF_T, condF_F, condF_not, bindF_some, sumF_inl, sumF_inr, Int.toNat_natCast, wrap_succ, wrap_pred, Option.bind_some, Option.bind_none, Sum.elim_inl, Sum.elim_inr, List.length_append, List.length_cons, List.length_nil, beq_str, less_str, le_str, Bool.not_not, getT_at, h, if_true, Option.getD_some, Option.isSome_some]
  · simp (disch := omega) only [Ttree_Get, tree_where_sp, condF_True, condF_t, condF_f, condF_T, condF_F, condF_not, bindF_some, sumF_inl, sumF_inr, Int.toNat_natCast, wrap_succ, wrap_pred, Option.bind_some, Option.bind_none, Sum.elim_inl, Sum.elim_inr, List.length_append, List.length_cons, List.length_nil, beq_str, less_str, le_str, Bool.not_not, getT_at, h, if_false, Option.getD_none, Option.isSome_none]
end Go.Proofs.Yticpcfchhcjjeaa.LI
namespace Go.Proofs.Yticpcfchhcjjeaa.LI
open Go
set_option linter.unusedSimpArgs false
/-! ### lists of strings that are the same -/
theorem ref01_Same_L4_sp (m : List Str) : ∀ (r : List Str) (l : List Str) (i : Nat), l.drop i = r → i ≤ l.length → l.length = m.length → l.length < 4611686018427387903 →
    ∃ y, ref01_Same_L4 (l, m, (i : Int), ()) = some y ∧ (match y with
      | .inl _ => l.drop i ≠ m.drop i
      | .inr _ => l.drop i = m.drop i)
  | [], l, i, h, hi, hl, hb => by
    have := drop_nil h hi
    subst this
    rw [ref01_Same_L4_eq]
    simp (disch := omega) only [Tref01_Same_L4, condF_True, condF_t, condF_f, condF_T, condF_F, condF_not, bindF_some, sumF_inl, sumF_inr, Int.toNat_natCast, wrap_succ, wrap_pred, Option.bind_some, Option.bind_none, Sum.elim_inl, Sum.elim_inr, List.length_append, List.length_cons, List.length_nil, beq_str, less_str, le_str, Bool.not_not]
    exact ⟨_, rfl, by simp [hl]⟩
  | a :: r, l, i, h, hi, hl, hb => by
    obtain ⟨h1, h2, h3, h4⟩ := drop_cons h
    obtain ⟨b, s, hm⟩ : ∃ b s, m.drop i = b :: s := ⟨_, _, List.drop_eq_getElem_cons (by omega)⟩
    obtain ⟨m1, m2, m3, m4⟩ := drop_cons hm
    rw [ref01_Same_L4_eq]
    by_cases hab : a = b
    · subst hab
      simp (disch := omega) only [Tref01_Same_L4, condF_True, condF_t, condF_f, condF_T, condF_F, condF_not, bindF_some, sumF_inl, sumF_inr, Int.toNat_natCast, wrap_succ, wrap_pred, Option.bind_some, Option.bind_none, Sum.elim_inl, Sum.elim_inr, List.length_append, List.length_cons, List.length_nil, beq_str, less_str, le_str, Bool.not_not, h2, m2, decide_true, Bool.not_true]
      obtain ⟨y, e, p⟩ := ref01_Same_L4_sp m r l (i + 1) h3 (by omega) hl hb
      refine ⟨y, e, ?_⟩
      rw [h, hm]
      rw [h3, m3] at p
      cases y with
      | inl z => simpa using p
      | inr z => simpa using p
    · simp (disch := first | omega | assumption) only [Tref01_Same_L4, condF_True, condF_t, condF_f, condF_T, condF_F, condF_not, bindF_some, sumF_inl, sumF_inr, Int.toNat_natCast, wrap_succ, wrap_pred, Option.bind_some, Option.bind_none, Sum.elim_inl, Sum.elim_inr, List.length_append, List.length_cons, List.length_nil, beq_str, less_str, le_str, Bool.not_not, h2, m2]
      refine ⟨_, rfl, ?_⟩
      rw [h, hm]
      simp [hab]
theorem ref01_Same_sp (l m : List Str) (hb : l.length < 4611686018427387903) : ref01_Same (l, m, ()) = some (decide (l = m), ()) := by
  rw [ref01_Same_eq]
  by_cases hl : l.length = m.length
  · obtain ⟨y, e, p⟩ := ref01_Same_L4_sp m l l 0 rfl (by omega) hl hb
    simp only [Int.natCast_zero] at e
    have hbn : ((l.length : Int) != (m.length : Int)) = false := by simp [hl]
    simp only [List.drop_zero] at p
    cases y with
    | inl z => simp only at p; simp only [Tref01_Same, hbn, e, condF_True, condF_t, condF_f, condF_T, condF_F, condF_not, bindF_some, sumF_inl, sumF_inr, Int.toNat_natCast, wrap_succ, wrap_pred, Option.bind_some, Option.bind_none, Sum.elim_inl, Sum.elim_inr, List.length_append, List.length_cons, List.length_nil, beq_str, less_str, le_str, Bool.not_not, p, decide_false]
    | inr z => simp only at p; subst p; simp only [Tref01_Same, hbn, e, condF_True, condF_t, condF_f, condF_T, condF_F, condF_not, bindF_some, sumF_inl, sumF_inr, Int.toNat_natCast, wrap_succ, wrap_pred, Option.bind_some, Option.bind_none, Sum.elim_inl, Sum.elim_inr, List.length_append, List.length_cons, List.length_nil, beq_str, less_str, le_str, Bool.not_not, decide_true]
  · have hbn : ((l.length : Int) != (m.length : Int)) = true := by simp; omega
    have : ¬ l = m := fun e => hl (by rw [e])
    simp only [Tref01_Same, hbn, condF_True, condF_t, condF_f, condF_T, condF_F, condF_not, bindF_some, sumF_inl, sumF_inr, Int.toNat_natCast, wrap_succ, wrap_pred, Option.bind_some, Option.bind_none, Sum.elim_inl, Sum.elim_inr, List.length_append, List.length_cons, List.length_nil, beq_str, less_str, le_str, Bool.not_not, this, decide_false]
theorem slices_Equal_string_L4_sp (m : List Str) : ∀ (r : List Str) (l : List Str) (i : Nat), l.drop i = r → i ≤ l.length → l.length = m.length → l.length < 4611686018427387903 →
    ∃ y, slices_Equal_string_L4 (l, m, (l.length : Int), (i : Int), ()) = some y ∧ (match y with
      | .inl _ => l.drop i ≠ m.drop i
      | .inr _ => l.drop i = m.drop i)
  | [], l, i, h, hi, hl, hb => by
    have := drop_nil h hi
    subst this
    rw [slices_Equal_string_L4_eq]
    simp (disch := omega) only [Tslices_Equal_string_L4, condF_True, condF_t, condF_f, condF_T, condF_F, condF_not, bindF_some, sumF_inl, sumF_inr, Int.toNat_natCast, wrap_succ, wrap_pred, Option.bind_some, Option.bind_none, Sum.elim_inl, Sum.elim_inr, List.length_append, List.length_cons, List.length_nil, beq_str, less_str, le_str, Bool.not_not]
    exact ⟨_, rfl, by simp [hl]⟩
  | a :: r, l, i, h, hi, hl, hb => by
    obtain ⟨h1, h2, h3, h4⟩ := drop_cons h
    obtain ⟨b, s, hm⟩ : ∃ b s, m.drop i = b :: s := ⟨_, _, List.drop_eq_getElem_cons (by omega)⟩
    obtain ⟨m1, m2, m3, m4⟩ := drop_cons hm
    rw [slices_Equal_string_L4_eq]
    by_cases hab : a = b
    · subst hab
      simp (disch := omega) only [Tslices_Equal_string_L4, condF_True, condF_t, condF_f, condF_T, condF_F, condF_not, bindF_some, sumF_inl, sumF_inr, Int.toNat_natCast, wrap_succ, wrap_pred, Option.bind_some, Option.bind_none, Sum.elim_inl, Sum.elim_inr, List.length_append, List.length_cons, List.length_nil, beq_str, less_str, le_str, Bool.not_not, h2, m2, decide_true, Bool.not_true]
      obtain ⟨y, e, p⟩ := slices_Equal_string_L4_sp m r l (i + 1) h3 (by omega) hl hb
      refine ⟨y, e, ?_⟩
      rw [h, hm]
      rw [h3, m3] at p
      cases y with
      | inl z => simpa using p
      | inr z => simpa using p
    · simp (disch := first | omega | assumption) only [Tslices_Equal_string_L4, condF_True, condF_t, condF_f, condF_T, condF_F, condF_not, bindF_some, sumF_inl, sumF_inr, Int.toNat_natCast, wrap_succ, wrap_pred, Option.bind_some, Option.bind_none, Sum.elim_inl, Sum.elim_inr, List.length_append, List.length_cons, List.length_nil, beq_str, less_str, le_str, Bool.not_not, h2, m2]
      refine ⟨_, rfl, ?_⟩
      rw [h, hm]
      simp [hab]
theorem slices_Equal_string_sp (l m : List Str) (hb : l.length < 4611686018427387903) : slices_Equal_string (l, m, ()) = some (decide (l = m), ()) := by
  rw [slices_Equal_string_eq]
  by_cases hl : l.length = m.length
  · obtain ⟨y, e, p⟩ := slices_Equal_string_L4_sp m l l 0 rfl (by omega) hl hb
    simp only [Int.natCast_zero] at e
    have hbn : ((l.length : Int) != (m.length : Int)) = false := by simp [hl]
    simp only [List.drop_zero] at p
    cases y with
    | inl z => simp only at p; simp only [Tslices_Equal_string, hbn, e, condF_True, condF_t, condF_f, condF_T, condF_F, condF_not, bindF_some, sumF_inl, sumF_inr, Int.toNat_natCast, wrap_succ, wrap_pred, Option.bind_some, Option.bind_none, Sum.elim_inl, Sum.elim_inr, List.length_append, List.length_cons, List.length_nil, beq_str, less_str, le_str, Bool.not_not, p, decide_false]
    | inr z => simp only at p; subst p; simp only [Tslices_Equal_string, hbn, e, condF_True, condF_t, condF_f, condF_T, condF_F, condF_not, bindF_some, sumF_inl, sumF_inr, Int.toNat_natCast, wrap_succ, wrap_pred, Option.bind_some, Option.bind_none, Sum.elim_inl, Sum.elim_inr, List.length_append, List.length_cons, List.length_nil, beq_str, less_str, le_str, Bool.not_not, decide_true]
  · have hbn : ((l.length : Int) != (m.length : Int)) = true := by simp; omega
    have : ¬ l = m := fun e => hl (by rw [e])
    simp only [Tslices_Equal_string, hbn, condF_True, condF_t, condF_f, condF_T, condF_F, condF_not, bindF_some, sumF_inl, sumF_inr, Int.toNat_natCast, wrap_succ, wrap_pred, Option.bind_some, Option.bind_none, Sum.elim_inl, Sum.elim_inr, List.length_append, List.length_cons, List.length_nil, beq_str, less_str, le_str, Bool.not_not, this, decide_false]

/-! ### trees that are the same -/
theorem file_ext {f g : File} (h : f.1 = g.1) (k : f.2.1 = g.2.1) : f = g := by
  obtain ⟨a, b, ⟨⟩⟩ := f
  obtain ⟨c, d, ⟨⟩⟩ := g
  simp only at h k
  rw [h, k]
theorem tree_Same_1_sp (f g : File) (hb : f.2.1.length < 4611686018427387903) : tree_Same_1 (f, g, ()) = some (decide (f = g), ()) := by
  rw [tree_Same_1_eq]
  by_cases h : f.1 = g.1
  · by_cases k : f.2.1 = g.2.1
    · have := file_ext h k
      subst this
      simp (disch := omega) only [Ttree_Same_1, condF_True, condF_t, condF_f, condF_T, condF_F, condF_not, bindF_some, sumF_inl, sumF_inr, Int.toNat_natCast, wrap_succ, wrap_pred, Option.bind_some, Option.bind_none, Sum.elim_inl, Sum.elim_inr, List.length_append, List.length_cons, List.length_nil, beq_str, less_str, le_str, Bool.not_not, decide_true, slices_Equal_string_sp]
    · have : ¬ f = g := fun e => k (by rw [e])
      simp (disch := omega) only [Ttree_Same_1, condF_True, condF_t, condF_f, condF_T, condF_F, condF_not, bindF_some, sumF_inl, sumF_inr, Int.toNat_natCast, wrap_succ, wrap_pred, Option.bind_some, Option.bind_none, Sum.elim_inl, Sum.elim_inr, List.length_append, List.length_cons, List.length_nil, beq_str, less_str, le_str, Bool.not_not, h, decide_true, slices_Equal_string_sp, k, decide_false, this]
  · have : ¬ f = g := fun e => h (by rw [e])
    simp (disch := first | omega | assumption) only [Ttree_Same_1, condF_True, condF_t, condF_f, condF_T, condF_F, condF_not, bindF_some, sumF_inl, sumF_inr, Int.toNat_natCast, wrap_succ, wrap_pred, Option.bind_some, Option.bind_none, Sum.elim_inl, Sum.elim_inr, List.length_append, List.length_cons, List.length_nil, beq_str, less_str, le_str, Bool.not_not, decide_false, this]
theorem Wee.lt {t : Tree} (h : Wee t) : t.length < 4611686018427387903 := by have := h.1; omega
theorem slices_EqualFunc_File_L4_sp (m l : Tree) (hw : Wee l) : ∀ (r : Tree) (i : Nat), l.drop i = r → i ≤ l.length → l.length = m.length →
    ∃ y, slices_EqualFunc_File_L4 (m, l, (l.length : Int), (i : Int), ()) = some y ∧ (match y with
      | .inl _ => l.drop i ≠ m.drop i
      | .inr _ => l.drop i = m.drop i)
  | [], i, h, hi, hl => by
    have := drop_nil h hi
    subst this
    rw [slices_EqualFunc_File_L4_eq]
    simp (disch := omega) only [Tslices_EqualFunc_File_L4, condF_True, condF_t, condF_f, condF_T, condF_F, condF_not, bindF_some, sumF_inl, sumF_inr, Int.toNat_natCast, wrap_succ, wrap_pred, Option.bind_some, Option.bind_none, Sum.elim_inl, Sum.elim_inr, List.length_append, List.length_cons, List.length_nil, beq_str, less_str, le_str, Bool.not_not]
    exact ⟨_, rfl, by simp [hl]⟩
  | a :: r, i, h, hi, hl => by
    have hb := hw.1
    obtain ⟨h1, h2, h3, h4⟩ := drop_cons h
    have ha := hw.2 a h4
    obtain ⟨b, s, hm⟩ : ∃ b s, m.drop i = b :: s := ⟨_, _, List.drop_eq_getElem_cons (by omega)⟩
    obtain ⟨m1, m2, m3, m4⟩ := drop_cons hm
    rw [slices_EqualFunc_File_L4_eq]
    have e1 : ((a.1, a.2.1, ()) : File) = a := rfl
    have e2 : ((b.1, b.2.1, ()) : File) = b := rfl
    by_cases hab : a = b
    · subst hab
      simp (disch := omega) only [Tslices_EqualFunc_File_L4, condF_True, condF_t, condF_f, condF_T, condF_F, condF_not, bindF_some, sumF_inl, sumF_inr, Int.toNat_natCast, wrap_succ, wrap_pred, Option.bind_some, Option.bind_none, Sum.elim_inl, Sum.elim_inr, List.length_append, List.length_cons, List.length_nil, beq_str, less_str, le_str, Bool.not_not, h2, m2, e1, tree_Same_1_sp, decide_true]
      obtain ⟨y, e, p⟩ := slices_EqualFunc_File_L4_sp m l hw r (i + 1) h3 (by omega) hl
      refine ⟨y, e, ?_⟩
      rw [h, hm]
      rw [h3, m3] at p
      cases y with
      | inl z => simpa using p
      | inr z => simpa using p
    · simp (disch := omega) only [Tslices_EqualFunc_File_L4, condF_True, condF_t, condF_f, condF_T, condF_F, condF_not, bindF_some, sumF_inl, sumF_inr, Int.toNat_natCast, wrap_succ, wrap_pred, Option.bind_some, Option.bind_none, Sum.elim_inl, Sum.elim_inr, List.length_append, List.length_cons, List.length_nil, beq_str, less_str, le_str, Bool.not_not, h2, m2, e1, e2, tree_Same_1_sp, hab, decide_false]
      refine ⟨_, rfl, ?_⟩
      rw [h, hm]
      simp [hab]
theorem tree_Same_sp (l m : Tree) (hw : Wee l) : tree_Same (l, m, ()) = some (decide (l = m), ()) := by
  rw [tree_Same_eq]
  by_cases hl : l.length = m.length
  · obtain ⟨y, e, p⟩ := slices_EqualFunc_File_L4_sp m l hw l 0 rfl (by omega) hl
    simp only [Int.natCast_zero] at e
    have hbn : ((l.length : Int) != (m.length : Int)) = false := by simp [hl]
    simp only [List.drop_zero] at p
    cases y with
    | inl z => simp only at p; simp only [Ttree_Same, hbn, e, condF_True, condF_t, condF_f, condF_T, condF_F, condF_not, bindF_some, sumF_inl, sumF_inr, Int.toNat_natCast, wrap_succ, wrap_pred, Option.bind_some, Option.bind_none, Sum.elim_inl, Sum.elim_inr, List.length_append, List.length_cons, List.length_nil, beq_str, less_str, le_str, Bool.not_not, p, decide_false]
    | inr z => simp only at p; subst p; simp only [Ttree_Same, hbn, e, condF_True, condF_t, condF_f, condF_T, condF_F, condF_not, bindF_some, sumF_inl, sumF_inr, Int.toNat_natCast, wrap_succ, wrap_pred, Option.bind_some, Option.bind_none, Sum.elim_inl, Sum.elim_inr, List.length_append, List.length_cons, List.length_nil, beq_str, less_str, le_str, Bool.not_not, decide_true]
  · have hbn : ((l.length : Int) != (m.length : Int)) = true := by simp; omega
    have : ¬ l = m := fun e => hl (by rw [e])
    simp only [Ttree_Same, hbn, condF_True, condF_t, condF_f, condF_T, condF_F, condF_not, bindF_some, sumF_inl, sumF_inr, Int.toNat_natCast, wrap_succ, wrap_pred, Option.bind_some, Option.bind_none, Sum.elim_inl, Sum.elim_inr, List.length_append, List.length_cons, List.length_nil, beq_str, less_str, le_str, Bool.not_not, this, decide_false]
theorem ref07_Same_L4_sp (m l : Tree) (hw : Wee l) : ∀ (r : Tree) (i : Nat), l.drop i = r → i ≤ l.length → l.length = m.length →
    ∃ y, ref07_Same_L4 (l, m, (i : Int), ()) = some y ∧ (match y with
      | .inl _ => l.drop i ≠ m.drop i
      | .inr _ => l.drop i = m.drop i)
  | [], i, h, hi, hl => by
    have := drop_nil h hi
    subst this
    rw [ref07_Same_L4_eq]
    simp (disch := omega) only [Tref07_Same_L4, condF_True, condF_t, condF_f, condF_T, condF_F, condF_not, bindF_some, sumF_inl, sumF_inr, Int.toNat_natCast, wrap_succ, wrap_pred, Option.bind_some, Option.bind_none, Sum.elim_inl, Sum.elim_inr, List.length_append, List.length_cons, List.length_nil, beq_str, less_str, le_str, Bool.not_not]
    exact ⟨_, rfl, by simp [hl]⟩
  | a :: r, i, h, hi, hl => by
    have hb := hw.1
    obtain ⟨h1, h2, h3, h4⟩ := drop_cons h
    have ha := hw.2 a h4
    obtain ⟨b, s, hm⟩ : ∃ b s, m.drop i = b :: s := ⟨_, _, List.drop_eq_getElem_cons (by omega)⟩
    obtain ⟨m1, m2, m3, m4⟩ := drop_cons hm
    rw [ref07_Same_L4_eq]
    by_cases hn : a.1 = b.1
    · by_cases hx : a.2.1 = b.2.1
      · have hab := file_ext hn hx
        subst hab
        simp (disch := omega) only [Tref07_Same_L4, condF_True, condF_t, condF_f, condF_T, condF_F, condF_not, bindF_some, sumF_inl, sumF_inr, Int.toNat_natCast, wrap_succ, wrap_pred, Option.bind_some, Option.bind_none, Sum.elim_inl, Sum.elim_inr, List.length_append, List.length_cons, List.length_nil, beq_str, less_str, le_str, Bool.not_not, h2, m2, ref01_Same_sp, decide_true, Bool.not_true]
        obtain ⟨y, e, p⟩ := ref07_Same_L4_sp m l hw r (i + 1) h3 (by omega) hl
        refine ⟨y, e, ?_⟩
        rw [h, hm]
        rw [h3, m3] at p
        cases y with
        | inl z => simpa using p
        | inr z => simpa using p
      · have hab : ¬ a = b := fun e => hx (by rw [e])
        simp (disch := omega) only [Tref07_Same_L4, condF_True, condF_t, condF_f, condF_T, condF_F, condF_not, bindF_some, sumF_inl, sumF_inr, Int.toNat_natCast, wrap_succ, wrap_pred, Option.bind_some, Option.bind_none, Sum.elim_inl, Sum.elim_inr, List.length_append, List.length_cons, List.length_nil, beq_str, less_str, le_str, Bool.not_not, h2, m2, ref01_Same_sp, hx, decide_false]
        refine ⟨_, rfl, ?_⟩
        rw [h, hm]
        simp [hab]
    · have hab : ¬ a = b := fun e => hn (by rw [e])
      by_cases hx : a.2.1 = b.2.1
      · have hb2 : b.2.1.length ≤ 1000000000 := hx ▸ ha
        simp (disch := first | omega | assumption) only [Tref07_Same_L4, condF_True, condF_t, condF_f, condF_T, condF_F, condF_not, bindF_some, sumF_inl, sumF_inr, Int.toNat_natCast, wrap_succ, wrap_pred, Option.bind_some, Option.bind_none, Sum.elim_inl, Sum.elim_inr, List.length_append, List.length_cons, List.length_nil, beq_str, less_str, le_str, Bool.not_not, h2, m2, ref01_Same_sp, hx, decide_true]
        refine ⟨_, rfl, ?_⟩
        rw [h, hm]
        simp [hab]
      · simp (disch := omega) only [Tref07_Same_L4, condF_True, condF_t, condF_f, condF_T, condF_F, condF_not, bindF_some, sumF_inl, sumF_inr, Int.toNat_natCast, wrap_succ, wrap_pred, Option.bind_some, Option.bind_none, Sum.elim_inl, Sum.elim_inr, List.length_append, List.length_cons, List.length_nil, beq_str, less_str, le_str, Bool.not_not, h2, m2, ref01_Same_sp, hx, decide_false]
        refine ⟨_, rfl, ?_⟩
        rw [h, hm]
        simp [hab]
theorem ref07_Same_sp (l m : Tree) (hw : Wee l) : ref07_Same (l, m, ()) = some (decide (l = m), ()) := by
  rw [ref07_Same_eq]
  by_cases hl : l.length = m.length
  · obtain ⟨y, e, p⟩ := ref07_Same_L4_sp m l hw l 0 rfl (by omega) hl
    simp only [Int.natCast_zero] at e
    have hbn : ((l.length : Int) != (m.length : Int)) = false := by simp [hl]
    simp only [List.drop_zero] at p
    cases y with
    | inl z => simp only at p; simp only [Tref07_Same, hbn, e, condF_True, condF_t, condF_f, condF_T, condF_F, condF_not, bindF_some, sumF_inl, sumF_inr, Int.toNat_natCast, wrap_succ, wrap_pred, Option.bind_some, Option.bind_none, Sum.elim_inl, Sum.elim_inr, List.length_append, List.length_cons, List.length_nil, beq_str, less_str, le_str, Bool.not_not, p, decide_false]
    | inr z => simp only at p; subst p; simp only [Tref07_Same, hbn, e, condF_True, condF_t, condF_f, condF_T, condF_F, condF_not, bindF_some, sumF_inl, sumF_inr, Int.toNat_natCast, wrap_succ, wrap_pred, Option.bind_some, Option.bind_none, Sum.elim_inl, Sum.elim_inr, List.length_append, List.length_cons, List.length_nil, beq_str, less_str, le_str, Bool.not_not, decide_true]
  · have hbn : ((l.length : Int) != (m.length : Int)) = true := by simp; omega
    have : ¬ l = m := fun e => hl (by rw [e])
    simp only [Tref07_Same, hbn, condF_True, condF_t, condF_f, condF_T, condF_F, condF_not, bindF_some, sumF_inl, sumF_inr, Int.toNat_natCast, wrap_succ, wrap_pred, Option.bind_some, Option.bind_none, Sum.elim_inl, Sum.elim_inr, List.length_append, List.length_cons, List.length_nil, beq_str, less_str, le_str, Bool.not_not, this, decide_false]
end Go.Proofs.Yticpcfchhcjjeaa.LI
namespace Go.Proofs.Yticpcfchhcjjeaa.LI
open Go
set_option linter.unusedSimpArgs false

/-- May a byte stand in a name? -/
def signP (c : UInt8) : Bool := (decide (97 ≤ c.toNat) && decide (c.toNat ≤ 122)) || (decide (48 ≤ c.toNat) && decide (c.toNat ≤ 57)) || decide (c.toNat = 46)
theorem text_sign_sp (c : UInt8) : text_sign (c, ()) = some (signP c, ()) := by
  rw [text_sign_eq]
  have e : (((UInt8.toNat c : Nat) : Int) == 46) = decide (c.toNat = 46) := by
    rw [Bool.eq_iff_iff]; simp; omega
  by_cases h1 : 97 ≤ c.toNat <;> by_cases h2 : c.toNat ≤ 122 <;> by_cases h3 : 48 ≤ c.toNat <;> by_cases h4 : c.toNat ≤ 57 <;>
    first
    | (exfalso; omega)
    | simp (disch := omega) only [Ttext_sign, condF_True, condF_t, condF_f, condF_T, condF_F, condF_not, bindF_some, sumF_inl, sumF_inr, Int.toNat_natCast, wrap_succ, wrap_pred, Option.bind_some, Option.bind_none, Sum.elim_inl, Sum.elim_inr, List.length_append, List.length_cons, List.length_nil, beq_str, less_str, le_str, Bool.not_not, e, signP, h1, h2, h3, h4, decide_true, decide_false, Bool.true_and, Bool.false_and, Bool.true_or, Bool.false_or, Bool.or_false, Bool.or_true, Bool.and_false, Bool.and_true]
theorem byteBack (c : UInt8) : UInt8.ofNat (UInt8.toNat c) = c := by simp
theorem byteIn (c : UInt8) : (decide ((0 : Int) ≤ ((UInt8.toNat c : Nat) : Int)) && decide (((UInt8.toNat c : Nat) : Int) < 256)) = true := by
  have := UInt8.toNat_lt c
  simp; omega
def nameP (s : Str) : Bool := decide (1 ≤ s.size) && decide (s.size ≤ 16) && s.data.toList.all signP
theorem size_data (s : Str) : s.data.toList.length = s.size := by simp
theorem text_Name_L2_sp (s : Str) (hb : s.size < 4611686018427387903) : ∀ (r : List UInt8) (i : Nat), s.data.toList.drop i = r → i ≤ s.size →
    ∃ y, text_Name_L2 (s, (s.size : Int), (i : Int), ()) = some y ∧ (match y with
      | .inl _ => r.all signP = false
      | .inr z => r.all signP = true ∧ z.1 = s)
  | [], i, h, hi => by
    have := drop_nil h (by rw [size_data]; exact hi)
    rw [size_data] at this
    subst this
    rw [text_Name_L2_eq]
    simp (disch := omega) only [Ttext_Name_L2, condF_True, condF_t, condF_f, condF_T, condF_F, condF_not, bindF_some, sumF_inl, sumF_inr, Int.toNat_natCast, wrap_succ, wrap_pred, Option.bind_some, Option.bind_none, Sum.elim_inl, Sum.elim_inr, List.length_append, List.length_cons, List.length_nil, beq_str, less_str, le_str, Bool.not_not]
    exact ⟨_, rfl, rfl, rfl⟩
  | c :: r, i, h, hi => by
    obtain ⟨h1, h2, h3, h4⟩ := drop_cons h
    rw [size_data] at h1
    rw [text_Name_L2_eq]
    cases hc : signP c with
    | true =>
      simp (disch := omega) only [Ttext_Name_L2, condF_True, condF_t, condF_f, condF_T, condF_F, condF_not, bindF_some, sumF_inl, sumF_inr, Int.toNat_natCast, wrap_succ, wrap_pred, Option.bind_some, Option.bind_none, Sum.elim_inl, Sum.elim_inr, List.length_append, List.length_cons, List.length_nil, beq_str, less_str, le_str, Bool.not_not, h2, byteIn, byteBack, text_sign_sp, hc]
      obtain ⟨y, e, p⟩ := text_Name_L2_sp s hb r (i + 1) h3 (by omega)
      refine ⟨y, e, ?_⟩
      cases y with
      | inl z => simpa [hc] using p
      | inr z => simpa [hc] using p
    | false =>
      simp (disch := omega) only [Ttext_Name_L2, condF_True, condF_t, condF_f, condF_T, condF_F, condF_not, bindF_some, sumF_inl, sumF_inr, Int.toNat_natCast, wrap_succ, wrap_pred, Option.bind_some, Option.bind_none, Sum.elim_inl, Sum.elim_inr, List.length_append, List.length_cons, List.length_nil, beq_str, less_str, le_str, Bool.not_not, h2, byteIn, byteBack, text_sign_sp, hc]
      exact ⟨_, rfl, by simp [hc]⟩
theorem str_empty (s : Str) : s = ByteArray.empty ↔ s.size = 0 := by
  constructor
  · rintro rfl; rfl
  · intro h
    apply ByteArray.ext
    apply Array.ext'
    have : s.data.toList = [] := List.eq_nil_of_length_eq_zero (by rw [size_data]; exact h)
    rw [this]; rfl
theorem text_Name_sp (s : Str) (hb : s.size < 4611686018427387903) : text_Name (s, ()) = some (nameP s, ()) := by
  rw [text_Name_eq]
  obtain ⟨y, e, p⟩ := text_Name_L2_sp s hb s.data.toList 0 rfl (by omega)
  simp only [Int.natCast_zero] at e
  cases y with
  | inl z =>
    simp only at p
    simp only [Ttext_Name, e, condF_True, condF_t, condF_f, condF_T, condF_F, condF_not, bindF_some, sumF_inl, sumF_inr, Int.toNat_natCast, wrap_succ, wrap_pred, Option.bind_some, Option.bind_none, Sum.elim_inl, Sum.elim_inr, List.length_append, List.length_cons, List.length_nil, beq_str, less_str, le_str, Bool.not_not, nameP, p, Bool.and_false]
  | inr z =>
    obtain ⟨p, rfl⟩ := p
    have hd : decide (((z.1.size : Nat) : Int) ≤ 16) = decide (z.1.size ≤ 16) := by
      rw [decide_eq_decide]; omega
    by_cases h0 : z.1 = ByteArray.empty
    · have h1 := (str_empty _).1 h0
      have : nameP z.1 = false := by simp [nameP, h1]
      simp only [Ttext_Name, e, condF_True, condF_t, condF_f, condF_T, condF_F, condF_not, bindF_some, sumF_inl, sumF_inr, Int.toNat_natCast, wrap_succ, wrap_pred, Option.bind_some, Option.bind_none, Sum.elim_inl, Sum.elim_inr, List.length_append, List.length_cons, List.length_nil, beq_str, less_str, le_str, Bool.not_not, this]
      simp only [h0, decide_true, condF_True, condF_t, condF_f, condF_T, condF_F, condF_not, bindF_some, sumF_inl, sumF_inr, Int.toNat_natCast, wrap_succ, wrap_pred, Option.bind_some, Option.bind_none, Sum.elim_inl, Sum.elim_inr, List.length_append, List.length_cons, List.length_nil, beq_str, less_str, le_str, Bool.not_not]
    · have h1 : 1 ≤ z.1.size := by
        have := mt (str_empty z.1).2 h0
        omega
      simp only [Ttext_Name, e, condF_True, condF_t, condF_f, condF_T, condF_F, condF_not, bindF_some, sumF_inl, sumF_inr, Int.toNat_natCast, wrap_succ, wrap_pred, Option.bind_some, Option.bind_none, Sum.elim_inl, Sum.elim_inr, List.length_append, List.length_cons, List.length_nil, beq_str, less_str, le_str, Bool.not_not, h0, decide_false, nameP, h1, decide_true, p, Bool.true_and, Bool.and_true, hd]
/-- May a line be? -/
def mayP (s : Str) : Bool := decide (s.size ≤ 80) && s.data.toList.all fun c => decide (c ≠ 10)
theorem indexByte_ge : ∀ (l : List UInt8) (c : UInt8), -1 ≤ Lib.indexByte l c
  | [], c => by simp [Lib.indexByte]
  | b :: l, c => by
    have := indexByte_ge l c
    simp only [Lib.indexByte]
    split
    · omega
    · split
      · omega
      · omega
theorem indexByte_neg : ∀ (l : List UInt8), decide (Lib.indexByte l 10 < 0) = l.all fun c => decide (c ≠ 10)
  | [] => rfl
  | b :: l => by
    have ih := indexByte_neg l
    have hge := indexByte_ge l 10
    simp only [Lib.indexByte, List.all_cons, ← ih]
    by_cases hb : b = 10
    · subst hb; simp
    · simp only [beq_iff_eq, hb, if_false, ne_eq, not_false_eq_true, decide_true, Bool.true_and]
      split
      · rename_i h; rw [h]
      · rename_i h
        rw [Bool.eq_iff_iff, decide_eq_true_eq, decide_eq_true_eq]; omega
theorem text_May_sp (s : Str) : text_May (s, ()) = some (mayP s, ()) := by
  have e10 : Nat.toUInt8 (Int.toNat (((UInt8.toNat (UInt8.ofNat (Int.toNat 10))) : Nat) : Int)) = 10 := rfl
  have hi : strings_IndexByte (s, UInt8.ofNat (Int.toNat 10), ()) = some (Lib.indexByte s.data.toList 10, ()) := by
    rw [strings_IndexByte_eq]
    simp only [Tstrings_IndexByte, byteIn, condF_True, condF_t, condF_f, condF_T, condF_F, condF_not, bindF_some, sumF_inl, sumF_inr, Int.toNat_natCast, wrap_succ, wrap_pred, Option.bind_some, Option.bind_none, Sum.elim_inl, Sum.elim_inr, List.length_append, List.length_cons, List.length_nil, beq_str, less_str, le_str, Bool.not_not, byteBack, internal_stringslite_IndexByte_eq, Tinternal_stringslite_IndexByte]
    rfl
  rw [text_May_eq]
  by_cases h : s.size ≤ 80
  · simp (disch := omega) only [Ttext_May, condF_True, condF_t, condF_f, condF_T, condF_F, condF_not, bindF_some, sumF_inl, sumF_inr, Int.toNat_natCast, wrap_succ, wrap_pred, Option.bind_some, Option.bind_none, Sum.elim_inl, Sum.elim_inr, List.length_append, List.length_cons, List.length_nil, beq_str, less_str, le_str, Bool.not_not, hi, indexByte_neg, mayP, h, decide_true, Bool.true_and]
  · simp (disch := omega) only [Ttext_May, condF_True, condF_t, condF_f, condF_T, condF_F, condF_not, bindF_some, sumF_inl, sumF_inr, Int.toNat_natCast, wrap_succ, wrap_pred, Option.bind_some, Option.bind_none, Sum.elim_inl, Sum.elim_inr, List.length_append, List.length_cons, List.length_nil, beq_str, less_str, le_str, Bool.not_not, mayP, h, decide_false, Bool.false_and]
theorem text_All_1_sp (s : Str) : text_All_1 (s, ()) = some (!mayP s, ()) := by
  rw [text_All_1_eq]
  simp only [Ttext_All_1, text_May_sp, condF_True, condF_t, condF_f, condF_T, condF_F, condF_not, bindF_some, sumF_inl, sumF_inr, Int.toNat_natCast, wrap_succ, wrap_pred, Option.bind_some, Option.bind_none, Sum.elim_inl, Sum.elim_inr, List.length_append, List.length_cons, List.length_nil, beq_str, less_str, le_str, Bool.not_not]
def allP (l : List Str) : Bool := decide (l.length ≤ 200) && l.all mayP
theorem slices_IndexFunc_string_L2_sp (l : List Str) (hb : l.length < 4611686018427387903) : ∀ (r : List Str) (i : Nat), l.drop i = r → i ≤ l.length →
    ∃ y, slices_IndexFunc_string_L2 (l, (l.length : Int), (i : Int), ()) = some y ∧ (match y with
      | .inl z => r.all mayP = false ∧ 0 ≤ z.2.1
      | .inr z => r.all mayP = true)
  | [], i, h, hi => by
    have := drop_nil h hi
    subst this
    rw [slices_IndexFunc_string_L2_eq]
    simp (disch := omega) only [Tslices_IndexFunc_string_L2, condF_True, condF_t, condF_f, condF_T, condF_F, condF_not, bindF_some, sumF_inl, sumF_inr, Int.toNat_natCast, wrap_succ, wrap_pred, Option.bind_some, Option.bind_none, Sum.elim_inl, Sum.elim_inr, List.length_append, List.length_cons, List.length_nil, beq_str, less_str, le_str, Bool.not_not]
    exact ⟨_, rfl, rfl⟩
  | c :: r, i, h, hi => by
    obtain ⟨h1, h2, h3, h4⟩ := drop_cons h
    rw [slices_IndexFunc_string_L2_eq]
    cases hc : mayP c with
    | true =>
      simp (disch := omega) only [Tslices_IndexFunc_string_L2, condF_True, condF_t, condF_f, condF_T, condF_F, condF_not, bindF_some, sumF_inl, sumF_inr, Int.toNat_natCast, wrap_succ, wrap_pred, Option.bind_some, Option.bind_none, Sum.elim_inl, Sum.elim_inr, List.length_append, List.length_cons, List.length_nil, beq_str, less_str, le_str, Bool.not_not, h2, text_All_1_sp, hc, Bool.not_true]
      obtain ⟨y, e, p⟩ := slices_IndexFunc_string_L2_sp l hb r (i + 1) h3 (by omega)
      refine ⟨y, e, ?_⟩
      cases y with
      | inl z => simpa [hc] using p
      | inr z => simpa [hc] using p
    | false =>
      simp (disch := omega) only [Tslices_IndexFunc_string_L2, condF_True, condF_t, condF_f, condF_T, condF_F, condF_not, bindF_some, sumF_inl, sumF_inr, Int.toNat_natCast, wrap_succ, wrap_pred, Option.bind_some, Option.bind_none, Sum.elim_inl, Sum.elim_inr, List.length_append, List.length_cons, List.length_nil, beq_str, less_str, le_str, Bool.not_not, h2, text_All_1_sp, hc, Bool.not_false]
      exact ⟨_, rfl, by simp [hc], by simp only; omega⟩
theorem text_All_sp (l : List Str) : text_All (l, ()) = some (allP l, ()) := by
  rw [text_All_eq]
  by_cases h : l.length ≤ 200
  · obtain ⟨y, e, p⟩ := slices_IndexFunc_string_L2_sp l (by omega) l 0 rfl (by omega)
    simp only [Int.natCast_zero] at e
    cases y with
    | inl z =>
      simp only at p
      have : decide (z.2.1 ≥ 0) = true := decide_eq_true p.2
      simp (disch := omega) only [Ttext_All, condF_True, condF_t, condF_f, condF_T, condF_F, condF_not, bindF_some, sumF_inl, sumF_inr, Int.toNat_natCast, wrap_succ, wrap_pred, Option.bind_some, Option.bind_none, Sum.elim_inl, Sum.elim_inr, List.length_append, List.length_cons, List.length_nil, beq_str, less_str, le_str, Bool.not_not, e, allP, h, p.1, decide_true, Bool.true_and, this, Bool.not_true]
    | inr z =>
      simp only at p
      simp (disch := omega) only [Ttext_All, condF_True, condF_t, condF_f, condF_T, condF_F, condF_not, bindF_some, sumF_inl, sumF_inr, Int.toNat_natCast, wrap_succ, wrap_pred, Option.bind_some, Option.bind_none, Sum.elim_inl, Sum.elim_inr, List.length_append, List.length_cons, List.length_nil, beq_str, less_str, le_str, Bool.not_not, e, allP, h, p, decide_true, Bool.true_and]
  · simp (disch := omega) only [Ttext_All, condF_True, condF_t, condF_f, condF_T, condF_F, condF_not, bindF_some, sumF_inl, sumF_inr, Int.toNat_natCast, wrap_succ, wrap_pred, Option.bind_some, Option.bind_none, Sum.elim_inl, Sum.elim_inr, List.length_append, List.length_cons, List.length_nil, beq_str, less_str, le_str, Bool.not_not, allP, h, decide_false, Bool.false_and]
end Go.Proofs.Yticpcfchhcjjeaa.LI
namespace Go.Proofs.Yticpcfchhcjjeaa.LI
open Go
set_option linter.unusedSimpArgs false

/-- The first file behind a name. -/
def gt_ (t : Tree) (s : Str) : Nat := t.findIdx fun f => decide (ltS s f.1)
def putT (t : Tree) (s : Str) (l : List Str) : Tree := if at_ t s < t.length then t.set (at_ t s) (s, l, ()) else t.take (gt_ t s) ++ (s, l, ()) :: t.drop (gt_ t s)
theorem findb_sp (t : Tree) (s : Str) (hb : t.length < 4611686018427387903) : ∀ (r : Tree) (i : Nat), t.drop i = r → i ≤ t.length →
    ∃ y, slices_IndexFunc_File_L2b (t, s, (t.length : Int), (i : Int), ()) = some y ∧ (match y with
      | .inl z => z.1 = t ∧ z.2.1 = s ∧ z.2.2.1 = ((i + r.findIdx (fun f => decide (ltS s f.1)) : Nat) : Int) ∧ r.findIdx (fun f => decide (ltS s f.1)) < r.length
      | .inr z => z.1 = t ∧ z.2.1 = s ∧ r.findIdx (fun f => decide (ltS s f.1)) = r.length)
  | [], i, h, hi => by
    have := drop_nil h hi
    subst this
    rw [slices_IndexFunc_File_L2b_eq]
    simp (disch := omega) only [Tslices_IndexFunc_File_L2b, condF_True, condF_t, condF_f, condF_T, condF_F, condF_not, bindF_some, sumF_inl, sumF_inr, Int.toNat_natCast, wrap_succ, wrap_pred, Option.bind_some, Option.bind_none, Sum.elim_inl, Sum.elim_inr, List.length_append, List.length_cons, List.length_nil, beq_str, less_str, le_str, Bool.not_not]
    exact ⟨_, rfl, rfl, rfl, rfl⟩
  | f :: r, i, h, hi => by
    obtain ⟨h1, h2, h3, h4⟩ := drop_cons h
    rw [slices_IndexFunc_File_L2b_eq]
    by_cases hf : ltS s f.1
    · simp (disch := omega) only [Tslices_IndexFunc_File_L2b, condF_True, condF_t, condF_f, condF_T, condF_F, condF_not, bindF_some, sumF_inl, sumF_inr, Int.toNat_natCast, wrap_succ, wrap_pred, Option.bind_some, Option.bind_none, Sum.elim_inl, Sum.elim_inr, List.length_append, List.length_cons, List.length_nil, beq_str, less_str, le_str, Bool.not_not, h2, hf, List.findIdx_cons, decide_true, cond_true, Nat.add_zero]
      exact ⟨_, rfl, rfl, rfl, rfl, by omega⟩
    · simp (disch := omega) only [Tslices_IndexFunc_File_L2b, condF_True, condF_t, condF_f, condF_T, condF_F, condF_not, bindF_some, sumF_inl, sumF_inr, Int.toNat_natCast, wrap_succ, wrap_pred, Option.bind_some, Option.bind_none, Sum.elim_inl, Sum.elim_inr, List.length_append, List.length_cons, List.length_nil, beq_str, less_str, le_str, Bool.not_not, h2, hf, List.findIdx_cons, decide_false, cond_false]
      obtain ⟨y, e, p⟩ := findb_sp t s hb r (i + 1) h3 (by omega)
      refine ⟨y, e, ?_⟩
      cases y with
      | inl z => simp only at p ⊢; exact ⟨p.1, p.2.1, by rw [p.2.2.1]; omega, by omega⟩
      | inr z => simp only at p ⊢; exact ⟨p.1, p.2.1, by omega⟩
theorem insT_put (t : Tree) (n : Nat) (f : File) : insT t (n : Int) [f] = t.take n ++ f :: t.drop n := by simp [insT]
theorem tree_Put_sp (t : Tree) (s : Str) (l : List Str) (hw : Wee t) (hl : l.length ≤ 1000000000) : tree_Put (t, s, l, ()) = some (putT t s l, ()) := by
  have hb := hw.1
  have hM := maxEls_eq
  rw [tree_Put_eq]
  by_cases h : at_ t s < t.length
  · simp (disch := first | omega | assumption) only [Ttree_Put, condF_True, condF_t, condF_f, condF_T, condF_F, condF_not, bindF_some, sumF_inl, sumF_inr, Int.toNat_natCast, wrap_succ, wrap_pred, Option.bind_some, Option.bind_none, Sum.elim_inl, Sum.elim_inr, List.length_append, List.length_cons, List.length_nil, beq_str, less_str, le_str, Bool.not_not, tree_all_sp, tree_where_sp, tree_own_sp, List.length_set, putT, h, if_true]
  · obtain ⟨y, e, p⟩ := findb_sp t s (by omega) t 0 rfl (by omega)
    simp only [Int.natCast_zero] at e
    cases y with
    | inl z =>
      obtain ⟨p1, p2, p3, p4⟩ := p
      simp only [Nat.zero_add] at p3
      rw [show (t.findIdx fun f => decide (ltS s f.1)) = gt_ t s from rfl] at p3 p4
      simp (disch := first | omega | assumption) only [Ttree_Put, condF_True, condF_t, condF_f, condF_T, condF_F, condF_not, bindF_some, sumF_inl, sumF_inr, Int.toNat_natCast, wrap_succ, wrap_pred, Option.bind_some, Option.bind_none, Sum.elim_inl, Sum.elim_inr, List.length_append, List.length_cons, List.length_nil, beq_str, less_str, le_str, Bool.not_not, tree_all_sp, tree_where_sp, e, p1, p2, p3, eqT_refl, tree_own_sp, insT_put, putT, h, if_false]
    | inr z =>
      obtain ⟨p1, p2, p3⟩ := p
      rw [show (t.findIdx fun f => decide (ltS s f.1)) = gt_ t s from rfl] at p3
      simp (disch := first | omega | assumption) only [Ttree_Put, condF_True, condF_t, condF_f, condF_T, condF_F, condF_not, bindF_some, sumF_inl, sumF_inr, Int.toNat_natCast, wrap_succ, wrap_pred, Option.bind_some, Option.bind_none, Sum.elim_inl, Sum.elim_inr, List.length_append, List.length_cons, List.length_nil, beq_str, less_str, le_str, Bool.not_not, tree_all_sp, tree_where_sp, e, p1, p2, eqT_refl, tree_own_sp, insT_put, putT, h, if_false, p3]
/-! ### the document's -/
theorem ref07_where_L2_sp (t : Tree) (s : Str) (hb : t.length < 4611686018427387903) : ∀ (r : Tree) (i : Nat), t.drop i = r → i ≤ t.length →
    ∃ y, ref07_where_L2 (t, s, (i : Int), ()) = some y ∧ (match y with
      | .inl z => z.2.2.1 = ((i + r.findIdx (fun f => decide (f.1 = s)) : Nat) : Int) ∧ r.findIdx (fun f => decide (f.1 = s)) < r.length
      | .inr _ => r.findIdx (fun f => decide (f.1 = s)) = r.length)
  | [], i, h, hi => by
    have := drop_nil h hi
    subst this
    rw [ref07_where_L2_eq]
    simp (disch := omega) only [Tref07_where_L2, condF_True, condF_t, condF_f, condF_T, condF_F, condF_not, bindF_some, sumF_inl, sumF_inr, Int.toNat_natCast, wrap_succ, wrap_pred, Option.bind_some, Option.bind_none, Sum.elim_inl, Sum.elim_inr, List.length_append, List.length_cons, List.length_nil, beq_str, less_str, le_str, Bool.not_not]
    exact ⟨_, rfl, rfl⟩
  | f :: r, i, h, hi => by
    obtain ⟨h1, h2, h3, h4⟩ := drop_cons h
    rw [ref07_where_L2_eq]
    by_cases hf : f.1 = s
    · simp (disch := omega) only [Tref07_where_L2, condF_True, condF_t, condF_f, condF_T, condF_F, condF_not, bindF_some, sumF_inl, sumF_inr, Int.toNat_natCast, wrap_succ, wrap_pred, Option.bind_some, Option.bind_none, Sum.elim_inl, Sum.elim_inr, List.length_append, List.length_cons, List.length_nil, beq_str, less_str, le_str, Bool.not_not, h2, hf, List.findIdx_cons, decide_true, cond_true, Nat.add_zero]
      exact ⟨_, rfl, rfl, by omega⟩
    · simp (disch := omega) only [Tref07_where_L2, condF_True, condF_t, condF_f, condF_T, condF_F, condF_not, bindF_some, sumF_inl, sumF_inr, Int.toNat_natCast, wrap_succ, wrap_pred, Option.bind_some, Option.bind_none, Sum.elim_inl, Sum.elim_inr, List.length_append, List.length_cons, List.length_nil, beq_str, less_str, le_str, Bool.not_not, h2, hf, List.findIdx_cons, decide_false, cond_false]
      obtain ⟨y, e, p⟩ := ref07_where_L2_sp t s hb r (i + 1) h3 (by omega)
      refine ⟨y, e, ?_⟩
      cases y with
      | inl z => simp only at p ⊢; exact ⟨by rw [p.1]; omega, by omega⟩
      | inr z => simp only at p ⊢; omega
theorem ref07_where_sp (t : Tree) (s : Str) (hb : t.length < 4611686018427387903) : ref07_where (t, s, ()) = some (if at_ t s < t.length then ((at_ t s : Nat) : Int) else -1, ()) := by
  rw [ref07_where_eq]
  obtain ⟨y, e, p⟩ := ref07_where_L2_sp t s hb t 0 rfl (by omega)
  simp only [Int.natCast_zero] at e
  rw [show (t.findIdx fun f => decide (f.1 = s)) = at_ t s from rfl] at p
  cases y with
  | inl z =>
    simp only [Nat.zero_add] at p
    simp only [Tref07_where, e, condF_True, condF_t, condF_f, condF_T, condF_F, condF_not, bindF_some, sumF_inl, sumF_inr, Int.toNat_natCast, wrap_succ, wrap_pred, Option.bind_some, Option.bind_none, Sum.elim_inl, Sum.elim_inr, List.length_append, List.length_cons, List.length_nil, beq_str, less_str, le_str, Bool.not_not, p.1, p.2, if_true]
  | inr z =>
    simp only at p
    have : ¬ at_ t s < t.length := by omega
    simp only [Tref07_where, e, condF_True, condF_t, condF_f, condF_T, condF_F, condF_not, bindF_some, sumF_inl, sumF_inr, Int.toNat_natCast, wrap_succ, wrap_pred, Option.bind_some, Option.bind_none, Sum.elim_inl, Sum.elim_inr, List.length_append, List.length_cons, List.length_nil, beq_str, less_str, le_str, Bool.not_not, this, if_false]
theorem ref07_Get_sp (t : Tree) (s : Str) (hw : Wee t) : ref07_Get (t, s, ()) = some ((getT t s).getD [], (getT t s).isSome, ()) := by
  have hb := hw.1
  have hM := maxEls_eq
  rw [ref07_Get_eq]
  by_cases h : at_ t s < t.length
  · have hm : t.getD (at_ t s) (ByteArray.empty, [], ()) ∈ t := by
      rw [List.getD_eq_getElem?_getD, List.getElem?_eq_getElem h]; exact List.getElem_mem h
    have := hw.2 _ hm
    simp (disch := omega) only [Tref07_Get, ref07_where_sp, condF_True, condF_t, condF_f, condF_T, condF_F, condF_not, bindF_some, sumF_inl, sumF_inr, Int.toNat_natCast, wrap_succ, wrap_pred, Option.bind_some, Option.bind_none, Sum.elim_inl, Sum.elim_inr, List.length_append, List.length_cons, List.length_nil, beq_str, less_str, le_str, Bool.not_not, getT_at, h, if_true, Option.getD_some, Option.isSome_some]
  · simp (disch := omega) only [Tref07_Get, ref07_where_sp, condF_True, condF_t, condF_f, condF_T, condF_F, condF_not, bindF_some, sumF_inl, sumF_inr, Int.toNat_natCast, wrap_succ, wrap_pred, Option.bind_some, Option.bind_none, Sum.elim_inl, Sum.elim_inr, List.length_append, List.length_cons, List.length_nil, beq_str, less_str, le_str, Bool.not_not, getT_at, h, if_false, Option.getD_none, Option.isSome_none]
end Go.Proofs.Yticpcfchhcjjeaa.LI
namespace Go.Proofs.Yticpcfchhcjjeaa.LI
open Go
set_option linter.unusedSimpArgs false

theorem ref07_Put_L10b_sp (l : List Str) (t : Tree) (s s' : Str) (hw : Wee t) : ∀ (r : Tree) (i : Nat) (o : Tree), t.drop i = r → i ≤ t.length → o.length + r.length ≤ 1000000001 →
    ref07_Put_L10b (l, o, s, t, s', (i : Int), ()) = some (l, o ++ r, s, t, s', (t.length : Int), ())
  | [], i, o, h, hi, _ => by
    have := drop_nil h hi
    subst this
    rw [ref07_Put_L10b_eq]
    simp (disch := omega) only [Tref07_Put_L10b, condF_True, condF_t, condF_f, condF_T, condF_F, condF_not, bindF_some, sumF_inl, sumF_inr, Int.toNat_natCast, wrap_succ, wrap_pred, Option.bind_some, Option.bind_none, Sum.elim_inl, Sum.elim_inr, List.length_append, List.length_cons, List.length_nil, beq_str, less_str, le_str, Bool.not_not, List.append_nil]
  | f :: r, i, o, h, hi, hl => by
    obtain ⟨h1, h2, h3, h4⟩ := drop_cons h
    have hb := hw.1
    have hM := maxEls_eq
    simp only [List.length_cons] at hl
    rw [ref07_Put_L10b_eq]
    simp (disch := omega) only [Tref07_Put_L10b, condF_True, condF_t, condF_f, condF_T, condF_F, condF_not, bindF_some, sumF_inl, sumF_inr, Int.toNat_natCast, wrap_succ, wrap_pred, Option.bind_some, Option.bind_none, Sum.elim_inl, Sum.elim_inr, List.length_append, List.length_cons, List.length_nil, beq_str, less_str, le_str, Bool.not_not, h2]
    rw [ref07_Put_L10b_sp l t s s' hw r (i + 1) _ h3 (by omega) (by simp; omega)]
    simp
theorem ref07_Put_L10_sp (l : List Str) (t : Tree) (s : Str) (hw : Wee t) : ∀ (r : Tree) (i : Nat) (o : Tree), t.drop i = r → i ≤ t.length → o.length + r.length ≤ 1000000000 →
    ∃ y, ref07_Put_L10 (l, o, s, t, s, (i : Int), ()) = some y ∧ (match y with
      | .inl z => ∃ j, r.findIdx (fun f => decide (ltS s f.1)) < r.length ∧ z = (l, o ++ r.take (r.findIdx fun f => decide (ltS s f.1)) ++ [(s, l, ())] ++ (r.drop (r.findIdx fun f => decide (ltS s f.1))).take 1, s, t, s, ((j + 1 : Nat) : Int), ()) ∧ j = i + (r.findIdx fun f => decide (ltS s f.1))
      | .inr z => r.findIdx (fun f => decide (ltS s f.1)) = r.length ∧ z = (l, o ++ r, s, t, s, (t.length : Int), ()))
  | [], i, o, h, hi, _ => by
    have := drop_nil h hi
    subst this
    rw [ref07_Put_L10_eq]
    simp (disch := omega) only [Tref07_Put_L10, condF_True, condF_t, condF_f, condF_T, condF_F, condF_not, bindF_some, sumF_inl, sumF_inr, Int.toNat_natCast, wrap_succ, wrap_pred, Option.bind_some, Option.bind_none, Sum.elim_inl, Sum.elim_inr, List.length_append, List.length_cons, List.length_nil, beq_str, less_str, le_str, Bool.not_not, List.append_nil]
    exact ⟨_, rfl, rfl, rfl⟩
  | f :: r, i, o, h, hi, hl => by
    obtain ⟨h1, h2, h3, h4⟩ := drop_cons h
    have hb := hw.1
    have hM := maxEls_eq
    simp only [List.length_cons] at hl
    rw [ref07_Put_L10_eq]
    by_cases hf : ltS s f.1
    · simp (disch := omega) only [Tref07_Put_L10, condF_True, condF_t, condF_f, condF_T, condF_F, condF_not, bindF_some, sumF_inl, sumF_inr, Int.toNat_natCast, wrap_succ, wrap_pred, Option.bind_some, Option.bind_none, Sum.elim_inl, Sum.elim_inr, List.length_append, List.length_cons, List.length_nil, beq_str, less_str, le_str, Bool.not_not, h2, hf, List.findIdx_cons, decide_true, cond_true, Nat.add_zero]
      refine ⟨_, rfl, i, by omega, ?_, rfl⟩
      simp
    · simp (disch := omega) only [Tref07_Put_L10, condF_True, condF_t, condF_f, condF_T, condF_F, condF_not, bindF_some, sumF_inl, sumF_inr, Int.toNat_natCast, wrap_succ, wrap_pred, Option.bind_some, Option.bind_none, Sum.elim_inl, Sum.elim_inr, List.length_append, List.length_cons, List.length_nil, beq_str, less_str, le_str, Bool.not_not, h2, hf, List.findIdx_cons, decide_false, cond_false]
      obtain ⟨y, e, p⟩ := ref07_Put_L10_sp l t s hw r (i + 1) (o ++ [f]) h3 (by omega) (by simp; omega)
      refine ⟨y, e, ?_⟩
      cases y with
      | inl z =>
        obtain ⟨j, p1, p2, p3⟩ := p
        refine ⟨j, by omega, ?_, by omega⟩
        rw [p2]; simp
      | inr z =>
        obtain ⟨p1, p2⟩ := p
        refine ⟨by omega, ?_⟩
        rw [p2]; simp
theorem ref07_Put_sp (t : Tree) (s : Str) (l : List Str) (hw : Wee t) (hl : l.length ≤ 1000000000) : ref07_Put (t, s, l, ()) = some (putT t s l, ()) := by
  have hb := hw.1
  have hM := maxEls_eq
  rw [ref07_Put_eq]
  by_cases h : at_ t s < t.length
  · simp (disch := first | omega | assumption) only [Tref07_Put, condF_True, condF_t, condF_f, condF_T, condF_F, condF_not, bindF_some, sumF_inl, sumF_inr, Int.toNat_natCast, wrap_succ, wrap_pred, Option.bind_some, Option.bind_none, Sum.elim_inl, Sum.elim_inr, List.length_append, List.length_cons, List.length_nil, beq_str, less_str, le_str, Bool.not_not, ref07_where_sp, h, if_true, List.length_set, putT]
  · obtain ⟨y, e, p⟩ := ref07_Put_L10_sp l t s hw t 0 [] rfl (by omega) (by simp; omega)
    simp only [Int.natCast_zero] at e
    rw [show (t.findIdx fun f => decide (ltS s f.1)) = gt_ t s from rfl] at p
    cases y with
    | inl z =>
      obtain ⟨j, p1, rfl, p3⟩ := p
      simp only [Nat.zero_add] at p3
      subst p3
      have h2 := ref07_Put_L10b_sp l t s s hw (t.drop (gt_ t s + 1)) (gt_ t s + 1) (t.take (gt_ t s) ++ [(s, l, ())] ++ (t.drop (gt_ t s)).take 1) rfl (by omega) (by
        simp only [List.length_append, List.length_take, List.length_drop, List.length_cons, List.length_nil]; omega)
      simp only [List.nil_append] at e
      have h3 : t.take (gt_ t s) ++ [(s, l, ())] ++ (t.drop (gt_ t s)).take 1 ++ t.drop (gt_ t s + 1) = t.take (gt_ t s) ++ (s, l, ()) :: t.drop (gt_ t s) := by
        rw [← List.drop_drop, List.append_assoc, List.append_assoc, List.take_append_drop]; rfl
      simp (disch := first | omega | assumption) only [Tref07_Put, condF_True, condF_t, condF_f, condF_T, condF_F, condF_not, bindF_some, sumF_inl, sumF_inr, Int.toNat_natCast, wrap_succ, wrap_pred, Option.bind_some, Option.bind_none, Sum.elim_inl, Sum.elim_inr, List.length_append, List.length_cons, List.length_nil, beq_str, less_str, le_str, Bool.not_not, ref07_where_sp, h, if_false, e, h2, putT, h3]
    | inr z =>
      obtain ⟨p1, rfl⟩ := p
      simp only [List.nil_append] at e
      simp (disch := first | omega | assumption) only [Tref07_Put, condF_True, condF_t, condF_f, condF_T, condF_F, condF_not, bindF_some, sumF_inl, sumF_inr, Int.toNat_natCast, wrap_succ, wrap_pred, Option.bind_some, Option.bind_none, Sum.elim_inl, Sum.elim_inr, List.length_append, List.length_cons, List.length_nil, beq_str, less_str, le_str, Bool.not_not, ref07_where_sp, h, if_false, e, putT, p1, List.take_length, List.drop_length]
/-! ### without a file -/
def delT (t : Tree) (s : Str) : Tree := t.eraseIdx (at_ t s)
theorem over_del (t : Tree) (n : Nat) (h : n < t.length) : t.take n ++ t.drop (n + 1) = t.eraseIdx n := (List.eraseIdx_eq_take_drop_succ t n).symm
theorem ref07_Del_L4_sp (t : Tree) (hw : Wee t) (x : Int) : ∀ (r : Tree) (i : Nat) (o : Tree), t.drop i = r → i ≤ t.length → o.length + r.length ≤ 1000000000 →
    ref07_Del_L4 (o, t, x, (i : Int), ()) = some (o ++ (if (i : Int) ≤ x then r.eraseIdx (x.toNat - i) else r), t, x, (t.length : Int), ())
  | [], i, o, h, hi, _ => by
    have := drop_nil h hi
    subst this
    rw [ref07_Del_L4_eq]
    simp (disch := omega) only [Tref07_Del_L4, condF_True, condF_t, condF_f, condF_T, condF_F, condF_not, bindF_some, sumF_inl, sumF_inr, Int.toNat_natCast, wrap_succ, wrap_pred, Option.bind_some, Option.bind_none, Sum.elim_inl, Sum.elim_inr, List.length_append, List.length_cons, List.length_nil, beq_str, less_str, le_str, Bool.not_not, List.eraseIdx_nil, ite_self, List.append_nil]
  | f :: r, i, o, h, hi, hl => by
    obtain ⟨h1, h2, h3, h4⟩ := drop_cons h
    have hb := hw.1
    have hM := maxEls_eq
    simp only [List.length_cons] at hl
    rw [ref07_Del_L4_eq]
    by_cases hx : (i : Int) = x
    · have hbn : ((i : Int) != x) = false := by simp [hx]
      simp (disch := omega) only [Tref07_Del_L4, condF_True, condF_t, condF_f, condF_T, condF_F, condF_not, bindF_some, sumF_inl, sumF_inr, Int.toNat_natCast, wrap_succ, wrap_pred, Option.bind_some, Option.bind_none, Sum.elim_inl, Sum.elim_inr, List.length_append, List.length_cons, List.length_nil, beq_str, less_str, le_str, Bool.not_not, hbn]
      rw [ref07_Del_L4_sp t hw x r (i + 1) o h3 (by omega) (by omega)]
      have h5 : ¬ ((i + 1 : Nat) : Int) ≤ x := by omega
      have h6 : (i : Int) ≤ x := by omega
      have h7 : x.toNat - i = 0 := by omega
      simp only [h5, h6, if_false, if_true, h7, List.eraseIdx_cons_zero]
    · have hbn : ((i : Int) != x) = true := by simp [hx]
      simp (disch := omega) only [Tref07_Del_L4, condF_True, condF_t, condF_f, condF_T, condF_F, condF_not, bindF_some, sumF_inl, sumF_inr, Int.toNat_natCast, wrap_succ, wrap_pred, Option.bind_some, Option.bind_none, Sum.elim_inl, Sum.elim_inr, List.length_append, List.length_cons, List.length_nil, beq_str, less_str, le_str, Bool.not_not, hbn, h2]
      rw [ref07_Del_L4_sp t hw x r (i + 1) _ h3 (by omega) (by simp; omega)]
      by_cases h6 : (i : Int) ≤ x
      · have h5 : ((i + 1 : Nat) : Int) ≤ x := by omega
        have h7 : x.toNat - i = (x.toNat - (i + 1)) + 1 := by omega
        simp only [h5, h6, if_true, h7, List.eraseIdx_cons_succ, List.append_assoc, List.cons_append, List.nil_append]
      · have h5 : ¬ ((i + 1 : Nat) : Int) ≤ x := by omega
        simp only [h5, h6, if_false, List.append_assoc, List.cons_append, List.nil_append]
theorem ref07_Del_sp (t : Tree) (s : Str) (hw : Wee t) : ref07_Del (t, s, ()) = some (delT t s, ()) := by
  have hb := hw.1
  rw [ref07_Del_eq]
  have e := fun x => ref07_Del_L4_sp t hw x t 0 [] rfl (by omega) (by simpa using hb)
  simp only [Int.natCast_zero, List.nil_append] at e
  by_cases h : at_ t s < t.length
  · have h0 : (0 : Int) ≤ ((at_ t s : Nat) : Int) := by omega
    simp (disch := first | omega | assumption) only [Tref07_Del, condF_True, condF_t, condF_f, condF_T, condF_F, condF_not, bindF_some, sumF_inl, sumF_inr, Int.toNat_natCast, wrap_succ, wrap_pred, Option.bind_some, Option.bind_none, Sum.elim_inl, Sum.elim_inr, List.length_append, List.length_cons, List.length_nil, beq_str, less_str, le_str, Bool.not_not, ref07_where_sp, h, if_true, e, h0, delT, Nat.sub_zero]
  · have h0 : ¬ (0 : Int) ≤ -1 := by omega
    simp (disch := first | omega | assumption) only [Tref07_Del, condF_True, condF_t, condF_f, condF_T, condF_F, condF_not, bindF_some, sumF_inl, sumF_inr, Int.toNat_natCast, wrap_succ, wrap_pred, Option.bind_some, Option.bind_none, Sum.elim_inl, Sum.elim_inr, List.length_append, List.length_cons, List.length_nil, beq_str, less_str, le_str, Bool.not_not, ref07_where_sp, h, if_false, e, h0, delT]
    rw [List.eraseIdx_of_length_le (by omega)]
theorem overT_len {α : Type} (l : List α) (n : Nat) (ys : List α) (h : n + ys.length ≤ l.length) : (overT l n ys).length = l.length := by
  simp only [overT, List.length_append, List.length_take, List.length_drop]; omega
theorem tree_Del_sp (t : Tree) (s : Str) (hw : Wee t) : tree_Del (t, s, ()) = some (delT t s, ()) := by
  have hb := hw.1
  have hM := maxEls_eq
  rw [tree_Del_eq]
  by_cases h : at_ t s < t.length
  · have hne : (((at_ t s : Nat) : Int) == ((at_ t s + 1 : Nat) : Int)) = false := by simp; omega
    have h1 : (List.take (0 + (t.length - 0) - (0 + (at_ t s + 1))) (List.drop (0 + (at_ t s + 1)) t)) = t.drop (at_ t s + 1) := by
      rw [Nat.zero_add, Nat.zero_add, Nat.sub_zero]
      exact List.take_of_length_le (by simp)
    have hl1 : (t.drop (at_ t s + 1)).length = t.length - (at_ t s + 1) := List.length_drop
    simp (disch := first | omega | assumption) only [Ttree_Del, condF_True, condF_t, condF_f, condF_T, condF_F, condF_not, bindF_some, sumF_inl, sumF_inr, Int.toNat_natCast, wrap_succ, wrap_pred, Option.bind_some, Option.bind_none, Sum.elim_inl, Sum.elim_inr, List.length_append, List.length_cons, List.length_nil, beq_str, less_str, le_str, Bool.not_not, tree_all_sp, tree_where_sp, hne, h1]
    have hO : (overT t (at_ t s) (t.drop (at_ t s + 1))).length = t.length := overT_len _ _ _ (by omega)
    have hk : at_ t s + (t.drop (at_ t s + 1)).length = t.length - 1 := by omega
    have hO2 : ∀ d : File, (overT (overT t (at_ t s) (t.drop (at_ t s + 1))) (t.length - 1) (List.replicate (t.length - (t.length - 1)) d)).length = t.length := fun d => by
      rw [overT_len _ _ _ (by rw [List.length_replicate, hO]; omega), hO]
    simp only [Nat.zero_add, Nat.add_zero, Nat.sub_zero, List.drop_zero]
    simp (disch := first | omega | assumption) only [hO, hk, hO2, condF_True, condF_t, condF_f, condF_T, condF_F, condF_not, bindF_some, sumF_inl, sumF_inr, Int.toNat_natCast, wrap_succ, wrap_pred, Option.bind_some, Option.bind_none, Sum.elim_inl, Sum.elim_inr, List.length_append, List.length_cons, List.length_nil, beq_str, less_str, le_str, Bool.not_not]
    have e1 : overT t (at_ t s) (t.drop (at_ t s + 1)) = t.take (at_ t s) ++ t.drop (at_ t s + 1) ++ t.drop (at_ t s + (t.drop (at_ t s + 1)).length) := rfl
    have e2 : ∀ (O r : List File), t.length - 1 ≤ O.length → (overT O (t.length - 1) r).take (t.length - 1) = O.take (t.length - 1) := fun O r ho => by
      simp only [overT, List.append_assoc]
      rw [List.take_append_of_le_length (by rw [List.length_take]; omega), List.take_take, Nat.min_self]
    rw [e2 _ _ (by omega), e1, List.take_append_of_le_length (by rw [List.length_append, List.length_take, hl1]; omega), List.take_of_length_le (by rw [List.length_append, List.length_take, hl1]; omega), over_del t _ h]
    rfl
  · simp (disch := first | omega | assumption) only [Ttree_Del, condF_True, condF_t, condF_f, condF_T, condF_F, condF_not, bindF_some, sumF_inl, sumF_inr, Int.toNat_natCast, wrap_succ, wrap_pred, Option.bind_some, Option.bind_none, Sum.elim_inl, Sum.elim_inr, List.length_append, List.length_cons, List.length_nil, beq_str, less_str, le_str, Bool.not_not, tree_all_sp, tree_where_sp, delT]
    rw [List.eraseIdx_of_length_le (by omega)]
end Go.Proofs.Yticpcfchhcjjeaa.LI
namespace Go.Proofs.Yticpcfchhcjjeaa.LI
open Go
set_option linter.unusedSimpArgs false

/-! ### trees, one behind the other -/
theorem Concat_L3_sp (l0 ts : List Tree) (hb : ts.length < 4611686018427387903) : ∀ (r : List Tree) (i n : Nat), ts.drop i = r → i ≤ ts.length → n + r.flatten.length < 4611686018427387903 →
    slices_Concat_File_L3 (l0, (n : Int), ts, (ts.length : Int), (i : Int), ()) = some (l0, ((n + r.flatten.length : Nat) : Int), ts, (ts.length : Int), (ts.length : Int), ())
  | [], i, n, h, hi, _ => by
    have := drop_nil h hi
    subst this
    rw [slices_Concat_File_L3_eq]
    simp (disch := omega) only [Tslices_Concat_File_L3, condF_True, condF_t, condF_f, condF_T, condF_F, condF_not, bindF_some, sumF_inl, sumF_inr, Int.toNat_natCast, wrap_succ, wrap_pred, Option.bind_some, Option.bind_none, Sum.elim_inl, Sum.elim_inr, List.length_append, List.length_cons, List.length_nil, beq_str, less_str, le_str, Bool.not_not, List.flatten_nil, Nat.add_zero]
  | t :: r, i, n, h, hi, hn => by
    obtain ⟨h1, h2, h3, h4⟩ := drop_cons h
    simp only [List.flatten_cons, List.length_append] at hn
    have hw : IntKind.wrap .i64 ((n : Int) + (t.length : Int)) = ((n + t.length : Nat) : Int) := by rw [wrap_id (by omega) (by omega)]; omega
    rw [slices_Concat_File_L3_eq]
    simp (disch := omega) only [Tslices_Concat_File_L3, condF_True, condF_t, condF_f, condF_T, condF_F, condF_not, bindF_some, sumF_inl, sumF_inr, Int.toNat_natCast, wrap_succ, wrap_pred, Option.bind_some, Option.bind_none, Sum.elim_inl, Sum.elim_inr, List.length_append, List.length_cons, List.length_nil, beq_str, less_str, le_str, Bool.not_not, h2, hw]
    rw [Concat_L3_sp l0 ts hb r (i + 1) (n + t.length) h3 (by omega) (by omega)]
    simp only [List.flatten_cons, List.length_append, Nat.add_assoc]
theorem Concat_L11_sp (l0 : Tree) (l2 l6 ts : List Tree) (i3 i7 i8 : Int) (hb : ts.length < 4611686018427387903) : ∀ (r : List Tree) (i n : Nat) (row : Tree), ts.drop i = r → i ≤ ts.length → n + r.flatten.length ≤ row.length →
    ∃ row' : Tree, slices_Concat_File_L11 (l0, row, l2, i3, 0, n, l6, i7, i8, ts, (ts.length : Int), (i : Int), ()) = some (l0, row', l2, i3, 0, n + r.flatten.length, l6, i7, i8, ts, (ts.length : Int), (ts.length : Int), ()) ∧ row'.length = row.length ∧ row'.take (n + r.flatten.length) = row.take n ++ r.flatten
  | [], i, n, row, h, hi, _ => by
    have := drop_nil h hi
    subst this
    rw [slices_Concat_File_L11_eq]
    simp (disch := omega) only [Tslices_Concat_File_L11, condF_True, condF_t, condF_f, condF_T, condF_F, condF_not, bindF_some, sumF_inl, sumF_inr, Int.toNat_natCast, wrap_succ, wrap_pred, Option.bind_some, Option.bind_none, Sum.elim_inl, Sum.elim_inr, List.length_append, List.length_cons, List.length_nil, beq_str, less_str, le_str, Bool.not_not, List.flatten_nil, Nat.add_zero, List.append_nil]
    exact ⟨row, rfl, rfl, rfl⟩
  | t :: r, i, n, row, h, hi, hn => by
    obtain ⟨h1, h2, h3, h4⟩ := drop_cons h
    simp only [List.flatten_cons, List.length_append] at hn
    have ho := overT_len row n t (by omega)
    rw [slices_Concat_File_L11_eq]
    simp (disch := omega) only [Tslices_Concat_File_L11, condF_True, condF_t, condF_f, condF_T, condF_F, condF_not, bindF_some, sumF_inl, sumF_inr, Int.toNat_natCast, wrap_succ, wrap_pred, Option.bind_some, Option.bind_none, Sum.elim_inl, Sum.elim_inr, List.length_append, List.length_cons, List.length_nil, beq_str, less_str, le_str, Bool.not_not, h2, ho]
    obtain ⟨row', e, e1, e2⟩ := Concat_L11_sp l0 l2 l6 ts i3 i7 i8 hb r (i + 1) (n + t.length) (overT row n t) h3 (by omega) (by omega)
    refine ⟨row', ?_, by rw [e1, ho], ?_⟩
    · rw [e]; simp only [List.flatten_cons, List.length_append, Nat.add_assoc]
    · have e3 : (overT row n t).take (n + t.length) = row.take n ++ t := by
        have : (row.take n ++ t).length = n + t.length := by rw [List.length_append, List.length_take]; omega
        rw [overT, ← this]; exact List.take_left
      rw [e3] at e2
      simp only [List.flatten_cons, List.length_append]
      rw [← Nat.add_assoc, e2, List.append_assoc]
theorem Concat_L11b_sp (l0 : Tree) (l2 l4 ts : List Tree) (i3 i5 i6 : Int) (hb : ts.length < 4611686018427387903) : ∀ (r : List Tree) (i : Nat), ts.drop i = r → i ≤ ts.length → r.flatten = [] →
    slices_Concat_File_L11b (l0, [], l2, i3, l4, i5, i6, ts, (ts.length : Int), (i : Int), ()) = some (l0, [], l2, i3, l4, i5, i6, ts, (ts.length : Int), (ts.length : Int), ())
  | [], i, h, hi, _ => by
    have := drop_nil h hi
    subst this
    rw [slices_Concat_File_L11b_eq]
    simp (disch := omega) only [Tslices_Concat_File_L11b, condF_True, condF_t, condF_f, condF_T, condF_F, condF_not, bindF_some, sumF_inl, sumF_inr, Int.toNat_natCast, wrap_succ, wrap_pred, Option.bind_some, Option.bind_none, Sum.elim_inl, Sum.elim_inr, List.length_append, List.length_cons, List.length_nil, beq_str, less_str, le_str, Bool.not_not]
  | t :: r, i, h, hi, hn => by
    obtain ⟨h1, h2, h3, h4⟩ := drop_cons h
    have hM := maxEls_eq
    simp only [List.flatten_cons, List.append_eq_nil_iff] at hn
    obtain ⟨rfl, hn⟩ := hn
    rw [slices_Concat_File_L11b_eq]
    simp (disch := omega) only [Tslices_Concat_File_L11b, condF_True, condF_t, condF_f, condF_T, condF_F, condF_not, bindF_some, sumF_inl, sumF_inr, Int.toNat_natCast, wrap_succ, wrap_pred, Option.bind_some, Option.bind_none, Sum.elim_inl, Sum.elim_inr, List.length_append, List.length_cons, List.length_nil, beq_str, less_str, le_str, Bool.not_not, h2, List.append_nil]
    exact Concat_L11b_sp l0 l2 l4 ts i3 i5 i6 hb r (i + 1) h3 (by omega) hn
theorem Concat_sp (ts : List Tree) (hb : ts.length < 1000000000) (hn : ts.flatten.length ≤ 1000000000000) : slices_Concat_File (ts, ()) = some (ts.flatten, ()) := by
  have hM := maxEls_eq
  have e := Concat_L3_sp ts ts (by omega) ts 0 0 rfl (by omega) (by omega)
  simp only [Int.natCast_zero, Nat.zero_add] at e
  rw [slices_Concat_File_eq]
  have hw0 : IntKind.wrap .i64 ((0 : Int) - ((0 : Nat) : Int)) = 0 := by rw [wrap_id (by omega) (by omega)]; rfl
  have hw0' : IntKind.wrap .i64 ((0 : Int) - 0) = 0 := by rw [wrap_id (by omega) (by omega)]; rfl
  have hw : IntKind.wrap .i64 (((ts.flatten.length : Nat) : Int) - 0) = ((ts.flatten.length : Nat) : Int) := by rw [wrap_id (by omega) (by omega)]; omega
  by_cases h0 : ts.flatten.length = 0
  · have hf : ts.flatten = [] := List.eq_nil_of_length_eq_zero h0
    have e2 := Concat_L11b_sp [] ts ts ts ((ts.flatten.length : Nat) : Int) ((ts.length : Nat) : Int) ((ts.length : Nat) : Int) (by omega) ts 0 rfl (by omega) hf
    simp only [Int.natCast_zero] at e2
    simp (disch := omega) only [Tslices_Concat_File, e, condF_True, condF_t, condF_f, condF_T, condF_F, condF_not, bindF_some, sumF_inl, sumF_inr, Int.toNat_natCast, wrap_succ, wrap_pred, Option.bind_some, Option.bind_none, Sum.elim_inl, Sum.elim_inr, List.length_append, List.length_cons, List.length_nil, beq_str, less_str, le_str, Bool.not_not, hw0, hw, e2]
    rw [hf]
  · obtain ⟨row', e2, e3, e4⟩ := Concat_L11_sp [] ts ts ts ((ts.flatten.length : Nat) : Int) ((ts.length : Nat) : Int) ((ts.length : Nat) : Int) (by omega) ts 0 0 (List.replicate ts.flatten.length (ByteArray.empty, [], ())) rfl (by omega) (by simp)
    simp only [Int.natCast_zero, Nat.zero_add, List.take_zero, List.nil_append] at e2 e4
    simp only [List.length_replicate] at e3
    simp (disch := omega) only [Tslices_Concat_File, e, condF_True, condF_t, condF_f, condF_T, condF_F, condF_not, bindF_some, sumF_inl, sumF_inr, Int.toNat_natCast, wrap_succ, wrap_pred, Option.bind_some, Option.bind_none, Sum.elim_inl, Sum.elim_inr, List.length_append, List.length_cons, List.length_nil, beq_str, less_str, le_str, Bool.not_not, hw0, hw0', hw, List.length_replicate, Nat.sub_zero, Int.natCast_zero, Int.toNat_zero, Nat.add_zero, e2, List.drop_zero, e4]

/-! ### each name once -/
def memS (x : Str) (l : List Str) : Bool := l.any fun y => decide (y = x)
theorem memS_iff (x : Str) (l : List Str) : memS x l = true ↔ x ∈ l := by simp [memS]
def uniq : List Str → List Str → List Str
  | seen, [] => seen
  | seen, x :: xs => bif memS x seen then uniq seen xs else uniq (seen ++ [x]) xs
theorem eqK_str (a b : Str) : eqK .str a b = decide (b = a) := by
  show (ByteArray.toList a == ByteArray.toList b) = _
  rw [beq_str, decide_eq_decide]
  exact eq_comm
theorem posK_nil (s : Str) : posK .str .bool s [] = none := rfl
theorem posK_cons (s : Str) (p : Str × Bool) (m : List (Str × Bool)) : posK .str .bool s (p :: m) = if p.1 = s then some 0 else (posK .str .bool s m).map (· + 1) := by
  unfold posK
  rw [List.findIdx?_cons, eqK_str]
  by_cases h : p.1 = s <;> simp [h]
theorem getK_cons (s : Str) (p : Str × Bool) (m : List (Str × Bool)) : getK .str .bool s false (p :: m) = if p.1 = s then p.2 else getK .str .bool s false m := by
  unfold getK
  rw [posK_cons]
  by_cases h : p.1 = s
  · simp [h]
  · simp only [h, if_false]
    cases posK .str .bool s m <;> simp
theorem putK_cons (k : Str) (p : Str × Bool) (m : List (Str × Bool)) : putK .str .bool k true (p :: m) = if p.1 = k then (k, true) :: m else p :: putK .str .bool k true m := by
  unfold putK
  rw [posK_cons]
  by_cases h : p.1 = k
  · simp [h]
  · simp only [h, if_false]
    cases posK .str .bool k m <;> simp
theorem get_put (s k : Str) : ∀ (m : List (Str × Bool)), getK .str .bool s false (putK .str .bool k true m) = if k = s then true else getK .str .bool s false m
  | [] => by
    have : putK .str .bool k true [] = [(k, true)] := rfl
    rw [this, getK_cons]
  | p :: m => by
    rw [putK_cons, getK_cons]
    by_cases h : p.1 = k
    · subst h
      simp only [if_true]
      rw [getK_cons]
      by_cases hs : p.1 = s <;> simp [hs]
    · simp only [h, if_false]
      rw [getK_cons, get_put s k m]
      by_cases hs : p.1 = s
      · have : ¬ k = s := fun e => h (hs.trans e.symm)
        simp [hs, this]
      · simp [hs]
theorem tree_Names_L4_sp (t : Tree) (hb : t.length ≤ 10000000000) : ∀ (r : Tree) (i : Nat) (o : List Str) (m : List (Str × Bool)), t.drop i = r → i ≤ t.length → o.length ≤ i → m.length ≤ i → (∀ s, getK .str .bool s false m = memS s o) →
    ∃ m', tree_Names_L4 (o, m, t, (t.length : Int), (i : Int), ()) = some (uniq o (r.map (·.1)), m', t, (t.length : Int), (t.length : Int), ())
  | [], i, o, m, h, hi, ho, hm, hs => by
    have := drop_nil h hi
    subst this
    rw [tree_Names_L4_eq]
    simp (disch := omega) only [Ttree_Names_L4, condF_True, condF_t, condF_f, condF_T, condF_F, condF_not, bindF_some, sumF_inl, sumF_inr, Int.toNat_natCast, wrap_succ, wrap_pred, Option.bind_some, Option.bind_none, Sum.elim_inl, Sum.elim_inr, List.length_append, List.length_cons, List.length_nil, beq_str, less_str, le_str, Bool.not_not]
    exact ⟨m, rfl⟩
  | f :: r, i, o, m, h, hi, ho, hm, hs => by
    obtain ⟨h1, h2, h3, h4⟩ := drop_cons h
    have hM := maxEls_eq
    rw [tree_Names_L4_eq]
    cases hf : memS f.1 o with
    | true =>
      simp (disch := omega) only [Ttree_Names_L4, condF_True, condF_t, condF_f, condF_T, condF_F, condF_not, bindF_some, sumF_inl, sumF_inr, Int.toNat_natCast, wrap_succ, wrap_pred, Option.bind_some, Option.bind_none, Sum.elim_inl, Sum.elim_inr, List.length_append, List.length_cons, List.length_nil, beq_str, less_str, le_str, Bool.not_not, h2, hs, hf, decide_true, Bool.not_true]
      obtain ⟨m', e⟩ := tree_Names_L4_sp t hb r (i + 1) o m h3 (by omega) (by omega) (by omega) hs
      refine ⟨m', ?_⟩
      rw [e]
      simp only [List.map_cons, uniq, hf, cond_true]
    | false =>
      simp (disch := omega) only [Ttree_Names_L4, condF_True, condF_t, condF_f, condF_T, condF_F, condF_not, bindF_some, sumF_inl, sumF_inr, Int.toNat_natCast, wrap_succ, wrap_pred, Option.bind_some, Option.bind_none, Sum.elim_inl, Sum.elim_inr, List.length_append, List.length_cons, List.length_nil, beq_str, less_str, le_str, Bool.not_not, h2, hs, hf, decide_false, Bool.not_false]
      obtain ⟨m', e⟩ := tree_Names_L4_sp t hb r (i + 1) (o ++ [f.1]) (putK .str .bool f.1 true m) h3 (by omega) (by simp; omega) (by
        unfold putK; split
        · simp; omega
        · simp; omega) (fun s => by
        rw [get_put, hs]
        by_cases hsf : f.1 = s
        · subst hsf; simp [memS]
        · simp [memS, hsf])
      refine ⟨m', ?_⟩
      rw [e]
      simp only [List.map_cons, uniq, hf, cond_false]
theorem uniq_len : ∀ (xs o : List Str), (uniq o xs).length ≤ o.length + xs.length
  | [], o => by simp [uniq]
  | x :: xs, o => by
    simp only [uniq]
    cases memS x o with
    | true => have := uniq_len xs o; simp; omega
    | false => have := uniq_len xs (o ++ [x]); simp at this ⊢; omega
theorem tree_Names_sp (a b : Tree) (ha : a.length ≤ 1000000000) (hb : b.length ≤ 1000000000) : tree_Names (a, b, ()) = some (sortS (uniq [] ((a ++ b).map (·.1))), ()) := by
  have hM := maxEls_eq
  have hl : (a ++ b).length ≤ 10000000000 := by rw [List.length_append]; omega
  obtain ⟨m', e⟩ := tree_Names_L4_sp (a ++ b) hl (a ++ b) 0 [] [] rfl (by omega) (by simp) (by simp) (fun s => rfl)
  simp only [Int.natCast_zero] at e
  have hc : slices_Concat_File ([a, b], ()) = some (a ++ b, ()) := by
    have := Concat_sp [a, b] (by simp) (by simp; omega)
    simpa using this
  have hu := uniq_len ((a ++ b).map (·.1)) []
  simp only [List.length_map, List.length_nil, Nat.zero_add] at hu
  rw [tree_Names_eq]
  simp (disch := omega) only [Ttree_Names, hc, bindF_some, e, condF_True, condF_t, List.length_nil, sortS_len]
end Go.Proofs.Yticpcfchhcjjeaa.LI
namespace Go.Proofs.Yticpcfchhcjjeaa.LI
open Go
set_option linter.unusedSimpArgs false

/-! ### the document's names -/
def fa (x : Str) (l : List Str) (d : Nat) : Nat := if (l.findIdx fun y => decide (ltS x y)) < l.length then (l.findIdx fun y => decide (ltS x y)) else d
theorem fa_snoc (x : Str) (l : List Str) (o : Str) (d : Nat) : fa x (l ++ [o]) d = fa x l (if ltS x o then l.length else d) := by
  unfold fa
  rw [List.findIdx_append]
  by_cases h : (l.findIdx fun y => decide (ltS x y)) < l.length
  · simp only [h, if_true, List.length_append, List.length_cons, List.length_nil]
    rw [if_pos (by omega)]
  · simp only [h, if_false, List.length_append, List.length_cons, List.length_nil, List.findIdx_cons, List.findIdx_nil]
    by_cases k : ltS x o
    · simp [k]
    · simp only [k, decide_false, cond_false, if_false]
      rw [if_neg (by omega)]
theorem take_snoc {l : List Str} {k : Nat} (h : k < l.length) : l.take (k + 1) = l.take k ++ [l.getD k ByteArray.empty] := by
  rw [List.take_add_one, List.getD_eq_getElem?_getD, List.getElem?_eq_getElem h]; rfl
theorem memS_snoc (x : Str) (l : List Str) (o : Str) : memS x (l ++ [o]) = (memS x l || decide (o = x)) := by simp [memS]
theorem ref07_Names_L9b_sp (all : Tree) (out : List Str) (i : Nat) (f : File) (hi : i < all.length) (hf : ∀ d, all.getD i d = f) (hb : out.length ≤ 10000000000) : ∀ (k d : Nat) (tw : Bool), k ≤ out.length →
    ref07_Names_L9b (all, out, (i : Int), (d : Int), tw, (k : Int) - 1, ()) = some (all, out, (i : Int), ((fa f.1 (out.take k) d : Nat) : Int), tw || memS f.1 (out.take k), -1, ())
  | 0, d, tw, hk => by
    rw [ref07_Names_L9b_eq]
    simp (disch := omega) only [Tref07_Names_L9b, condF_True, condF_t, condF_f, condF_T, condF_F, condF_not, bindF_some, sumF_inl, sumF_inr, Int.toNat_natCast, wrap_succ, wrap_pred, Option.bind_some, Option.bind_none, Sum.elim_inl, Sum.elim_inr, List.length_append, List.length_cons, List.length_nil, beq_str, less_str, le_str, Bool.not_not, List.take_zero]
    simp [fa, memS]
  | k + 1, d, tw, hk => by
    have e0 : (((k + 1 : Nat) : Int) - 1) = (k : Int) := by omega
    have hw : IntKind.wrap .i64 ((k : Int) - 1) = (k : Int) - 1 := wrap_id (by omega) (by omega)
    rw [ref07_Names_L9b_eq, e0, take_snoc (by omega), fa_snoc, memS_snoc, List.length_take, Nat.min_eq_left (by omega)]
    have ho : ∀ d, out.getD k d = out.getD k ByteArray.empty := fun d => by
      rw [List.getD_eq_getElem?_getD, List.getD_eq_getElem?_getD, List.getElem?_eq_getElem (by omega)]; rfl
    generalize out.getD k ByteArray.empty = o at *
    by_cases h1 : ltS f.1 o
    · cases tw with
      | true =>
        simp (disch := omega) only [Tref07_Names_L9b, condF_True, condF_t, condF_f, condF_T, condF_F, condF_not, bindF_some, Int.toNat_natCast, Option.bind_some, Sum.elim_inl, beq_str, less_str, le_str, Bool.not_not, hw, ho, hf, h1, decide_true, if_true]
        rw [ref07_Names_L9b_sp all out i f hi hf hb k k true (by omega)]
        simp
      | false =>
        simp (disch := omega) only [Tref07_Names_L9b, condF_True, condF_t, condF_f, condF_T, condF_F, condF_not, bindF_some, Int.toNat_natCast, Option.bind_some, Sum.elim_inl, beq_str, less_str, le_str, Bool.not_not, hw, ho, hf, h1, decide_true, if_true]
        rw [ref07_Names_L9b_sp all out i f hi hf hb k k _ (by omega)]
        simp [Bool.or_comm]
    · cases tw with
      | true =>
        simp (disch := omega) only [Tref07_Names_L9b, condF_True, condF_t, condF_f, condF_T, condF_F, condF_not, bindF_some, Int.toNat_natCast, Option.bind_some, Sum.elim_inl, beq_str, less_str, le_str, Bool.not_not, hw, ho, hf, h1, decide_false, if_false]
        rw [ref07_Names_L9b_sp all out i f hi hf hb k d true (by omega)]
        simp
      | false =>
        simp (disch := omega) only [Tref07_Names_L9b, condF_True, condF_t, condF_f, condF_T, condF_F, condF_not, bindF_some, Int.toNat_natCast, Option.bind_some, Sum.elim_inl, beq_str, less_str, le_str, Bool.not_not, hw, ho, hf, h1, decide_false, if_false]
        rw [ref07_Names_L9b_sp all out i f hi hf hb k d _ (by omega)]
        simp [Bool.or_comm]
/-- One name more, at its place. -/
def insN (l : List Str) (x : Str) : List Str := bif memS x l then l else l.take (l.findIdx fun y => decide (ltS x y)) ++ x :: l.drop (l.findIdx fun y => decide (ltS x y))
theorem fa_all (x : Str) (l : List Str) : fa x l l.length = l.findIdx fun y => decide (ltS x y) := by
  unfold fa
  have := List.findIdx_le_length (xs := l) (p := fun y => decide (ltS x y))
  split <;> omega
theorem insN_len (l : List Str) (x : Str) : (insN l x).length ≤ l.length + 1 := by
  unfold insN
  cases memS x l with
  | true => simp
  | false => simp; omega
theorem ref07_Names_L4b_sp (all : Tree) (hb : all.length ≤ 10000000000) : ∀ (r : Tree) (i : Nat) (out : List Str) (a c : Int) (b : Bool), all.drop i = r → i ≤ all.length → out.length ≤ i →
    ∃ y, ref07_Names_L4b (all, out, (i : Int), a, b, c, ()) = some y ∧ y.2.1 = (r.map (·.1)).foldl insN out
  | [], i, out, a, c, b, h, hi, ho => by
    have := drop_nil h hi
    subst this
    rw [ref07_Names_L4b_eq]
    simp (disch := omega) only [Tref07_Names_L4b, condF_True, condF_t, condF_f, condF_T, condF_F, condF_not, bindF_some, sumF_inl, sumF_inr, Int.toNat_natCast, wrap_succ, wrap_pred, Option.bind_some, Option.bind_none, Sum.elim_inl, Sum.elim_inr, List.length_append, List.length_cons, List.length_nil, beq_str, less_str, le_str, Bool.not_not]
    exact ⟨_, rfl, rfl⟩
  | f :: r, i, out, a, c, b, h, hi, ho => by
    obtain ⟨h1, h2, h3, h4⟩ := drop_cons h
    have hM := maxEls_eq
    have hw : IntKind.wrap .i64 ((out.length : Int) - 1) = (out.length : Int) - 1 := wrap_id (by omega) (by omega)
    have e9 := ref07_Names_L9b_sp all out i f h1 h2 (by omega) out.length out.length false (Nat.le_refl _)
    rw [List.take_length, fa_all, Bool.false_or] at e9
    have hfi := List.findIdx_le_length (xs := out) (p := fun y => decide (ltS f.1 y))
    have hle := insN_len out f.1
    have ih := fun a c b => ref07_Names_L4b_sp all hb r (i + 1) (insN out f.1) a c b h3 (by omega) (by omega)
    rw [ref07_Names_L4b_eq]
    cases hm : memS f.1 out with
    | true =>
      rw [hm] at e9
      simp (disch := omega) only [Tref07_Names_L4b, condF_True, condF_t, condF_f, condF_T, condF_F, condF_not, bindF_some, Int.toNat_natCast, Option.bind_some, Sum.elim_inl, wrap_succ, hw, e9]
      have : insN out f.1 = out := by simp [insN, hm]
      obtain ⟨y, e, p⟩ := ih ((out.findIdx fun y => decide (ltS f.1 y) : Nat) : Int) (-1) true
      refine ⟨y, by rw [this] at e; exact e, ?_⟩
      rw [p]; rfl
    | false =>
      rw [hm] at e9
      simp (disch := omega) only [Tref07_Names_L4b, condF_True, condF_t, condF_f, condF_T, condF_F, condF_not, bindF_some, Int.toNat_natCast, Option.bind_some, Sum.elim_inl, wrap_succ, hw, e9, List.length_append, List.length_take, List.length_drop, List.length_cons, List.length_nil, Nat.sub_zero, List.drop_zero, h2]
      have e2 : insN out f.1 = out.take (out.findIdx fun y => decide (ltS f.1 y)) ++ [f.1] ++ (out.drop (out.findIdx fun y => decide (ltS f.1 y))).take (out.length - (out.findIdx fun y => decide (ltS f.1 y))) := by
        rw [List.take_of_length_le (l := out.drop _) (by rw [List.length_drop]; omega)]
        simp [insN, hm]
      obtain ⟨y, e, p⟩ := ih ((out.findIdx fun y => decide (ltS f.1 y) : Nat) : Int) (-1) false
      refine ⟨y, by rw [e2] at e; exact e, ?_⟩
      rw [p]; rfl
theorem ref07_Names_sp (a b : Tree) (ha : a.length ≤ 1000000000) (hb : b.length ≤ 1000000000) : ref07_Names (a, b, ()) = some (((a ++ b).map (·.1)).foldl insN [], ()) := by
  have hM := maxEls_eq
  have hl : (a ++ b).length ≤ 10000000000 := by rw [List.length_append]; omega
  rw [ref07_Names_eq]
  have e4 : ∃ y, ref07_Names_L4 (a ++ b, [], ()) = some y ∧ (match y with
      | .inl z => ∃ f r, a ++ b = f :: r ∧ z.1 = a ++ b ∧ z.2.1 = [f.1]
      | .inr z => a ++ b = [] ∧ z.2.1 = []) := by
    rw [ref07_Names_L4_eq]
    cases hab : a ++ b with
    | nil =>
      simp (disch := omega) only [Tref07_Names_L4, condF_True, condF_t, condF_f, condF_T, condF_F, condF_not, bindF_some, sumF_inl, sumF_inr, Int.toNat_natCast, wrap_succ, wrap_pred, Option.bind_some, Option.bind_none, Sum.elim_inl, Sum.elim_inr, List.length_append, List.length_cons, List.length_nil, beq_str, less_str, le_str, Bool.not_not]
      exact ⟨_, rfl, trivial, rfl⟩
    | cons f r =>
      have e9 : ref07_Names_L9 (f :: r, [], 0, false, -1, ()) = some (f :: r, [], 0, false, -1, ()) := by
        rw [ref07_Names_L9_eq]
        simp (disch := omega) only [Tref07_Names_L9, condF_True, condF_t, condF_f, condF_T, condF_F, condF_not, bindF_some, sumF_inl, sumF_inr, Int.toNat_natCast, wrap_succ, wrap_pred, Option.bind_some, Option.bind_none, Sum.elim_inl, Sum.elim_inr, List.length_append, List.length_cons, List.length_nil, beq_str, less_str, le_str, Bool.not_not]
      have hw : IntKind.wrap .i64 ((0 : Int) - 1) = -1 := by rw [wrap_id (by omega) (by omega)]; rfl
      simp (disch := first | omega | (simp only [List.length_cons]; omega)) only [Tref07_Names_L4, condF_True, condF_t, condF_f, condF_T, condF_F, condF_not, bindF_some, Int.toNat_natCast, Int.natCast_zero, Option.bind_some, Sum.elim_inr, hw, e9, List.length_append, List.length_take, List.length_drop, List.length_cons, List.length_nil, Int.toNat_zero, List.take_nil, List.drop_nil, List.getD_cons_zero, List.nil_append, List.append_nil, Nat.sub_zero, Nat.min_zero, Nat.zero_min]
      exact ⟨_, rfl, f, r, rfl, rfl, rfl⟩
  obtain ⟨y, e, p⟩ := e4
  cases y with
  | inl z =>
    obtain ⟨f, r, p1, p2, p3⟩ := p
    obtain ⟨y2, e2, p4⟩ := ref07_Names_L4b_sp (a ++ b) hl r 1 [f.1] z.2.2.1 z.2.2.2.2.1 z.2.2.2.1 (by rw [p1]; rfl) (by rw [p1]; simp) (by simp)
    simp only [Int.natCast_one] at e2
    simp (disch := first | omega | (simp only [List.length_append]; omega)) only [Tref07_Names, condF_True, condF_t, bindF_some, e, sumF_inl, p2, p3, e2, p4]
    rw [p1]; rfl
  | inr z =>
    obtain ⟨p1, p2⟩ := p
    simp (disch := first | omega | (simp only [List.length_append]; omega)) only [Tref07_Names, condF_True, condF_t, bindF_some, e, sumF_inr, p2]
    rw [p1]; rfl
end Go.Proofs.Yticpcfchhcjjeaa.LI
namespace Go.Proofs.Yticpcfchhcjjeaa.LI
open Go
set_option linter.unusedSimpArgs false

/-! ### the document's names and lines -/
theorem ref01_Name_L2_sp (s : Str) (hb : s.size < 4611686018427387903) : ∀ (r : List UInt8) (i : Nat), s.data.toList.drop i = r → i ≤ s.size →
    ∃ y, ref01_Name_L2 (s, (i : Int), ()) = some y ∧ (match y with
      | .inl _ => r.all signP = false
      | .inr z => r.all signP = true ∧ z.1 = s)
  | [], i, h, hi => by
    have := drop_nil h (by rw [size_data]; exact hi)
    rw [size_data] at this
    subst this
    rw [ref01_Name_L2_eq]
    simp (disch := omega) only [Tref01_Name_L2, condF_True, condF_t, condF_f, condF_T, condF_F, condF_not, bindF_some, sumF_inl, sumF_inr, Int.toNat_natCast, wrap_succ, wrap_pred, Option.bind_some, Option.bind_none, Sum.elim_inl, Sum.elim_inr, List.length_append, List.length_cons, List.length_nil, beq_str, less_str, le_str, Bool.not_not]
    exact ⟨_, rfl, rfl, rfl⟩
  | c :: r, i, h, hi => by
    obtain ⟨h1, h2, h3, h4⟩ := drop_cons h
    rw [size_data] at h1
    have e : (((UInt8.toNat c : Nat) : Int) != 46) = !decide (c.toNat = 46) := by
      rw [Bool.eq_iff_iff]; simp; omega
    obtain ⟨y, ey, p⟩ := ref01_Name_L2_sp s hb r (i + 1) h3 (by omega)
    have hstep : ref01_Name_L2 (s, (i : Int), ()) = if signP c = true then ref01_Name_L2 (s, ((i + 1 : Nat) : Int), ()) else some (.inl (s, (i : Int), ())) := by
      rw [ref01_Name_L2_eq]
      by_cases h46 : c.toNat = 46
      · have hd46 := decide_eq_true h46
        by_cases g1 : 97 ≤ c.toNat <;> by_cases g2 : c.toNat ≤ 122 <;> by_cases g3 : 48 ≤ c.toNat <;> by_cases g4 : c.toNat ≤ 57 <;>
        first
        | (exfalso; omega)
        | simp (disch := omega) only [Tref01_Name_L2, condF_True, condF_t, condF_f, condF_T, condF_F, condF_not, bindF_some, sumF_inl, sumF_inr, Int.toNat_natCast, wrap_succ, wrap_pred, Option.bind_some, Option.bind_none, Sum.elim_inl, Sum.elim_inr, List.length_append, List.length_cons, List.length_nil, beq_str, less_str, le_str, Bool.not_not, h2, e, signP, g1, g2, g3, g4, hd46, decide_true, decide_false, Bool.true_and, Bool.false_and, Bool.true_or, Bool.false_or, Bool.or_false, Bool.or_true, Bool.and_false, Bool.and_true, if_true, Bool.false_eq_true, if_false, Bool.not_true, Bool.not_false]
      · have hd46 := decide_eq_false h46
        by_cases g1 : 97 ≤ c.toNat <;> by_cases g2 : c.toNat ≤ 122 <;> by_cases g3 : 48 ≤ c.toNat <;> by_cases g4 : c.toNat ≤ 57 <;>
        first
        | (exfalso; omega)
        | simp (disch := omega) only [Tref01_Name_L2, condF_True, condF_t, condF_f, condF_T, condF_F, condF_not, bindF_some, sumF_inl, sumF_inr, Int.toNat_natCast, wrap_succ, wrap_pred, Option.bind_some, Option.bind_none, Sum.elim_inl, Sum.elim_inr, List.length_append, List.length_cons, List.length_nil, beq_str, less_str, le_str, Bool.not_not, h2, e, signP, g1, g2, g3, g4, hd46, decide_true, decide_false, Bool.true_and, Bool.false_and, Bool.true_or, Bool.false_or, Bool.or_false, Bool.or_true, Bool.and_false, Bool.and_true, if_true, Bool.false_eq_true, if_false, Bool.not_true, Bool.not_false]
    rw [hstep]
    cases hc : signP c with
    | true =>
      refine ⟨y, by simp only [if_true]; exact ey, ?_⟩
      cases y with
      | inl z => simpa [hc] using p
      | inr z => simpa [hc] using p
    | false => exact ⟨.inl (s, (i : Int), ()), by simp, by simp [hc]⟩
theorem ref01_Name_sp (s : Str) (hb : s.size < 4611686018427387903) : ref01_Name (s, ()) = some (nameP s, ()) := by
  rw [ref01_Name_eq]
  obtain ⟨y, e, p⟩ := ref01_Name_L2_sp s hb s.data.toList 0 rfl (by omega)
  simp only [Int.natCast_zero] at e
  cases y with
  | inl z =>
    simp only at p
    simp only [Tref01_Name, e, condF_True, condF_t, condF_f, condF_T, condF_F, condF_not, bindF_some, sumF_inl, sumF_inr, Int.toNat_natCast, wrap_succ, wrap_pred, Option.bind_some, Option.bind_none, Sum.elim_inl, Sum.elim_inr, List.length_append, List.length_cons, List.length_nil, beq_str, less_str, le_str, Bool.not_not, nameP, p, Bool.and_false]
  | inr z =>
    obtain ⟨p, rfl⟩ := p
    have hd : decide (((z.1.size : Nat) : Int) ≤ 16) = decide (z.1.size ≤ 16) := by
      rw [decide_eq_decide]; omega
    by_cases h1 : 1 ≤ z.1.size
    · simp (disch := omega) only [Tref01_Name, e, condF_True, condF_t, condF_f, condF_T, condF_F, condF_not, bindF_some, sumF_inl, sumF_inr, Int.toNat_natCast, wrap_succ, wrap_pred, Option.bind_some, Option.bind_none, Sum.elim_inl, Sum.elim_inr, List.length_append, List.length_cons, List.length_nil, beq_str, less_str, le_str, Bool.not_not, nameP, h1, decide_true, p, Bool.true_and, Bool.and_true, hd]
    · simp (disch := omega) only [Tref01_Name, e, condF_True, condF_t, condF_f, condF_T, condF_F, condF_not, bindF_some, sumF_inl, sumF_inr, Int.toNat_natCast, wrap_succ, wrap_pred, Option.bind_some, Option.bind_none, Sum.elim_inl, Sum.elim_inr, List.length_append, List.length_cons, List.length_nil, beq_str, less_str, le_str, Bool.not_not, nameP, h1, decide_false, Bool.false_and]
theorem ref01_May_L2_sp (s : Str) (hb : s.size < 4611686018427387903) : ∀ (r : List UInt8) (i : Nat), s.data.toList.drop i = r → i ≤ s.size →
    ∃ y, ref01_May_L2 (s, (i : Int), ()) = some y ∧ (match y with
      | .inl _ => (r.all fun c => decide (c ≠ 10)) = false
      | .inr z => (r.all fun c => decide (c ≠ 10)) = true ∧ z.1 = s)
  | [], i, h, hi => by
    have := drop_nil h (by rw [size_data]; exact hi)
    rw [size_data] at this
    subst this
    rw [ref01_May_L2_eq]
    simp (disch := omega) only [Tref01_May_L2, condF_True, condF_t, condF_f, condF_T, condF_F, condF_not, bindF_some, sumF_inl, sumF_inr, Int.toNat_natCast, wrap_succ, wrap_pred, Option.bind_some, Option.bind_none, Sum.elim_inl, Sum.elim_inr, List.length_append, List.length_cons, List.length_nil, beq_str, less_str, le_str, Bool.not_not]
    exact ⟨_, rfl, rfl, rfl⟩
  | c :: r, i, h, hi => by
    obtain ⟨h1, h2, h3, h4⟩ := drop_cons h
    rw [size_data] at h1
    have e : (((UInt8.toNat c : Nat) : Int) == 10) = decide (c = 10) := by
      rw [Bool.eq_iff_iff, beq_iff_eq, decide_eq_true_eq]
      constructor
      · intro h; apply UInt8.toNat_inj.1; show c.toNat = 10; omega
      · rintro rfl; rfl
    rw [ref01_May_L2_eq]
    by_cases hc : c = 10
    · simp (disch := omega) only [Tref01_May_L2, condF_True, condF_t, condF_f, condF_T, condF_F, condF_not, bindF_some, sumF_inl, sumF_inr, Int.toNat_natCast, wrap_succ, wrap_pred, Option.bind_some, Option.bind_none, Sum.elim_inl, Sum.elim_inr, List.length_append, List.length_cons, List.length_nil, beq_str, less_str, le_str, Bool.not_not, h2, e, hc, decide_true]
      exact ⟨_, rfl, by simp⟩
    · simp (disch := omega) only [Tref01_May_L2, condF_True, condF_t, condF_f, condF_T, condF_F, condF_not, bindF_some, sumF_inl, sumF_inr, Int.toNat_natCast, wrap_succ, wrap_pred, Option.bind_some, Option.bind_none, Sum.elim_inl, Sum.elim_inr, List.length_append, List.length_cons, List.length_nil, beq_str, less_str, le_str, Bool.not_not, h2, e, hc, decide_false]
      obtain ⟨y, e, p⟩ := ref01_May_L2_sp s hb r (i + 1) h3 (by omega)
      refine ⟨y, e, ?_⟩
      cases y with
      | inl z => simpa [hc] using p
      | inr z => simpa [hc] using p
theorem ref01_May_sp (s : Str) (hb : s.size < 4611686018427387903) : ref01_May (s, ()) = some (mayP s, ()) := by
  rw [ref01_May_eq]
  obtain ⟨y, e, p⟩ := ref01_May_L2_sp s hb s.data.toList 0 rfl (by omega)
  simp only [Int.natCast_zero] at e
  cases y with
  | inl z =>
    simp only at p
    simp only [Tref01_May, e, condF_True, condF_t, condF_f, condF_T, condF_F, condF_not, bindF_some, sumF_inl, sumF_inr, Int.toNat_natCast, wrap_succ, wrap_pred, Option.bind_some, Option.bind_none, Sum.elim_inl, Sum.elim_inr, List.length_append, List.length_cons, List.length_nil, beq_str, less_str, le_str, Bool.not_not, mayP, p, Bool.and_false]
  | inr z =>
    obtain ⟨p, rfl⟩ := p
    have hd : decide (((z.1.size : Nat) : Int) ≤ 80) = decide (z.1.size ≤ 80) := by
      rw [decide_eq_decide]; omega
    simp only [Tref01_May, e, condF_True, condF_t, condF_f, condF_T, condF_F, condF_not, bindF_some, sumF_inl, sumF_inr, Int.toNat_natCast, wrap_succ, wrap_pred, Option.bind_some, Option.bind_none, Sum.elim_inl, Sum.elim_inr, List.length_append, List.length_cons, List.length_nil, beq_str, less_str, le_str, Bool.not_not, mayP, p, Bool.and_true, hd]
def Slim (l : List Str) : Prop := ∀ s ∈ l, s.size < 4611686018427387903
theorem ref01_All_L2_sp (l : List Str) (hs : Slim l) (hb : l.length < 4611686018427387903) : ∀ (r : List Str) (i : Nat), l.drop i = r → i ≤ l.length →
    ∃ y, ref01_All_L2 (l, (i : Int), ()) = some y ∧ (match y with
      | .inl _ => r.all mayP = false
      | .inr z => r.all mayP = true ∧ z.1 = l)
  | [], i, h, hi => by
    have := drop_nil h hi
    subst this
    rw [ref01_All_L2_eq]
    simp (disch := omega) only [Tref01_All_L2, condF_True, condF_t, condF_f, condF_T, condF_F, condF_not, bindF_some, sumF_inl, sumF_inr, Int.toNat_natCast, wrap_succ, wrap_pred, Option.bind_some, Option.bind_none, Sum.elim_inl, Sum.elim_inr, List.length_append, List.length_cons, List.length_nil, beq_str, less_str, le_str, Bool.not_not]
    exact ⟨_, rfl, rfl, rfl⟩
  | c :: r, i, h, hi => by
    obtain ⟨h1, h2, h3, h4⟩ := drop_cons h
    have hc2 := hs c h4
    rw [ref01_All_L2_eq]
    cases hc : mayP c with
    | true =>
      simp (disch := first | omega | assumption) only [Tref01_All_L2, condF_True, condF_t, condF_f, condF_T, condF_F, condF_not, bindF_some, sumF_inl, sumF_inr, Int.toNat_natCast, wrap_succ, wrap_pred, Option.bind_some, Option.bind_none, Sum.elim_inl, Sum.elim_inr, List.length_append, List.length_cons, List.length_nil, beq_str, less_str, le_str, Bool.not_not, h2, ref01_May_sp, hc, Bool.not_true]
      obtain ⟨y, e, p⟩ := ref01_All_L2_sp l hs hb r (i + 1) h3 (by omega)
      refine ⟨y, e, ?_⟩
      cases y with
      | inl z => simpa [hc] using p
      | inr z => simpa [hc] using p
    | false =>
      simp (disch := first | omega | assumption) only [Tref01_All_L2, condF_True, condF_t, condF_f, condF_T, condF_F, condF_not, bindF_some, sumF_inl, sumF_inr, Int.toNat_natCast, wrap_succ, wrap_pred, Option.bind_some, Option.bind_none, Sum.elim_inl, Sum.elim_inr, List.length_append, List.length_cons, List.length_nil, beq_str, less_str, le_str, Bool.not_not, h2, ref01_May_sp, hc, Bool.not_false]
      exact ⟨_, rfl, by simp [hc]⟩
theorem ref01_All_sp (l : List Str) (hs : Slim l) (hb : l.length < 4611686018427387903) : ref01_All (l, ()) = some (allP l, ()) := by
  rw [ref01_All_eq]
  obtain ⟨y, e, p⟩ := ref01_All_L2_sp l hs hb l 0 rfl (by omega)
  simp only [Int.natCast_zero] at e
  cases y with
  | inl z =>
    simp only at p
    simp only [Tref01_All, e, condF_True, condF_t, condF_f, condF_T, condF_F, condF_not, bindF_some, sumF_inl, sumF_inr, Int.toNat_natCast, wrap_succ, wrap_pred, Option.bind_some, Option.bind_none, Sum.elim_inl, Sum.elim_inr, List.length_append, List.length_cons, List.length_nil, beq_str, less_str, le_str, Bool.not_not, allP, p, Bool.and_false]
  | inr z =>
    obtain ⟨p, rfl⟩ := p
    have hd : decide (((z.1.length : Nat) : Int) ≤ 200) = decide (z.1.length ≤ 200) := by
      rw [decide_eq_decide]; omega
    simp only [Tref01_All, e, condF_True, condF_t, condF_f, condF_T, condF_F, condF_not, bindF_some, sumF_inl, sumF_inr, Int.toNat_natCast, wrap_succ, wrap_pred, Option.bind_some, Option.bind_none, Sum.elim_inl, Sum.elim_inr, List.length_append, List.length_cons, List.length_nil, beq_str, less_str, le_str, Bool.not_not, allP, p, Bool.and_true, hd]

/-! ### whether a tree may be -/
def mayR : Option Str → Tree → Bool
  | _, [] => true
  | q, f :: r => nameP f.1 && (allP f.2.1 && ((match q with | some q => decide (ltS q f.1) | none => true) && mayR (some f.1) r))
def mayT (t : Tree) : Bool := mayR none t && decide (t.length ≤ 30)
def SlimT (t : Tree) : Prop := ∀ f ∈ t, f.1.size < 4611686018427387903 ∧ Slim f.2.1 ∧ f.2.1.length < 4611686018427387903
/-- What stands ahead. -/
def prev (t : Tree) (i : Nat) : Option Str := if i = 0 then none else some (t.getD (i - 1) (ByteArray.empty, [], ())).1
theorem prev_zero (t : Tree) : prev t 0 = none := rfl
theorem prev_succ (t : Tree) (i : Nat) {f : File} (h : ∀ d, t.getD i d = f) : prev t (i + 1) = some f.1 := by
  unfold prev; rw [if_neg (by omega), Nat.add_sub_cancel, h]
theorem le_str' (a b : ByteArray) : (decide (ltS a b) || decide (a = b)) = !decide (ltS b a) := le_str a b
theorem tree_May_L2_sp (t : Tree) (hs : SlimT t) (hb : t.length < 4611686018427387903) : ∀ (r : Tree) (i : Nat), t.drop i = r → i ≤ t.length →
    ∃ y, tree_May_L2 (t, t, (t.length : Int), (i : Int), ()) = some y ∧ (match y with
      | .inl _ => mayR (prev t i) r = false
      | .inr z => mayR (prev t i) r = true ∧ z.1 = t)
  | [], i, h, hi => by
    have := drop_nil h hi
    subst this
    rw [tree_May_L2_eq]
    simp (disch := omega) only [Ttree_May_L2, condF_True, condF_t, condF_f, condF_T, condF_F, condF_not, bindF_some, sumF_inl, sumF_inr, Int.toNat_natCast, wrap_succ, wrap_pred, Option.bind_some, Option.bind_none, Sum.elim_inl, Sum.elim_inr, List.length_append, List.length_cons, List.length_nil, beq_str, less_str, le_str, Bool.not_not]
    exact ⟨_, rfl, rfl, rfl⟩
  | f :: r, i, h, hi => by
    obtain ⟨h1, h2, h3, h4⟩ := drop_cons h
    obtain ⟨s1, s2, s3⟩ := hs f h4
    obtain ⟨y, e, p⟩ := tree_May_L2_sp t hs hb r (i + 1) h3 (by omega)
    rw [prev_succ t i h2] at p
    rw [tree_May_L2_eq]
    cases hn : nameP f.1 with
    | false =>
      simp (disch := first | omega | assumption) only [Ttree_May_L2, condF_True, condF_t, condF_f, condF_T, condF_F, condF_not, bindF_some, sumF_inl, sumF_inr, Int.toNat_natCast, wrap_succ, wrap_pred, Option.bind_some, Option.bind_none, Sum.elim_inl, Sum.elim_inr, List.length_append, List.length_cons, List.length_nil, beq_str, less_str, le_str, Bool.not_not, h2, text_Name_sp, hn, Bool.not_false]
      exact ⟨_, rfl, by simp [mayR, hn]⟩
    | true =>
      cases ha : allP f.2.1 with
      | false =>
        simp (disch := first | omega | assumption) only [Ttree_May_L2, condF_True, condF_t, condF_f, condF_T, condF_F, condF_not, bindF_some, sumF_inl, sumF_inr, Int.toNat_natCast, wrap_succ, wrap_pred, Option.bind_some, Option.bind_none, Sum.elim_inl, Sum.elim_inr, List.length_append, List.length_cons, List.length_nil, beq_str, less_str, le_str, Bool.not_not, h2, text_Name_sp, hn, Bool.not_true, text_All_sp, ha, Bool.not_false]
        exact ⟨_, rfl, by simp [mayR, hn, ha]⟩
      | true =>
        by_cases h0 : i = 0
        · subst h0
          have hb1 : 0 < t.length := h1
          have hw1 : IntKind.wrap .i64 ((0 : Int) + 1) = 1 := by rw [wrap_id (by omega) (by omega)]; rfl
          simp only [Int.natCast_zero] at *
          simp (disch := first | omega | assumption) only [Ttree_May_L2, condF_True, condF_t, condF_f, condF_T, condF_F, condF_not, bindF_some, sumF_inl, sumF_inr, Int.toNat_natCast, wrap_succ, wrap_pred, Option.bind_some, Option.bind_none, Sum.elim_inl, Sum.elim_inr, List.length_append, List.length_cons, List.length_nil, beq_str, less_str, le_str, Bool.not_not, h2, text_Name_sp, hn, Bool.not_true, text_All_sp, ha, Int.toNat_zero, hw1]
          refine ⟨y, by simpa using e, ?_⟩
          cases y with
          | inl z => simp only at p; simp [mayR, hn, ha, prev_zero, p]
          | inr z => simp only at p; simp [mayR, hn, ha, prev_zero, p]
        · have hp : prev t i = some (t.getD (i - 1) (ByteArray.empty, [], ())).1 := by unfold prev; rw [if_neg h0]
          rw [hp]
          generalize hq : (t.getD (i - 1) (ByteArray.empty, [], ())).1 = q
          by_cases hlt : ltS q f.1
          · simp (disch := first | omega | assumption) only [Ttree_May_L2, condF_True, condF_t, condF_f, condF_T, condF_F, condF_not, bindF_some, sumF_inl, sumF_inr, Int.toNat_natCast, wrap_succ, wrap_pred, Option.bind_some, Option.bind_none, Sum.elim_inl, Sum.elim_inr, List.length_append, List.length_cons, List.length_nil, beq_str, less_str, le_str, Bool.not_not, h2, text_Name_sp, hn, Bool.not_true, text_All_sp, ha, hq, hlt, decide_true]
            refine ⟨y, e, ?_⟩
            cases y with
            | inl z => simp only at p; simp [mayR, hn, ha, hlt, p]
            | inr z => simp only at p; simp [mayR, hn, ha, hlt, p]
          · simp (disch := first | omega | assumption) only [Ttree_May_L2, condF_True, condF_t, condF_f, condF_T, condF_F, condF_not, bindF_some, sumF_inl, sumF_inr, Int.toNat_natCast, wrap_succ, wrap_pred, Option.bind_some, Option.bind_none, Sum.elim_inl, Sum.elim_inr, List.length_append, List.length_cons, List.length_nil, beq_str, less_str, le_str, Bool.not_not, h2, text_Name_sp, hn, Bool.not_true, text_All_sp, ha, hq, hlt, decide_false, Bool.not_false]
            exact ⟨_, rfl, by simp [mayR, hn, ha, hlt]⟩
theorem tree_May_sp (t : Tree) (hs : SlimT t) (hb : t.length < 4611686018427387903) : tree_May (t, ()) = some (mayT t, ()) := by
  rw [tree_May_eq]
  obtain ⟨y, e, p⟩ := tree_May_L2_sp t hs hb t 0 rfl (by omega)
  simp only [Int.natCast_zero, prev_zero] at e p
  cases y with
  | inl z =>
    simp only at p
    simp only [Ttree_May, e, condF_True, condF_t, condF_f, condF_T, condF_F, condF_not, bindF_some, sumF_inl, sumF_inr, Int.toNat_natCast, wrap_succ, wrap_pred, Option.bind_some, Option.bind_none, Sum.elim_inl, Sum.elim_inr, List.length_append, List.length_cons, List.length_nil, beq_str, less_str, le_str, Bool.not_not, mayT, p, Bool.false_and]
  | inr z =>
    obtain ⟨p, rfl⟩ := p
    have hd : decide (((z.1.length : Nat) : Int) ≤ 30) = decide (z.1.length ≤ 30) := by
      rw [decide_eq_decide]; omega
    simp only [Ttree_May, e, condF_True, condF_t, condF_f, condF_T, condF_F, condF_not, bindF_some, sumF_inl, sumF_inr, Int.toNat_natCast, wrap_succ, wrap_pred, Option.bind_some, Option.bind_none, Sum.elim_inl, Sum.elim_inr, List.length_append, List.length_cons, List.length_nil, beq_str, less_str, le_str, Bool.not_not, mayT, p, Bool.true_and, hd]
theorem ref07_May_L2_sp (t : Tree) (hs : SlimT t) (hb : t.length < 4611686018427387903) : ∀ (r : Tree) (i : Nat), t.drop i = r → i ≤ t.length →
    ∃ y, ref07_May_L2 (t, (i : Int), ()) = some y ∧ (match y with
      | .inl _ => mayR (prev t i) r = false
      | .inr z => mayR (prev t i) r = true ∧ z.1 = t)
  | [], i, h, hi => by
    have := drop_nil h hi
    subst this
    rw [ref07_May_L2_eq]
    simp (disch := omega) only [Tref07_May_L2, condF_True, condF_t, condF_f, condF_T, condF_F, condF_not, bindF_some, sumF_inl, sumF_inr, Int.toNat_natCast, wrap_succ, wrap_pred, Option.bind_some, Option.bind_none, Sum.elim_inl, Sum.elim_inr, List.length_append, List.length_cons, List.length_nil, beq_str, less_str, le_str, Bool.not_not]
    exact ⟨_, rfl, rfl, rfl⟩
  | f :: r, i, h, hi => by
    obtain ⟨h1, h2, h3, h4⟩ := drop_cons h
    obtain ⟨s1, s2, s3⟩ := hs f h4
    obtain ⟨y, e, p⟩ := ref07_May_L2_sp t hs hb r (i + 1) h3 (by omega)
    rw [prev_succ t i h2] at p
    rw [ref07_May_L2_eq]
    cases hn : nameP f.1 with
    | false =>
      simp (disch := first | omega | assumption) only [Tref07_May_L2, condF_True, condF_t, condF_f, condF_T, condF_F, condF_not, bindF_some, sumF_inl, sumF_inr, Int.toNat_natCast, wrap_succ, wrap_pred, Option.bind_some, Option.bind_none, Sum.elim_inl, Sum.elim_inr, List.length_append, List.length_cons, List.length_nil, beq_str, less_str, le_str, Bool.not_not, h2, ref01_Name_sp, ref01_All_sp, hn, Bool.not_false]
      exact ⟨_, rfl, by simp [mayR, hn]⟩
    | true =>
      cases ha : allP f.2.1 with
      | false =>
        simp (disch := first | omega | assumption) only [Tref07_May_L2, condF_True, condF_t, condF_f, condF_T, condF_F, condF_not, bindF_some, sumF_inl, sumF_inr, Int.toNat_natCast, wrap_succ, wrap_pred, Option.bind_some, Option.bind_none, Sum.elim_inl, Sum.elim_inr, List.length_append, List.length_cons, List.length_nil, beq_str, less_str, le_str, Bool.not_not, h2, ref01_Name_sp, hn, Bool.not_true, ref01_All_sp, ha, Bool.not_false]
        exact ⟨_, rfl, by simp [mayR, hn, ha]⟩
      | true =>
        by_cases h0 : i = 0
        · subst h0
          have hb1 : 0 < t.length := h1
          have hw1 : IntKind.wrap .i64 ((0 : Int) + 1) = 1 := by rw [wrap_id (by omega) (by omega)]; rfl
          simp only [Int.natCast_zero] at *
          simp (disch := first | omega | assumption) only [Tref07_May_L2, condF_True, condF_t, condF_f, condF_T, condF_F, condF_not, bindF_some, sumF_inl, sumF_inr, Int.toNat_natCast, wrap_succ, wrap_pred, Option.bind_some, Option.bind_none, Sum.elim_inl, Sum.elim_inr, List.length_append, List.length_cons, List.length_nil, beq_str, less_str, le_str, Bool.not_not, h2, ref01_Name_sp, hn, Bool.not_true, ref01_All_sp, ha, Int.toNat_zero, hw1]
          refine ⟨y, by simpa using e, ?_⟩
          cases y with
          | inl z => simp only at p; simp [mayR, hn, ha, prev_zero, p]
          | inr z => simp only at p; simp [mayR, hn, ha, prev_zero, p]
        · have hp : prev t i = some (t.getD (i - 1) (ByteArray.empty, [], ())).1 := by unfold prev; rw [if_neg h0]
          rw [hp]
          generalize hq : (t.getD (i - 1) (ByteArray.empty, [], ())).1 = q
          by_cases hlt : ltS q f.1
          · simp (disch := first | omega | assumption) only [Tref07_May_L2, condF_True, condF_t, condF_f, condF_T, condF_F, condF_not, bindF_some, sumF_inl, sumF_inr, Int.toNat_natCast, wrap_succ, wrap_pred, Option.bind_some, Option.bind_none, Sum.elim_inl, Sum.elim_inr, List.length_append, List.length_cons, List.length_nil, beq_str, less_str, le_str, Bool.not_not, h2, ref01_Name_sp, hn, Bool.not_true, ref01_All_sp, ha, hq, hlt, decide_true]
            refine ⟨y, e, ?_⟩
            cases y with
            | inl z => simp only at p; simp [mayR, hn, ha, hlt, p]
            | inr z => simp only at p; simp [mayR, hn, ha, hlt, p]
          · simp (disch := first | omega | assumption) only [Tref07_May_L2, condF_True, condF_t, condF_f, condF_T, condF_F, condF_not, bindF_some, sumF_inl, sumF_inr, Int.toNat_natCast, wrap_succ, wrap_pred, Option.bind_some, Option.bind_none, Sum.elim_inl, Sum.elim_inr, List.length_append, List.length_cons, List.length_nil, beq_str, less_str, le_str, Bool.not_not, h2, ref01_Name_sp, hn, Bool.not_true, ref01_All_sp, ha, hq, hlt, decide_false, Bool.not_false]
            exact ⟨_, rfl, by simp [mayR, hn, ha, hlt]⟩
theorem ref07_May_sp (t : Tree) (hs : SlimT t) (hb : t.length < 4611686018427387903) : ref07_May (t, ()) = some (mayT t, ()) := by
  rw [ref07_May_eq]
  obtain ⟨y, e, p⟩ := ref07_May_L2_sp t hs hb t 0 rfl (by omega)
  simp only [Int.natCast_zero, prev_zero] at e p
  cases y with
  | inl z =>
    simp only at p
    simp only [Tref07_May, e, condF_True, condF_t, condF_f, condF_T, condF_F, condF_not, bindF_some, sumF_inl, sumF_inr, Int.toNat_natCast, wrap_succ, wrap_pred, Option.bind_some, Option.bind_none, Sum.elim_inl, Sum.elim_inr, List.length_append, List.length_cons, List.length_nil, beq_str, less_str, le_str, Bool.not_not, mayT, p, Bool.false_and]
  | inr z =>
    obtain ⟨p, rfl⟩ := p
    have hd : decide (((z.1.length : Nat) : Int) ≤ 30) = decide (z.1.length ≤ 30) := by
      rw [decide_eq_decide]; omega
    simp only [Tref07_May, e, condF_True, condF_t, condF_f, condF_T, condF_F, condF_not, bindF_some, sumF_inl, sumF_inr, Int.toNat_natCast, wrap_succ, wrap_pred, Option.bind_some, Option.bind_none, Sum.elim_inl, Sum.elim_inr, List.length_append, List.length_cons, List.length_nil, beq_str, less_str, le_str, Bool.not_not, mayT, p, Bool.true_and, hd]
end Go.Proofs.Yticpcfchhcjjeaa.LI
namespace Go.Proofs.Yticpcfchhcjjeaa.LI
open Go
set_option linter.unusedSimpArgs false

def lightL (l : List Str) : Bool := l.all fun s => decide (s.size ≤ 200)
theorem law01_Light_L4_sp (l : List Str) (hb : l.length < 4611686018427387903) : ∀ (r : List Str) (i : Nat), l.drop i = r → i ≤ l.length →
    ∃ y, law01_Light_L4 (l, (i : Int), ()) = some y ∧ (match y with
      | .inl _ => lightL r = false
      | .inr _ => lightL r = true)
  | [], i, h, hi => by
    have := drop_nil h hi
    subst this
    rw [law01_Light_L4_eq]
    simp (disch := omega) only [Tlaw01_Light_L4, condF_True, condF_t, condF_f, condF_T, condF_F, condF_not, bindF_some, sumF_inl, sumF_inr, Int.toNat_natCast, wrap_succ, wrap_pred, Option.bind_some, Option.bind_none, Sum.elim_inl, Sum.elim_inr, List.length_append, List.length_cons, List.length_nil, beq_str, less_str, le_str, Bool.not_not]
    exact ⟨_, rfl, rfl⟩
  | c :: r, i, h, hi => by
    obtain ⟨h1, h2, h3, h4⟩ := drop_cons h
    rw [law01_Light_L4_eq]
    by_cases hc : c.size ≤ 200
    · simp (disch := omega) only [Tlaw01_Light_L4, condF_True, condF_t, condF_f, condF_T, condF_F, condF_not, bindF_some, sumF_inl, sumF_inr, Int.toNat_natCast, wrap_succ, wrap_pred, Option.bind_some, Option.bind_none, Sum.elim_inl, Sum.elim_inr, List.length_append, List.length_cons, List.length_nil, beq_str, less_str, le_str, Bool.not_not, h2]
      obtain ⟨y, e, p⟩ := law01_Light_L4_sp l hb r (i + 1) h3 (by omega)
      refine ⟨y, e, ?_⟩
      cases y with
      | inl z => simp only [lightL] at p ⊢; simpa [hc] using p
      | inr z => simp only [lightL] at p ⊢; simpa [hc] using p
    · simp (disch := omega) only [Tlaw01_Light_L4, condF_True, condF_t, condF_f, condF_T, condF_F, condF_not, bindF_some, sumF_inl, sumF_inr, Int.toNat_natCast, wrap_succ, wrap_pred, Option.bind_some, Option.bind_none, Sum.elim_inl, Sum.elim_inr, List.length_append, List.length_cons, List.length_nil, beq_str, less_str, le_str, Bool.not_not, h2]
      exact ⟨_, rfl, by simp [lightL, hc]⟩
theorem law01_Light_sp (l : List Str) (hb : l.length < 4611686018427387903) : law01_Light (l, 300, ()) = some (decide (l.length ≤ 300) && lightL l, ()) := by
  rw [law01_Light_eq]
  by_cases h : l.length ≤ 300
  · obtain ⟨y, e, p⟩ := law01_Light_L4_sp l hb l 0 rfl (by omega)
    simp only [Int.natCast_zero] at e
    cases y with
    | inl z => simp only at p; simp (disch := omega) only [Tlaw01_Light, condF_True, condF_t, condF_f, condF_T, condF_F, condF_not, bindF_some, sumF_inl, sumF_inr, Int.toNat_natCast, wrap_succ, wrap_pred, Option.bind_some, Option.bind_none, Sum.elim_inl, Sum.elim_inr, List.length_append, List.length_cons, List.length_nil, beq_str, less_str, le_str, Bool.not_not, e, p, Bool.and_false]
    | inr z => simp only at p; simp (disch := omega) only [Tlaw01_Light, condF_True, condF_t, condF_f, condF_T, condF_F, condF_not, bindF_some, sumF_inl, sumF_inr, Int.toNat_natCast, wrap_succ, wrap_pred, Option.bind_some, Option.bind_none, Sum.elim_inl, Sum.elim_inr, List.length_append, List.length_cons, List.length_nil, beq_str, less_str, le_str, Bool.not_not, e, p, h, decide_true, Bool.true_and]
  · simp (disch := omega) only [Tlaw01_Light, condF_True, condF_t, condF_f, condF_T, condF_F, condF_not, bindF_some, sumF_inl, sumF_inr, Int.toNat_natCast, wrap_succ, wrap_pred, Option.bind_some, Option.bind_none, Sum.elim_inl, Sum.elim_inr, List.length_append, List.length_cons, List.length_nil, beq_str, less_str, le_str, Bool.not_not, h, decide_false, Bool.false_and]
def lightT (t : Tree) : Bool := t.all fun f => (decide (f.2.1.length ≤ 300) && lightL f.2.1) && decide (f.1.size ≤ 100)
theorem law07_Light_L4_sp (t : Tree) (hs : SlimT t) (hb : t.length < 4611686018427387903) : ∀ (r : Tree) (i : Nat), t.drop i = r → i ≤ t.length →
    ∃ y, law07_Light_L4 (t, (i : Int), ()) = some y ∧ (match y with
      | .inl _ => lightT r = false
      | .inr _ => lightT r = true)
  | [], i, h, hi => by
    have := drop_nil h hi
    subst this
    rw [law07_Light_L4_eq]
    simp (disch := omega) only [Tlaw07_Light_L4, condF_True, condF_t, condF_f, condF_T, condF_F, condF_not, bindF_some, sumF_inl, sumF_inr, Int.toNat_natCast, wrap_succ, wrap_pred, Option.bind_some, Option.bind_none, Sum.elim_inl, Sum.elim_inr, List.length_append, List.length_cons, List.length_nil, beq_str, less_str, le_str, Bool.not_not]
    exact ⟨_, rfl, rfl⟩
  | f :: r, i, h, hi => by
    obtain ⟨h1, h2, h3, h4⟩ := drop_cons h
    obtain ⟨s1, s2, s3⟩ := hs f h4
    rw [law07_Light_L4_eq]
    cases hl : (decide (f.2.1.length ≤ 300) && lightL f.2.1) with
    | false =>
      simp (disch := omega) only [Tlaw07_Light_L4, condF_True, condF_t, condF_f, condF_T, condF_F, condF_not, bindF_some, sumF_inl, sumF_inr, Int.toNat_natCast, wrap_succ, wrap_pred, Option.bind_some, Option.bind_none, Sum.elim_inl, Sum.elim_inr, List.length_append, List.length_cons, List.length_nil, beq_str, less_str, le_str, Bool.not_not, h2, law01_Light_sp, hl, Bool.not_false]
      exact ⟨_, rfl, by simp [lightT, hl]⟩
    | true =>
      by_cases hc : f.1.size ≤ 100
      · simp (disch := omega) only [Tlaw07_Light_L4, condF_True, condF_t, condF_f, condF_T, condF_F, condF_not, bindF_some, sumF_inl, sumF_inr, Int.toNat_natCast, wrap_succ, wrap_pred, Option.bind_some, Option.bind_none, Sum.elim_inl, Sum.elim_inr, List.length_append, List.length_cons, List.length_nil, beq_str, less_str, le_str, Bool.not_not, h2, law01_Light_sp, hl, Bool.not_true]
        obtain ⟨y, e, p⟩ := law07_Light_L4_sp t hs hb r (i + 1) h3 (by omega)
        refine ⟨y, e, ?_⟩
        cases y with
        | inl z => simp only [lightT, List.all_cons, hl, hc, decide_true, Bool.true_and] at p ⊢; exact p
        | inr z => simp only [lightT, List.all_cons, hl, hc, decide_true, Bool.true_and] at p ⊢; exact p
      · simp (disch := omega) only [Tlaw07_Light_L4, condF_True, condF_t, condF_f, condF_T, condF_F, condF_not, bindF_some, sumF_inl, sumF_inr, Int.toNat_natCast, wrap_succ, wrap_pred, Option.bind_some, Option.bind_none, Sum.elim_inl, Sum.elim_inr, List.length_append, List.length_cons, List.length_nil, beq_str, less_str, le_str, Bool.not_not, h2, law01_Light_sp, hl, Bool.not_true]
        exact ⟨_, rfl, by simp [lightT, hc]⟩
theorem law07_Light_sp (t : Tree) (hs : SlimT t) (hb : t.length < 4611686018427387903) : law07_Light (t, ()) = some (decide (t.length ≤ 40) && lightT t, ()) := by
  rw [law07_Light_eq]
  by_cases h : t.length ≤ 40
  · obtain ⟨y, e, p⟩ := law07_Light_L4_sp t hs hb t 0 rfl (by omega)
    simp only [Int.natCast_zero] at e
    cases y with
    | inl z => simp only at p; simp (disch := omega) only [Tlaw07_Light, condF_True, condF_t, condF_f, condF_T, condF_F, condF_not, bindF_some, sumF_inl, sumF_inr, Int.toNat_natCast, wrap_succ, wrap_pred, Option.bind_some, Option.bind_none, Sum.elim_inl, Sum.elim_inr, List.length_append, List.length_cons, List.length_nil, beq_str, less_str, le_str, Bool.not_not, e, p, Bool.and_false]
    | inr z => simp only at p; simp (disch := omega) only [Tlaw07_Light, condF_True, condF_t, condF_f, condF_T, condF_F, condF_not, bindF_some, sumF_inl, sumF_inr, Int.toNat_natCast, wrap_succ, wrap_pred, Option.bind_some, Option.bind_none, Sum.elim_inl, Sum.elim_inr, List.length_append, List.length_cons, List.length_nil, beq_str, less_str, le_str, Bool.not_not, e, p, h, decide_true, Bool.true_and]
  · simp (disch := omega) only [Tlaw07_Light, condF_True, condF_t, condF_f, condF_T, condF_F, condF_not, bindF_some, sumF_inl, sumF_inr, Int.toNat_natCast, wrap_succ, wrap_pred, Option.bind_some, Option.bind_none, Sum.elim_inl, Sum.elim_inr, List.length_append, List.length_cons, List.length_nil, beq_str, less_str, le_str, Bool.not_not, h, decide_false, Bool.false_and]
/-- What a light tree is. -/
theorem light_wee {t : Tree} (h1 : t.length ≤ 40) (h2 : lightT t = true) : t.length ≤ 40 ∧ Wee t ∧ SlimT t := by
  rw [lightT, List.all_eq_true] at h2
  refine ⟨h1, ⟨by omega, fun f hf => ?_⟩, fun f hf => ?_⟩
  · have := h2 f hf
    simp only [Bool.and_eq_true, decide_eq_true_eq] at this
    omega
  · have := h2 f hf
    simp only [Bool.and_eq_true, decide_eq_true_eq, lightL, List.all_eq_true] at this
    refine ⟨by omega, fun s hs => ?_, by omega⟩
    have := this.1.2 s hs
    omega
theorem Wee.set {t : Tree} (h : Wee t) (i : Nat) {f : File} (hf : f.2.1.length ≤ 1000000000) : Wee (t.set i f) := by
  refine ⟨by rw [List.length_set]; exact h.1, fun g hg => ?_⟩
  rcases List.mem_or_eq_of_mem_set hg with hg | rfl
  · exact h.2 g hg
  · exact hf
theorem Wee.put {t : Tree} (h : Wee t) (ht : t.length < 1000000000) (s : Str) {l : List Str} (hl : l.length ≤ 1000000000) : Wee (putT t s l) := by
  unfold putT
  split
  · exact h.set _ hl
  · refine ⟨?_, fun g hg => ?_⟩
    · rw [List.length_append, List.length_cons, List.length_take, List.length_drop]; omega
    · simp only [List.mem_append, List.mem_cons] at hg
      rcases hg with hg | rfl | hg
      · exact h.2 g (List.mem_of_mem_take hg)
      · exact hl
      · exact h.2 g (List.mem_of_mem_drop hg)
theorem Wee.del {t : Tree} (h : Wee t) (s : Str) : Wee (delT t s) := by
  refine ⟨Nat.le_trans (by rw [delT, List.length_eraseIdx]; split <;> omega) h.1, fun g hg => h.2 g (List.mem_of_mem_eraseIdx hg)⟩
theorem put_len (t : Tree) (s : Str) (l : List Str) : (putT t s l).length ≤ t.length + 1 := by
  unfold putT
  split
  · rw [List.length_set]; omega
  · rw [List.length_append, List.length_cons, List.length_take, List.length_drop]; omega

/-! ### the two ways to names -/
abbrev Rising (l : List Str) : Prop := l.Pairwise ltS
theorem insN_mem {l : List Str} {x y : Str} : y ∈ insN l x ↔ y ∈ l ∨ y = x := by
  unfold insN
  cases h : memS x l with
  | true =>
    have := (memS_iff x l).1 h
    simp only [cond_true]
    constructor
    · exact .inl
    · rintro (h | rfl) <;> assumption
  | false =>
    simp only [cond_false, List.mem_append, List.mem_cons]
    have := List.take_append_drop (l.findIdx fun y => decide (ltS x y)) l
    constructor
    · rintro (h | h | h)
      · exact .inl (List.mem_of_mem_take h)
      · exact .inr h
      · exact .inl (List.mem_of_mem_drop h)
    · rintro (h | h)
      · rw [← this, List.mem_append] at h
        rcases h with h | h
        · exact .inl h
        · exact .inr (.inr h)
      · exact .inr (.inl h)
theorem ahead_lt {x : Str} : ∀ {l : List Str}, memS x l = false → Rising l → (∀ y ∈ l.take (l.findIdx fun y => decide (ltS x y)), ltS y x) ∧ ∀ y ∈ l.drop (l.findIdx fun y => decide (ltS x y)), ltS x y
  | [], _, _ => by simp
  | o :: l, hm, hr => by
    simp only [memS, List.any_cons, Bool.or_eq_false_iff, decide_eq_false_iff_not] at hm
    obtain ⟨hr1, hr2⟩ := List.pairwise_cons.1 hr
    obtain ⟨i1, i2⟩ := ahead_lt (x := x) (l := l) hm.2 hr2
    rw [List.findIdx_cons]
    by_cases h : ltS x o
    · simp only [h, decide_true, cond_true, List.take_zero, List.drop_zero]
      refine ⟨by simp, fun y hy => ?_⟩
      rcases List.mem_cons.1 hy with rfl | hy
      · exact h
      · exact ltS_trans h (hr1 y hy)
    · simp only [h, decide_false, cond_false, List.take_succ_cons, List.drop_succ_cons]
      refine ⟨fun y hy => ?_, i2⟩
      rcases List.mem_cons.1 hy with rfl | hy
      · rcases ltS_total y x with k | k | k
        · exact k
        · exact absurd k hm.1
        · exact absurd k h
      · exact i1 y hy
theorem insN_rising {l : List Str} {x : Str} (h : Rising l) : Rising (insN l x) := by
  unfold insN
  cases hm : memS x l with
  | true => exact h
  | false =>
    obtain ⟨h1, h2⟩ := ahead_lt hm h
    simp only [cond_false]
    rw [Rising, List.pairwise_append]
    refine ⟨h.sublist (List.take_sublist _ _), List.pairwise_cons.2 ⟨h2, h.sublist (List.drop_sublist _ _)⟩, fun a ha b hb => ?_⟩
    rcases List.mem_cons.1 hb with rfl | hb
    · exact h1 a ha
    · exact ltS_trans (h1 a ha) (h2 b hb)
theorem foldl_insN : ∀ (xs l : List Str), Rising l → Rising (xs.foldl insN l) ∧ ∀ y, y ∈ xs.foldl insN l ↔ y ∈ l ∨ y ∈ xs
  | [], l, h => ⟨h, fun y => by simp⟩
  | x :: xs, l, h => by
    obtain ⟨h1, h2⟩ := foldl_insN xs (insN l x) (insN_rising h)
    refine ⟨h1, fun y => ?_⟩
    rw [List.foldl_cons, h2, insN_mem, List.mem_cons]
    constructor
    · rintro ((h | h) | h)
      · exact .inl h
      · exact .inr (.inl h)
      · exact .inr (.inr h)
    · rintro (h | h | h)
      · exact .inl (.inl h)
      · exact .inl (.inr h)
      · exact .inr h
theorem uniq_spec : ∀ (xs o : List Str), o.Nodup → (uniq o xs).Nodup ∧ ∀ y, y ∈ uniq o xs ↔ y ∈ o ∨ y ∈ xs
  | [], o, h => ⟨h, fun y => by simp [uniq]⟩
  | x :: xs, o, h => by
    simp only [uniq]
    cases hm : memS x o with
    | true =>
      have hx := (memS_iff x o).1 hm
      obtain ⟨h1, h2⟩ := uniq_spec xs o h
      refine ⟨h1, fun y => ?_⟩
      simp only [cond_true, h2, List.mem_cons]
      constructor
      · rintro (h | h)
        · exact .inl h
        · exact .inr (.inr h)
      · rintro (h | rfl | h)
        · exact .inl h
        · exact .inl hx
        · exact .inr h
    | false =>
      have hx : ¬ x ∈ o := fun h => by rw [(memS_iff x o).2 h] at hm; cases hm
      obtain ⟨h1, h2⟩ := uniq_spec xs (o ++ [x]) (by rw [List.nodup_append]; exact ⟨h, by simp, fun a ha b hb => by simp at hb; subst hb; exact fun e => hx (e ▸ ha)⟩)
      refine ⟨h1, fun y => ?_⟩
      simp only [cond_false, h2, List.mem_append, List.mem_cons, List.not_mem_nil, or_false, or_assoc]
theorem leS_trans (a b c : Str) (h : decide (a.data.toList ≤ b.data.toList) = true) (k : decide (b.data.toList ≤ c.data.toList) = true) : decide (a.data.toList ≤ c.data.toList) = true := by
  rw [decide_eq_true_eq] at *
  exact List.le_trans h k
theorem leS_total (a b : Str) : (decide (a.data.toList ≤ b.data.toList) || decide (b.data.toList ≤ a.data.toList)) = true := by
  rw [Bool.or_eq_true, decide_eq_true_eq, decide_eq_true_eq]
  exact List.le_total _ _
theorem sortS_rising {l : List Str} (h : l.Nodup) : Rising (sortS l) := by
  have h1 : (sortS l).Pairwise fun a b => decide (a.data.toList ≤ b.data.toList) = true := List.pairwise_mergeSort (le := fun a b : Str => decide (a.data.toList ≤ b.data.toList)) leS_trans leS_total l
  have h2 : (sortS l).Nodup := (List.mergeSort_perm l _).nodup_iff.2 h
  refine (h1.and h2).imp fun {a b} hab => ?_
  obtain ⟨k1, k2⟩ := hab
  rw [decide_eq_true_eq] at k1
  rcases ltS_total a b with k | k | k
  · exact k
  · exact absurd k k2
  · exact absurd k (List.not_lt.2 k1)
theorem sortS_mem {l : List Str} {y : Str} : y ∈ sortS l ↔ y ∈ l := List.mem_mergeSort
/-- Rising lists of the same names are the same. -/
theorem rising_ext : ∀ {l m : List Str}, Rising l → Rising m → (∀ y, y ∈ l ↔ y ∈ m) → l = m
  | [], [], _, _, _ => rfl
  | [], b :: m, _, _, h => by have := (h b).2 List.mem_cons_self; cases this
  | a :: l, [], _, _, h => by have := (h a).1 List.mem_cons_self; cases this
  | a :: l, b :: m, hl, hm, h => by
    obtain ⟨l1, l2⟩ := List.pairwise_cons.1 hl
    obtain ⟨m1, m2⟩ := List.pairwise_cons.1 hm
    have hab : a = b := by
      rcases List.mem_cons.1 ((h a).1 List.mem_cons_self) with e | e
      · exact e
      · rcases List.mem_cons.1 ((h b).2 List.mem_cons_self) with e' | e'
        · exact e'.symm
        · exact absurd (ltS_trans (m1 a e) (l1 b e')) (ltS_irrefl _)
    subst hab
    congr 1
    refine rising_ext l2 m2 fun y => ?_
    have hy := h y
    simp only [List.mem_cons] at hy
    constructor
    · intro k
      rcases hy.1 (.inr k) with rfl | k'
      · exact absurd (l1 y k) (ltS_irrefl _)
      · exact k'
    · intro k
      rcases hy.2 (.inr k) with rfl | k'
      · exact absurd (m1 y k) (ltS_irrefl _)
      · exact k'
/-- The names of two trees. -/
def namesT (a b : Tree) : List Str := sortS (uniq [] ((a ++ b).map (·.1)))
theorem names_two (a b : Tree) : ((a ++ b).map (·.1)).foldl insN [] = namesT a b := by
  obtain ⟨h1, h2⟩ := foldl_insN ((a ++ b).map (·.1)) [] List.Pairwise.nil
  obtain ⟨h3, h4⟩ := uniq_spec ((a ++ b).map (·.1)) [] List.nodup_nil
  refine rising_ext h1 (sortS_rising h3) fun y => ?_
  rw [h2, namesT, sortS_mem, h4]
theorem names_len (a b : Tree) : (namesT a b).length ≤ a.length + b.length := by
  rw [namesT, sortS_len]
  have := uniq_len ((a ++ b).map (·.1)) []
  simpa using this
end Go.Proofs.Yticpcfchhcjjeaa.LI
namespace Go.Proofs.Yticpcfchhcjjeaa.LI
open Go
set_option linter.unusedSimpArgs false
set_option maxRecDepth 100000

def sA : Str := ByteArray.mk (List.toArray ((97 : UInt8) :: @List.nil UInt8))
def sB : Str := ByteArray.mk (List.toArray ((98 : UInt8) :: @List.nil UInt8))
def sX : Str := ByteArray.mk (List.toArray ((120 : UInt8) :: @List.nil UInt8))
theorem law07_awake_sp : law07_awake () = some (true, ()) := by
  have hM := maxEls_eq
  have w0 : Wee [] := ⟨by simp, by simp⟩
  have p1 : putT [] sB [sX] = [(sB, [sX], ())] := by decide +kernel
  have p2 : putT [(sB, [sX], ())] sA [] = [(sA, [], ()), (sB, [sX], ())] := by decide +kernel
  have w1 : Wee [(sB, [sX], ())] := ⟨by simp, by simp⟩
  have w2 : Wee [(sA, [], ()), (sB, [sX], ())] := ⟨by simp, by simp⟩
  have z : ∀ s : Str, s = sA ∨ s = sB ∨ s = sX → s.size < 4611686018427387903 := by
    rintro s (rfl | rfl | rfl) <;> decide +kernel
  have s2 : SlimT [(sA, [], ()), (sB, [sX], ())] := fun f hf => by
    simp only [List.mem_cons, List.not_mem_nil, or_false] at hf
    rcases hf with rfl | rfl
    · exact ⟨z _ (.inl rfl), fun s hs => by simp at hs, by simp⟩
    · exact ⟨z _ (.inr (.inl rfl)), fun s hs => by simp at hs; subst hs; exact z _ (.inr (.inr rfl)), by simp⟩
  have e1 : tree_Put ([], sB, [sX], ()) = some ([(sB, [sX], ())], ()) := by rw [tree_Put_sp [] sB [sX] w0 (by simp), p1]
  have e2 : tree_Put ([(sB, [sX], ())], sA, [], ()) = some ([(sA, [], ()), (sB, [sX], ())], ()) := by rw [tree_Put_sp _ sA [] w1 (by simp), p2]
  have e3 : tree_Get ([(sA, [], ()), (sB, [sX], ())], sB, ()) = some ([sX], true, ()) := by
    rw [tree_Get_sp _ _ w2]
    have : getT [(sA, [], ()), (sB, [sX], ())] sB = some [sX] := by decide +kernel
    rw [this]; rfl
  have e4 : tree_May ([(sA, [], ()), (sB, [sX], ())], ()) = some (true, ()) := by
    rw [tree_May_sp _ s2 (by simp)]
    have : mayT [(sA, [], ()), (sB, [sX], ())] = true := by decide +kernel
    rw [this]
  have e5 : tree_Same ([(sA, [], ()), (sB, [sX], ())], [(sA, [], ()), (sB, [sX], ())], ()) = some (true, ()) := by
    rw [tree_Same_sp _ _ w2]; simp
  have e6 : tree_Names ([(sA, [], ()), (sB, [sX], ())], [(sA, [], ()), (sB, [sX], ())], ()) = some (sortS [sA, sB], ()) := by
    rw [tree_Names_sp _ _ (by simp) (by simp)]
    have : uniq [] (([(sA, [], ()), (sB, [sX], ())] ++ [(sA, [], ()), (sB, [sX], ())] : Tree).map (·.1)) = [sA, sB] := by decide +kernel
    rw [this]
  rw [law07_awake_eq]
  show Tlaw07_awake condF bindF sumF = _
  have hu : Tlaw07_awake condF bindF sumF = (bindF (tree_Put ([], sB, [sX], ())) fun y0 => bindF (tree_Put (y0.1, sA, [], ())) fun y1 => bindF (tree_Get (y1.1, sB, ())) fun y2 => condF (((y1.1.length : Nat) : Int) == 2) (condF (decide ((0 : Int) < ((y1.1.length : Nat) : Int))) (condF (ByteArray.toList (List.getD y1.1 (Int.toNat 0) (ByteArray.empty, [], ())).1 == ByteArray.toList sA) (condF y2.2.1 (condF (((y2.1.length : Nat) : Int) == 1) (bindF (tree_May (y1.1, ())) fun y3 => condF y3.1 (bindF (tree_Same (y1.1, y1.1, ())) fun y4 => condF y4.1 (bindF (tree_Names (y1.1, y1.1, ())) fun y5 => some (((y5.1.length : Nat) : Int) == 2, ())) (some (false, ()))) (some (false, ()))) (some (false, ()))) (some (false, ()))) (some (false, ()))) none) (some (false, ()))) := rfl
  rw [hu, e1, bindF_some, e2, bindF_some, e3, bindF_some, e4, bindF_some, e5, bindF_some, e6, bindF_some, sortS_len]
  rw [beq_str]
  rfl

theorem law07_TreeTells_sp (t u : Tree) (s : Str) (l : List Str) (ht : SlimT t) (ht2 : t.length < 4611686018427387903) (hu : SlimT u) (hu2 : u.length < 4611686018427387903) (hl : l.length < 4611686018427387903) : law07_TreeTells (t, u, s, l, ()) = some (true, ()) := by
  rw [law07_TreeTells_eq]
  cases ha : (decide (t.length ≤ 40) && lightT t) with
  | false =>
    cases hb : (decide (u.length ≤ 40) && lightT u) <;> cases hc : (decide (l.length ≤ 300) && lightL l) <;>
    simp (disch := first | omega | assumption) only [Tlaw07_TreeTells, law07_awake_sp, law07_Light_sp, law01_Light_sp, condF_True, condF_t, condF_f, condF_T, condF_F, condF_not, bindF_some, sumF_inl, sumF_inr, Int.toNat_natCast, wrap_succ, wrap_pred, Option.bind_some, Option.bind_none, Sum.elim_inl, Sum.elim_inr, List.length_append, List.length_cons, List.length_nil, beq_str, less_str, le_str, Bool.not_not, ha, hb, hc, Bool.not_true, Bool.not_false]
  | true =>
    cases hb : (decide (u.length ≤ 40) && lightT u) with
    | false =>
      cases hc : (decide (l.length ≤ 300) && lightL l) <;>
      simp (disch := first | omega | assumption) only [Tlaw07_TreeTells, law07_awake_sp, law07_Light_sp, law01_Light_sp, condF_True, condF_t, condF_f, condF_T, condF_F, condF_not, bindF_some, sumF_inl, sumF_inr, Int.toNat_natCast, wrap_succ, wrap_pred, Option.bind_some, Option.bind_none, Sum.elim_inl, Sum.elim_inr, List.length_append, List.length_cons, List.length_nil, beq_str, less_str, le_str, Bool.not_not, ha, hb, hc, Bool.not_true, Bool.not_false]
    | true =>
      cases hc : (decide (l.length ≤ 300) && lightL l) with
      | false =>
        simp (disch := first | omega | assumption) only [Tlaw07_TreeTells, law07_awake_sp, law07_Light_sp, law01_Light_sp, condF_True, condF_t, condF_f, condF_T, condF_F, condF_not, bindF_some, sumF_inl, sumF_inr, Int.toNat_natCast, wrap_succ, wrap_pred, Option.bind_some, Option.bind_none, Sum.elim_inl, Sum.elim_inr, List.length_append, List.length_cons, List.length_nil, beq_str, less_str, le_str, Bool.not_not, ha, hb, hc, Bool.not_true, Bool.not_false]
      | true =>
        by_cases hs : s.size ≤ 100
        · have ha' := ha
          have hb' := hb
          have hc' := hc
          simp only [Bool.and_eq_true, decide_eq_true_eq] at ha' hb' hc'
          obtain ⟨t1, t2, t3⟩ := light_wee ha'.1 ha'.2
          obtain ⟨u1, u2, u3⟩ := light_wee hb'.1 hb'.2
          have hln : l.length ≤ 1000000000 := by omega
          have w1 := t2.put (by omega) s hln
          have w2 := t2.del s
          have n1 := names_len t u
          have g1 : ((getT t s).getD []).length < 4611686018427387903 := by
            cases hg : getT t s with
            | none => simp
            | some x =>
              simp only [getT, Option.map_eq_some_iff] at hg
              obtain ⟨f, hf, rfl⟩ := hg
              have := t2.2 f (List.mem_of_find?_eq_some hf)
              simp only [Option.getD_some]; omega
          simp (disch := first | omega | assumption) only [Tlaw07_TreeTells, law07_awake_sp, law07_Light_sp, law01_Light_sp, condF_True, condF_t, condF_f, condF_T, condF_F, bindF_some, ha, hb, hc, Bool.not_true,
            tree_Get_sp, ref07_Get_sp, ref01_Same_sp, decide_true, tree_Put_sp, ref07_Put_sp, ref07_Same_sp, tree_Del_sp, ref07_Del_sp, tree_May_sp, ref07_May_sp, tree_Same_sp]
          have hn1 : tree_Names (t, u, ()) = some (namesT t u, ()) := tree_Names_sp t u (by omega) (by omega)
          have hn2 : ref07_Names (t, u, ()) = some (namesT t u, ()) := by rw [ref07_Names_sp t u (by omega) (by omega), names_two]
          simp (disch := first | omega | assumption) only [hn1, hn2, condF_True, condF_t, condF_T, condF_F, bindF_some, ref01_Same_sp, ref07_May_sp, ref07_Same_sp, tree_May_sp, tree_Same_sp, decide_true, beq_self_eq_true]
        · simp (disch := first | omega | assumption) only [Tlaw07_TreeTells, law07_awake_sp, law07_Light_sp, law01_Light_sp, condF_True, condF_t, condF_f, condF_T, condF_F, condF_not, bindF_some, sumF_inl, sumF_inr, Int.toNat_natCast, wrap_succ, wrap_pred, Option.bind_some, Option.bind_none, Sum.elim_inl, Sum.elim_inr, List.length_append, List.length_cons, List.length_nil, beq_str, less_str, le_str, Bool.not_not, ha, hb, hc, Bool.not_true, Bool.not_false]
end Go.Proofs.Yticpcfchhcjjeaa.LI
