/-
  Small laws for reading what was carried out: tests, names, numbers, lists. Trees: what the program's functions come to. Lines and names, lists that are the same: what the functions come to. Names and lines that may be: what the functions come to. Trees with a file, and without one: what the functions come to. Trees: the document's Put and Del, the program's Del. The names of the files of two trees: what the functions come to. The document's names of two trees; whether a tree may be; whether it is light. Whether a tree may be, and whether it is light: what the functions come to. Light trees; the example; the two ways to names. The example of the chapter, and the laws of trees. Laws of trees: what is got of a tree with a file and of one without, and that rising trees of the same files are the same. What two lists have in common: what the functions come to. Edits and hunks: what the functions come to. News: what the functions come to. The laws NewsTells and NewsCost hold of what was carried out. Lists of strings, joined, and compared once more. Changes: what the functions come to. Trees that changes change: what the functions come to. What the changes from one tree to another one are like: pairs of equal lines, edits that are apart, changes of which none undoes the one ahead. The changes from one tree to another one change it into that. Changes turned back; the laws NewsTwo and NewsFiles hold of what was carried out. The law NewsGives holds of what was carried out. From a law's function to its row: which data its arguments are.
-/
import Derived.Test.YticpcfchhcjjeaaGreatTaNG1
import Derived.Sort.Walk0
import Derived.Test.YticpcfchhcjjeaaGreatRows
import Derived.Test.YticpcfchhcjjeaaGreatChecked
import Derived.ChangeOld
import Derived.ProofKit
import Derived.ShutString
set_option linter.unusedSimpArgs false
set_option linter.unusedVariables false
set_option maxRecDepth 100000
namespace Go.Proofs.YticpcfchhcjjeaaGreat.LI
open Go
open Go Go.RowKit
open KV (toL)
open KV.toL (toLs)
theorem condF_t {α : Type} {p : Prop} [Decidable p] (h : p) (x y : Option α) : condF (decide p) x y = x := by simp [condF, h]
theorem condF_f {α : Type} {p : Prop} [Decidable p] (h : ¬ p) (x y : Option α) : condF (decide p) x y = y := by simp [condF, h]
theorem condF_True {α : Type} [h : Decidable True] (x y : Option α) : condF (@decide True h) x y = x := condF_t trivial x y
theorem condF_T {α : Type} (x y : Option α) : condF true x y = x := rfl
theorem condF_F {α : Type} (x y : Option α) : condF false x y = y := rfl
theorem condF_not {α : Type} (b : Bool) (x y : Option α) : condF (!b) x y = condF b y x := by cases b <;> rfl
theorem bindF_some {α β : Type} (a : α) (f : α → Option β) : bindF (some a) f = f a := rfl
theorem sumF_inl {α β γ : Type} (a : α) (f : α → Option γ) (g : β → Option γ) : sumF (.inl a) f g = f a := rfl
theorem sumF_inr {α β γ : Type} (a : β) (f : α → Option γ) (g : β → Option γ) : sumF (.inr a) f g = g a := rfl
theorem wrap_id {n : Int} (h : -4611686018427387904 ≤ n) (h' : n < 4611686018427387904) : IntKind.wrap .i64 n = n := by rw [IntKind.wrap_i64]; omega
theorem wrap_succ {i : Nat} (h : i < 4611686018427387903) : IntKind.wrap .i64 ((i : Int) + 1) = ((i + 1 : Nat) : Int) := by rw [IntKind.wrap_i64]; omega
theorem wrap_pred {i : Nat} (h : 0 < i) (h' : i < 4611686018427387903) : IntKind.wrap .i64 ((i : Int) - 1) = ((i - 1 : Nat) : Int) := by rw [IntKind.wrap_i64]; omega
theorem maxEls_eq : maxEls = 1099511627776 := rfl
theorem drop_cons {α : Type} {l : List α} {i : Nat} {a : α} {r : List α} (h : l.drop i = a :: r) : i < l.length ∧ (∀ d, l.getD i d = a) ∧ l.drop (i + 1) = r ∧ a ∈ l := by
  have hi : i < l.length := by
    by_cases hi : i < l.length
    · exact hi
    · rw [List.drop_eq_nil_of_le (by omega)] at h; cases h
  rw [List.drop_eq_getElem_cons hi] at h
  injection h with h1 h2
  refine ⟨hi, fun d => ?_, h2, h1 ▸ List.getElem_mem hi⟩
  rw [List.getD_eq_getElem?_getD, List.getElem?_eq_getElem hi, Option.getD_some, h1]
theorem drop_nil {α : Type} {l : List α} {i : Nat} (h : l.drop i = []) (hi : i ≤ l.length) : i = l.length := by
  rw [List.drop_eq_nil_iff] at h
  omega
/-- Strings are the same if their bytes are. -/
theorem beq_str (a b : ByteArray) : (ByteArray.toList a == ByteArray.toList b) = decide (a = b) := by
  rw [Bool.eq_iff_iff, beq_iff_eq, decide_eq_true_eq]
  constructor
  · intro h
    rw [Lib.toList_data, Lib.toList_data] at h
    exact ByteArray.ext (Array.toList_inj.1 h)
  · rintro rfl; rfl
/-- The order of strings. -/
def ltS (a b : ByteArray) : Prop := a.data.toList < b.data.toList
instance (a b : ByteArray) : Decidable (ltS a b) := inferInstanceAs (Decidable (a.data.toList < b.data.toList))
theorem less_str (a b : ByteArray) : Op.bytesLess (ByteArray.toList a) (ByteArray.toList b) = decide (ltS a b) := by
  rw [Go.Proofs.bytesLess_eq, Lib.toList_data, Lib.toList_data]; rfl
theorem ltS_irrefl (a : ByteArray) : ¬ ltS a a := List.lt_irrefl _
theorem ltS_trans {a b c : ByteArray} (h : ltS a b) (k : ltS b c) : ltS a c := List.lt_trans h k
theorem ltS_asymm {a b : ByteArray} (h : ltS a b) : ¬ ltS b a := fun k => ltS_irrefl a (ltS_trans h k)
theorem ltS_total (a b : ByteArray) : ltS a b ∨ a = b ∨ ltS b a := by
  by_cases h : ltS a b
  · exact .inl h
  · by_cases k : ltS b a
    · exact .inr (.inr k)
    · have h1 := List.not_lt.1 h
      have k1 := List.not_lt.1 k
      have := List.le_antisymm k1 h1
      exact .inr (.inl (ByteArray.ext (Array.toList_inj.1 this)))
theorem le_str (a b : ByteArray) : (decide (ltS a b) || decide (a = b)) = !decide (ltS b a) := by
  rcases ltS_total a b with h | h | h
  · have := ltS_asymm h; simp [h, this]
  · subst h; simp [ltS_irrefl]
  · have h1 := ltS_asymm h
    have h2 : ¬ a = b := fun e => ltS_irrefl b (e ▸ h)
    simp [h, h1, h2]
mutual
theorem eqT_refl : ∀ (t : Ty) (x : t.den), eqT t x x = true
  | .int _, _ => by simp [eqT]
  | .byte, _ => by simp [eqT]
  | .bool, _ => by simp [eqT]
  | .str, _ => by simp [eqT]
  | .list t, l => by rw [eqT]; exact eqL_refl t l
  | .unit, _ => by simp [eqT]
  | .pair a b, p => by rw [eqT, eqT_refl a, eqT_refl b]; rfl
theorem eqL_refl (t : Ty) : ∀ (l : List t.den), eqT.eqL t l l = true
  | [] => by rw [eqT.eqL]
  | x :: xs => by rw [eqT.eqL, eqT_refl t x, eqL_refl t xs]; rfl
end
abbrev Str := ByteArray
abbrev File := ByteArray × List ByteArray × Unit
abbrev Tree := List File
def Wee (t : Tree) : Prop := t.length ≤ 1000000000 ∧ ∀ f ∈ t, f.2.1.length ≤ 1000000000
theorem tree_own_sp (s : Str) (l : List Str) (h : l.length ≤ 1000000000) : tree_own (s, l, ()) = some ((s, l, ()), ()) := by
  have hM := maxEls_eq
  rw [tree_own_eq]
  simp (disch := omega) only [Ttree_own, condF_True, condF_t, condF_f, condF_T, condF_F, condF_not, bindF_some, sumF_inl, sumF_inr, Int.toNat_natCast, wrap_succ, wrap_pred, Option.bind_some, Option.bind_none, Sum.elim_inl, Sum.elim_inr, List.length_append, List.length_cons, List.length_nil, beq_str, less_str, le_str, Bool.not_not]
theorem tree_all_L3_sp (t l0 : Tree) (hw : Wee t) : ∀ (r : Tree) (i : Nat) (l1 : Tree), t.drop i = r → i ≤ t.length → l1.length + r.length ≤ 1000000000 →
    tree_all_L3 (l0, l1, t, (t.length : Int), (i : Int), ()) = some (l0, l1 ++ r, t, (t.length : Int), (t.length : Int), ())
  | [], i, l1, h, hi, _ => by
    have := drop_nil h hi
    subst this
    rw [tree_all_L3_eq]
    simp (disch := omega) only [Ttree_all_L3, condF_True, condF_t, condF_f, condF_T, condF_F, condF_not, bindF_some, sumF_inl, sumF_inr, Int.toNat_natCast, wrap_succ, wrap_pred, Option.bind_some, Option.bind_none, Sum.elim_inl, Sum.elim_inr, List.length_append, List.length_cons, List.length_nil, beq_str, less_str, le_str, Bool.not_not, List.append_nil]
  | f :: r, i, l1, h, hi, hl => by
    obtain ⟨h1, h2, h3, h4⟩ := drop_cons h
    have hb := hw.1
    have hf := hw.2 f h4
    have hM := maxEls_eq
    rw [tree_all_L3_eq]
    simp only [List.length_cons] at hl
    simp (disch := omega) only [Ttree_all_L3, condF_True, condF_t, condF_f, condF_T, condF_F, condF_not, bindF_some, sumF_inl, sumF_inr, Int.toNat_natCast, wrap_succ, wrap_pred, Option.bind_some, Option.bind_none, Sum.elim_inl, Sum.elim_inr, List.length_append, List.length_cons, List.length_nil, beq_str, less_str, le_str, Bool.not_not, h2, tree_own_sp]
    rw [tree_all_L3_sp t l0 hw r (i + 1) _ h3 (by omega) (by simp; omega)]
    simp
theorem tree_all_sp (t : Tree) (hw : Wee t) : tree_all (t, ()) = some (t, ()) := by
  rw [tree_all_eq]
  have := tree_all_L3_sp t [] hw t 0 [] rfl (by omega) (by simpa using hw.1)
  simp only [Int.natCast_zero, List.nil_append] at this
  simp (disch := omega) only [Ttree_all, condF_True, condF_t, condF_f, condF_T, condF_F, condF_not, bindF_some, sumF_inl, sumF_inr, Int.toNat_natCast, wrap_succ, wrap_pred, Option.bind_some, Option.bind_none, Sum.elim_inl, Sum.elim_inr, List.length_append, List.length_cons, List.length_nil, beq_str, less_str, le_str, Bool.not_not, this]
/-- The number of the first file of a name. -/
def at_ (t : Tree) (s : Str) : Nat := t.findIdx fun f => decide (f.1 = s)
theorem find_L2_sp (t : Tree) (s : Str) (hb : t.length < 4611686018427387903) : ∀ (r : Tree) (i : Nat), t.drop i = r → i ≤ t.length →
    ∃ y, slices_IndexFunc_File_L2 (s, t, (t.length : Int), (i : Int), ()) = some y ∧ (match y with
      | .inl z => z.2.2.1 = ((i + r.findIdx (fun f => decide (f.1 = s)) : Nat) : Int) ∧ r.findIdx (fun f => decide (f.1 = s)) < r.length
      | .inr _ => r.findIdx (fun f => decide (f.1 = s)) = r.length)
  | [], i, h, hi => by
    have := drop_nil h hi
    subst this
    rw [slices_IndexFunc_File_L2_eq]
    simp (disch := omega) only [Tslices_IndexFunc_File_L2, condF_True, condF_t, condF_f, condF_T, condF_F, condF_not, bindF_some, sumF_inl, sumF_inr, Int.toNat_natCast, wrap_succ, wrap_pred, Option.bind_some, Option.bind_none, Sum.elim_inl, Sum.elim_inr, List.length_append, List.length_cons, List.length_nil, beq_str, less_str, le_str, Bool.not_not]
    exact ⟨_, rfl, rfl⟩
  | f :: r, i, h, hi => by
    obtain ⟨h1, h2, h3, h4⟩ := drop_cons h
    rw [slices_IndexFunc_File_L2_eq]
    by_cases hf : f.1 = s
    · simp (disch := omega) only [Tslices_IndexFunc_File_L2, condF_True, condF_t, condF_f, condF_T, condF_F, condF_not, bindF_some, sumF_inl, sumF_inr, Int.toNat_natCast, wrap_succ, wrap_pred, Option.bind_some, Option.bind_none, Sum.elim_inl, Sum.elim_inr, List.length_append, List.length_cons, List.length_nil, beq_str, less_str, le_str, Bool.not_not, h2, hf, List.findIdx_cons, decide_true, cond_true, Nat.add_zero]
      exact ⟨_, rfl, rfl, by omega⟩
    · simp (disch := omega) only [Tslices_IndexFunc_File_L2, condF_True, condF_t, condF_f, condF_T, condF_F, condF_not, bindF_some, sumF_inl, sumF_inr, Int.toNat_natCast, wrap_succ, wrap_pred, Option.bind_some, Option.bind_none, Sum.elim_inl, Sum.elim_inr, List.length_append, List.length_cons, List.length_nil, beq_str, less_str, le_str, Bool.not_not, h2, hf, List.findIdx_cons, decide_false, cond_false]
      obtain ⟨y, e, p⟩ := find_L2_sp t s hb r (i + 1) h3 (by omega)
      refine ⟨y, e, ?_⟩
      cases y with
      | inl z => simp only at p ⊢; exact ⟨by rw [p.1]; omega, by omega⟩
      | inr z => simp only at p ⊢; omega
theorem tree_where_sp (t : Tree) (s : Str) (hb : t.length < 4611686018427387903) : tree_where (t, s, ()) = some ((at_ t s : Int), ()) := by
  rw [tree_where_eq]
  obtain ⟨y, e, p⟩ := find_L2_sp t s hb t 0 rfl (by omega)
  simp only [Int.natCast_zero] at e
  cases y with
  | inl z =>
    simp only [Nat.zero_add] at p
    simp (disch := omega) only [Ttree_where, e, condF_True, condF_t, condF_f, condF_T, condF_F, condF_not, bindF_some, sumF_inl, sumF_inr, Int.toNat_natCast, wrap_succ, wrap_pred, Option.bind_some, Option.bind_none, Sum.elim_inl, Sum.elim_inr, List.length_append, List.length_cons, List.length_nil, beq_str, less_str, le_str, Bool.not_not, p.1]
    rfl
  | inr z =>
    simp only at p
    simp only [Ttree_where, e, condF_True, condF_t, condF_f, condF_T, condF_F, condF_not, bindF_some, sumF_inl, sumF_inr, Int.toNat_natCast, wrap_succ, wrap_pred, Option.bind_some, Option.bind_none, Sum.elim_inl, Sum.elim_inr, List.length_append, List.length_cons, List.length_nil, beq_str, less_str, le_str, Bool.not_not, at_, p]
/-- A file's lines. -/
def getT (t : Tree) (s : Str) : Option (List Str) := (t.find? fun f => decide (f.1 = s)).map fun f => f.2.1
theorem getT_at (t : Tree) (s : Str) : getT t s = if at_ t s < t.length then some (t.getD (at_ t s) (ByteArray.empty, [], ())).2.1 else none := by
  unfold getT at_
  induction t with
  | nil => simp
  | cons f t ih =>
    rw [List.find?_cons, List.findIdx_cons]
    by_cases hf : f.1 = s
    · simp [hf]
    · simp only [hf, decide_false, cond_false, List.length_cons, Nat.add_lt_add_iff_right, List.getD_cons_succ]
      exact ih
theorem tree_Get_sp (t : Tree) (s : Str) (hw : Wee t) : tree_Get (t, s, ()) = some ((getT t s).getD [], (getT t s).isSome, ()) := by
  have hb := hw.1
  have hM := maxEls_eq
  rw [tree_Get_eq]
  by_cases h : at_ t s < t.length
  · have hm : t.getD (at_ t s) (ByteArray.empty, [], ()) ∈ t := by
      rw [List.getD_eq_getElem?_getD, List.getElem?_eq_getElem h]; exact List.getElem_mem h
    have := hw.2 _ hm
    simp (disch := omega) only [Ttree_Get, tree_where_sp, condF_True, condF_t, condF_f, condF_T, condF_F, condF_not, bindF_some, sumF_inl, sumF_inr, Int.toNat_natCast, wrap_succ, wrap_pred, Option.bind_some, Option.bind_none, Sum.elim_inl, Sum.elim_inr, List.length_append, List.length_cons, List.length_nil, beq_str, less_str, le_str, Bool.not_not, getT_at, h, if_true, Option.getD_some, Option.isSome_some]
  · simp (disch := omega) only [Ttree_Get, tree_where_sp, condF_True, condF_t, condF_f, condF_T, condF_F, condF_not, bindF_some, sumF_inl, sumF_inr, Int.toNat_natCast, wrap_succ, wrap_pred, Option.bind_some, Option.bind_none, Sum.elim_inl, Sum.elim_inr, List.length_append, List.length_cons, List.length_nil, beq_str, less_str, le_str, Bool.not_not, getT_at, h, if_false, Option.getD_none, Option.isSome_none]
theorem slices_Equal_string_L4_sp (m : List Str) : ∀ (r : List Str) (l : List Str) (i : Nat), l.drop i = r → i ≤ l.length → l.length = m.length → l.length < 4611686018427387903 →
    ∃ y, slices_Equal_string_L4 (l, m, (l.length : Int), (i : Int), ()) = some y ∧ (match y with
      | .inl _ => l.drop i ≠ m.drop i
      | .inr _ => l.drop i = m.drop i)
  | [], l, i, h, hi, hl, hb => by
    have := drop_nil h hi
    subst this
    rw [slices_Equal_string_L4_eq]
    simp (disch := omega) only [Tslices_Equal_string_L4, condF_True, condF_t, condF_f, condF_T, condF_F, condF_not, bindF_some, sumF_inl, sumF_inr, Int.toNat_natCast, wrap_succ, wrap_pred, Option.bind_some, Option.bind_none, Sum.elim_inl, Sum.elim_inr, List.length_append, List.length_cons, List.length_nil, beq_str, less_str, le_str, Bool.not_not]
    exact ⟨_, rfl, by simp [hl]⟩
  | a :: r, l, i, h, hi, hl, hb => by
    obtain ⟨h1, h2, h3, h4⟩ := drop_cons h
    obtain ⟨b, s, hm⟩ : ∃ b s, m.drop i = b :: s := ⟨_, _, List.drop_eq_getElem_cons (by omega)⟩
    obtain ⟨m1, m2, m3, m4⟩ := drop_cons hm
    rw [slices_Equal_string_L4_eq]
    by_cases hab : a = b
    · subst hab
      simp (disch := omega) only [Tslices_Equal_string_L4, condF_True, condF_t, condF_f, condF_T, condF_F, condF_not, bindF_some, sumF_inl, sumF_inr, Int.toNat_natCast, wrap_succ, wrap_pred, Option.bind_some, Option.bind_none, Sum.elim_inl, Sum.elim_inr, List.length_append, List.length_cons, List.length_nil, beq_str, less_str, le_str, Bool.not_not, h2, m2, decide_true, Bool.not_true]
      obtain ⟨y, e, p⟩ := slices_Equal_string_L4_sp m r l (i + 1) h3 (by omega) hl hb
      refine ⟨y, e, ?_⟩
      rw [h, hm]
      rw [h3, m3] at p
      cases y with
      | inl z => simpa using p
      | inr z => simpa using p
    · simp (disch := first | omega | assumption) only [Tslices_Equal_string_L4, condF_True, condF_t, condF_f, condF_T, condF_F, condF_not, bindF_some, sumF_inl, sumF_inr, Int.toNat_natCast, wrap_succ, wrap_pred, Option.bind_some, Option.bind_none, Sum.elim_inl, Sum.elim_inr, List.length_append, List.length_cons, List.length_nil, beq_str, less_str, le_str, Bool.not_not, h2, m2]
      refine ⟨_, rfl, ?_⟩
      rw [h, hm]
      simp [hab]
theorem slices_Equal_string_sp (l m : List Str) (hb : l.length < 4611686018427387903) : slices_Equal_string (l, m, ()) = some (decide (l = m), ()) := by
  rw [slices_Equal_string_eq]
  by_cases hl : l.length = m.length
  · obtain ⟨y, e, p⟩ := slices_Equal_string_L4_sp m l l 0 rfl (by omega) hl hb
    simp only [Int.natCast_zero] at e
    have hbn : ((l.length : Int) != (m.length : Int)) = false := by simp [hl]
    simp only [List.drop_zero] at p
    cases y with
    | inl z => simp only at p; simp only [Tslices_Equal_string, hbn, e, condF_True, condF_t, condF_f, condF_T, condF_F, condF_not, bindF_some, sumF_inl, sumF_inr, Int.toNat_natCast, wrap_succ, wrap_pred, Option.bind_some, Option.bind_none, Sum.elim_inl, Sum.elim_inr, List.length_append, List.length_cons, List.length_nil, beq_str, less_str, le_str, Bool.not_not, p, decide_false]
    | inr z => simp only at p; subst p; simp only [Tslices_Equal_string, hbn, e, condF_True, condF_t, condF_f, condF_T, condF_F, condF_not, bindF_some, sumF_inl, sumF_inr, Int.toNat_natCast, wrap_succ, wrap_pred, Option.bind_some, Option.bind_none, Sum.elim_inl, Sum.elim_inr, List.length_append, List.length_cons, List.length_nil, beq_str, less_str, le_str, Bool.not_not, decide_true]
  · have hbn : ((l.length : Int) != (m.length : Int)) = true := by simp; omega
    have : ¬ l = m := fun e => hl (by rw [e])
    simp only [Tslices_Equal_string, hbn, condF_True, condF_t, condF_f, condF_T, condF_F, condF_not, bindF_some, sumF_inl, sumF_inr, Int.toNat_natCast, wrap_succ, wrap_pred, Option.bind_some, Option.bind_none, Sum.elim_inl, Sum.elim_inr, List.length_append, List.length_cons, List.length_nil, beq_str, less_str, le_str, Bool.not_not, this, decide_false]
theorem file_ext {f g : File} (h : f.1 = g.1) (k : f.2.1 = g.2.1) : f = g := by
  obtain ⟨a, b, ⟨⟩⟩ := f
  obtain ⟨c, d, ⟨⟩⟩ := g
  simp only at h k
  rw [h, k]
theorem tree_Same_1_sp (f g : File) (hb : f.2.1.length < 4611686018427387903) : tree_Same_1 (f, g, ()) = some (decide (f = g), ()) := by
  rw [tree_Same_1_eq]
  by_cases h : f.1 = g.1
  · by_cases k : f.2.1 = g.2.1
    · have := file_ext h k
      subst this
      simp (disch := omega) only [Ttree_Same_1, condF_True, condF_t, condF_f, condF_T, condF_F, condF_not, bindF_some, sumF_inl, sumF_inr, Int.toNat_natCast, wrap_succ, wrap_pred, Option.bind_some, Option.bind_none, Sum.elim_inl, Sum.elim_inr, List.length_append, List.length_cons, List.length_nil, beq_str, less_str, le_str, Bool.not_not, decide_true, slices_Equal_string_sp]
    · have : ¬ f = g := fun e => k (by rw [e])
      simp (disch := omega) only [Ttree_Same_1, condF_True, condF_t, condF_f, condF_T, condF_F, condF_not, bindF_some, sumF_inl, sumF_inr, Int.toNat_natCast, wrap_succ, wrap_pred, Option.bind_some, Option.bind_none, Sum.elim_inl, Sum.elim_inr, List.length_append, List.length_cons, List.length_nil, beq_str, less_str, le_str, Bool.not_not, h, decide_true, slices_Equal_string_sp, k, decide_false, this]
  · have : ¬ f = g := fun e => h (by rw [e])
    simp (disch := first | omega | assumption) only [Ttree_Same_1, condF_True, condF_t, condF_f, condF_T, condF_F, condF_not, bindF_some, sumF_inl, sumF_inr, Int.toNat_natCast, wrap_succ, wrap_pred, Option.bind_some, Option.bind_none, Sum.elim_inl, Sum.elim_inr, List.length_append, List.length_cons, List.length_nil, beq_str, less_str, le_str, Bool.not_not, decide_false, this]
theorem slices_EqualFunc_File_L4_sp (m l : Tree) (hw : Wee l) : ∀ (r : Tree) (i : Nat), l.drop i = r → i ≤ l.length → l.length = m.length →
    ∃ y, slices_EqualFunc_File_L4 (m, l, (l.length : Int), (i : Int), ()) = some y ∧ (match y with
      | .inl _ => l.drop i ≠ m.drop i
      | .inr _ => l.drop i = m.drop i)
  | [], i, h, hi, hl => by
    have := drop_nil h hi
    subst this
    rw [slices_EqualFunc_File_L4_eq]
    simp (disch := omega) only [Tslices_EqualFunc_File_L4, condF_True, condF_t, condF_f, condF_T, condF_F, condF_not, bindF_some, sumF_inl, sumF_inr, Int.toNat_natCast, wrap_succ, wrap_pred, Option.bind_some, Option.bind_none, Sum.elim_inl, Sum.elim_inr, List.length_append, List.length_cons, List.length_nil, beq_str, less_str, le_str, Bool.not_not]
    exact ⟨_, rfl, by simp [hl]⟩
  | a :: r, i, h, hi, hl => by
    have hb := hw.1
    obtain ⟨h1, h2, h3, h4⟩ := drop_cons h
    have ha := hw.2 a h4
    obtain ⟨b, s, hm⟩ : ∃ b s, m.drop i = b :: s := ⟨_, _, List.drop_eq_getElem_cons (by omega)⟩
    obtain ⟨m1, m2, m3, m4⟩ := drop_cons hm
    rw [slices_EqualFunc_File_L4_eq]
    have e1 : ((a.1, a.2.1, ()) : File) = a := rfl
    have e2 : ((b.1, b.2.1, ()) : File) = b := rfl
    by_cases hab : a = b
    · subst hab
      simp (disch := omega) only [Tslices_EqualFunc_File_L4, condF_True, condF_t, condF_f, condF_T, condF_F, condF_not, bindF_some, sumF_inl, sumF_inr, Int.toNat_natCast, wrap_succ, wrap_pred, Option.bind_some, Option.bind_none, Sum.elim_inl, Sum.elim_inr, List.length_append, List.length_cons, List.length_nil, beq_str, less_str, le_str, Bool.not_not, h2, m2, e1, tree_Same_1_sp, decide_true]
      obtain ⟨y, e, p⟩ := slices_EqualFunc_File_L4_sp m l hw r (i + 1) h3 (by omega) hl
      refine ⟨y, e, ?_⟩
      rw [h, hm]
      rw [h3, m3] at p
      cases y with
      | inl z => simpa using p
      | inr z => simpa using p
    · simp (disch := omega) only [Tslices_EqualFunc_File_L4, condF_True, condF_t, condF_f, condF_T, condF_F, condF_not, bindF_some, sumF_inl, sumF_inr, Int.toNat_natCast, wrap_succ, wrap_pred, Option.bind_some, Option.bind_none, Sum.elim_inl, Sum.elim_inr, List.length_append, List.length_cons, List.length_nil, beq_str, less_str, le_str, Bool.not_not, h2, m2, e1, e2, tree_Same_1_sp, hab, decide_false]
      refine ⟨_, rfl, ?_⟩
      rw [h, hm]
      simp [hab]
theorem tree_Same_sp (l m : Tree) (hw : Wee l) : tree_Same (l, m, ()) = some (decide (l = m), ()) := by
  rw [tree_Same_eq]
  by_cases hl : l.length = m.length
  · obtain ⟨y, e, p⟩ := slices_EqualFunc_File_L4_sp m l hw l 0 rfl (by omega) hl
    simp only [Int.natCast_zero] at e
    have hbn : ((l.length : Int) != (m.length : Int)) = false := by simp [hl]
    simp only [List.drop_zero] at p
    cases y with
    | inl z => simp only at p; simp only [Ttree_Same, hbn, e, condF_True, condF_t, condF_f, condF_T, condF_F, condF_not, bindF_some, sumF_inl, sumF_inr, Int.toNat_natCast, wrap_succ, wrap_pred, Option.bind_some, Option.bind_none, Sum.elim_inl, Sum.elim_inr, List.length_append, List.length_cons, List.length_nil, beq_str, less_str, le_str, Bool.not_not, p, decide_false]
    | inr z => simp only at p; subst p; simp only [Ttree_Same, hbn, e, condF_True, condF_t, condF_f, condF_T, condF_F, condF_not, bindF_some, sumF_inl, sumF_inr, Int.toNat_natCast, wrap_succ, wrap_pred, Option.bind_some, Option.bind_none, Sum.elim_inl, Sum.elim_inr, List.length_append, List.length_cons, List.length_nil, beq_str, less_str, le_str, Bool.not_not, decide_true]
  · have hbn : ((l.length : Int) != (m.length : Int)) = true := by simp; omega
    have : ¬ l = m := fun e => hl (by rw [e])
    simp only [Ttree_Same, hbn, condF_True, condF_t, condF_f, condF_T, condF_F, condF_not, bindF_some, sumF_inl, sumF_inr, Int.toNat_natCast, wrap_succ, wrap_pred, Option.bind_some, Option.bind_none, Sum.elim_inl, Sum.elim_inr, List.length_append, List.length_cons, List.length_nil, beq_str, less_str, le_str, Bool.not_not, this, decide_false]
/-- May a byte stand in a name? -/
def signP (c : UInt8) : Bool := (decide (97 ≤ c.toNat) && decide (c.toNat ≤ 122)) || (decide (48 ≤ c.toNat) && decide (c.toNat ≤ 57)) || decide (c.toNat = 46)
theorem text_sign_sp (c : UInt8) : text_sign (c, ()) = some (signP c, ()) := by
  rw [text_sign_eq]
  have e : (((UInt8.toNat c : Nat) : Int) == 46) = decide (c.toNat = 46) := by
    rw [Bool.eq_iff_iff]; simp; omega
  by_cases h1 : 97 ≤ c.toNat <;> by_cases h2 : c.toNat ≤ 122 <;> by_cases h3 : 48 ≤ c.toNat <;> by_cases h4 : c.toNat ≤ 57 <;>
    first
    | (exfalso; omega)
    | simp (disch := omega) only [Ttext_sign, condF_True, condF_t, condF_f, condF_T, condF_F, condF_not, bindF_some, sumF_inl, sumF_inr, Int.toNat_natCast, wrap_succ, wrap_pred, Option.bind_some, Option.bind_none, Sum.elim_inl, Sum.elim_inr, List.length_append, List.length_cons, List.length_nil, beq_str, less_str, le_str, Bool.not_not, e, signP, h1, h2, h3, h4, decide_true, decide_false, Bool.true_and, Bool.false_and, Bool.true_or, Bool.false_or, Bool.or_false, Bool.or_true, Bool.and_false, Bool.and_true]
theorem byteBack (c : UInt8) : UInt8.ofNat (UInt8.toNat c) = c := by simp
theorem byteIn (c : UInt8) : (decide ((0 : Int) ≤ ((UInt8.toNat c : Nat) : Int)) && decide (((UInt8.toNat c : Nat) : Int) < 256)) = true := by
  have := UInt8.toNat_lt c
  simp; omega
def nameP (s : Str) : Bool := decide (1 ≤ s.size) && decide (s.size ≤ 16) && s.data.toList.all signP
theorem size_data (s : Str) : s.data.toList.length = s.size := by simp
theorem text_Name_L2_sp (s : Str) (hb : s.size < 4611686018427387903) : ∀ (r : List UInt8) (i : Nat), s.data.toList.drop i = r → i ≤ s.size →
    ∃ y, text_Name_L2 (s, (s.size : Int), (i : Int), ()) = some y ∧ (match y with
      | .inl _ => r.all signP = false
      | .inr z => r.all signP = true ∧ z.1 = s)
  | [], i, h, hi => by
    have := drop_nil h (by rw [size_data]; exact hi)
    rw [size_data] at this
    subst this
    rw [text_Name_L2_eq]
    simp (disch := omega) only [Ttext_Name_L2, condF_True, condF_t, condF_f, condF_T, condF_F, condF_not, bindF_some, sumF_inl, sumF_inr, Int.toNat_natCast, wrap_succ, wrap_pred, Option.bind_some, Option.bind_none, Sum.elim_inl, Sum.elim_inr, List.length_append, List.length_cons, List.length_nil, beq_str, less_str, le_str, Bool.not_not]
    exact ⟨_, rfl, rfl, rfl⟩
  | c :: r, i, h, hi => by
    obtain ⟨h1, h2, h3, h4⟩ := drop_cons h
    rw [size_data] at h1
    rw [text_Name_L2_eq]
    cases hc : signP c with
    | true =>
      simp (disch := omega) only [Ttext_Name_L2, condF_True, condF_t, condF_f, condF_T, condF_F, condF_not, bindF_some, sumF_inl, sumF_inr, Int.toNat_natCast, wrap_succ, wrap_pred, Option.bind_some, Option.bind_none, Sum.elim_inl, Sum.elim_inr, List.length_append, List.length_cons, List.length_nil, beq_str, less_str, le_str, Bool.not_not, h2, byteIn, byteBack, text_sign_sp, hc]
      obtain ⟨y, e, p⟩ := text_Name_L2_sp s hb r (i + 1) h3 (by omega)
      refine ⟨y, e, ?_⟩
      cases y with
      | inl z => simpa [hc] using p
      | inr z => simpa [hc] using p
    | false =>
      simp (disch := omega) only [Ttext_Name_L2, condF_True, condF_t, condF_f, condF_T, condF_F, condF_not, bindF_some, sumF_inl, sumF_inr, Int.toNat_natCast, wrap_succ, wrap_pred, Option.bind_some, Option.bind_none, Sum.elim_inl, Sum.elim_inr, List.length_append, List.length_cons, List.length_nil, beq_str, less_str, le_str, Bool.not_not, h2, byteIn, byteBack, text_sign_sp, hc]
      exact ⟨_, rfl, by simp [hc]⟩
theorem str_empty (s : Str) : s = ByteArray.empty ↔ s.size = 0 := by
  constructor
  · rintro rfl; rfl
  · intro h
    apply ByteArray.ext
    apply Array.ext'
    have : s.data.toList = [] := List.eq_nil_of_length_eq_zero (by rw [size_data]; exact h)
    rw [this]; rfl
theorem text_Name_sp (s : Str) (hb : s.size < 4611686018427387903) : text_Name (s, ()) = some (nameP s, ()) := by
  rw [text_Name_eq]
  obtain ⟨y, e, p⟩ := text_Name_L2_sp s hb s.data.toList 0 rfl (by omega)
  simp only [Int.natCast_zero] at e
  cases y with
  | inl z =>
    simp only at p
    simp only [Ttext_Name, e, condF_True, condF_t, condF_f, condF_T, condF_F, condF_not, bindF_some, sumF_inl, sumF_inr, Int.toNat_natCast, wrap_succ, wrap_pred, Option.bind_some, Option.bind_none, Sum.elim_inl, Sum.elim_inr, List.length_append, List.length_cons, List.length_nil, beq_str, less_str, le_str, Bool.not_not, nameP, p, Bool.and_false]
  | inr z =>
    obtain ⟨p, rfl⟩ := p
    have hd : decide (((z.1.size : Nat) : Int) ≤ 16) = decide (z.1.size ≤ 16) := by
      rw [decide_eq_decide]; omega
    by_cases h0 : z.1 = ByteArray.empty
    · have h1 := (str_empty _).1 h0
      have : nameP z.1 = false := by simp [nameP, h1]
      simp only [Ttext_Name, e, condF_True, condF_t, condF_f, condF_T, condF_F, condF_not, bindF_some, sumF_inl, sumF_inr, Int.toNat_natCast, wrap_succ, wrap_pred, Option.bind_some, Option.bind_none, Sum.elim_inl, Sum.elim_inr, List.length_append, List.length_cons, List.length_nil, beq_str, less_str, le_str, Bool.not_not, this]
      simp only [h0, decide_true, condF_True, condF_t, condF_f, condF_T, condF_F, condF_not, bindF_some, sumF_inl, sumF_inr, Int.toNat_natCast, wrap_succ, wrap_pred, Option.bind_some, Option.bind_none, Sum.elim_inl, Sum.elim_inr, List.length_append, List.length_cons, List.length_nil, beq_str, less_str, le_str, Bool.not_not]
    · have h1 : 1 ≤ z.1.size := by
        have := mt (str_empty z.1).2 h0
        omega
      simp only [Ttext_Name, e, condF_True, condF_t, condF_f, condF_T, condF_F, condF_not, bindF_some, sumF_inl, sumF_inr, Int.toNat_natCast, wrap_succ, wrap_pred, Option.bind_some, Option.bind_none, Sum.elim_inl, Sum.elim_inr, List.length_append, List.length_cons, List.length_nil, beq_str, less_str, le_str, Bool.not_not, h0, decide_false, nameP, h1, decide_true, p, Bool.true_and, Bool.and_true, hd]
/-- May a line be? -/
def mayP (s : Str) : Bool := decide (s.size ≤ 80) && s.data.toList.all fun c => decide (c ≠ 10)
theorem indexByte_ge : ∀ (l : List UInt8) (c : UInt8), -1 ≤ Lib.indexByte l c
  | [], c => by simp [Lib.indexByte]
  | b :: l, c => by
    have := indexByte_ge l c
    simp only [Lib.indexByte]
    split
    · omega
    · split
      · omega
      · omega
theorem indexByte_neg : ∀ (l : List UInt8), decide (Lib.indexByte l 10 < 0) = l.all fun c => decide (c ≠ 10)
  | [] => rfl
  | b :: l => by
    have ih := indexByte_neg l
    have hge := indexByte_ge l 10
    simp only [Lib.indexByte, List.all_cons, ← ih]
    by_cases hb : b = 10
    · subst hb; simp
    · simp only [beq_iff_eq, hb, if_false, ne_eq, not_false_eq_true, decide_true, Bool.true_and]
      split
      · rename_i h; rw [h]
      · rename_i h
        rw [Bool.eq_iff_iff, decide_eq_true_eq, decide_eq_true_eq]; omega
theorem text_May_sp (s : Str) : text_May (s, ()) = some (mayP s, ()) := by
  have e10 : Nat.toUInt8 (Int.toNat (((UInt8.toNat (UInt8.ofNat (Int.toNat 10))) : Nat) : Int)) = 10 := rfl
  have hi : strings_IndexByte (s, UInt8.ofNat (Int.toNat 10), ()) = some (Lib.indexByte s.data.toList 10, ()) := by
    rw [strings_IndexByte_eq]
    simp only [Tstrings_IndexByte, byteIn, condF_True, condF_t, condF_f, condF_T, condF_F, condF_not, bindF_some, sumF_inl, sumF_inr, Int.toNat_natCast, wrap_succ, wrap_pred, Option.bind_some, Option.bind_none, Sum.elim_inl, Sum.elim_inr, List.length_append, List.length_cons, List.length_nil, beq_str, less_str, le_str, Bool.not_not, byteBack, internal_stringslite_IndexByte_eq, Tinternal_stringslite_IndexByte]
    rfl
  rw [text_May_eq]
  by_cases h : s.size ≤ 80
  · simp (disch := omega) only [Ttext_May, condF_True, condF_t, condF_f, condF_T, condF_F, condF_not, bindF_some, sumF_inl, sumF_inr, Int.toNat_natCast, wrap_succ, wrap_pred, Option.bind_some, Option.bind_none, Sum.elim_inl, Sum.elim_inr, List.length_append, List.length_cons, List.length_nil, beq_str, less_str, le_str, Bool.not_not, hi, indexByte_neg, mayP, h, decide_true, Bool.true_and]
  · simp (disch := omega) only [Ttext_May, condF_True, condF_t, condF_f, condF_T, condF_F, condF_not, bindF_some, sumF_inl, sumF_inr, Int.toNat_natCast, wrap_succ, wrap_pred, Option.bind_some, Option.bind_none, Sum.elim_inl, Sum.elim_inr, List.length_append, List.length_cons, List.length_nil, beq_str, less_str, le_str, Bool.not_not, mayP, h, decide_false, Bool.false_and]
theorem text_All_1_sp (s : Str) : text_All_1 (s, ()) = some (!mayP s, ()) := by
  rw [text_All_1_eq]
  simp only [Ttext_All_1, text_May_sp, condF_True, condF_t, condF_f, condF_T, condF_F, condF_not, bindF_some, sumF_inl, sumF_inr, Int.toNat_natCast, wrap_succ, wrap_pred, Option.bind_some, Option.bind_none, Sum.elim_inl, Sum.elim_inr, List.length_append, List.length_cons, List.length_nil, beq_str, less_str, le_str, Bool.not_not]
def allP (l : List Str) : Bool := decide (l.length ≤ 200) && l.all mayP
theorem slices_IndexFunc_string_L2_sp (l : List Str) (hb : l.length < 4611686018427387903) : ∀ (r : List Str) (i : Nat), l.drop i = r → i ≤ l.length →
    ∃ y, slices_IndexFunc_string_L2 (l, (l.length : Int), (i : Int), ()) = some y ∧ (match y with
      | .inl z => r.all mayP = false ∧ 0 ≤ z.2.1
      | .inr z => r.all mayP = true)
  | [], i, h, hi => by
    have := drop_nil h hi
    subst this
    rw [slices_IndexFunc_string_L2_eq]
    simp (disch := omega) only [Tslices_IndexFunc_string_L2, condF_True, condF_t, condF_f, condF_T, condF_F, condF_not, bindF_some, sumF_inl, sumF_inr, Int.toNat_natCast, wrap_succ, wrap_pred, Option.bind_some, Option.bind_none, Sum.elim_inl, Sum.elim_inr, List.length_append, List.length_cons, List.length_nil, beq_str, less_str, le_str, Bool.not_not]
    exact ⟨_, rfl, rfl⟩
  | c :: r, i, h, hi => by
    obtain ⟨h1, h2, h3, h4⟩ := drop_cons h
    rw [slices_IndexFunc_string_L2_eq]
    cases hc : mayP c with
    | true =>
      simp (disch := omega) only [Tslices_IndexFunc_string_L2, condF_True, condF_t, condF_f, condF_T, condF_F, condF_not, bindF_some, sumF_inl, sumF_inr, Int.toNat_natCast, wrap_succ, wrap_pred, Option.bind_some, Option.bind_none, Sum.elim_inl, Sum.elim_inr, List.length_append, List.length_cons, List.length_nil, beq_str, less_str, le_str, Bool.not_not, h2, text_All_1_sp, hc, Bool.not_true]
      obtain ⟨y, e, p⟩ := slices_IndexFunc_string_L2_sp l hb r (i + 1) h3 (by omega)
      refine ⟨y, e, ?_⟩
      cases y with
      | inl z => simpa [hc] using p
      | inr z => simpa [hc] using p
    | false =>
      simp (disch := omega) only [Tslices_IndexFunc_string_L2, condF_True, condF_t, condF_f, condF_T, condF_F, condF_not, bindF_some, sumF_inl, sumF_inr, Int.toNat_natCast, wrap_succ, wrap_pred, Option.bind_some, Option.bind_none, Sum.elim_inl, Sum.elim_inr, List.length_append, List.length_cons, List.length_nil, beq_str, less_str, le_str, Bool.not_not, h2, text_All_1_sp, hc, Bool.not_false]
      exact ⟨_, rfl, by simp [hc], by simp only; omega⟩
theorem text_All_sp (l : List Str) : text_All (l, ()) = some (allP l, ()) := by
  rw [text_All_eq]
  by_cases h : l.length ≤ 200
  · obtain ⟨y, e, p⟩ := slices_IndexFunc_string_L2_sp l (by omega) l 0 rfl (by omega)
    simp only [Int.natCast_zero] at e
    cases y with
    | inl z =>
      simp only at p
      have : decide (z.2.1 ≥ 0) = true := decide_eq_true p.2
      simp (disch := omega) only [Ttext_All, condF_True, condF_t, condF_f, condF_T, condF_F, condF_not, bindF_some, sumF_inl, sumF_inr, Int.toNat_natCast, wrap_succ, wrap_pred, Option.bind_some, Option.bind_none, Sum.elim_inl, Sum.elim_inr, List.length_append, List.length_cons, List.length_nil, beq_str, less_str, le_str, Bool.not_not, e, allP, h, p.1, decide_true, Bool.true_and, this, Bool.not_true]
    | inr z =>
      simp only at p
      simp (disch := omega) only [Ttext_All, condF_True, condF_t, condF_f, condF_T, condF_F, condF_not, bindF_some, sumF_inl, sumF_inr, Int.toNat_natCast, wrap_succ, wrap_pred, Option.bind_some, Option.bind_none, Sum.elim_inl, Sum.elim_inr, List.length_append, List.length_cons, List.length_nil, beq_str, less_str, le_str, Bool.not_not, e, allP, h, p, decide_true, Bool.true_and]
  · simp (disch := omega) only [Ttext_All, condF_True, condF_t, condF_f, condF_T, condF_F, condF_not, bindF_some, sumF_inl, sumF_inr, Int.toNat_natCast, wrap_succ, wrap_pred, Option.bind_some, Option.bind_none, Sum.elim_inl, Sum.elim_inr, List.length_append, List.length_cons, List.length_nil, beq_str, less_str, le_str, Bool.not_not, allP, h, decide_false, Bool.false_and]
/-- The first file behind a name. -/
def gt_ (t : Tree) (s : Str) : Nat := t.findIdx fun f => decide (ltS s f.1)
def putT (t : Tree) (s : Str) (l : List Str) : Tree := if at_ t s < t.length then t.set (at_ t s) (s, l, ()) else t.take (gt_ t s) ++ (s, l, ()) :: t.drop (gt_ t s)
theorem findb_sp (t : Tree) (s : Str) (hb : t.length < 4611686018427387903) : ∀ (r : Tree) (i : Nat), t.drop i = r → i ≤ t.length →
    ∃ y, slices_IndexFunc_File_L2b (t, s, (t.length : Int), (i : Int), ()) = some y ∧ (match y with
      | .inl z => z.1 = t ∧ z.2.1 = s ∧ z.2.2.1 = ((i + r.findIdx (fun f => decide (ltS s f.1)) : Nat) : Int) ∧ r.findIdx (fun f => decide (ltS s f.1)) < r.length
      | .inr z => z.1 = t ∧ z.2.1 = s ∧ r.findIdx (fun f => decide (ltS s f.1)) = r.length)
  | [], i, h, hi => by
    have := drop_nil h hi
    subst this
    rw [slices_IndexFunc_File_L2b_eq]
    simp (disch := omega) only [Tslices_IndexFunc_File_L2b, condF_True, condF_t, condF_f, condF_T, condF_F, condF_not, bindF_some, sumF_inl, sumF_inr, Int.toNat_natCast, wrap_succ, wrap_pred, Option.bind_some, Option.bind_none, Sum.elim_inl, Sum.elim_inr, List.length_append, List.length_cons, List.length_nil, beq_str, less_str, le_str, Bool.not_not]
    exact ⟨_, rfl, rfl, rfl, rfl⟩
  | f :: r, i, h, hi => by
    obtain ⟨h1, h2, h3, h4⟩ := drop_cons h
    rw [slices_IndexFunc_File_L2b_eq]
    by_cases hf : ltS s f.1
    · simp (disch := omega) only [Tslices_IndexFunc_File_L2b, condF_True, condF_t, condF_f, condF_T, condF_F, condF_not, bindF_some, sumF_inl, sumF_inr, Int.toNat_natCast, wrap_succ, wrap_pred, Option.bind_some, Option.bind_none, Sum.elim_inl, Sum.elim_inr, List.length_append, List.length_cons, List.length_nil, beq_str, less_str, le_str, Bool.not_not, h2, hf, List.findIdx_cons, decide_true, cond_true, Nat.add_zero]
      exact ⟨_, rfl, rfl, rfl, rfl, by omega⟩
    · simp (disch := omega) only [Tslices_IndexFunc_File_L2b, condF_True, condF_t, condF_f, condF_T, condF_F, condF_not, bindF_some, sumF_inl, sumF_inr, Int.toNat_natCast, wrap_succ, wrap_pred, Option.bind_some, Option.bind_none, Sum.elim_inl, Sum.elim_inr, List.length_append, List.length_cons, List.length_nil, beq_str, less_str, le_str, Bool.not_not, h2, hf, List.findIdx_cons, decide_false, cond_false]
      obtain ⟨y, e, p⟩ := findb_sp t s hb r (i + 1) h3 (by omega)
      refine ⟨y, e, ?_⟩
      cases y with
      | inl z => simp only at p ⊢; exact ⟨p.1, p.2.1, by rw [p.2.2.1]; omega, by omega⟩
      | inr z => simp only at p ⊢; exact ⟨p.1, p.2.1, by omega⟩
theorem insT_put (t : Tree) (n : Nat) (f : File) : insT t (n : Int) [f] = t.take n ++ f :: t.drop n := by simp [insT]
theorem tree_Put_sp (t : Tree) (s : Str) (l : List Str) (hw : Wee t) (hl : l.length ≤ 1000000000) : tree_Put (t, s, l, ()) = some (putT t s l, ()) := by
  have hb := hw.1
  have hM := maxEls_eq
  rw [tree_Put_eq]
  by_cases h : at_ t s < t.length
  · simp (disch := first | omega | assumption) only [Ttree_Put, condF_True, condF_t, condF_f, condF_T, condF_F, condF_not, bindF_some, sumF_inl, sumF_inr, Int.toNat_natCast, wrap_succ, wrap_pred, Option.bind_some, Option.bind_none, Sum.elim_inl, Sum.elim_inr, List.length_append, List.length_cons, List.length_nil, beq_str, less_str, le_str, Bool.not_not, tree_all_sp, tree_where_sp, tree_own_sp, List.length_set, putT, h, if_true]
  · obtain ⟨y, e, p⟩ := findb_sp t s (by omega) t 0 rfl (by omega)
    simp only [Int.natCast_zero] at e
    cases y with
    | inl z =>
      obtain ⟨p1, p2, p3, p4⟩ := p
      simp only [Nat.zero_add] at p3
      rw [show (t.findIdx fun f => decide (ltS s f.1)) = gt_ t s from rfl] at p3 p4
      simp (disch := first | omega | assumption) only [Ttree_Put, condF_True, condF_t, condF_f, condF_T, condF_F, condF_not, bindF_some, sumF_inl, sumF_inr, Int.toNat_natCast, wrap_succ, wrap_pred, Option.bind_some, Option.bind_none, Sum.elim_inl, Sum.elim_inr, List.length_append, List.length_cons, List.length_nil, beq_str, less_str, le_str, Bool.not_not, tree_all_sp, tree_where_sp, e, p1, p2, p3, eqT_refl, tree_own_sp, insT_put, putT, h, if_false]
    | inr z =>
      obtain ⟨p1, p2, p3⟩ := p
      rw [show (t.findIdx fun f => decide (ltS s f.1)) = gt_ t s from rfl] at p3
      simp (disch := first | omega | assumption) only [Ttree_Put, condF_True, condF_t, condF_f, condF_T, condF_F, condF_not, bindF_some, sumF_inl, sumF_inr, Int.toNat_natCast, wrap_succ, wrap_pred, Option.bind_some, Option.bind_none, Sum.elim_inl, Sum.elim_inr, List.length_append, List.length_cons, List.length_nil, beq_str, less_str, le_str, Bool.not_not, tree_all_sp, tree_where_sp, e, p1, p2, eqT_refl, tree_own_sp, insT_put, putT, h, if_false, p3]
def delT (t : Tree) (s : Str) : Tree := t.eraseIdx (at_ t s)
theorem over_del (t : Tree) (n : Nat) (h : n < t.length) : t.take n ++ t.drop (n + 1) = t.eraseIdx n := (List.eraseIdx_eq_take_drop_succ t n).symm
theorem overT_len {α : Type} (l : List α) (n : Nat) (ys : List α) (h : n + ys.length ≤ l.length) : (overT l n ys).length = l.length := by
  simp only [overT, List.length_append, List.length_take, List.length_drop]; omega
theorem tree_Del_sp (t : Tree) (s : Str) (hw : Wee t) : tree_Del (t, s, ()) = some (delT t s, ()) := by
  have hb := hw.1
  have hM := maxEls_eq
  rw [tree_Del_eq]
  by_cases h : at_ t s < t.length
  · have hne : (((at_ t s : Nat) : Int) == ((at_ t s + 1 : Nat) : Int)) = false := by simp; omega
    have h1 : (List.take (0 + (t.length - 0) - (0 + (at_ t s + 1))) (List.drop (0 + (at_ t s + 1)) t)) = t.drop (at_ t s + 1) := by
      rw [Nat.zero_add, Nat.zero_add, Nat.sub_zero]
      exact List.take_of_length_le (by simp)
    have hl1 : (t.drop (at_ t s + 1)).length = t.length - (at_ t s + 1) := List.length_drop
    simp (disch := first | omega | assumption) only [Ttree_Del, condF_True, condF_t, condF_f, condF_T, condF_F, condF_not, bindF_some, sumF_inl, sumF_inr, Int.toNat_natCast, wrap_succ, wrap_pred, Option.bind_some, Option.bind_none, Sum.elim_inl, Sum.elim_inr, List.length_append, List.length_cons, List.length_nil, beq_str, less_str, le_str, Bool.not_not, tree_all_sp, tree_where_sp, hne, h1]
    have hO : (overT t (at_ t s) (t.drop (at_ t s + 1))).length = t.length := overT_len _ _ _ (by omega)
    have hk : at_ t s + (t.drop (at_ t s + 1)).length = t.length - 1 := by omega
    have hO2 : ∀ d : File, (overT (overT t (at_ t s) (t.drop (at_ t s + 1))) (t.length - 1) (List.replicate (t.length - (t.length - 1)) d)).length = t.length := fun d => by
      rw [overT_len _ _ _ (by rw [List.length_replicate, hO]; omega), hO]
    simp only [Nat.zero_add, Nat.add_zero, Nat.sub_zero, List.drop_zero]
    simp (disch := first | omega | assumption) only [hO, hk, hO2, condF_True, condF_t, condF_f, condF_T, condF_F, condF_not, bindF_some, sumF_inl, sumF_inr, Int.toNat_natCast, wrap_succ, wrap_pred, Option.bind_some, Option.bind_none, Sum.elim_inl, Sum.elim_inr, List.length_append, List.length_cons, List.length_nil, beq_str, less_str, le_str, Bool.not_not]
    have e1 : overT t (at_ t s) (t.drop (at_ t s + 1)) = t.take (at_ t s) ++ t.drop (at_ t s + 1) ++ t.drop (at_ t s + (t.drop (at_ t s + 1)).length) := rfl
    have e2 : ∀ (O r : List File), t.length - 1 ≤ O.length → (overT O (t.length - 1) r).take (t.length - 1) = O.take (t.length - 1) := fun O r ho => by
      simp only [overT, List.append_assoc]
      rw [List.take_append_of_le_length (by rw [List.length_take]; omega), List.take_take, Nat.min_self]
    rw [e2 _ _ (by omega), e1, List.take_append_of_le_length (by rw [List.length_append, List.length_take, hl1]; omega), List.take_of_length_le (by rw [List.length_append, List.length_take, hl1]; omega), over_del t _ h]
    rfl
  · simp (disch := first | omega | assumption) only [Ttree_Del, condF_True, condF_t, condF_f, condF_T, condF_F, condF_not, bindF_some, sumF_inl, sumF_inr, Int.toNat_natCast, wrap_succ, wrap_pred, Option.bind_some, Option.bind_none, Sum.elim_inl, Sum.elim_inr, List.length_append, List.length_cons, List.length_nil, beq_str, less_str, le_str, Bool.not_not, tree_all_sp, tree_where_sp, delT]
    rw [List.eraseIdx_of_length_le (by omega)]
theorem Concat_L3_sp (l0 ts : List Tree) (hb : ts.length < 4611686018427387903) : ∀ (r : List Tree) (i n : Nat), ts.drop i = r → i ≤ ts.length → n + r.flatten.length < 4611686018427387903 →
    slices_Concat_File_L3 (l0, (n : Int), ts, (ts.length : Int), (i : Int), ()) = some (l0, ((n + r.flatten.length : Nat) : Int), ts, (ts.length : Int), (ts.length : Int), ())
  | [], i, n, h, hi, _ => by
    have := drop_nil h hi
    subst this
    rw [slices_Concat_File_L3_eq]
    simp (disch := omega) only [Tslices_Concat_File_L3, condF_True, condF_t, condF_f, condF_T, condF_F, condF_not, bindF_some, sumF_inl, sumF_inr, Int.toNat_natCast, wrap_succ, wrap_pred, Option.bind_some, Option.bind_none, Sum.elim_inl, Sum.elim_inr, List.length_append, List.length_cons, List.length_nil, beq_str, less_str, le_str, Bool.not_not, List.flatten_nil, Nat.add_zero]
  | t :: r, i, n, h, hi, hn => by
    obtain ⟨h1, h2, h3, h4⟩ := drop_cons h
    simp only [List.flatten_cons, List.length_append] at hn
    have hw : IntKind.wrap .i64 ((n : Int) + (t.length : Int)) = ((n + t.length : Nat) : Int) := by rw [wrap_id (by omega) (by omega)]; omega
    rw [slices_Concat_File_L3_eq]
    simp (disch := omega) only [Tslices_Concat_File_L3, condF_True, condF_t, condF_f, condF_T, condF_F, condF_not, bindF_some, sumF_inl, sumF_inr, Int.toNat_natCast, wrap_succ, wrap_pred, Option.bind_some, Option.bind_none, Sum.elim_inl, Sum.elim_inr, List.length_append, List.length_cons, List.length_nil, beq_str, less_str, le_str, Bool.not_not, h2, hw]
    rw [Concat_L3_sp l0 ts hb r (i + 1) (n + t.length) h3 (by omega) (by omega)]
    simp only [List.flatten_cons, List.length_append, Nat.add_assoc]
theorem Concat_L11_sp (l0 : Tree) (ts : List Tree) (hb : ts.length < 4611686018427387903) : ∀ (r : List Tree) (i n : Nat) (row : Tree), ts.drop i = r → i ≤ ts.length → n + r.flatten.length ≤ row.length →
    ∃ row' : Tree, slices_Concat_File_L11 (l0, row, 0, n, ts, (ts.length : Int), (i : Int), ()) = some (l0, row', 0, n + r.flatten.length, ts, (ts.length : Int), (ts.length : Int), ()) ∧ row'.length = row.length ∧ row'.take (n + r.flatten.length) = row.take n ++ r.flatten
  | [], i, n, row, h, hi, _ => by
    have := drop_nil h hi
    subst this
    rw [slices_Concat_File_L11_eq]
    simp (disch := omega) only [Tslices_Concat_File_L11, condF_True, condF_t, condF_f, condF_T, condF_F, condF_not, bindF_some, sumF_inl, sumF_inr, Int.toNat_natCast, wrap_succ, wrap_pred, Option.bind_some, Option.bind_none, Sum.elim_inl, Sum.elim_inr, List.length_append, List.length_cons, List.length_nil, beq_str, less_str, le_str, Bool.not_not, List.flatten_nil, Nat.add_zero, List.append_nil]
    exact ⟨row, rfl, rfl, rfl⟩
  | t :: r, i, n, row, h, hi, hn => by
    obtain ⟨h1, h2, h3, h4⟩ := drop_cons h
    simp only [List.flatten_cons, List.length_append] at hn
    have ho := overT_len row n t (by omega)
    rw [slices_Concat_File_L11_eq]
    simp (disch := omega) only [Tslices_Concat_File_L11, condF_True, condF_t, condF_f, condF_T, condF_F, condF_not, bindF_some, sumF_inl, sumF_inr, Int.toNat_natCast, wrap_succ, wrap_pred, Option.bind_some, Option.bind_none, Sum.elim_inl, Sum.elim_inr, List.length_append, List.length_cons, List.length_nil, beq_str, less_str, le_str, Bool.not_not, h2, ho]
    obtain ⟨row', e, e1, e2⟩ := Concat_L11_sp l0 ts hb r (i + 1) (n + t.length) (overT row n t) h3 (by omega) (by omega)
    refine ⟨row', ?_, by rw [e1, ho], ?_⟩
    · rw [e]; simp only [List.flatten_cons, List.length_append, Nat.add_assoc]
    · have e3 : (overT row n t).take (n + t.length) = row.take n ++ t := by
        have : (row.take n ++ t).length = n + t.length := by rw [List.length_append, List.length_take]; omega
        rw [overT, ← this]; exact List.take_left
      rw [e3] at e2
      simp only [List.flatten_cons, List.length_append]
      rw [← Nat.add_assoc, e2, List.append_assoc]
theorem Concat_L11b_sp (l0 : Tree) (ts : List Tree) (hb : ts.length < 4611686018427387903) : ∀ (r : List Tree) (i : Nat), ts.drop i = r → i ≤ ts.length → r.flatten = [] →
    slices_Concat_File_L11b (l0, [], ts, (ts.length : Int), (i : Int), ()) = some (l0, [], ts, (ts.length : Int), (ts.length : Int), ())
  | [], i, h, hi, _ => by
    have := drop_nil h hi
    subst this
    rw [slices_Concat_File_L11b_eq]
    simp (disch := omega) only [Tslices_Concat_File_L11b, condF_True, condF_t, condF_f, condF_T, condF_F, condF_not, bindF_some, sumF_inl, sumF_inr, Int.toNat_natCast, wrap_succ, wrap_pred, Option.bind_some, Option.bind_none, Sum.elim_inl, Sum.elim_inr, List.length_append, List.length_cons, List.length_nil, beq_str, less_str, le_str, Bool.not_not]
  | t :: r, i, h, hi, hn => by
    obtain ⟨h1, h2, h3, h4⟩ := drop_cons h
    have hM := maxEls_eq
    simp only [List.flatten_cons, List.append_eq_nil_iff] at hn
    obtain ⟨rfl, hn⟩ := hn
    rw [slices_Concat_File_L11b_eq]
    simp (disch := omega) only [Tslices_Concat_File_L11b, condF_True, condF_t, condF_f, condF_T, condF_F, condF_not, bindF_some, sumF_inl, sumF_inr, Int.toNat_natCast, wrap_succ, wrap_pred, Option.bind_some, Option.bind_none, Sum.elim_inl, Sum.elim_inr, List.length_append, List.length_cons, List.length_nil, beq_str, less_str, le_str, Bool.not_not, h2, List.append_nil]
    exact Concat_L11b_sp l0 ts hb r (i + 1) h3 (by omega) hn
theorem Concat_sp (ts : List Tree) (hb : ts.length < 1000000000) (hn : ts.flatten.length ≤ 1000000000000) : slices_Concat_File (ts, ()) = some (ts.flatten, ()) := by
  have hM := maxEls_eq
  have e := Concat_L3_sp ts ts (by omega) ts 0 0 rfl (by omega) (by omega)
  simp only [Int.natCast_zero, Nat.zero_add] at e
  rw [slices_Concat_File_eq]
  have hw0 : IntKind.wrap .i64 ((0 : Int) - ((0 : Nat) : Int)) = 0 := by rw [wrap_id (by omega) (by omega)]; rfl
  have hw0' : IntKind.wrap .i64 ((0 : Int) - 0) = 0 := by rw [wrap_id (by omega) (by omega)]; rfl
  have hw : IntKind.wrap .i64 (((ts.flatten.length : Nat) : Int) - 0) = ((ts.flatten.length : Nat) : Int) := by rw [wrap_id (by omega) (by omega)]; omega
  by_cases h0 : ts.flatten.length = 0
  · have hf : ts.flatten = [] := List.eq_nil_of_length_eq_zero h0
    have e2 := Concat_L11b_sp [] ts (by omega) ts 0 rfl (by omega) hf
    simp only [Int.natCast_zero] at e2
    simp (disch := omega) only [Tslices_Concat_File, e, condF_True, condF_t, condF_f, condF_T, condF_F, condF_not, bindF_some, sumF_inl, sumF_inr, Int.toNat_natCast, wrap_succ, wrap_pred, Option.bind_some, Option.bind_none, Sum.elim_inl, Sum.elim_inr, List.length_append, List.length_cons, List.length_nil, beq_str, less_str, le_str, Bool.not_not, hw0, hw, e2]
    rw [hf]
  · obtain ⟨row', e2, e3, e4⟩ := Concat_L11_sp [] ts (by omega) ts 0 0 (List.replicate ts.flatten.length (ByteArray.empty, [], ())) rfl (by omega) (by simp)
    simp only [Int.natCast_zero, Nat.zero_add, List.take_zero, List.nil_append] at e2 e4
    simp only [List.length_replicate] at e3
    simp (disch := omega) only [Tslices_Concat_File, e, condF_True, condF_t, condF_f, condF_T, condF_F, condF_not, bindF_some, sumF_inl, sumF_inr, Int.toNat_natCast, wrap_succ, wrap_pred, Option.bind_some, Option.bind_none, Sum.elim_inl, Sum.elim_inr, List.length_append, List.length_cons, List.length_nil, beq_str, less_str, le_str, Bool.not_not, hw0, hw0', hw, List.length_replicate, Nat.sub_zero, Int.natCast_zero, Int.toNat_zero, Nat.add_zero, e2, List.drop_zero, e4]
def memS (x : Str) (l : List Str) : Bool := l.any fun y => decide (y = x)
theorem memS_iff (x : Str) (l : List Str) : memS x l = true ↔ x ∈ l := by simp [memS]
def uniq : List Str → List Str → List Str
  | seen, [] => seen
  | seen, x :: xs => bif memS x seen then uniq seen xs else uniq (seen ++ [x]) xs
theorem eqK_str (a b : Str) : eqK .str a b = decide (b = a) := by
  show (ByteArray.toList a == ByteArray.toList b) = _
  rw [beq_str, decide_eq_decide]
  exact eq_comm
theorem posK_cons (s : Str) (p : Str × Bool) (m : List (Str × Bool)) : posK .str .bool s (p :: m) = if p.1 = s then some 0 else (posK .str .bool s m).map (· + 1) := by
  unfold posK
  rw [List.findIdx?_cons, eqK_str]
  by_cases h : p.1 = s <;> simp [h]
theorem getK_cons (s : Str) (p : Str × Bool) (m : List (Str × Bool)) : getK .str .bool s false (p :: m) = if p.1 = s then p.2 else getK .str .bool s false m := by
  unfold getK
  rw [posK_cons]
  by_cases h : p.1 = s
  · simp [h]
  · simp only [h, if_false]
    cases posK .str .bool s m <;> simp
theorem putK_cons (k : Str) (p : Str × Bool) (m : List (Str × Bool)) : putK .str .bool k true (p :: m) = if p.1 = k then (k, true) :: m else p :: putK .str .bool k true m := by
  unfold putK
  rw [posK_cons]
  by_cases h : p.1 = k
  · simp [h]
  · simp only [h, if_false]
    cases posK .str .bool k m <;> simp
theorem get_put (s k : Str) : ∀ (m : List (Str × Bool)), getK .str .bool s false (putK .str .bool k true m) = if k = s then true else getK .str .bool s false m
  | [] => by
    have : putK .str .bool k true [] = [(k, true)] := rfl
    rw [this, getK_cons]
  | p :: m => by
    rw [putK_cons, getK_cons]
    by_cases h : p.1 = k
    · subst h
      simp only [if_true]
      rw [getK_cons]
      by_cases hs : p.1 = s <;> simp [hs]
    · simp only [h, if_false]
      rw [getK_cons, get_put s k m]
      by_cases hs : p.1 = s
      · have : ¬ k = s := fun e => h (hs.trans e.symm)
        simp [hs, this]
      · simp [hs]
theorem tree_Names_L4_sp (t : Tree) (hb : t.length ≤ 10000000000) : ∀ (r : Tree) (i : Nat) (o : List Str) (m : List (Str × Bool)), t.drop i = r → i ≤ t.length → o.length ≤ i → m.length ≤ i → (∀ s, getK .str .bool s false m = memS s o) →
    ∃ m', tree_Names_L4 (o, m, t, (t.length : Int), (i : Int), ()) = some (uniq o (r.map (·.1)), m', t, (t.length : Int), (t.length : Int), ())
  | [], i, o, m, h, hi, ho, hm, hs => by
    have := drop_nil h hi
    subst this
    rw [tree_Names_L4_eq]
    simp (disch := omega) only [Ttree_Names_L4, condF_True, condF_t, condF_f, condF_T, condF_F, condF_not, bindF_some, sumF_inl, sumF_inr, Int.toNat_natCast, wrap_succ, wrap_pred, Option.bind_some, Option.bind_none, Sum.elim_inl, Sum.elim_inr, List.length_append, List.length_cons, List.length_nil, beq_str, less_str, le_str, Bool.not_not]
    exact ⟨m, rfl⟩
  | f :: r, i, o, m, h, hi, ho, hm, hs => by
    obtain ⟨h1, h2, h3, h4⟩ := drop_cons h
    have hM := maxEls_eq
    rw [tree_Names_L4_eq]
    cases hf : memS f.1 o with
    | true =>
      simp (disch := omega) only [Ttree_Names_L4, condF_True, condF_t, condF_f, condF_T, condF_F, condF_not, bindF_some, sumF_inl, sumF_inr, Int.toNat_natCast, wrap_succ, wrap_pred, Option.bind_some, Option.bind_none, Sum.elim_inl, Sum.elim_inr, List.length_append, List.length_cons, List.length_nil, beq_str, less_str, le_str, Bool.not_not, h2, hs, hf, decide_true, Bool.not_true]
      obtain ⟨m', e⟩ := tree_Names_L4_sp t hb r (i + 1) o m h3 (by omega) (by omega) (by omega) hs
      refine ⟨m', ?_⟩
      rw [e]
      simp only [List.map_cons, uniq, hf, cond_true]
    | false =>
      simp (disch := omega) only [Ttree_Names_L4, condF_True, condF_t, condF_f, condF_T, condF_F, condF_not, bindF_some, sumF_inl, sumF_inr, Int.toNat_natCast, wrap_succ, wrap_pred, Option.bind_some, Option.bind_none, Sum.elim_inl, Sum.elim_inr, List.length_append, List.length_cons, List.length_nil, beq_str, less_str, le_str, Bool.not_not, h2, hs, hf, decide_false, Bool.not_false]
      obtain ⟨m', e⟩ := tree_Names_L4_sp t hb r (i + 1) (o ++ [f.1]) (putK .str .bool f.1 true m) h3 (by omega) (by simp; omega) (by
        unfold putK; split
        · simp; omega
        · simp; omega) (fun s => by
        rw [get_put, hs]
        by_cases hsf : f.1 = s
        · subst hsf; simp [memS]
        · simp [memS, hsf])
      refine ⟨m', ?_⟩
      rw [e]
      simp only [List.map_cons, uniq, hf, cond_false]
theorem uniq_len : ∀ (xs o : List Str), (uniq o xs).length ≤ o.length + xs.length
  | [], o => by simp [uniq]
  | x :: xs, o => by
    simp only [uniq]
    cases memS x o with
    | true => have := uniq_len xs o; simp; omega
    | false => have := uniq_len xs (o ++ [x]); simp at this ⊢; omega
theorem tree_Names_sp (a b : Tree) (ha : a.length ≤ 1000000000) (hb : b.length ≤ 1000000000) : tree_Names (a, b, ()) = some (sortS (uniq [] ((a ++ b).map (·.1))), ()) := by
  have hM := maxEls_eq
  have hl : (a ++ b).length ≤ 10000000000 := by rw [List.length_append]; omega
  obtain ⟨m', e⟩ := tree_Names_L4_sp (a ++ b) hl (a ++ b) 0 [] [] rfl (by omega) (by simp) (by simp) (fun s => rfl)
  simp only [Int.natCast_zero] at e
  have hc : slices_Concat_File ([a, b], ()) = some (a ++ b, ()) := by
    have := Concat_sp [a, b] (by simp) (by simp; omega)
    simpa using this
  have hu := uniq_len ((a ++ b).map (·.1)) []
  simp only [List.length_map, List.length_nil, Nat.zero_add] at hu
  rw [tree_Names_eq]
  simp (disch := omega) only [Ttree_Names, hc, bindF_some, e, condF_True, condF_t, List.length_nil, sortS_len]
def fa (x : Str) (l : List Str) (d : Nat) : Nat := if (l.findIdx fun y => decide (ltS x y)) < l.length then (l.findIdx fun y => decide (ltS x y)) else d
/-- One name more, at its place. -/
def insN (l : List Str) (x : Str) : List Str := bif memS x l then l else l.take (l.findIdx fun y => decide (ltS x y)) ++ x :: l.drop (l.findIdx fun y => decide (ltS x y))
def Slim (l : List Str) : Prop := ∀ s ∈ l, s.size < 4611686018427387903
def mayR : Option Str → Tree → Bool
  | _, [] => true
  | q, f :: r => nameP f.1 && (allP f.2.1 && ((match q with | some q => decide (ltS q f.1) | none => true) && mayR (some f.1) r))
def mayT (t : Tree) : Bool := mayR none t && decide (t.length ≤ 30)
def SlimT (t : Tree) : Prop := ∀ f ∈ t, f.1.size < 4611686018427387903 ∧ Slim f.2.1 ∧ f.2.1.length < 4611686018427387903
/-- What stands ahead. -/
def prev (t : Tree) (i : Nat) : Option Str := if i = 0 then none else some (t.getD (i - 1) (ByteArray.empty, [], ())).1
theorem prev_zero (t : Tree) : prev t 0 = none := rfl
theorem prev_succ (t : Tree) (i : Nat) {f : File} (h : ∀ d, t.getD i d = f) : prev t (i + 1) = some f.1 := by
  unfold prev; rw [if_neg (by omega), Nat.add_sub_cancel, h]
theorem tree_May_L2_sp (t : Tree) (hs : SlimT t) (hb : t.length < 4611686018427387903) : ∀ (r : Tree) (i : Nat), t.drop i = r → i ≤ t.length →
    ∃ y, tree_May_L2 (t, t, (t.length : Int), (i : Int), ()) = some y ∧ (match y with
      | .inl _ => mayR (prev t i) r = false
      | .inr z => mayR (prev t i) r = true ∧ z.1 = t)
  | [], i, h, hi => by
    have := drop_nil h hi
    subst this
    rw [tree_May_L2_eq]
    simp (disch := omega) only [Ttree_May_L2, condF_True, condF_t, condF_f, condF_T, condF_F, condF_not, bindF_some, sumF_inl, sumF_inr, Int.toNat_natCast, wrap_succ, wrap_pred, Option.bind_some, Option.bind_none, Sum.elim_inl, Sum.elim_inr, List.length_append, List.length_cons, List.length_nil, beq_str, less_str, le_str, Bool.not_not]
    exact ⟨_, rfl, rfl, rfl⟩
  | f :: r, i, h, hi => by
    obtain ⟨h1, h2, h3, h4⟩ := drop_cons h
    obtain ⟨s1, s2, s3⟩ := hs f h4
    obtain ⟨y, e, p⟩ := tree_May_L2_sp t hs hb r (i + 1) h3 (by omega)
    rw [prev_succ t i h2] at p
    rw [tree_May_L2_eq]
    cases hn : nameP f.1 with
    | false =>
      simp (disch := first | omega | assumption) only [Ttree_May_L2, condF_True, condF_t, condF_f, condF_T, condF_F, condF_not, bindF_some, sumF_inl, sumF_inr, Int.toNat_natCast, wrap_succ, wrap_pred, Option.bind_some, Option.bind_none, Sum.elim_inl, Sum.elim_inr, List.length_append, List.length_cons, List.length_nil, beq_str, less_str, le_str, Bool.not_not, h2, text_Name_sp, hn, Bool.not_false]
      exact ⟨_, rfl, by simp [mayR, hn]⟩
    | true =>
      cases ha : allP f.2.1 with
      | false =>
        simp (disch := first | omega | assumption) only [Ttree_May_L2, condF_True, condF_t, condF_f, condF_T, condF_F, condF_not, bindF_some, sumF_inl, sumF_inr, Int.toNat_natCast, wrap_succ, wrap_pred, Option.bind_some, Option.bind_none, Sum.elim_inl, Sum.elim_inr, List.length_append, List.length_cons, List.length_nil, beq_str, less_str, le_str, Bool.not_not, h2, text_Name_sp, hn, Bool.not_true, text_All_sp, ha, Bool.not_false]
        exact ⟨_, rfl, by simp [mayR, hn, ha]⟩
      | true =>
        by_cases h0 : i = 0
        · subst h0
          have hb1 : 0 < t.length := h1
          have hw1 : IntKind.wrap .i64 ((0 : Int) + 1) = 1 := by rw [wrap_id (by omega) (by omega)]; rfl
          simp only [Int.natCast_zero] at *
          simp (disch := first | omega | assumption) only [Ttree_May_L2, condF_True, condF_t, condF_f, condF_T, condF_F, condF_not, bindF_some, sumF_inl, sumF_inr, Int.toNat_natCast, wrap_succ, wrap_pred, Option.bind_some, Option.bind_none, Sum.elim_inl, Sum.elim_inr, List.length_append, List.length_cons, List.length_nil, beq_str, less_str, le_str, Bool.not_not, h2, text_Name_sp, hn, Bool.not_true, text_All_sp, ha, Int.toNat_zero, hw1]
          refine ⟨y, by simpa using e, ?_⟩
          cases y with
          | inl z => simp only at p; simp [mayR, hn, ha, prev_zero, p]
          | inr z => simp only at p; simp [mayR, hn, ha, prev_zero, p]
        · have hp : prev t i = some (t.getD (i - 1) (ByteArray.empty, [], ())).1 := by unfold prev; rw [if_neg h0]
          rw [hp]
          generalize hq : (t.getD (i - 1) (ByteArray.empty, [], ())).1 = q
          by_cases hlt : ltS q f.1
          · simp (disch := first | omega | assumption) only [Ttree_May_L2, condF_True, condF_t, condF_f, condF_T, condF_F, condF_not, bindF_some, sumF_inl, sumF_inr, Int.toNat_natCast, wrap_succ, wrap_pred, Option.bind_some, Option.bind_none, Sum.elim_inl, Sum.elim_inr, List.length_append, List.length_cons, List.length_nil, beq_str, less_str, le_str, Bool.not_not, h2, text_Name_sp, hn, Bool.not_true, text_All_sp, ha, hq, hlt, decide_true]
            refine ⟨y, e, ?_⟩
            cases y with
            | inl z => simp only at p; simp [mayR, hn, ha, hlt, p]
            | inr z => simp only at p; simp [mayR, hn, ha, hlt, p]
          · simp (disch := first | omega | assumption) only [Ttree_May_L2, condF_True, condF_t, condF_f, condF_T, condF_F, condF_not, bindF_some, sumF_inl, sumF_inr, Int.toNat_natCast, wrap_succ, wrap_pred, Option.bind_some, Option.bind_none, Sum.elim_inl, Sum.elim_inr, List.length_append, List.length_cons, List.length_nil, beq_str, less_str, le_str, Bool.not_not, h2, text_Name_sp, hn, Bool.not_true, text_All_sp, ha, hq, hlt, decide_false, Bool.not_false]
            exact ⟨_, rfl, by simp [mayR, hn, ha, hlt]⟩
theorem tree_May_sp (t : Tree) (hs : SlimT t) (hb : t.length < 4611686018427387903) : tree_May (t, ()) = some (mayT t, ()) := by
  rw [tree_May_eq]
  obtain ⟨y, e, p⟩ := tree_May_L2_sp t hs hb t 0 rfl (by omega)
  simp only [Int.natCast_zero, prev_zero] at e p
  cases y with
  | inl z =>
    simp only at p
    simp only [Ttree_May, e, condF_True, condF_t, condF_f, condF_T, condF_F, condF_not, bindF_some, sumF_inl, sumF_inr, Int.toNat_natCast, wrap_succ, wrap_pred, Option.bind_some, Option.bind_none, Sum.elim_inl, Sum.elim_inr, List.length_append, List.length_cons, List.length_nil, beq_str, less_str, le_str, Bool.not_not, mayT, p, Bool.false_and]
  | inr z =>
    obtain ⟨p, rfl⟩ := p
    have hd : decide (((z.1.length : Nat) : Int) ≤ 30) = decide (z.1.length ≤ 30) := by
      rw [decide_eq_decide]; omega
    simp only [Ttree_May, e, condF_True, condF_t, condF_f, condF_T, condF_F, condF_not, bindF_some, sumF_inl, sumF_inr, Int.toNat_natCast, wrap_succ, wrap_pred, Option.bind_some, Option.bind_none, Sum.elim_inl, Sum.elim_inr, List.length_append, List.length_cons, List.length_nil, beq_str, less_str, le_str, Bool.not_not, mayT, p, Bool.true_and, hd]
def lightL (l : List Str) : Bool := l.all fun s => decide (s.size ≤ 200)
theorem law01_Light_L4_sp (l : List Str) (hb : l.length < 4611686018427387903) : ∀ (r : List Str) (i : Nat), l.drop i = r → i ≤ l.length →
    ∃ y, law01_Light_L4 (l, (i : Int), ()) = some y ∧ (match y with
      | .inl _ => lightL r = false
      | .inr _ => lightL r = true)
  | [], i, h, hi => by
    have := drop_nil h hi
    subst this
    rw [law01_Light_L4_eq]
    simp (disch := omega) only [Tlaw01_Light_L4, condF_True, condF_t, condF_f, condF_T, condF_F, condF_not, bindF_some, sumF_inl, sumF_inr, Int.toNat_natCast, wrap_succ, wrap_pred, Option.bind_some, Option.bind_none, Sum.elim_inl, Sum.elim_inr, List.length_append, List.length_cons, List.length_nil, beq_str, less_str, le_str, Bool.not_not]
    exact ⟨_, rfl, rfl⟩
  | c :: r, i, h, hi => by
    obtain ⟨h1, h2, h3, h4⟩ := drop_cons h
    rw [law01_Light_L4_eq]
    by_cases hc : c.size ≤ 200
    · simp (disch := omega) only [Tlaw01_Light_L4, condF_True, condF_t, condF_f, condF_T, condF_F, condF_not, bindF_some, sumF_inl, sumF_inr, Int.toNat_natCast, wrap_succ, wrap_pred, Option.bind_some, Option.bind_none, Sum.elim_inl, Sum.elim_inr, List.length_append, List.length_cons, List.length_nil, beq_str, less_str, le_str, Bool.not_not, h2]
      obtain ⟨y, e, p⟩ := law01_Light_L4_sp l hb r (i + 1) h3 (by omega)
      refine ⟨y, e, ?_⟩
      cases y with
      | inl z => simp only [lightL] at p ⊢; simpa [hc] using p
      | inr z => simp only [lightL] at p ⊢; simpa [hc] using p
    · simp (disch := omega) only [Tlaw01_Light_L4, condF_True, condF_t, condF_f, condF_T, condF_F, condF_not, bindF_some, sumF_inl, sumF_inr, Int.toNat_natCast, wrap_succ, wrap_pred, Option.bind_some, Option.bind_none, Sum.elim_inl, Sum.elim_inr, List.length_append, List.length_cons, List.length_nil, beq_str, less_str, le_str, Bool.not_not, h2]
      exact ⟨_, rfl, by simp [lightL, hc]⟩
theorem law01_Light_sp (l : List Str) (hb : l.length < 4611686018427387903) : law01_Light (l, 300, ()) = some (decide (l.length ≤ 300) && lightL l, ()) := by
  rw [law01_Light_eq]
  by_cases h : l.length ≤ 300
  · obtain ⟨y, e, p⟩ := law01_Light_L4_sp l hb l 0 rfl (by omega)
    simp only [Int.natCast_zero] at e
    cases y with
    | inl z => simp only at p; simp (disch := omega) only [Tlaw01_Light, condF_True, condF_t, condF_f, condF_T, condF_F, condF_not, bindF_some, sumF_inl, sumF_inr, Int.toNat_natCast, wrap_succ, wrap_pred, Option.bind_some, Option.bind_none, Sum.elim_inl, Sum.elim_inr, List.length_append, List.length_cons, List.length_nil, beq_str, less_str, le_str, Bool.not_not, e, p, Bool.and_false]
    | inr z => simp only at p; simp (disch := omega) only [Tlaw01_Light, condF_True, condF_t, condF_f, condF_T, condF_F, condF_not, bindF_some, sumF_inl, sumF_inr, Int.toNat_natCast, wrap_succ, wrap_pred, Option.bind_some, Option.bind_none, Sum.elim_inl, Sum.elim_inr, List.length_append, List.length_cons, List.length_nil, beq_str, less_str, le_str, Bool.not_not, e, p, h, decide_true, Bool.true_and]
  · simp (disch := omega) only [Tlaw01_Light, condF_True, condF_t, condF_f, condF_T, condF_F, condF_not, bindF_some, sumF_inl, sumF_inr, Int.toNat_natCast, wrap_succ, wrap_pred, Option.bind_some, Option.bind_none, Sum.elim_inl, Sum.elim_inr, List.length_append, List.length_cons, List.length_nil, beq_str, less_str, le_str, Bool.not_not, h, decide_false, Bool.false_and]
def lightT (t : Tree) : Bool := t.all fun f => (decide (f.2.1.length ≤ 300) && lightL f.2.1) && decide (f.1.size ≤ 100)
theorem law07_Light_L4_sp (t : Tree) (hs : SlimT t) (hb : t.length < 4611686018427387903) : ∀ (r : Tree) (i : Nat), t.drop i = r → i ≤ t.length →
    ∃ y, law07_Light_L4 (t, (i : Int), ()) = some y ∧ (match y with
      | .inl _ => lightT r = false
      | .inr _ => lightT r = true)
  | [], i, h, hi => by
    have := drop_nil h hi
    subst this
    rw [law07_Light_L4_eq]
    simp (disch := omega) only [Tlaw07_Light_L4, condF_True, condF_t, condF_f, condF_T, condF_F, condF_not, bindF_some, sumF_inl, sumF_inr, Int.toNat_natCast, wrap_succ, wrap_pred, Option.bind_some, Option.bind_none, Sum.elim_inl, Sum.elim_inr, List.length_append, List.length_cons, List.length_nil, beq_str, less_str, le_str, Bool.not_not]
    exact ⟨_, rfl, rfl⟩
  | f :: r, i, h, hi => by
    obtain ⟨h1, h2, h3, h4⟩ := drop_cons h
    obtain ⟨s1, s2, s3⟩ := hs f h4
    rw [law07_Light_L4_eq]
    cases hl : (decide (f.2.1.length ≤ 300) && lightL f.2.1) with
    | false =>
      simp (disch := omega) only [Tlaw07_Light_L4, condF_True, condF_t, condF_f, condF_T, condF_F, condF_not, bindF_some, sumF_inl, sumF_inr, Int.toNat_natCast, wrap_succ, wrap_pred, Option.bind_some, Option.bind_none, Sum.elim_inl, Sum.elim_inr, List.length_append, List.length_cons, List.length_nil, beq_str, less_str, le_str, Bool.not_not, h2, law01_Light_sp, hl, Bool.not_false]
      exact ⟨_, rfl, by simp [lightT, hl]⟩
    | true =>
      by_cases hc : f.1.size ≤ 100
      · simp (disch := omega) only [Tlaw07_Light_L4, condF_True, condF_t, condF_f, condF_T, condF_F, condF_not, bindF_some, sumF_inl, sumF_inr, Int.toNat_natCast, wrap_succ, wrap_pred, Option.bind_some, Option.bind_none, Sum.elim_inl, Sum.elim_inr, List.length_append, List.length_cons, List.length_nil, beq_str, less_str, le_str, Bool.not_not, h2, law01_Light_sp, hl, Bool.not_true]
        obtain ⟨y, e, p⟩ := law07_Light_L4_sp t hs hb r (i + 1) h3 (by omega)
        refine ⟨y, e, ?_⟩
        cases y with
        | inl z => simp only [lightT, List.all_cons, hl, hc, decide_true, Bool.true_and] at p ⊢; exact p
        | inr z => simp only [lightT, List.all_cons, hl, hc, decide_true, Bool.true_and] at p ⊢; exact p
      · simp (disch := omega) only [Tlaw07_Light_L4, condF_True, condF_t, condF_f, condF_T, condF_F, condF_not, bindF_some, sumF_inl, sumF_inr, Int.toNat_natCast, wrap_succ, wrap_pred, Option.bind_some, Option.bind_none, Sum.elim_inl, Sum.elim_inr, List.length_append, List.length_cons, List.length_nil, beq_str, less_str, le_str, Bool.not_not, h2, law01_Light_sp, hl, Bool.not_true]
        exact ⟨_, rfl, by simp [lightT, hc]⟩
theorem law07_Light_sp (t : Tree) (hs : SlimT t) (hb : t.length < 4611686018427387903) : law07_Light (t, ()) = some (decide (t.length ≤ 40) && lightT t, ()) := by
  rw [law07_Light_eq]
  by_cases h : t.length ≤ 40
  · obtain ⟨y, e, p⟩ := law07_Light_L4_sp t hs hb t 0 rfl (by omega)
    simp only [Int.natCast_zero] at e
    cases y with
    | inl z => simp only at p; simp (disch := omega) only [Tlaw07_Light, condF_True, condF_t, condF_f, condF_T, condF_F, condF_not, bindF_some, sumF_inl, sumF_inr, Int.toNat_natCast, wrap_succ, wrap_pred, Option.bind_some, Option.bind_none, Sum.elim_inl, Sum.elim_inr, List.length_append, List.length_cons, List.length_nil, beq_str, less_str, le_str, Bool.not_not, e, p, Bool.and_false]
    | inr z => simp only at p; simp (disch := omega) only [Tlaw07_Light, condF_True, condF_t, condF_f, condF_T, condF_F, condF_not, bindF_some, sumF_inl, sumF_inr, Int.toNat_natCast, wrap_succ, wrap_pred, Option.bind_some, Option.bind_none, Sum.elim_inl, Sum.elim_inr, List.length_append, List.length_cons, List.length_nil, beq_str, less_str, le_str, Bool.not_not, e, p, h, decide_true, Bool.true_and]
  · simp (disch := omega) only [Tlaw07_Light, condF_True, condF_t, condF_f, condF_T, condF_F, condF_not, bindF_some, sumF_inl, sumF_inr, Int.toNat_natCast, wrap_succ, wrap_pred, Option.bind_some, Option.bind_none, Sum.elim_inl, Sum.elim_inr, List.length_append, List.length_cons, List.length_nil, beq_str, less_str, le_str, Bool.not_not, h, decide_false, Bool.false_and]
/-- What a light tree is. -/
theorem light_wee {t : Tree} (h1 : t.length ≤ 40) (h2 : lightT t = true) : t.length ≤ 40 ∧ Wee t ∧ SlimT t := by
  rw [lightT, List.all_eq_true] at h2
  refine ⟨h1, ⟨by omega, fun f hf => ?_⟩, fun f hf => ?_⟩
  · have := h2 f hf
    simp only [Bool.and_eq_true, decide_eq_true_eq] at this
    omega
  · have := h2 f hf
    simp only [Bool.and_eq_true, decide_eq_true_eq, lightL, List.all_eq_true] at this
    refine ⟨by omega, fun s hs => ?_, by omega⟩
    have := this.1.2 s hs
    omega
theorem Wee.set {t : Tree} (h : Wee t) (i : Nat) {f : File} (hf : f.2.1.length ≤ 1000000000) : Wee (t.set i f) := by
  refine ⟨by rw [List.length_set]; exact h.1, fun g hg => ?_⟩
  rcases List.mem_or_eq_of_mem_set hg with hg | rfl
  · exact h.2 g hg
  · exact hf
theorem Wee.put {t : Tree} (h : Wee t) (ht : t.length < 1000000000) (s : Str) {l : List Str} (hl : l.length ≤ 1000000000) : Wee (putT t s l) := by
  unfold putT
  split
  · exact h.set _ hl
  · refine ⟨?_, fun g hg => ?_⟩
    · rw [List.length_append, List.length_cons, List.length_take, List.length_drop]; omega
    · simp only [List.mem_append, List.mem_cons] at hg
      rcases hg with hg | rfl | hg
      · exact h.2 g (List.mem_of_mem_take hg)
      · exact hl
      · exact h.2 g (List.mem_of_mem_drop hg)
theorem Wee.del {t : Tree} (h : Wee t) (s : Str) : Wee (delT t s) := by
  refine ⟨Nat.le_trans (by rw [delT, List.length_eraseIdx]; split <;> omega) h.1, fun g hg => h.2 g (List.mem_of_mem_eraseIdx hg)⟩
theorem put_len (t : Tree) (s : Str) (l : List Str) : (putT t s l).length ≤ t.length + 1 := by
  unfold putT
  split
  · rw [List.length_set]; omega
  · rw [List.length_append, List.length_cons, List.length_take, List.length_drop]; omega
abbrev Rising (l : List Str) : Prop := l.Pairwise ltS
theorem insN_mem {l : List Str} {x y : Str} : y ∈ insN l x ↔ y ∈ l ∨ y = x := by
  unfold insN
  cases h : memS x l with
  | true =>
    have := (memS_iff x l).1 h
    simp only [cond_true]
    constructor
    · exact .inl
    · rintro (h | rfl) <;> assumption
  | false =>
    simp only [cond_false, List.mem_append, List.mem_cons]
    have := List.take_append_drop (l.findIdx fun y => decide (ltS x y)) l
    constructor
    · rintro (h | h | h)
      · exact .inl (List.mem_of_mem_take h)
      · exact .inr h
      · exact .inl (List.mem_of_mem_drop h)
    · rintro (h | h)
      · rw [← this, List.mem_append] at h
        rcases h with h | h
        · exact .inl h
        · exact .inr (.inr h)
      · exact .inr (.inl h)
theorem ahead_lt {x : Str} : ∀ {l : List Str}, memS x l = false → Rising l → (∀ y ∈ l.take (l.findIdx fun y => decide (ltS x y)), ltS y x) ∧ ∀ y ∈ l.drop (l.findIdx fun y => decide (ltS x y)), ltS x y
  | [], _, _ => by simp
  | o :: l, hm, hr => by
    simp only [memS, List.any_cons, Bool.or_eq_false_iff, decide_eq_false_iff_not] at hm
    obtain ⟨hr1, hr2⟩ := List.pairwise_cons.1 hr
    obtain ⟨i1, i2⟩ := ahead_lt (x := x) (l := l) hm.2 hr2
    rw [List.findIdx_cons]
    by_cases h : ltS x o
    · simp only [h, decide_true, cond_true, List.take_zero, List.drop_zero]
      refine ⟨by simp, fun y hy => ?_⟩
      rcases List.mem_cons.1 hy with rfl | hy
      · exact h
      · exact ltS_trans h (hr1 y hy)
    · simp only [h, decide_false, cond_false, List.take_succ_cons, List.drop_succ_cons]
      refine ⟨fun y hy => ?_, i2⟩
      rcases List.mem_cons.1 hy with rfl | hy
      · rcases ltS_total y x with k | k | k
        · exact k
        · exact absurd k hm.1
        · exact absurd k h
      · exact i1 y hy
theorem insN_rising {l : List Str} {x : Str} (h : Rising l) : Rising (insN l x) := by
  unfold insN
  cases hm : memS x l with
  | true => exact h
  | false =>
    obtain ⟨h1, h2⟩ := ahead_lt hm h
    simp only [cond_false]
    rw [Rising, List.pairwise_append]
    refine ⟨h.sublist (List.take_sublist _ _), List.pairwise_cons.2 ⟨h2, h.sublist (List.drop_sublist _ _)⟩, fun a ha b hb => ?_⟩
    rcases List.mem_cons.1 hb with rfl | hb
    · exact h1 a ha
    · exact ltS_trans (h1 a ha) (h2 b hb)
theorem foldl_insN : ∀ (xs l : List Str), Rising l → Rising (xs.foldl insN l) ∧ ∀ y, y ∈ xs.foldl insN l ↔ y ∈ l ∨ y ∈ xs
  | [], l, h => ⟨h, fun y => by simp⟩
  | x :: xs, l, h => by
    obtain ⟨h1, h2⟩ := foldl_insN xs (insN l x) (insN_rising h)
    refine ⟨h1, fun y => ?_⟩
    rw [List.foldl_cons, h2, insN_mem, List.mem_cons]
    constructor
    · rintro ((h | h) | h)
      · exact .inl h
      · exact .inr (.inl h)
      · exact .inr (.inr h)
    · rintro (h | h | h)
      · exact .inl (.inl h)
      · exact .inl (.inr h)
      · exact .inr h
theorem uniq_spec : ∀ (xs o : List Str), o.Nodup → (uniq o xs).Nodup ∧ ∀ y, y ∈ uniq o xs ↔ y ∈ o ∨ y ∈ xs
  | [], o, h => ⟨h, fun y => by simp [uniq]⟩
  | x :: xs, o, h => by
    simp only [uniq]
    cases hm : memS x o with
    | true =>
      have hx := (memS_iff x o).1 hm
      obtain ⟨h1, h2⟩ := uniq_spec xs o h
      refine ⟨h1, fun y => ?_⟩
      simp only [cond_true, h2, List.mem_cons]
      constructor
      · rintro (h | h)
        · exact .inl h
        · exact .inr (.inr h)
      · rintro (h | rfl | h)
        · exact .inl h
        · exact .inl hx
        · exact .inr h
    | false =>
      have hx : ¬ x ∈ o := fun h => by rw [(memS_iff x o).2 h] at hm; cases hm
      obtain ⟨h1, h2⟩ := uniq_spec xs (o ++ [x]) (by rw [List.nodup_append]; exact ⟨h, by simp, fun a ha b hb => by simp at hb; subst hb; exact fun e => hx (e ▸ ha)⟩)
      refine ⟨h1, fun y => ?_⟩
      simp only [cond_false, h2, List.mem_append, List.mem_cons, List.not_mem_nil, or_false, or_assoc]
theorem sortS_rising {l : List Str} (h : l.Nodup) : Rising (sortS l) := by
  have h1 : (sortS l).Pairwise fun a b => decide (a.data.toList ≤ b.data.toList) = true := sortS_sorted l
  have h2 : (sortS l).Nodup := (sortS_perm l).nodup_iff.2 h
  refine (h1.and h2).imp fun {a b} hab => ?_
  obtain ⟨k1, k2⟩ := hab
  rw [decide_eq_true_eq] at k1
  rcases ltS_total a b with k | k | k
  · exact k
  · exact absurd k k2
  · exact absurd k (List.not_lt.2 k1)
theorem sortS_mem {l : List Str} {y : Str} : y ∈ sortS l ↔ y ∈ l := (sortS_perm l).mem_iff
/-- Rising lists of the same names are the same. -/
theorem rising_ext : ∀ {l m : List Str}, Rising l → Rising m → (∀ y, y ∈ l ↔ y ∈ m) → l = m
  | [], [], _, _, _ => rfl
  | [], b :: m, _, _, h => by have := (h b).2 List.mem_cons_self; cases this
  | a :: l, [], _, _, h => by have := (h a).1 List.mem_cons_self; cases this
  | a :: l, b :: m, hl, hm, h => by
    obtain ⟨l1, l2⟩ := List.pairwise_cons.1 hl
    obtain ⟨m1, m2⟩ := List.pairwise_cons.1 hm
    have hab : a = b := by
      rcases List.mem_cons.1 ((h a).1 List.mem_cons_self) with e | e
      · exact e
      · rcases List.mem_cons.1 ((h b).2 List.mem_cons_self) with e' | e'
        · exact e'.symm
        · exact absurd (ltS_trans (m1 a e) (l1 b e')) (ltS_irrefl _)
    subst hab
    congr 1
    refine rising_ext l2 m2 fun y => ?_
    have hy := h y
    simp only [List.mem_cons] at hy
    constructor
    · intro k
      rcases hy.1 (.inr k) with rfl | k'
      · exact absurd (l1 y k) (ltS_irrefl _)
      · exact k'
    · intro k
      rcases hy.2 (.inr k) with rfl | k'
      · exact absurd (m1 y k) (ltS_irrefl _)
      · exact k'
/-- The names of two trees. -/
def namesT (a b : Tree) : List Str := sortS (uniq [] ((a ++ b).map (·.1)))
theorem names_two (a b : Tree) : ((a ++ b).map (·.1)).foldl insN [] = namesT a b := by
  obtain ⟨h1, h2⟩ := foldl_insN ((a ++ b).map (·.1)) [] List.Pairwise.nil
  obtain ⟨h3, h4⟩ := uniq_spec ((a ++ b).map (·.1)) [] List.nodup_nil
  refine rising_ext h1 (sortS_rising h3) fun y => ?_
  rw [h2, namesT, sortS_mem, h4]
theorem names_len (a b : Tree) : (namesT a b).length ≤ a.length + b.length := by
  rw [namesT, sortS_len]
  have := uniq_len ((a ++ b).map (·.1)) []
  simpa using this
/-- Names rise. -/
abbrev RT (t : Tree) : Prop := t.Pairwise fun f g => ltS f.1 g.1
theorem getT_nil (s : Str) : getT [] s = none := rfl
theorem getT_cons (f : File) (t : Tree) (s : Str) : getT (f :: t) s = if f.1 = s then some f.2.1 else getT t s := by
  unfold getT
  rw [List.find?_cons]
  by_cases h : f.1 = s <;> simp [h]
theorem at_cons (f : File) (t : Tree) (s : Str) : at_ (f :: t) s = if f.1 = s then 0 else at_ t s + 1 := by
  unfold at_
  rw [List.findIdx_cons]
  by_cases h : f.1 = s <;> simp [h]
theorem gt_cons (f : File) (t : Tree) (s : Str) : gt_ (f :: t) s = if ltS s f.1 then 0 else gt_ t s + 1 := by
  unfold gt_
  rw [List.findIdx_cons]
  by_cases h : ltS s f.1 <;> simp [h]
theorem at_some (t : Tree) (s : Str) : at_ t s < t.length ↔ (getT t s).isSome = true := by
  rw [getT_at]
  by_cases h : at_ t s < t.length <;> simp [h]
theorem getT_none : ∀ {t : Tree} {s : Str}, (∀ f ∈ t, f.1 ≠ s) → getT t s = none
  | [], _, _ => rfl
  | f :: t, s, h => by
    rw [getT_cons, if_neg (h f List.mem_cons_self)]
    exact getT_none fun g hg => h g (List.mem_cons_of_mem _ hg)
theorem getT_mem : ∀ {t : Tree} {f : File}, f ∈ t → (getT t f.1).isSome = true
  | g :: t, f, h => by
    rw [getT_cons]
    split
    · rfl
    · rcases List.mem_cons.1 h with rfl | h
      · rename_i hn; exact absurd rfl hn
      · exact getT_mem h
theorem getT_in : ∀ {t : Tree} {s : Str} {l : List Str}, getT t s = some l → (s, l, ()) ∈ t
  | f :: t, s, l, h => by
    rw [getT_cons] at h
    split at h
    · rename_i e; subst e; cases h; exact List.mem_cons_self
    · exact List.mem_cons_of_mem _ (getT_in h)
theorem ltS_ne {a b : Str} (h : ltS a b) : a ≠ b := fun e => ltS_irrefl b (e ▸ h)
theorem put_nil (s : Str) (l : List Str) : putT [] s l = [(s, l, ())] := by simp [putT, at_, gt_]
theorem put_same (f : File) (t : Tree) (s : Str) (l : List Str) (h : f.1 = s) : putT (f :: t) s l = (s, l, ()) :: t := by
  unfold putT
  rw [at_cons, if_pos h, if_pos (by simp)]; rfl
theorem put_lt (f : File) (t : Tree) (s : Str) (l : List Str) (h : ltS f.1 s) : putT (f :: t) s l = f :: putT t s l := by
  unfold putT
  rw [at_cons, if_neg (ltS_ne h), gt_cons, if_neg (ltS_asymm h), List.length_cons]
  by_cases k : at_ t s < t.length
  · rw [if_pos (by omega), if_pos k]; rfl
  · rw [if_neg (by omega), if_neg k]; rfl
theorem put_gt (f : File) (t : Tree) (s : Str) (l : List Str) (hr : RT (f :: t)) (h : ltS s f.1) : putT (f :: t) s l = (s, l, ()) :: f :: t := by
  have hn : getT (f :: t) s = none := getT_none fun g hg => by
    rcases List.mem_cons.1 hg with rfl | hg
    · exact (ltS_ne h).symm
    · exact (ltS_ne (ltS_trans h ((List.pairwise_cons.1 hr).1 g hg))).symm
  have ha : ¬ at_ (f :: t) s < (f :: t).length := by rw [at_some, hn]; simp
  unfold putT
  rw [if_neg ha, gt_cons, if_pos h]; rfl
theorem put_mem : ∀ {t : Tree} {s : Str} {l : List Str} {g : File}, g ∈ putT t s l → g = (s, l, ()) ∨ g ∈ t := by
  intro t s l g h
  unfold putT at h
  split at h
  · rcases List.mem_or_eq_of_mem_set h with h | h
    · exact .inr h
    · exact .inl h
  · simp only [List.mem_append, List.mem_cons] at h
    rcases h with h | h | h
    · exact .inr (List.mem_of_mem_take h)
    · exact .inl h
    · exact .inr (List.mem_of_mem_drop h)
theorem put_rising : ∀ {t : Tree} (s : Str) (l : List Str), RT t → RT (putT t s l)
  | [], s, l, _ => by rw [put_nil]; exact List.pairwise_singleton _ _
  | f :: t, s, l, hr => by
    obtain ⟨h1, h2⟩ := List.pairwise_cons.1 hr
    rcases ltS_total f.1 s with h | h | h
    · rw [put_lt _ _ _ _ h]
      refine List.pairwise_cons.2 ⟨fun g hg => ?_, put_rising s l h2⟩
      rcases put_mem hg with rfl | hg
      · exact h
      · exact h1 g hg
    · rw [put_same _ _ _ _ h]
      refine List.pairwise_cons.2 ⟨fun g hg => ?_, h2⟩
      rw [← h]; exact h1 g hg
    · rw [put_gt _ _ _ _ hr h]
      refine List.pairwise_cons.2 ⟨fun g hg => ?_, hr⟩
      rcases List.mem_cons.1 hg with rfl | hg
      · exact h
      · exact ltS_trans h (h1 g hg)
theorem get_putT : ∀ {t : Tree} (s : Str) (l : List Str) (x : Str), RT t → getT (putT t s l) x = if x = s then some l else getT t x
  | [], s, l, x, _ => by
    rw [put_nil, getT_cons]
    by_cases h : x = s
    · rw [if_pos h.symm, if_pos h]
    · rw [if_neg fun e => h e.symm, if_neg h]
  | f :: t, s, l, x, hr => by
    obtain ⟨h1, h2⟩ := List.pairwise_cons.1 hr
    rcases ltS_total f.1 s with h | h | h
    · rw [put_lt _ _ _ _ h, getT_cons, get_putT s l x h2, getT_cons]
      by_cases k : f.1 = x
      · rw [if_pos k, if_pos k, if_neg fun e => ltS_ne h (k.trans e)]
      · rw [if_neg k, if_neg k]
    · rw [put_same _ _ _ _ h, getT_cons, getT_cons]
      by_cases k : x = s
      · rw [if_pos k.symm, if_pos k]
      · rw [if_neg fun e => k e.symm, if_neg k, if_neg fun e => k (e.symm.trans h)]
    · rw [put_gt _ _ _ _ hr h, getT_cons]
      by_cases k : x = s
      · rw [if_pos k.symm, if_pos k]
      · rw [if_neg fun e => k e.symm, if_neg k]
theorem del_nil (s : Str) : delT [] s = [] := rfl
theorem del_cons (f : File) (t : Tree) (s : Str) : delT (f :: t) s = if f.1 = s then t else f :: delT t s := by
  unfold delT
  rw [at_cons]
  by_cases h : f.1 = s
  · rw [if_pos h, if_pos h]; rfl
  · rw [if_neg h, if_neg h]; rfl
theorem del_mem {t : Tree} {s : Str} {g : File} (h : g ∈ delT t s) : g ∈ t := List.mem_of_mem_eraseIdx h
theorem del_rising {t : Tree} (s : Str) (h : RT t) : RT (delT t s) := h.sublist (List.eraseIdx_sublist _ _)
theorem get_delT : ∀ {t : Tree} (s x : Str), RT t → getT (delT t s) x = if x = s then none else getT t x
  | [], s, x, _ => by rw [del_nil, getT_nil]; split <;> rfl
  | f :: t, s, x, hr => by
    obtain ⟨h1, h2⟩ := List.pairwise_cons.1 hr
    rw [del_cons, getT_cons]
    by_cases h : f.1 = s
    · rw [if_pos h]
      by_cases k : x = s
      · rw [if_pos k]
        exact getT_none fun g hg e => ltS_ne (h1 g hg) ((h.trans k.symm).trans e.symm)
      · rw [if_neg k, if_neg fun e => k (e.symm.trans h)]
    · rw [if_neg h, getT_cons, get_delT s x h2]
      by_cases k : f.1 = x
      · rw [if_pos k, if_pos k, if_neg fun e => h (k.trans e)]
      · rw [if_neg k, if_neg k]
theorem del_len (t : Tree) (s : Str) : (delT t s).length ≤ t.length := by
  rw [delT, List.length_eraseIdx]; split <;> omega
theorem tree_ext : ∀ {t u : Tree}, RT t → RT u → (∀ x, getT t x = getT u x) → t = u
  | [], [], _, _, _ => rfl
  | [], g :: u, _, _, h => by
    have := h g.1; rw [getT_nil, getT_cons, if_pos rfl] at this; cases this
  | f :: t, [], _, _, h => by
    have := h f.1; rw [getT_nil, getT_cons, if_pos rfl] at this; cases this
  | f :: t, g :: u, ht, hu, h => by
    obtain ⟨t1, t2⟩ := List.pairwise_cons.1 ht
    obtain ⟨u1, u2⟩ := List.pairwise_cons.1 hu
    have hfg : f.1 = g.1 := by
      rcases ltS_total f.1 g.1 with k | k | k
      · have e : getT (g :: u) f.1 = none := getT_none fun a ha => by
          rcases List.mem_cons.1 ha with rfl | ha
          · exact (ltS_ne k).symm
          · exact (ltS_ne (ltS_trans k (u1 a ha))).symm
        have := h f.1
        rw [e, getT_cons, if_pos rfl] at this; cases this
      · exact k
      · have e : getT (f :: t) g.1 = none := getT_none fun a ha => by
          rcases List.mem_cons.1 ha with rfl | ha
          · exact (ltS_ne k).symm
          · exact (ltS_ne (ltS_trans k (t1 a ha))).symm
        have := h g.1
        rw [e, getT_cons, if_pos rfl] at this; cases this
    have hl := h f.1
    rw [getT_cons, if_pos rfl, getT_cons, if_pos hfg.symm] at hl
    have e : f = g := file_ext hfg (Option.some.inj hl)
    subst e
    congr 1
    refine tree_ext t2 u2 fun x => ?_
    have hx := h x
    rw [getT_cons, getT_cons] at hx
    by_cases k : f.1 = x
    · rw [getT_none fun a ha e => ltS_ne (t1 a ha) (k.trans e.symm), getT_none fun a ha e => ltS_ne (u1 a ha) (k.trans e.symm)]
    · rwa [if_neg k, if_neg k] at hx
theorem mayR_iff : ∀ {t : Tree} {q : Option Str}, mayR q t = true ↔ (∀ f ∈ t, nameP f.1 = true ∧ allP f.2.1 = true) ∧ RT t ∧ ∀ a, q = some a → ∀ f ∈ t, ltS a f.1
  | [], q => by simp [mayR]
  | f :: t, q => by
    have ih := mayR_iff (t := t) (q := some f.1)
    rw [show mayR q (f :: t) = (nameP f.1 && (allP f.2.1 && ((match q with | some q => decide (ltS q f.1) | none => true) && mayR (some f.1) t))) from by cases q <;> rfl, Bool.and_eq_true, Bool.and_eq_true, Bool.and_eq_true, ih, show RT (f :: t) ↔ _ from List.pairwise_cons]
    constructor
    · rintro ⟨h1, h2, h3, h4, h5, h6⟩
      refine ⟨fun g hg => ?_, ⟨h6 _ rfl, h5⟩, fun a ha g hg => ?_⟩
      · rcases List.mem_cons.1 hg with rfl | hg
        · exact ⟨h1, h2⟩
        · exact h4 g hg
      · subst ha
        simp only [decide_eq_true_eq] at h3
        rcases List.mem_cons.1 hg with rfl | hg
        · exact h3
        · exact ltS_trans h3 (h6 _ rfl g hg)
    · rintro ⟨h1, ⟨h2, h3⟩, h4⟩
      refine ⟨(h1 f List.mem_cons_self).1, (h1 f List.mem_cons_self).2, ?_, fun g hg => h1 g (List.mem_cons_of_mem _ hg), h3, fun a ha g hg => ?_⟩
      · cases q with
        | none => rfl
        | some a => exact decide_eq_true (h4 a rfl f List.mem_cons_self)
      · cases ha; exact h2 g hg
theorem mayT_iff {t : Tree} : mayT t = true ↔ (∀ f ∈ t, nameP f.1 = true ∧ allP f.2.1 = true) ∧ RT t ∧ t.length ≤ 30 := by
  rw [mayT, Bool.and_eq_true, mayR_iff, decide_eq_true_eq]
  constructor
  · rintro ⟨⟨h1, h2, _⟩, h3⟩; exact ⟨h1, h2, h3⟩
  · rintro ⟨h1, h2, h3⟩; exact ⟨⟨h1, h2, by simp⟩, h3⟩
theorem may_rising {t : Tree} (h : mayT t = true) : RT t := (mayT_iff.1 h).2.1
theorem del_put {t : Tree} (s : Str) (l : List Str) (h : RT t) (hn : getT t s = none) : delT (putT t s l) s = t := by
  refine tree_ext (del_rising _ (put_rising _ _ h)) h fun x => ?_
  rw [get_delT _ _ (put_rising _ _ h), get_putT _ _ _ h]
  by_cases k : x = s
  · rw [if_pos k, k, hn]
  · rw [if_neg k, if_neg k]
def rowN (a b : List Str) (i : Nat) : List Int := (List.range (b.length + 1)).map fun j => ((lcsN (a.drop i) (b.drop j) : Nat) : Int)
theorem rowN_len (a b : List Str) (i : Nat) : (rowN a b i).length = b.length + 1 := by simp [rowN]
theorem rowN_get (a b : List Str) (i j : Nat) (h : j ≤ b.length) (d : Int) : (rowN a b i).getD j d = ((lcsN (a.drop i) (b.drop j) : Nat) : Int) := by
  rw [rowN, List.getD_eq_getElem?_getD, List.getElem?_map, List.getElem?_range (by omega)]; rfl
theorem tabN_len (a b : List Str) : (tabN a b).length = a.length + 1 := by simp [tabN]
theorem tabN_get (a b : List Str) (i : Nat) (h : i ≤ a.length) (d : List Int) : (tabN a b).getD i d = rowN a b i := by
  rw [tabN, List.getD_eq_getElem?_getD, List.getElem?_map, List.getElem?_range (by omega)]; rfl
theorem rowN_zero (a b : List Str) (i : Nat) (h : a.length ≤ i) : rowN a b i = List.replicate (b.length + 1) 0 := by
  unfold rowN
  rw [List.drop_eq_nil_of_le h]
  simp only [lcsN_nil, Int.natCast_zero]
  apply List.ext_getElem <;> simp
theorem getD_app {α : Type} (x y : List α) (k : Nat) (d : α) (h : k < x.length) : (x ++ y).getD k d = x.getD k d := by
  rw [List.getD_eq_getElem?_getD, List.getElem?_append_left h, ← List.getD_eq_getElem?_getD]
theorem getD_app2 {α : Type} (x y : List α) (k : Nat) (d : α) (h : x.length ≤ k) : (x ++ y).getD k d = y.getD (k - x.length) d := by
  rw [List.getD_eq_getElem?_getD, List.getElem?_append_right h, ← List.getD_eq_getElem?_getD]
theorem getD_drop {α : Type} (x : List α) (i k : Nat) (d : α) : (x.drop i).getD k d = x.getD (i + k) d := by
  rw [List.getD_eq_getElem?_getD, List.getElem?_drop, ← List.getD_eq_getElem?_getD]
theorem getD_take {α : Type} (x : List α) (i k : Nat) (d : α) (h : k < i) : (x.take i).getD k d = x.getD k d := by
  rw [List.getD_eq_getElem?_getD, List.getElem?_take, if_pos h, ← List.getD_eq_getElem?_getD]
/-- The part from the front of one list and the rest of another one. -/
def mixL {α : Type} (k : Nat) (x y : List α) : List α := x.take k ++ y.drop k
theorem mixL_len {α : Type} (k : Nat) (x y : List α) (h : x.length = y.length) : (mixL k x y).length = x.length := by
  simp only [mixL, List.length_append, List.length_take, List.length_drop]; omega
theorem mixL_get {α : Type} (k j : Nat) (x y : List α) (h : x.length = y.length) (hk : k ≤ x.length) (d : α) : (mixL k x y).getD j d = if j < k then x.getD j d else y.getD j d := by
  unfold mixL
  split
  · rename_i hj
    rw [getD_app _ _ _ _ (by rw [List.length_take]; omega), getD_take _ _ _ _ hj]
  · rename_i hj
    rw [getD_app2 _ _ _ _ (by rw [List.length_take]; omega), getD_drop, List.length_take]
    congr 1; omega
theorem mixL_zero {α : Type} (x y : List α) : mixL 0 x y = y := by simp [mixL]
theorem mixL_set {α : Type} (k : Nat) (x y : List α) (h : x.length = y.length) (hk : k < x.length) (d : α) : (mixL (k + 1) x y).set k (y.getD k d) = mixL k x y := by
  apply List.ext_getElem?
  intro i
  have h1 := mixL_len (k + 1) x y h
  have h2 := mixL_len k x y h
  rw [List.getElem?_set, h1]
  split
  · rename_i he
    subst he
    have := mixL_get k k x y h (by omega) d
    rw [if_neg (by omega), List.getD_eq_getElem?_getD, List.getElem?_eq_getElem (by omega)] at this
    rw [List.getElem?_eq_getElem (by omega)]
    simpa using this.symm
  · rename_i he
    by_cases hi : i < x.length
    · have a1 := mixL_get (k + 1) i x y h (by omega) d
      have a2 := mixL_get k i x y h (by omega) d
      rw [List.getD_eq_getElem?_getD, List.getElem?_eq_getElem (by omega)] at a1 a2
      rw [List.getElem?_eq_getElem (by omega), List.getElem?_eq_getElem (by omega)]
      simp only [Option.getD_some] at a1 a2
      rw [a1, a2]
      by_cases hik : i < k
      · rw [if_pos (by omega), if_pos hik]
      · rw [if_neg (by omega), if_neg hik]
    · rw [List.getElem?_eq_none (by omega), List.getElem?_eq_none (by omega)]
theorem drop_at {a : List Str} {i : Nat} (h : i < a.length) : a.drop i = a.getD i ByteArray.empty :: a.drop (i + 1) := by
  rw [List.drop_eq_getElem_cons h, List.getD_eq_getElem?_getD, List.getElem?_eq_getElem h]; rfl
theorem lcs_step (a b : List Str) (i j : Nat) (hi : i < a.length) (hj : j < b.length) (u v : Int) : (rowN a b i).getD j u = if a.getD i ByteArray.empty = b.getD j ByteArray.empty then (rowN a b (i + 1)).getD (j + 1) v + 1 else
    bif decide ((rowN a b (i + 1)).getD j v < (rowN a b i).getD (j + 1) v) then (rowN a b i).getD (j + 1) v else (rowN a b (i + 1)).getD j v := by
  rw [rowN_get _ _ _ _ (by omega), rowN_get _ _ _ _ (by omega), rowN_get _ _ _ _ (by omega), rowN_get _ _ _ _ (by omega), drop_at hi, drop_at hj, lcsN_cons]
  split
  · omega
  · split
    · rename_i h; rw [decide_eq_false (by omega)]; rfl
    · rename_i h; rw [decide_eq_true (by omega)]; rfl
theorem rowN_bd (a b : List Str) (i j : Nat) (d : Int) (hd : d = 0) (hl : b.length < 1000000000) : 0 ≤ (rowN a b i).getD j d ∧ (rowN a b i).getD j d ≤ a.length := by
  by_cases h : j ≤ b.length
  · rw [rowN_get _ _ _ _ h]
    have := lcsN_le (a.drop i) (b.drop j)
    rw [List.length_drop] at this
    omega
  · rw [List.getD_eq_getElem?_getD, List.getElem?_eq_none (by rw [rowN_len]; omega)]
    subst hd
    simp
theorem lcs_rows_L9_sp (t : List (List Int)) (z : List Int) (a b : List Str) (ha : a.length ≤ 1000000000) (hb : b.length < 1000000000) (i : Nat) (hi : i < a.length) : ∀ (k : Nat), k ≤ b.length →
    lcs_rows_L9 (t, z, mixL k (rowN a b (i + 1)) (rowN a b i), a, b, rowN a b (i + 1), (i : Int), (k : Int) - 1, ()) = some (t, z, rowN a b i, a, b, rowN a b (i + 1), (i : Int), -1, ())
  | 0, hk => by
    rw [lcs_rows_L9_eq, mixL_zero]
    simp (disch := omega) only [Tlcs_rows_L9, condF_True, condF_t, condF_f, condF_T, condF_F, condF_not, bindF_some, sumF_inl, sumF_inr, Int.toNat_natCast, wrap_succ, wrap_pred, Option.bind_some, Option.bind_none, Sum.elim_inl, Sum.elim_inr, List.length_append, List.length_cons, List.length_nil, beq_str, less_str, le_str, Bool.not_not]
    rfl
  | k + 1, hk => by
    have hl1 := rowN_len a b (i + 1)
    have hl2 := rowN_len a b i
    have hl := mixL_len (k + 1) (rowN a b (i + 1)) (rowN a b i) (by omega)
    have e0 : (((k + 1 : Nat) : Int) - 1) = (k : Int) := by omega
    have hw : IntKind.wrap .i64 ((k : Int) + 1) = ((k + 1 : Nat) : Int) := wrap_succ (by omega)
    have hw2 : IntKind.wrap .i64 ((k : Int) - 1) = (k : Int) - 1 := wrap_id (by omega) (by omega)
    have ih := lcs_rows_L9_sp t z a b ha hb i hi k (by omega)
    have hm : ∀ d, (mixL (k + 1) (rowN a b (i + 1)) (rowN a b i)).getD (k + 1) d = (rowN a b i).getD (k + 1) d := fun d => by rw [mixL_get _ _ _ _ (by omega) (by omega), if_neg (by omega)]
    have hx : ∀ d, a.getD i d = a.getD i ByteArray.empty := fun d => by
      rw [List.getD_eq_getElem?_getD, List.getD_eq_getElem?_getD, List.getElem?_eq_getElem (by omega)]; rfl
    have hy : ∀ d, b.getD k d = b.getD k ByteArray.empty := fun d => by
      rw [List.getD_eq_getElem?_getD, List.getD_eq_getElem?_getD, List.getElem?_eq_getElem (by omega)]; rfl
    have hs := mixL_set k (rowN a b (i + 1)) (rowN a b i) (by omega) (by omega) 0
    have hst := lcs_step a b i k hi (by omega) 0 0
    have hbd := rowN_bd a b (i + 1) (k + 1) 0 rfl hb
    have hw3 : IntKind.wrap .i64 ((rowN a b (i + 1)).getD (k + 1) 0 + 1) = (rowN a b (i + 1)).getD (k + 1) 0 + 1 := wrap_id (by omega) (by omega)
    have hd : ∀ d : Int, (Ty.dfl (Ty.int IntKind.i64) : Int) = 0 := fun _ => rfl
    rw [lcs_rows_L9_eq, e0]
    by_cases heq : a.getD i ByteArray.empty = b.getD k ByteArray.empty
    · rw [if_pos heq] at hst
      simp (disch := omega) only [Tlcs_rows_L9, condF_True, condF_t, condF_f, condF_T, condF_F, condF_not, bindF_some, sumF_inl, sumF_inr, Int.toNat_natCast, wrap_succ, wrap_pred, Option.bind_some, Option.bind_none, Sum.elim_inl, Sum.elim_inr, List.length_append, List.length_cons, List.length_nil, beq_str, less_str, le_str, Bool.not_not, hw, hw2, hm, hl, List.length_set, List.set_set, heq, decide_true, hx, hy]
      simp only [hd 0, hw3]
      simp only [← hst, hs]
      exact ih
    · rw [if_neg heq] at hst
      simp (disch := omega) only [Tlcs_rows_L9, condF_True, condF_t, condF_f, condF_T, condF_F, condF_not, bindF_some, sumF_inl, sumF_inr, Int.toNat_natCast, wrap_succ, wrap_pred, Option.bind_some, Option.bind_none, Sum.elim_inl, Sum.elim_inr, List.length_append, List.length_cons, List.length_nil, beq_str, less_str, le_str, Bool.not_not, hw, hw2, hm, hl, List.length_set, heq, decide_false, hx, hy]
      simp only [hd 0, ← hst, hs]
      exact ih
theorem overT_all {α : Type} (x y : List α) (h : x.length = y.length) : overT x 0 y = y := by
  simp [overT, h]
theorem lcs_rows_L4_sp (a b : List Str) (ha : a.length ≤ 1000000000) (hb : b.length < 1000000000) : ∀ (k : Nat), k ≤ a.length + 1 → ∀ z : List Int,
    ∃ z' x, lcs_rows_L4 (List.replicate k [] ++ (tabN a b).drop k, z, a, b, rowN a b k, (k : Int) - 1, ()) = some (tabN a b, z', a, b, x, -1, ())
  | 0, hk, z => by
    rw [lcs_rows_L4_eq]
    simp (disch := omega) only [Tlcs_rows_L4, condF_True, condF_t, condF_f, condF_T, condF_F, condF_not, bindF_some, sumF_inl, sumF_inr, Int.toNat_natCast, wrap_succ, wrap_pred, Option.bind_some, Option.bind_none, Sum.elim_inl, Sum.elim_inr, List.length_append, List.length_cons, List.length_nil, beq_str, less_str, le_str, Bool.not_not]
    exact ⟨_, _, rfl⟩
  | k + 1, hk, z => by
    have hM := maxEls_eq
    have hl := rowN_len a b (k + 1)
    have e0 : (((k + 1 : Nat) : Int) - 1) = (k : Int) := by omega
    have hw : IntKind.wrap .i64 ((b.length : Int) + 1) = ((b.length + 1 : Nat) : Int) := wrap_succ (by omega)
    have hw2 : IntKind.wrap .i64 ((k : Int) - 1) = (k : Int) - 1 := wrap_id (by omega) (by omega)
    have hw4 : IntKind.wrap .i64 ((b.length : Int) - 1) = (b.length : Int) - 1 := wrap_id (by omega) (by omega)
    have ho : ∀ x : List Int, x.length = b.length + 1 → overT x 0 ((rowN a b (k + 1)).take (x.length - 0)) = rowN a b (k + 1) := fun x hx => by
      rw [List.take_of_length_le (by omega), overT_all _ _ (by omega)]
    have h9 : ∃ row, row = rowN a b k ∧ ∃ j, lcs_rows_L9 (List.replicate (k + 1) [] ++ (tabN a b).drop (k + 1), z, rowN a b (k + 1), a, b, rowN a b (k + 1), (k : Int), (b.length : Int) - 1, ()) = some (List.replicate (k + 1) [] ++ (tabN a b).drop (k + 1), z, row, a, b, rowN a b (k + 1), (k : Int), j, ()) := by
      by_cases hka : k < a.length
      · refine ⟨_, rfl, -1, ?_⟩
        have := lcs_rows_L9_sp (List.replicate (k + 1) [] ++ (tabN a b).drop (k + 1)) z a b ha hb k hka b.length (Nat.le_refl _)
        have hmx : mixL b.length (rowN a b (k + 1)) (rowN a b k) = rowN a b (k + 1) := by
          apply List.ext_getElem?
          intro i
          have l1 := mixL_len b.length (rowN a b (k + 1)) (rowN a b k) (by rw [rowN_len, rowN_len])
          have l2 := rowN_len a b k
          by_cases hi : i < b.length + 1
          · have q1 := mixL_get b.length i (rowN a b (k + 1)) (rowN a b k) (by rw [rowN_len, rowN_len]) (by omega) 0
            rw [List.getElem?_eq_getElem (by omega), List.getElem?_eq_getElem (by omega)]
            rw [List.getD_eq_getElem?_getD, List.getElem?_eq_getElem (by omega)] at q1
            simp only [Option.getD_some] at q1
            rw [q1]
            by_cases hib : i < b.length
            · rw [if_pos hib, List.getD_eq_getElem?_getD, List.getElem?_eq_getElem (by omega)]; rfl
            · have : i = b.length := by omega
              subst this
              rw [if_neg (by omega), rowN_get _ _ _ _ (Nat.le_refl _)]
              have q2 := rowN_get a b (k + 1) b.length (Nat.le_refl _) 0
              rw [List.getD_eq_getElem?_getD, List.getElem?_eq_getElem (by omega)] at q2
              simp only [Option.getD_some] at q2
              rw [q2]
              rw [List.drop_eq_nil_of_le (Nat.le_refl b.length), lcsN_nil', lcsN_nil']
          · rw [List.getElem?_eq_none (by omega), List.getElem?_eq_none (by omega)]
        rw [hmx] at this
        exact this
      · refine ⟨rowN a b (k + 1), by rw [rowN_zero _ _ _ (by omega), rowN_zero _ _ _ (by omega)], (b.length : Int) - 1, ?_⟩
        rw [lcs_rows_L9_eq]
        by_cases hb0 : b.length = 0
        · simp (disch := omega) only [Tlcs_rows_L9, condF_True, condF_t, condF_f, condF_T, condF_F, condF_not, bindF_some, sumF_inl, sumF_inr, Int.toNat_natCast, wrap_succ, wrap_pred, Option.bind_some, Option.bind_none, Sum.elim_inl, Sum.elim_inr, List.length_append, List.length_cons, List.length_nil, beq_str, less_str, le_str, Bool.not_not]
        · simp (disch := omega) only [Tlcs_rows_L9, condF_True, condF_t, condF_f, condF_T, condF_F, condF_not, bindF_some, sumF_inl, sumF_inr, Int.toNat_natCast, wrap_succ, wrap_pred, Option.bind_some, Option.bind_none, Sum.elim_inl, Sum.elim_inr, List.length_append, List.length_cons, List.length_nil, beq_str, less_str, le_str, Bool.not_not]
    obtain ⟨row, hrow, j, e9⟩ := h9
    subst hrow
    have htl := tabN_len a b
    have hset : (List.replicate (k + 1) [] ++ (tabN a b).drop (k + 1)).set k (rowN a b k) = List.replicate k [] ++ (tabN a b).drop k := by
      have e1 : List.replicate (k + 1) ([] : List Int) = List.replicate k [] ++ [[]] := List.replicate_succ'
      have e2 : (tabN a b).drop k = rowN a b k :: (tabN a b).drop (k + 1) := by
        rw [List.drop_eq_getElem_cons (by omega)]
        have := tabN_get a b k (by omega) []
        rw [List.getD_eq_getElem?_getD, List.getElem?_eq_getElem (by omega)] at this
        simp only [Option.getD_some] at this
        rw [this]
      rw [e1, e2, List.append_assoc, List.set_append_right _ _ (by simp), List.length_replicate, Nat.sub_self]
      rfl
    obtain ⟨z', x, ih⟩ := lcs_rows_L4_sp a b ha hb k (by omega) z
    refine ⟨z', x, ?_⟩
    have hll : (List.replicate (k + 1) ([] : List Int) ++ (tabN a b).drop (k + 1)).length = a.length + 1 := by
      rw [List.length_append, List.length_replicate, List.length_drop, htl]; omega
    rw [lcs_rows_L4_eq, e0]
    simp (disch := first | omega | (simp only [List.length_replicate]; omega)) only [Tlcs_rows_L4, condF_True, condF_t, bindF_some, Int.toNat_natCast, hw, hw2, hw4, List.length_replicate, ho, Nat.sub_zero, hl, e9, hll, List.length_set, hset, Option.bind_some, Sum.elim_inl, List.take_of_length_le, overT_all]
    exact ih
theorem lcs_rows_sp (a b : List Str) (ha : a.length ≤ 1000000000) (hb : b.length < 1000000000) : lcs_rows (a, b, ()) = some (tabN a b, ()) := by
  have hM := maxEls_eq
  obtain ⟨z', x, e⟩ := lcs_rows_L4_sp a b ha hb (a.length + 1) (Nat.le_refl _) (List.replicate (b.length + 1) 0)
  rw [rowN_zero _ _ _ (by omega), List.drop_eq_nil_of_le (by rw [tabN_len]; exact Nat.le_refl _), List.append_nil] at e
  have e0 : (((a.length + 1 : Nat) : Int) - 1) = (a.length : Int) := by omega
  rw [e0] at e
  have hw : IntKind.wrap .i64 ((b.length : Int) + 1) = ((b.length + 1 : Nat) : Int) := wrap_succ (by omega)
  have hw2 : IntKind.wrap .i64 ((a.length : Int) + 1) = ((a.length + 1 : Nat) : Int) := wrap_succ (by omega)
  rw [lcs_rows_eq]
  simp (disch := first | omega | (simp only [List.length_replicate]; omega)) only [Tlcs_rows, condF_True, condF_t, bindF_some, Int.toNat_natCast, hw, hw2, e]
abbrev Pair := Int × Int × Unit
/-- The document's pairs. -/
def pairsF : List Str → List Str → Int → Int → List Pair
  | x :: xs, y :: ys, i, j => if x = y then (i, j, ()) :: pairsF xs ys (i + 1) (j + 1) else if lcsN (x :: xs) ys ≤ lcsN xs (y :: ys) then pairsF xs (y :: ys) (i + 1) j else pairsF (x :: xs) ys i (j + 1)
  | _, _, _, _ => []
termination_by a b => a.length + b.length
theorem pairsF_nil (b : List Str) (i j : Int) : pairsF [] b i j = [] := by rw [pairsF]; intros; simp_all
theorem pairsF_nil' (a : List Str) (i j : Int) : pairsF a [] i j = [] := by cases a <;> (rw [pairsF]; intros; simp_all)
theorem pairsF_cons (x y : Str) (xs ys : List Str) (i j : Int) : pairsF (x :: xs) (y :: ys) i j = if x = y then (i, j, ()) :: pairsF xs ys (i + 1) (j + 1) else if lcsN (x :: xs) ys ≤ lcsN xs (y :: ys) then pairsF xs (y :: ys) (i + 1) j else pairsF (x :: xs) ys i (j + 1) := by rw [pairsF]
theorem pairsF_at {a b : List Str} {i j : Nat} (hi : i < a.length) (hj : j < b.length) : pairsF (a.drop i) (b.drop j) i j = if a.getD i ByteArray.empty = b.getD j ByteArray.empty then ((i : Int), (j : Int), ()) :: pairsF (a.drop (i + 1)) (b.drop (j + 1)) ((i + 1 : Nat) : Int) ((j + 1 : Nat) : Int)
    else if (rowN a b i).getD (j + 1) 0 ≤ (rowN a b (i + 1)).getD j 0 then pairsF (a.drop (i + 1)) (b.drop j) ((i + 1 : Nat) : Int) j else pairsF (a.drop i) (b.drop (j + 1)) i ((j + 1 : Nat) : Int) := by
  rw [rowN_get _ _ _ _ (by omega), rowN_get _ _ _ _ (by omega), drop_at hi, drop_at hj, pairsF_cons]
  simp only [Int.natCast_add, Int.natCast_one, Int.ofNat_le]
theorem getD_same {α : Type} (l : List α) (k : Nat) (h : k < l.length) (d d' : α) : l.getD k d = l.getD k d' := by
  rw [List.getD_eq_getElem?_getD, List.getD_eq_getElem?_getD, List.getElem?_eq_getElem h]; rfl
theorem lcs_steps_sp (a b : List Str) (ha : a.length ≤ 1000000000) (hb : b.length < 1000000000) : ∀ (n i j : Nat) (l : List Pair), (a.length - i) + (b.length - j) ≤ n → i ≤ a.length → j ≤ b.length → l.length ≤ i →
    ∃ x y, lcs_steps_1_L2 (l, a, b, tabN a b, (i : Int), (j : Int), ()) = some (l ++ pairsF (a.drop i) (b.drop j) i j, a, b, tabN a b, x, y, ()) := by
  have hM := maxEls_eq
  intro n
  induction n with
  | zero =>
    intro i j l hn hi hj hl
    have e1 : i = a.length := by omega
    subst e1
    rw [lcs_steps_1_L2_eq]
    simp (disch := omega) only [Tlcs_steps_1_L2, condF_True, condF_t, condF_f, condF_T, condF_F, condF_not, bindF_some, sumF_inl, sumF_inr, Int.toNat_natCast, wrap_succ, wrap_pred, Option.bind_some, Option.bind_none, Sum.elim_inl, Sum.elim_inr, List.length_append, List.length_cons, List.length_nil, beq_str, less_str, le_str, Bool.not_not]
    rw [List.drop_eq_nil_of_le (Nat.le_refl _), pairsF_nil, List.append_nil]
    exact ⟨_, _, rfl⟩
  | succ n ih =>
    intro i j l hn hi hj hl
    by_cases hia : i = a.length
    · subst hia
      rw [lcs_steps_1_L2_eq]
      simp (disch := omega) only [Tlcs_steps_1_L2, condF_True, condF_t, condF_f, condF_T, condF_F, condF_not, bindF_some, sumF_inl, sumF_inr, Int.toNat_natCast, wrap_succ, wrap_pred, Option.bind_some, Option.bind_none, Sum.elim_inl, Sum.elim_inr, List.length_append, List.length_cons, List.length_nil, beq_str, less_str, le_str, Bool.not_not]
      rw [List.drop_eq_nil_of_le (Nat.le_refl _), pairsF_nil, List.append_nil]
      exact ⟨_, _, rfl⟩
    · by_cases hjb : j = b.length
      · subst hjb
        rw [lcs_steps_1_L2_eq]
        simp (disch := omega) only [Tlcs_steps_1_L2, condF_True, condF_t, condF_f, condF_T, condF_F, condF_not, bindF_some, sumF_inl, sumF_inr, Int.toNat_natCast, wrap_succ, wrap_pred, Option.bind_some, Option.bind_none, Sum.elim_inl, Sum.elim_inr, List.length_append, List.length_cons, List.length_nil, beq_str, less_str, le_str, Bool.not_not]
        rw [List.drop_eq_nil_of_le (Nat.le_refl b.length), pairsF_nil', List.append_nil]
        exact ⟨_, _, rfl⟩
      · have hw : IntKind.wrap .i64 ((i : Int) + 1) = ((i + 1 : Nat) : Int) := wrap_succ (by omega)
        have hw2 : IntKind.wrap .i64 ((j : Int) + 1) = ((j + 1 : Nat) : Int) := wrap_succ (by omega)
        have hx := getD_same a i (by omega)
        have hy := getD_same b j (by omega)
        have ht1 := tabN_get a b i (by omega)
        have ht2 := tabN_get a b (i + 1) (by omega)
        have hr1 := rowN_len a b i
        have hr2 := rowN_len a b (i + 1)
        have htl := tabN_len a b
        rw [lcs_steps_1_L2_eq, pairsF_at (by omega) (by omega)]
        by_cases heq : a.getD i ByteArray.empty = b.getD j ByteArray.empty
        · obtain ⟨x, y, e⟩ := ih (i + 1) (j + 1) (l ++ [((i : Int), (j : Int), ())]) (by omega) (by omega) (by omega) (by simp; omega)
          refine ⟨x, y, ?_⟩
          simp (disch := omega) only [Tlcs_steps_1_L2, condF_True, condF_t, condF_f, condF_T, condF_F, condF_not, bindF_some, sumF_inl, sumF_inr, Int.toNat_natCast, wrap_succ, wrap_pred, Option.bind_some, Option.bind_none, Sum.elim_inl, Sum.elim_inr, List.length_append, List.length_cons, List.length_nil, beq_str, less_str, le_str, Bool.not_not, hw, hw2, heq, decide_true, e, if_true]
          rw [List.append_assoc]; rfl
        · rw [if_neg heq]
          by_cases hc : (rowN a b i).getD (j + 1) 0 ≤ (rowN a b (i + 1)).getD j 0
          · obtain ⟨x, y, e⟩ := ih (i + 1) j l (by omega) (by omega) (by omega) (by omega)
            refine ⟨x, y, ?_⟩
            rw [if_pos hc]
            simp (disch := omega) only [Tlcs_steps_1_L2, condF_True, condF_t, condF_f, condF_T, condF_F, condF_not, bindF_some, sumF_inl, sumF_inr, Int.toNat_natCast, wrap_succ, wrap_pred, Option.bind_some, Option.bind_none, Sum.elim_inl, Sum.elim_inr, List.length_append, List.length_cons, List.length_nil, beq_str, less_str, le_str, Bool.not_not, hw, hw2, heq, decide_false, ht1, ht2, e]
          · obtain ⟨x, y, e⟩ := ih i (j + 1) l (by omega) (by omega) (by omega) (by omega)
            refine ⟨x, y, ?_⟩
            rw [if_neg hc]
            simp (disch := omega) only [Tlcs_steps_1_L2, condF_True, condF_t, condF_f, condF_T, condF_F, condF_not, bindF_some, sumF_inl, sumF_inr, Int.toNat_natCast, wrap_succ, wrap_pred, Option.bind_some, Option.bind_none, Sum.elim_inl, Sum.elim_inr, List.length_append, List.length_cons, List.length_nil, beq_str, less_str, le_str, Bool.not_not, hw, hw2, heq, decide_false, ht1, ht2, e]
theorem lcs_Pairs_sp (a b : List Str) (ha : a.length ≤ 1000000000) (hb : b.length < 1000000000) : lcs_Pairs (a, b, ()) = some (pairsF a b 0 0, ()) := by
  obtain ⟨x, y, e⟩ := lcs_steps_sp a b ha hb _ 0 0 [] (Nat.le_refl _) (by omega) (by omega) (by simp)
  simp only [Int.natCast_zero, List.drop_zero, List.nil_append] at e
  rw [lcs_Pairs_eq]
  simp (disch := omega) only [Tlcs_Pairs, condF_True, condF_t, condF_f, condF_T, condF_F, condF_not, bindF_some, sumF_inl, sumF_inr, Int.toNat_natCast, wrap_succ, wrap_pred, Option.bind_some, Option.bind_none, Sum.elim_inl, Sum.elim_inr, List.length_append, List.length_cons, List.length_nil, beq_str, less_str, le_str, Bool.not_not, lcs_rows_sp a b ha hb, e]
abbrev Edit := Int × Int × List Str × Unit
abbrev Hunk := Int × List Str × List Str × Unit
abbrev Prim := Int × Str × Str × Hunk × Unit
/-- Edits of pairs of places. -/
def editsF (b : List Str) : List Pair → Int → Int → List Edit
  | [], _, _ => []
  | p :: ps, i, j => (if p.1 > i ∨ p.2.1 > j then [(i, p.1 - i, (b.drop j.toNat).take (p.2.1.toNat - j.toNat), ())] else []) ++ editsF b ps (p.1 + 1) (p.2.1 + 1)
/-- Pairs rise, and stay below. -/
def OkE (n m : Nat) : List Pair → Int → Int → Prop
  | [], _, _ => True
  | p :: ps, i, j => i ≤ p.1 ∧ p.1 ≤ n ∧ j ≤ p.2.1 ∧ p.2.1 ≤ m ∧ OkE n m ps (p.1 + 1) (p.2.1 + 1)
theorem pairsF_ok (n m : Nat) : ∀ (a b : List Str) (i j : Int), i + a.length ≤ n → j + b.length ≤ m → OkE n m (pairsF a b i j ++ [((n : Int), (m : Int), ())]) i j
  | [], b, i, j, h1, h2 => by rw [pairsF_nil]; simp only [List.length_nil, List.nil_append, OkE] at *; exact ⟨by omega, by omega, by omega, by omega, trivial⟩
  | x :: xs, [], i, j, h1, h2 => by rw [pairsF_nil']; simp only [List.length_nil, List.nil_append, OkE] at *; exact ⟨by omega, by omega, by omega, by omega, trivial⟩
  | x :: xs, y :: ys, i, j, h1, h2 => by
    rw [pairsF_cons]
    simp only [List.length_cons] at h1 h2
    split
    · rw [List.cons_append]
      exact ⟨by simp, by simp; omega, by simp, by simp; omega, pairsF_ok n m xs ys (i + 1) (j + 1) (by omega) (by omega)⟩
    · have weak : ∀ (ps : List Pair) (i j i' j' : Int), i' ≤ i → j' ≤ j → OkE n m ps i j → OkE n m ps i' j' := fun ps i j i' j' hi hj h => by
        cases ps with
        | nil => trivial
        | cons p ps => exact ⟨by have := h.1; omega, h.2.1, by have := h.2.2.1; omega, h.2.2.2⟩
      split
      · exact weak _ _ _ _ _ (by omega) (by omega) (pairsF_ok n m xs (y :: ys) (i + 1) j (by omega) (by simp only [List.length_cons]; omega))
      · exact weak _ _ _ _ _ (by omega) (by omega) (pairsF_ok n m (x :: xs) ys i (j + 1) (by simp only [List.length_cons]; omega) (by omega))
termination_by a b => a.length + b.length
theorem pairsF_len : ∀ (a b : List Str) (i j : Int), (pairsF a b i j).length ≤ a.length
  | [], b, i, j => by rw [pairsF_nil]; simp
  | x :: xs, [], i, j => by rw [pairsF_nil']; simp
  | x :: xs, y :: ys, i, j => by
    have h1 := pairsF_len xs ys (i + 1) (j + 1)
    have h2 := pairsF_len xs (y :: ys) (i + 1) j
    have h3 := pairsF_len (x :: xs) ys i (j + 1)
    rw [pairsF_cons]
    simp only [List.length_cons] at *
    split
    · simp only [List.length_cons]; omega
    · split <;> omega
termination_by a b => a.length + b.length
/-- The edits from one list to another one. -/
def editsG (a b : List Str) : List Edit := editsF b (pairsF a b 0 0 ++ [((a.length : Int), (b.length : Int), ())]) 0 0
theorem diff_Edits_L5_sp (n : Nat) (ps : List Pair) (a b : List Str) (q : Pair) (hn : n ≤ 1000000000) (hb : b.length ≤ 1000000000) (hp : ps.length ≤ 2000000000) : ∀ (r : List Pair) (k : Nat) (l : List Edit) (i j : Int), ps.drop k = r → k ≤ ps.length → l.length ≤ k → 0 ≤ i → 0 ≤ j → OkE n b.length (r ++ [q]) i j →
    ∃ l' x y, diff_Edits_L5 (l, b, i, j, a, ps, (ps.length : Int), (k : Int), ()) = some (l', b, x, y, a, ps, (ps.length : Int), (ps.length : Int), ()) ∧ l' ++ editsF b [q] x y = l ++ editsF b (r ++ [q]) i j ∧ OkE n b.length [q] x y ∧ 0 ≤ x ∧ 0 ≤ y ∧ l'.length ≤ ps.length
  | [], k, l, i, j, h, hk, hl, hi, hj, ho => by
    have := drop_nil h hk
    subst this
    rw [diff_Edits_L5_eq]
    simp (disch := omega) only [Tdiff_Edits_L5, condF_True, condF_t, condF_f, condF_T, condF_F, condF_not, bindF_some, sumF_inl, sumF_inr, Int.toNat_natCast, wrap_succ, wrap_pred, Option.bind_some, Option.bind_none, Sum.elim_inl, Sum.elim_inr, List.length_append, List.length_cons, List.length_nil, beq_str, less_str, le_str, Bool.not_not]
    exact ⟨_, _, _, rfl, rfl, ho, hi, hj, hl⟩
  | p :: r, k, l, i, j, h, hk, hl, hi, hj, ho => by
    obtain ⟨h1, h2, h3, h4⟩ := drop_cons h
    obtain ⟨o1, o2, o3, o4, o5⟩ := ho
    have hM := maxEls_eq
    have hw1 : IntKind.wrap .i64 (p.1 + 1) = p.1 + 1 := wrap_id (by omega) (by omega)
    have hw2 : IntKind.wrap .i64 (p.2.1 + 1) = p.2.1 + 1 := wrap_id (by omega) (by omega)
    have hw3 : IntKind.wrap .i64 (p.1 - i) = p.1 - i := wrap_id (by omega) (by omega)
    have ht : ((b.drop j.toNat).take (p.2.1.toNat - j.toNat)).length ≤ 1000000000 := by rw [List.length_take, List.length_drop]; omega
    rw [diff_Edits_L5_eq, List.cons_append, editsF]
    by_cases hc : p.1 > i ∨ p.2.1 > j
    · obtain ⟨l', x, y, e, e2, e3⟩ := diff_Edits_L5_sp n ps a b q hn hb hp r (k + 1) (l ++ [(i, p.1 - i, (b.drop j.toNat).take (p.2.1.toNat - j.toNat), ())]) (p.1 + 1) (p.2.1 + 1) h3 (by omega) (by simp; omega) (by omega) (by omega) o5
      refine ⟨l', x, y, ?_, by rw [e2, if_pos hc, List.append_assoc], e3⟩
      by_cases hc1 : p.1 > i
      · simp (disch := omega) only [Tdiff_Edits_L5, condF_True, condF_t, condF_f, condF_T, condF_F, condF_not, bindF_some, sumF_inl, sumF_inr, Int.toNat_natCast, wrap_succ, wrap_pred, Option.bind_some, Option.bind_none, Sum.elim_inl, Sum.elim_inr, List.length_append, List.length_cons, List.length_nil, beq_str, less_str, le_str, Bool.not_not, h2, hw1, hw2, hw3, e]
      · simp (disch := omega) only [Tdiff_Edits_L5, condF_True, condF_t, condF_f, condF_T, condF_F, condF_not, bindF_some, sumF_inl, sumF_inr, Int.toNat_natCast, wrap_succ, wrap_pred, Option.bind_some, Option.bind_none, Sum.elim_inl, Sum.elim_inr, List.length_append, List.length_cons, List.length_nil, beq_str, less_str, le_str, Bool.not_not, h2, hw1, hw2, hw3, e]
    · obtain ⟨l', x, y, e, e2, e3⟩ := diff_Edits_L5_sp n ps a b q hn hb hp r (k + 1) l (p.1 + 1) (p.2.1 + 1) h3 (by omega) (by omega) (by omega) (by omega) o5
      refine ⟨l', x, y, ?_, by rw [e2, if_neg hc, List.nil_append], e3⟩
      simp (disch := omega) only [Tdiff_Edits_L5, condF_True, condF_t, condF_f, condF_T, condF_F, condF_not, bindF_some, sumF_inl, sumF_inr, Int.toNat_natCast, wrap_succ, wrap_pred, Option.bind_some, Option.bind_none, Sum.elim_inl, Sum.elim_inr, List.length_append, List.length_cons, List.length_nil, beq_str, less_str, le_str, Bool.not_not, h2, hw1, hw2, hw3, e]
theorem diff_Edits_sp (a b : List Str) (ha : a.length ≤ 1000000000) (hb : b.length < 1000000000) : diff_Edits (a, b, ()) = some (editsG a b, ()) := by
  have hM := maxEls_eq
  have hpl := pairsF_len a b 0 0
  obtain ⟨l', x, y, e, e2, e3, e4, e5, e6⟩ := diff_Edits_L5_sp a.length (pairsF a b 0 0) a b ((a.length : Int), (b.length : Int), ()) ha (by omega) (by omega) _ 0 [] 0 0 rfl (by omega) (by simp) (by omega) (by omega) (pairsF_ok a.length b.length a b 0 0 (by omega) (by omega))
  simp only [Int.natCast_zero, List.nil_append] at e e2
  obtain ⟨o1, o2, o3, o4, _⟩ := e3
  simp only at o1 o3
  have hw3 : IntKind.wrap .i64 ((a.length : Int) - x) = (a.length : Int) - x := wrap_id (by omega) (by omega)
  have ht : ((b.drop y.toNat).take (b.length - y.toNat)).length ≤ 1000000000 := by rw [List.length_take, List.length_drop]; omega
  have he : editsG a b = l' ++ editsF b [((a.length : Int), (b.length : Int), ())] x y := by rw [e2]; rfl
  rw [diff_Edits_eq, he, editsF]
  by_cases hc1 : (a.length : Int) > x
  · rw [if_pos (.inl hc1)]
    simp (disch := omega) only [Tdiff_Edits, condF_True, condF_t, condF_f, condF_T, condF_F, condF_not, bindF_some, sumF_inl, sumF_inr, Int.toNat_natCast, wrap_succ, wrap_pred, Option.bind_some, Option.bind_none, Sum.elim_inl, Sum.elim_inr, List.length_append, List.length_cons, List.length_nil, beq_str, less_str, le_str, Bool.not_not, lcs_Pairs_sp a b ha hb, e, hw3, editsF]
    rfl
  · by_cases hc2 : (b.length : Int) > y
    · rw [if_pos (.inr hc2)]
      simp (disch := omega) only [Tdiff_Edits, condF_True, condF_t, condF_f, condF_T, condF_F, condF_not, bindF_some, sumF_inl, sumF_inr, Int.toNat_natCast, wrap_succ, wrap_pred, Option.bind_some, Option.bind_none, Sum.elim_inl, Sum.elim_inr, List.length_append, List.length_cons, List.length_nil, beq_str, less_str, le_str, Bool.not_not, lcs_Pairs_sp a b ha hb, e, hw3, editsF]
      rfl
    · rw [if_neg (by simp only; omega)]
      simp (disch := omega) only [Tdiff_Edits, condF_True, condF_t, condF_f, condF_T, condF_F, condF_not, bindF_some, sumF_inl, sumF_inr, Int.toNat_natCast, wrap_succ, wrap_pred, Option.bind_some, Option.bind_none, Sum.elim_inl, Sum.elim_inr, List.length_append, List.length_cons, List.length_nil, beq_str, less_str, le_str, Bool.not_not, lcs_Pairs_sp a b ha hb, e, hw3, editsF]
      simp
/-- Hunks of edits. -/
def hunksF (a : List Str) : List Edit → Int → List Hunk
  | [], _ => []
  | e :: es, by_ => (e.1 + by_, (a.drop e.1.toNat).take ((e.1 + e.2.1).toNat - e.1.toNat), e.2.2.1, ()) :: hunksF a es (by_ + e.2.2.1.length - e.2.1)
def EdOK (a : List Str) (e : Edit) : Prop := 0 ≤ e.1 ∧ 0 ≤ e.2.1 ∧ e.1 + e.2.1 ≤ a.length ∧ e.2.2.1.length ≤ 1000000000
theorem hunk_Of_L4_sp (a : List Str) (es : List Edit) (ha : a.length ≤ 1000000000) (he : ∀ e ∈ es, EdOK a e) (hs : es.length ≤ 1000000001) : ∀ (r : List Edit) (k : Nat) (l : List Hunk) (by_ : Int), es.drop k = r → k ≤ es.length → l.length ≤ k → -(k * 1000000000 : Int) ≤ by_ → by_ ≤ k * 1000000000 →
    ∃ x y, hunk_Of_L4 (l, a, by_, es, (es.length : Int), (k : Int), ()) = some (l ++ hunksF a r by_, a, x, es, (es.length : Int), y, ()) := by
  intro r
  induction r with
  | nil =>
    intro k l by_ h hk hl hb1 hb2
    have := drop_nil h hk
    subst this
    rw [hunk_Of_L4_eq]
    simp (disch := omega) only [Thunk_Of_L4, condF_True, condF_t, condF_f, condF_T, condF_F, condF_not, bindF_some, sumF_inl, sumF_inr, Int.toNat_natCast, wrap_succ, wrap_pred, Option.bind_some, Option.bind_none, Sum.elim_inl, Sum.elim_inr, List.length_append, List.length_cons, List.length_nil, beq_str, less_str, le_str, Bool.not_not, hunksF, List.append_nil]
    exact ⟨_, _, rfl⟩
  | cons e r ih =>
    intro k l by_ h hk hl hb1 hb2
    obtain ⟨h1, h2, h3, h4⟩ := drop_cons h
    obtain ⟨o1, o2, o3, o4⟩ := he e h4
    have hM := maxEls_eq
    have hw1 : IntKind.wrap .i64 (e.1 + e.2.1) = e.1 + e.2.1 := wrap_id (by omega) (by omega)
    have hw2 : IntKind.wrap .i64 (e.1 + by_) = e.1 + by_ := wrap_id (by omega) (by omega)
    have hw3 : IntKind.wrap .i64 ((e.2.2.1.length : Int) - e.2.1) = (e.2.2.1.length : Int) - e.2.1 := wrap_id (by omega) (by omega)
    have hw4 : IntKind.wrap .i64 (by_ + ((e.2.2.1.length : Int) - e.2.1)) = by_ + e.2.2.1.length - e.2.1 := by rw [wrap_id (by omega) (by omega)]; omega
    have ht : ((a.drop e.1.toNat).take ((e.1 + e.2.1).toNat - e.1.toNat)).length ≤ 1000000000 := by rw [List.length_take, List.length_drop]; omega
    obtain ⟨x, y, e9⟩ := ih (k + 1) (l ++ [(e.1 + by_, (a.drop e.1.toNat).take ((e.1 + e.2.1).toNat - e.1.toNat), e.2.2.1, ())]) (by_ + e.2.2.1.length - e.2.1) h3 (by omega) (by simp; omega) (by omega) (by omega)
    refine ⟨x, y, ?_⟩
    rw [hunk_Of_L4_eq, hunksF]
    simp (disch := omega) only [Thunk_Of_L4, condF_True, condF_t, condF_f, condF_T, condF_F, condF_not, bindF_some, sumF_inl, sumF_inr, Int.toNat_natCast, wrap_succ, wrap_pred, Option.bind_some, Option.bind_none, Sum.elim_inl, Sum.elim_inr, List.length_append, List.length_cons, List.length_nil, beq_str, less_str, le_str, Bool.not_not, h2, hw1, hw2, hw3, hw4, e9]
    rw [List.append_assoc]; rfl
theorem editsF_ok (n : Nat) (a b : List Str) (ha : n ≤ a.length) (hb : b.length ≤ 1000000000) : ∀ (ps : List Pair) (i j : Int), 0 ≤ i → 0 ≤ j → OkE n b.length ps i j → ∀ e ∈ editsF b ps i j, EdOK a e
  | [], i, j, hi, hj, ho, e, he => by simp [editsF] at he
  | p :: ps, i, j, hi, hj, ho, e, he => by
    obtain ⟨o1, o2, o3, o4, o5⟩ := ho
    rw [editsF, List.mem_append] at he
    rcases he with he | he
    · split at he
      · simp only [List.mem_singleton] at he
        subst he
        refine ⟨hi, by simp only; omega, by simp only; omega, ?_⟩
        simp only [List.length_take, List.length_drop]; omega
      · simp at he
    · exact editsF_ok n a b ha hb ps _ _ (by omega) (by omega) o5 e he
theorem editsF_len (b : List Str) : ∀ (ps : List Pair) (i j : Int), (editsF b ps i j).length ≤ ps.length
  | [], i, j => by simp [editsF]
  | p :: ps, i, j => by
    have := editsF_len b ps (p.1 + 1) (p.2.1 + 1)
    rw [editsF, List.length_append, List.length_cons]
    split <;> simp <;> omega
theorem editsG_ok (a b : List Str) (hb : b.length ≤ 1000000000) : ∀ e ∈ editsG a b, EdOK a e := editsF_ok a.length a b (Nat.le_refl _) hb _ 0 0 (by omega) (by omega) (pairsF_ok a.length b.length a b 0 0 (by omega) (by omega))
theorem editsG_len (a b : List Str) : (editsG a b).length ≤ a.length + 1 := by
  have h1 := editsF_len b (pairsF a b 0 0 ++ [((a.length : Int), (b.length : Int), ())]) 0 0
  have h2 := pairsF_len a b 0 0
  rw [List.length_append] at h1
  simp only [editsG, List.length_cons, List.length_nil] at *
  omega
def hunksG (a b : List Str) : List Hunk := hunksF a (editsG a b) 0
theorem hunk_Of_sp (a b : List Str) (ha : a.length ≤ 1000000000) (hb : b.length < 1000000000) : hunk_Of (a, b, ()) = some (hunksG a b, ()) := by
  have hel := editsG_len a b
  obtain ⟨x, y, e⟩ := hunk_Of_L4_sp a (editsG a b) ha (editsG_ok a b (by omega)) (by omega) _ 0 [] 0 rfl (by omega) (by simp) (by simp) (by simp)
  simp only [Int.natCast_zero, List.nil_append] at e
  rw [hunk_Of_eq]
  simp (disch := omega) only [Thunk_Of, condF_True, condF_t, condF_f, condF_T, condF_F, condF_not, bindF_some, sumF_inl, sumF_inr, Int.toNat_natCast, wrap_succ, wrap_pred, Option.bind_some, Option.bind_none, Sum.elim_inl, Sum.elim_inr, List.length_append, List.length_cons, List.length_nil, beq_str, less_str, le_str, Bool.not_not, diff_Edits_sp a b ha hb, e]
  rfl
theorem hunksF_len (a : List Str) : ∀ (es : List Edit) (x : Int), (hunksF a es x).length = es.length
  | [], _ => rfl
  | e :: es, x => by rw [hunksF, List.length_cons, List.length_cons, hunksF_len a es]
def Mid (t : Tree) : Prop := t.length ≤ 1000 ∧ ∀ f ∈ t, f.2.1.length ≤ 1000
theorem Mid.wee {t : Tree} (h : Mid t) : Wee t := ⟨by have := h.1; omega, fun f hf => by have := h.2 f hf; omega⟩
theorem Mid.get {t : Tree} (h : Mid t) (s : Str) : ((getT t s).getD []).length ≤ 1000 := by
  rw [getT_at]
  split
  · rename_i hlt
    simp only [Option.getD_some]
    have := h.2 (t.getD (at_ t s) (ByteArray.empty, [], ())) (by rw [List.getD_eq_getElem?_getD, List.getElem?_eq_getElem hlt]; exact List.getElem_mem _)
    exact this
  · simp
abbrev noH : Hunk := (0, [], [], ())
def patchesF (s : Str) (hs : List Hunk) : List Prim := hs.map fun h => (3, s, ByteArray.empty, h, ())
def fileP (a b : Tree) (s : Str) : List Prim := (if (getT a s).isSome then [] else [(0, s, ByteArray.empty, noH, ())]) ++ (patchesF s (hunksG ((getT a s).getD []) ((getT b s).getD [])) ++
  (if (getT b s).isSome then [] else [(1, s, ByteArray.empty, noH, ())]))
theorem news_file_L5_sp (s : Str) (b : Bool) (hs : List Hunk) (hl : hs.length ≤ 1000000000) : ∀ (r : List Hunk) (k : Nat) (l : List Prim), hs.drop k = r → k ≤ hs.length → l.length ≤ 10000000000 + k →
    news_file_L5 (l, s, b, hs, (hs.length : Int), (k : Int), ()) = some (l ++ patchesF s r, s, b, hs, (hs.length : Int), (hs.length : Int), ())
  | [], k, l, h, hk, hb => by
    have := drop_nil h hk
    subst this
    rw [news_file_L5_eq]
    simp (disch := omega) only [Tnews_file_L5, condF_True, condF_t, condF_f, condF_T, condF_F, condF_not, bindF_some, sumF_inl, sumF_inr, Int.toNat_natCast, wrap_succ, wrap_pred, Option.bind_some, Option.bind_none, Sum.elim_inl, Sum.elim_inr, List.length_append, List.length_cons, List.length_nil, beq_str, less_str, le_str, Bool.not_not, patchesF, List.map_nil, List.append_nil]
  | x :: r, k, l, h, hk, hb => by
    obtain ⟨h1, h2, h3, h4⟩ := drop_cons h
    have hM := maxEls_eq
    have ih := news_file_L5_sp s b hs hl r (k + 1) (l ++ [(3, s, ByteArray.empty, x, ())]) h3 (by omega) (by simp; omega)
    rw [news_file_L5_eq]
    simp (disch := omega) only [Tnews_file_L5, condF_True, condF_t, condF_f, condF_T, condF_F, condF_not, bindF_some, sumF_inl, sumF_inr, Int.toNat_natCast, wrap_succ, wrap_pred, Option.bind_some, Option.bind_none, Sum.elim_inl, Sum.elim_inr, List.length_append, List.length_cons, List.length_nil, beq_str, less_str, le_str, Bool.not_not, h2]
    refine ih.trans ?_
    rw [List.append_assoc]; rfl
theorem hunksG_len (a b : List Str) : (hunksG a b).length ≤ a.length + 1 := by
  rw [hunksG, hunksF_len]; exact editsG_len a b
theorem fileP_len (a b : Tree) (ha : Mid a) (s : Str) : (fileP a b s).length ≤ 1003 := by
  have h1 := hunksG_len ((getT a s).getD []) ((getT b s).getD [])
  have h2 := ha.get s
  simp only [fileP, List.length_append, patchesF, List.length_map]
  split <;> split <;> simp <;> omega
theorem news_Of_L6_sp (a b : Tree) (ha : Mid a) (hb : Mid b) (ns : List Str) (hn : ns.length ≤ 1000000) : ∀ (r : List Str) (k : Nat) (l : List Prim), ns.drop k = r → k ≤ ns.length → l.length ≤ k * 1003 →
    news_Of_L6 (l, a, b, ns, (ns.length : Int), (k : Int), ()) = some (l ++ r.flatMap (fileP a b), a, b, ns, (ns.length : Int), (ns.length : Int), ())
  | [], k, l, h, hk, hl => by
    have := drop_nil h hk
    subst this
    rw [news_Of_L6_eq]
    simp (disch := omega) only [Tnews_Of_L6, condF_True, condF_t, condF_f, condF_T, condF_F, condF_not, bindF_some, sumF_inl, sumF_inr, Int.toNat_natCast, wrap_succ, wrap_pred, Option.bind_some, Option.bind_none, Sum.elim_inl, Sum.elim_inr, List.length_append, List.length_cons, List.length_nil, beq_str, less_str, le_str, Bool.not_not, List.flatMap_nil, List.append_nil]
  | s :: r, k, l, h, hk, hl => by
    obtain ⟨h1, h2, h3, h4⟩ := drop_cons h
    have hM := maxEls_eq
    have g1 := ha.get s
    have g2 := hb.get s
    have hfl := fileP_len a b ha s
    have hhl := hunksG_len ((getT a s).getD []) ((getT b s).getD [])
    have ih := news_Of_L6_sp a b ha hb ns hn r (k + 1) (l ++ fileP a b s) h3 (by omega) (by rw [List.length_append]; omega)
    have eA := tree_Get_sp a s ha.wee
    have eB := tree_Get_sp b s hb.wee
    have eH := hunk_Of_sp ((getT a s).getD []) ((getT b s).getD []) (by omega) (by omega)
    have eL := fun b2 l (hl : l.length ≤ 10000000000) => news_file_L5_sp s b2 (hunksG ((getT a s).getD []) ((getT b s).getD [])) (by omega) _ 0 l rfl (by omega) (by omega)
    simp only [Int.natCast_zero, List.drop_zero] at eL
    have hpl : (patchesF s (hunksG ((getT a s).getD []) ((getT b s).getD []))).length ≤ 1001 := by rw [patchesF, List.length_map]; omega
    have fin : ∀ l', l' = l ++ fileP a b s → news_Of_L6 (l', a, b, ns, (ns.length : Int), ((k + 1 : Nat) : Int), ()) = some (l ++ (s :: r).flatMap (fileP a b), a, b, ns, (ns.length : Int), (ns.length : Int), ()) := fun l' hl' => by
      rw [hl', ih, List.flatMap_cons, List.append_assoc]
    rw [news_Of_L6_eq]
    cases hA : (getT a s).isSome with
    | true =>
      cases hB : (getT b s).isSome with
      | true =>
        simp (disch := first | omega | (simp only [List.length_append, List.length_cons, List.length_nil]; omega)) only [Tnews_Of_L6, condF_True, condF_t, condF_f, condF_T, condF_F, condF_not, bindF_some, sumF_inl, sumF_inr, Int.toNat_natCast, wrap_succ, wrap_pred, Option.bind_some, Option.bind_none, Sum.elim_inl, Sum.elim_inr, List.length_append, List.length_cons, List.length_nil, beq_str, less_str, le_str, Bool.not_not, h2, eA, eB, eH, eL, hA, hB]
        refine fin _ ?_; simp [fileP, hA, hB]
      | false =>
        simp (disch := first | omega | (simp only [List.length_append, List.length_cons, List.length_nil]; omega)) only [Tnews_Of_L6, condF_True, condF_t, condF_f, condF_T, condF_F, condF_not, bindF_some, sumF_inl, sumF_inr, Int.toNat_natCast, wrap_succ, wrap_pred, Option.bind_some, Option.bind_none, Sum.elim_inl, Sum.elim_inr, List.length_append, List.length_cons, List.length_nil, beq_str, less_str, le_str, Bool.not_not, h2, eA, eB, eH, eL, hA, hB]
        refine fin _ ?_; simp [fileP, hA, hB]
    | false =>
      cases hB : (getT b s).isSome with
      | true =>
        simp (disch := first | omega | (simp only [List.length_append, List.length_cons, List.length_nil]; omega)) only [Tnews_Of_L6, condF_True, condF_t, condF_f, condF_T, condF_F, condF_not, bindF_some, sumF_inl, sumF_inr, Int.toNat_natCast, wrap_succ, wrap_pred, Option.bind_some, Option.bind_none, Sum.elim_inl, Sum.elim_inr, List.length_append, List.length_cons, List.length_nil, beq_str, less_str, le_str, Bool.not_not, h2, eA, eB, eH, eL, hA, hB]
        refine fin _ ?_; simp [fileP, hA, hB]
      | false =>
        simp (disch := first | omega | (simp only [List.length_append, List.length_cons, List.length_nil]; omega)) only [Tnews_Of_L6, condF_True, condF_t, condF_f, condF_T, condF_F, condF_not, bindF_some, sumF_inl, sumF_inr, Int.toNat_natCast, wrap_succ, wrap_pred, Option.bind_some, Option.bind_none, Sum.elim_inl, Sum.elim_inr, List.length_append, List.length_cons, List.length_nil, beq_str, less_str, le_str, Bool.not_not, h2, eA, eB, eH, eL, hA, hB]
        refine fin _ ?_; simp [fileP, hA, hB]
def newsG (a b : Tree) : List Prim := (namesT a b).flatMap (fileP a b)
theorem news_Of_sp (a b : Tree) (ha : Mid a) (hb : Mid b) (sa : SlimT a) (sb : SlimT b) : news_Of (a, b, ()) = some (if mayT a && mayT b then newsG a b else [], if mayT a && mayT b then 0 else 1, ()) := by
  have hl := names_len a b
  have h1 := ha.1
  have h2 := hb.1
  have eN := tree_Names_sp a b (by omega) (by omega)
  have eL := news_Of_L6_sp a b ha hb (namesT a b) (by omega) _ 0 [] rfl (by omega) (by simp)
  simp only [Int.natCast_zero, List.nil_append, List.drop_zero] at eL
  rw [news_Of_eq]
  cases hA : mayT a with
  | false =>
    simp (disch := omega) only [Tnews_Of, condF_True, condF_t, condF_f, condF_T, condF_F, condF_not, bindF_some, sumF_inl, sumF_inr, Int.toNat_natCast, wrap_succ, wrap_pred, Option.bind_some, Option.bind_none, Sum.elim_inl, Sum.elim_inr, List.length_append, List.length_cons, List.length_nil, beq_str, less_str, le_str, Bool.not_not, tree_May_sp a sa (by omega), hA]
    rfl
  | true =>
    cases hB : mayT b with
    | false =>
      simp (disch := omega) only [Tnews_Of, condF_True, condF_t, condF_f, condF_T, condF_F, condF_not, bindF_some, sumF_inl, sumF_inr, Int.toNat_natCast, wrap_succ, wrap_pred, Option.bind_some, Option.bind_none, Sum.elim_inl, Sum.elim_inr, List.length_append, List.length_cons, List.length_nil, beq_str, less_str, le_str, Bool.not_not, tree_May_sp a sa (by omega), tree_May_sp b sb (by omega), hA, hB]
      rfl
    | true =>
      rw [show sortS (uniq [] ((a ++ b).map (·.1))) = namesT a b from rfl] at eN
      simp (disch := omega) only [Tnews_Of, condF_True, condF_t, condF_f, condF_T, condF_F, condF_not, bindF_some, sumF_inl, sumF_inr, Int.toNat_natCast, wrap_succ, wrap_pred, Option.bind_some, Option.bind_none, Sum.elim_inl, Sum.elim_inr, List.length_append, List.length_cons, List.length_nil, beq_str, less_str, le_str, Bool.not_not, tree_May_sp a sa (by omega), tree_May_sp b sb (by omega), hA, hB, eN, eL]
      rfl
def PrimS (p : Prim) : Prop := p.2.2.2.1.2.1.length < 4611686018427387903 ∧ p.2.2.2.1.2.2.1.length < 4611686018427387903
theorem beq_dec {α : Type} [DecidableEq α] (a b : α) : (a == b) = decide (a = b) := by by_cases h : a = b <;> simp [h]
instance decPrim1 : DecidableEq (Hunk × Unit) := inferInstance
instance decPrim2 : DecidableEq (Str × Hunk × Unit) := inferInstance
instance decPrim3 : DecidableEq (Str × Str × Hunk × Unit) := inferInstance
instance decPrim : DecidableEq Prim := inferInstanceAs (DecidableEq (Int × Str × Str × Hunk × Unit))
def shortT (t : Tree) : Bool := t.all fun f => decide (f.2.1.length ≤ 60)
theorem law13_short_L5_sp (t : Tree) (hb : t.length < 4611686018427387903) : ∀ (r : Tree) (i : Nat), t.drop i = r → i ≤ t.length →
    ∃ y, law13_short_L5 (t, (i : Int), ()) = some y ∧ (match y with
      | .inl _ => shortT r = false
      | .inr _ => shortT r = true)
  | [], i, h, hi => by
    have := drop_nil h hi
    subst this
    rw [law13_short_L5_eq]
    simp (disch := omega) only [Tlaw13_short_L5, condF_True, condF_t, condF_f, condF_T, condF_F, condF_not, bindF_some, sumF_inl, sumF_inr, Int.toNat_natCast, wrap_succ, wrap_pred, Option.bind_some, Option.bind_none, Sum.elim_inl, Sum.elim_inr, List.length_append, List.length_cons, List.length_nil, beq_str, less_str, le_str, Bool.not_not]
    exact ⟨_, rfl, rfl⟩
  | f :: r, i, h, hi => by
    obtain ⟨h1, h2, h3, h4⟩ := drop_cons h
    rw [law13_short_L5_eq]
    by_cases hc : f.2.1.length ≤ 60
    · simp (disch := omega) only [Tlaw13_short_L5, condF_True, condF_t, condF_f, condF_T, condF_F, condF_not, bindF_some, sumF_inl, sumF_inr, Int.toNat_natCast, wrap_succ, wrap_pred, Option.bind_some, Option.bind_none, Sum.elim_inl, Sum.elim_inr, List.length_append, List.length_cons, List.length_nil, beq_str, less_str, le_str, Bool.not_not, h2]
      obtain ⟨y, e, p⟩ := law13_short_L5_sp t hb r (i + 1) h3 (by omega)
      refine ⟨y, e, ?_⟩
      cases y with
      | inl z => simp only [shortT, List.all_cons, hc, decide_true, Bool.true_and] at p ⊢; exact p
      | inr z => simp only [shortT, List.all_cons, hc, decide_true, Bool.true_and] at p ⊢; exact p
    · simp (disch := omega) only [Tlaw13_short_L5, condF_True, condF_t, condF_f, condF_T, condF_F, condF_not, bindF_some, sumF_inl, sumF_inr, Int.toNat_natCast, wrap_succ, wrap_pred, Option.bind_some, Option.bind_none, Sum.elim_inl, Sum.elim_inr, List.length_append, List.length_cons, List.length_nil, beq_str, less_str, le_str, Bool.not_not, h2]
      exact ⟨_, rfl, by simp [shortT, hc]⟩
def short13 (t : Tree) : Bool := (decide (t.length ≤ 40) && lightT t) && shortT t
theorem law13_short_sp (t : Tree) (hs : SlimT t) (hb : t.length < 4611686018427387903) : law13_short (t, ()) = some (short13 t, ()) := by
  rw [law13_short_eq]
  cases hl : (decide (t.length ≤ 40) && lightT t) with
  | false => simp (disch := first | omega | assumption) only [Tlaw13_short, condF_True, condF_t, condF_f, condF_T, condF_F, condF_not, bindF_some, sumF_inl, sumF_inr, Int.toNat_natCast, wrap_succ, wrap_pred, Option.bind_some, Option.bind_none, Sum.elim_inl, Sum.elim_inr, List.length_append, List.length_cons, List.length_nil, beq_str, less_str, le_str, Bool.not_not, law07_Light_sp, hl, Bool.not_false, short13, Bool.false_and]
  | true =>
    obtain ⟨y, e, p⟩ := law13_short_L5_sp t hb t 0 rfl (by omega)
    simp only [Int.natCast_zero] at e
    cases y with
    | inl z => simp only at p; simp (disch := first | omega | assumption) only [Tlaw13_short, condF_True, condF_t, condF_f, condF_T, condF_F, condF_not, bindF_some, sumF_inl, sumF_inr, Int.toNat_natCast, wrap_succ, wrap_pred, Option.bind_some, Option.bind_none, Sum.elim_inl, Sum.elim_inr, List.length_append, List.length_cons, List.length_nil, beq_str, less_str, le_str, Bool.not_not, law07_Light_sp, hl, Bool.not_true, short13, e, p, Bool.true_and]
    | inr z => simp only at p; simp (disch := first | omega | assumption) only [Tlaw13_short, condF_True, condF_t, condF_f, condF_T, condF_F, condF_not, bindF_some, sumF_inl, sumF_inr, Int.toNat_natCast, wrap_succ, wrap_pred, Option.bind_some, Option.bind_none, Sum.elim_inl, Sum.elim_inr, List.length_append, List.length_cons, List.length_nil, beq_str, less_str, le_str, Bool.not_not, law07_Light_sp, hl, Bool.not_true, short13, e, p, Bool.true_and]
theorem short_mid {t : Tree} (h : short13 t = true) : Mid t ∧ SlimT t := by
  simp only [short13, Bool.and_eq_true, decide_eq_true_eq] at h
  obtain ⟨h1, h2, h3⟩ := light_wee h.1.1 h.1.2
  refine ⟨⟨by omega, fun f hf => ?_⟩, h3⟩
  have := List.all_eq_true.1 h.2 f hf
  simp only [decide_eq_true_eq] at this
  omega
theorem hunksF_mem {a : List Str} : ∀ {es : List Edit} {x : Int} {h : Hunk}, h ∈ hunksF a es x → (∀ e ∈ es, EdOK a e) → h.2.1.length ≤ a.length ∧ h.2.2.1.length ≤ 1000000000
  | [], _, _, hm, _ => by simp [hunksF] at hm
  | e :: es, x, h, hm, ho => by
    rw [hunksF] at hm
    rcases List.mem_cons.1 hm with rfl | hm
    · exact ⟨by simp only [List.length_take, List.length_drop]; omega, (ho e List.mem_cons_self).2.2.2⟩
    · exact hunksF_mem hm fun e' he' => ho e' (List.mem_cons_of_mem _ he')
theorem hunksG_mem {a b : List Str} (hb : b.length ≤ 1000000000) {h : Hunk} (hm : h ∈ hunksG a b) : h.2.1.length ≤ a.length ∧ h.2.2.1.length ≤ 1000000000 := hunksF_mem hm (editsG_ok a b hb)
theorem fileP_small {a b : Tree} (ha : Mid a) (hb : Mid b) {s : Str} {p : Prim} (h : p ∈ fileP a b s) : p.2.2.2.1.2.1.length ≤ 1000 ∧ p.2.2.2.1.2.2.1.length ≤ 1000000000 := by
  simp only [fileP, List.mem_append] at h
  rcases h with h | h | h
  · split at h
    · simp at h
    · simp only [List.mem_singleton] at h; subst h; simp
  · obtain ⟨x, hx, rfl⟩ := List.mem_map.1 h
    have g1 := ha.get s
    have g2 := hb.get s
    have := hunksG_mem (by omega) hx
    exact ⟨by simp only; omega, this.2⟩
  · split at h
    · simp at h
    · simp only [List.mem_singleton] at h; subst h; simp
theorem newsG_small {a b : Tree} (ha : Mid a) (hb : Mid b) {p : Prim} (h : p ∈ newsG a b) : p.2.2.2.1.2.1.length ≤ 1000 ∧ p.2.2.2.1.2.2.1.length ≤ 1000000000 := by
  obtain ⟨s, _, h2⟩ := List.mem_flatMap.1 h
  exact fileP_small ha hb h2
theorem flatMap_len {α β : Type} (f : α → List β) (c : Nat) : ∀ (l : List α), (∀ x ∈ l, (f x).length ≤ c) → (l.flatMap f).length ≤ l.length * c
  | [], _ => by simp
  | x :: l, h => by
    have h1 := flatMap_len f c l fun y hy => h y (List.mem_cons_of_mem _ hy)
    have h2 := h x List.mem_cons_self
    rw [List.flatMap_cons, List.length_append, List.length_cons, Nat.add_mul]
    omega
theorem ConcatS_L3_sp (l0 ts : List (List Str)) (hb : ts.length < 4611686018427387903) : ∀ (r : List (List Str)) (i n : Nat), ts.drop i = r → i ≤ ts.length → n + r.flatten.length < 4611686018427387903 →
    slices_Concat_string_L3 (l0, (n : Int), ts, (ts.length : Int), (i : Int), ()) = some (l0, ((n + r.flatten.length : Nat) : Int), ts, (ts.length : Int), (ts.length : Int), ())
  | [], i, n, h, hi, _ => by
    have := drop_nil h hi
    subst this
    rw [slices_Concat_string_L3_eq]
    simp (disch := omega) only [Tslices_Concat_string_L3, condF_True, condF_t, condF_f, condF_T, condF_F, condF_not, bindF_some, sumF_inl, sumF_inr, Int.toNat_natCast, wrap_succ, wrap_pred, Option.bind_some, Option.bind_none, Sum.elim_inl, Sum.elim_inr, List.length_append, List.length_cons, List.length_nil, beq_str, less_str, le_str, Bool.not_not, List.flatten_nil, Nat.add_zero]
  | t :: r, i, n, h, hi, hn => by
    obtain ⟨h1, h2, h3, h4⟩ := drop_cons h
    simp only [List.flatten_cons, List.length_append] at hn
    have hw : IntKind.wrap .i64 ((n : Int) + (t.length : Int)) = ((n + t.length : Nat) : Int) := by rw [wrap_id (by omega) (by omega)]; omega
    rw [slices_Concat_string_L3_eq]
    simp (disch := omega) only [Tslices_Concat_string_L3, condF_True, condF_t, condF_f, condF_T, condF_F, condF_not, bindF_some, sumF_inl, sumF_inr, Int.toNat_natCast, wrap_succ, wrap_pred, Option.bind_some, Option.bind_none, Sum.elim_inl, Sum.elim_inr, List.length_append, List.length_cons, List.length_nil, beq_str, less_str, le_str, Bool.not_not, h2, hw]
    rw [ConcatS_L3_sp l0 ts hb r (i + 1) (n + t.length) h3 (by omega) (by omega)]
    simp only [List.flatten_cons, List.length_append, Nat.add_assoc]
theorem ConcatS_L11_sp (l0 : List Str) (ts : List (List Str)) (hb : ts.length < 4611686018427387903) : ∀ (r : List (List Str)) (i n : Nat) (row : List Str), ts.drop i = r → i ≤ ts.length → n + r.flatten.length ≤ row.length →
    ∃ row' : List Str, slices_Concat_string_L11 (l0, row, 0, n, ts, (ts.length : Int), (i : Int), ()) = some (l0, row', 0, n + r.flatten.length, ts, (ts.length : Int), (ts.length : Int), ()) ∧ row'.length = row.length ∧ row'.take (n + r.flatten.length) = row.take n ++ r.flatten
  | [], i, n, row, h, hi, _ => by
    have := drop_nil h hi
    subst this
    rw [slices_Concat_string_L11_eq]
    simp (disch := omega) only [Tslices_Concat_string_L11, condF_True, condF_t, condF_f, condF_T, condF_F, condF_not, bindF_some, sumF_inl, sumF_inr, Int.toNat_natCast, wrap_succ, wrap_pred, Option.bind_some, Option.bind_none, Sum.elim_inl, Sum.elim_inr, List.length_append, List.length_cons, List.length_nil, beq_str, less_str, le_str, Bool.not_not, List.flatten_nil, Nat.add_zero, List.append_nil]
    exact ⟨row, rfl, rfl, rfl⟩
  | t :: r, i, n, row, h, hi, hn => by
    obtain ⟨h1, h2, h3, h4⟩ := drop_cons h
    simp only [List.flatten_cons, List.length_append] at hn
    have ho := overT_len row n t (by omega)
    rw [slices_Concat_string_L11_eq]
    simp (disch := omega) only [Tslices_Concat_string_L11, condF_True, condF_t, condF_f, condF_T, condF_F, condF_not, bindF_some, sumF_inl, sumF_inr, Int.toNat_natCast, wrap_succ, wrap_pred, Option.bind_some, Option.bind_none, Sum.elim_inl, Sum.elim_inr, List.length_append, List.length_cons, List.length_nil, beq_str, less_str, le_str, Bool.not_not, h2, ho]
    obtain ⟨row', e, e1, e2⟩ := ConcatS_L11_sp l0 ts hb r (i + 1) (n + t.length) (overT row n t) h3 (by omega) (by omega)
    refine ⟨row', ?_, by rw [e1, ho], ?_⟩
    · rw [e]; simp only [List.flatten_cons, List.length_append, Nat.add_assoc]
    · have e3 : (overT row n t).take (n + t.length) = row.take n ++ t := by
        have : (row.take n ++ t).length = n + t.length := by rw [List.length_append, List.length_take]; omega
        rw [overT, ← this]; exact List.take_left
      rw [e3] at e2
      simp only [List.flatten_cons, List.length_append]
      rw [← Nat.add_assoc, e2, List.append_assoc]
theorem ConcatS_L11b_sp (l0 : List Str) (ts : List (List Str)) (hb : ts.length < 4611686018427387903) : ∀ (r : List (List Str)) (i : Nat), ts.drop i = r → i ≤ ts.length → r.flatten = [] →
    slices_Concat_string_L11b (l0, [], ts, (ts.length : Int), (i : Int), ()) = some (l0, [], ts, (ts.length : Int), (ts.length : Int), ())
  | [], i, h, hi, _ => by
    have := drop_nil h hi
    subst this
    rw [slices_Concat_string_L11b_eq]
    simp (disch := omega) only [Tslices_Concat_string_L11b, condF_True, condF_t, condF_f, condF_T, condF_F, condF_not, bindF_some, sumF_inl, sumF_inr, Int.toNat_natCast, wrap_succ, wrap_pred, Option.bind_some, Option.bind_none, Sum.elim_inl, Sum.elim_inr, List.length_append, List.length_cons, List.length_nil, beq_str, less_str, le_str, Bool.not_not]
  | t :: r, i, h, hi, hn => by
    obtain ⟨h1, h2, h3, h4⟩ := drop_cons h
    have hM := maxEls_eq
    simp only [List.flatten_cons, List.append_eq_nil_iff] at hn
    obtain ⟨rfl, hn⟩ := hn
    rw [slices_Concat_string_L11b_eq]
    simp (disch := omega) only [Tslices_Concat_string_L11b, condF_True, condF_t, condF_f, condF_T, condF_F, condF_not, bindF_some, sumF_inl, sumF_inr, Int.toNat_natCast, wrap_succ, wrap_pred, Option.bind_some, Option.bind_none, Sum.elim_inl, Sum.elim_inr, List.length_append, List.length_cons, List.length_nil, beq_str, less_str, le_str, Bool.not_not, h2, List.append_nil]
    exact ConcatS_L11b_sp l0 ts hb r (i + 1) h3 (by omega) hn
theorem ConcatS_sp (ts : List (List Str)) (hb : ts.length < 1000000000) (hn : ts.flatten.length ≤ 1000000000000) : slices_Concat_string (ts, ()) = some (ts.flatten, ()) := by
  have hM := maxEls_eq
  have e := ConcatS_L3_sp ts ts (by omega) ts 0 0 rfl (by omega) (by omega)
  simp only [Int.natCast_zero, Nat.zero_add] at e
  rw [slices_Concat_string_eq]
  have hw0 : IntKind.wrap .i64 ((0 : Int) - ((0 : Nat) : Int)) = 0 := by rw [wrap_id (by omega) (by omega)]; rfl
  have hw0' : IntKind.wrap .i64 ((0 : Int) - 0) = 0 := by rw [wrap_id (by omega) (by omega)]; rfl
  have hw : IntKind.wrap .i64 (((ts.flatten.length : Nat) : Int) - 0) = ((ts.flatten.length : Nat) : Int) := by rw [wrap_id (by omega) (by omega)]; omega
  by_cases h0 : ts.flatten.length = 0
  · have hf : ts.flatten = [] := List.eq_nil_of_length_eq_zero h0
    have e2 := ConcatS_L11b_sp [] ts (by omega) ts 0 rfl (by omega) hf
    simp only [Int.natCast_zero] at e2
    simp (disch := omega) only [Tslices_Concat_string, e, condF_True, condF_t, condF_f, condF_T, condF_F, condF_not, bindF_some, sumF_inl, sumF_inr, Int.toNat_natCast, wrap_succ, wrap_pred, Option.bind_some, Option.bind_none, Sum.elim_inl, Sum.elim_inr, List.length_append, List.length_cons, List.length_nil, beq_str, less_str, le_str, Bool.not_not, hw0, hw, e2]
    rw [hf]
  · obtain ⟨row', e2, e3, e4⟩ := ConcatS_L11_sp [] ts (by omega) ts 0 0 (List.replicate ts.flatten.length ByteArray.empty) rfl (by omega) (by simp)
    simp only [Int.natCast_zero, Nat.zero_add, List.take_zero, List.nil_append] at e2 e4
    simp only [List.length_replicate] at e3
    simp (disch := omega) only [Tslices_Concat_string, e, condF_True, condF_t, condF_f, condF_T, condF_F, condF_not, bindF_some, sumF_inl, sumF_inr, Int.toNat_natCast, wrap_succ, wrap_pred, Option.bind_some, Option.bind_none, Sum.elim_inl, Sum.elim_inr, List.length_append, List.length_cons, List.length_nil, beq_str, less_str, le_str, Bool.not_not, hw0, hw0', hw, List.length_replicate, Nat.sub_zero, Int.natCast_zero, Int.toNat_zero, Nat.add_zero, e2, List.drop_zero, e4]
theorem slices_Equal_string'_L4_sp (m : List Str) : ∀ (r : List Str) (l : List Str) (i : Nat), l.drop i = r → i ≤ l.length → l.length = m.length → l.length < 4611686018427387903 →
    ∃ y, slices_Equal_string'_L4 (l, m, (l.length : Int), (i : Int), ()) = some y ∧ (match y with
      | .inl _ => l.drop i ≠ m.drop i
      | .inr _ => l.drop i = m.drop i)
  | [], l, i, h, hi, hl, hb => by
    have := drop_nil h hi
    subst this
    rw [slices_Equal_string'_L4_eq]
    simp (disch := omega) only [Tslices_Equal_string'_L4, condF_True, condF_t, condF_f, condF_T, condF_F, condF_not, bindF_some, sumF_inl, sumF_inr, Int.toNat_natCast, wrap_succ, wrap_pred, Option.bind_some, Option.bind_none, Sum.elim_inl, Sum.elim_inr, List.length_append, List.length_cons, List.length_nil, beq_str, less_str, le_str, Bool.not_not]
    exact ⟨_, rfl, by simp [hl]⟩
  | a :: r, l, i, h, hi, hl, hb => by
    obtain ⟨h1, h2, h3, h4⟩ := drop_cons h
    obtain ⟨b, s, hm⟩ : ∃ b s, m.drop i = b :: s := ⟨_, _, List.drop_eq_getElem_cons (by omega)⟩
    obtain ⟨m1, m2, m3, m4⟩ := drop_cons hm
    rw [slices_Equal_string'_L4_eq]
    by_cases hab : a = b
    · subst hab
      simp (disch := omega) only [Tslices_Equal_string'_L4, condF_True, condF_t, condF_f, condF_T, condF_F, condF_not, bindF_some, sumF_inl, sumF_inr, Int.toNat_natCast, wrap_succ, wrap_pred, Option.bind_some, Option.bind_none, Sum.elim_inl, Sum.elim_inr, List.length_append, List.length_cons, List.length_nil, beq_str, less_str, le_str, Bool.not_not, h2, m2, decide_true, Bool.not_true]
      obtain ⟨y, e, p⟩ := slices_Equal_string'_L4_sp m r l (i + 1) h3 (by omega) hl hb
      refine ⟨y, e, ?_⟩
      rw [h, hm]
      rw [h3, m3] at p
      cases y with
      | inl z => simpa using p
      | inr z => simpa using p
    · simp (disch := first | omega | assumption) only [Tslices_Equal_string'_L4, condF_True, condF_t, condF_f, condF_T, condF_F, condF_not, bindF_some, sumF_inl, sumF_inr, Int.toNat_natCast, wrap_succ, wrap_pred, Option.bind_some, Option.bind_none, Sum.elim_inl, Sum.elim_inr, List.length_append, List.length_cons, List.length_nil, beq_str, less_str, le_str, Bool.not_not, h2, m2]
      refine ⟨_, rfl, ?_⟩
      rw [h, hm]
      simp [hab]
theorem slices_Equal_string'_sp (l m : List Str) (hb : l.length < 4611686018427387903) : slices_Equal_string' (l, m, ()) = some (decide (l = m), ()) := by
  rw [slices_Equal_string'_eq]
  by_cases hl : l.length = m.length
  · obtain ⟨y, e, p⟩ := slices_Equal_string'_L4_sp m l l 0 rfl (by omega) hl hb
    simp only [Int.natCast_zero] at e
    have hbn : ((l.length : Int) != (m.length : Int)) = false := by simp [hl]
    simp only [List.drop_zero] at p
    cases y with
    | inl z => simp only at p; simp only [Tslices_Equal_string', hbn, e, condF_True, condF_t, condF_f, condF_T, condF_F, condF_not, bindF_some, sumF_inl, sumF_inr, Int.toNat_natCast, wrap_succ, wrap_pred, Option.bind_some, Option.bind_none, Sum.elim_inl, Sum.elim_inr, List.length_append, List.length_cons, List.length_nil, beq_str, less_str, le_str, Bool.not_not, p, decide_false]
    | inr z => simp only at p; subst p; simp only [Tslices_Equal_string', hbn, e, condF_True, condF_t, condF_f, condF_T, condF_F, condF_not, bindF_some, sumF_inl, sumF_inr, Int.toNat_natCast, wrap_succ, wrap_pred, Option.bind_some, Option.bind_none, Sum.elim_inl, Sum.elim_inr, List.length_append, List.length_cons, List.length_nil, beq_str, less_str, le_str, Bool.not_not, decide_true]
  · have hbn : ((l.length : Int) != (m.length : Int)) = true := by simp; omega
    have : ¬ l = m := fun e => hl (by rw [e])
    simp only [Tslices_Equal_string', hbn, condF_True, condF_t, condF_f, condF_T, condF_F, condF_not, bindF_some, sumF_inl, sumF_inr, Int.toNat_natCast, wrap_succ, wrap_pred, Option.bind_some, Option.bind_none, Sum.elim_inl, Sum.elim_inr, List.length_append, List.length_cons, List.length_nil, beq_str, less_str, le_str, Bool.not_not, this, decide_false]
theorem prim_eta (p : Prim) : ((p.1, p.2.1, p.2.2.1, (p.2.2.2.1.1, p.2.2.2.1.2.1, p.2.2.2.1.2.2.1, ()), ()) : Prim) = p := rfl
theorem hunk_eta (h : Hunk) : ((h.1, h.2.1, h.2.2.1, ()) : Hunk) = h := rfl
def turnH (h : Hunk) : Hunk := (h.1, h.2.2.1, h.2.1, ())
def turnP (p : Prim) : Prim :=
  if p.1 = 0 then (1, p.2.1, p.2.2.1, p.2.2.2.1, ()) else if p.1 = 1 then (0, p.2.1, p.2.2.1, p.2.2.2.1, ()) else if p.1 = 2 then (p.1, p.2.2.1, p.2.1, p.2.2.2.1, ()) else (p.1, p.2.1, p.2.2.1, turnH p.2.2.2.1, ())
def HunkB (h : Hunk) : Prop := h.2.1.length ≤ 1000000000000 ∧ h.2.2.1.length ≤ 1000000000000
theorem hunk_Turn_sp (h : Hunk) (hb : HunkB h) : hunk_Turn (h, ()) = some (turnH h, ()) := by
  have hM := maxEls_eq
  obtain ⟨h1, h2⟩ := hb
  rw [hunk_Turn_eq]
  simp (disch := omega) only [Thunk_Turn, condF_True, condF_t]
  rfl
abbrev PrimB (p : Prim) : Prop := HunkB p.2.2.2.1
theorem prim_Turn_sp (p : Prim) (hb : PrimB p) : prim_Turn (p, ()) = some (turnP p, ()) := by
  obtain ⟨k, n, t, h, u⟩ := p
  rw [prim_Turn_eq]
  unfold turnP
  by_cases h0 : k = 0
  · simp only [Tprim_Turn, beq_dec, h0, decide_true, condF_T, if_true]
  · by_cases h1 : k = 1
    · subst h1
      simp only [Tprim_Turn, beq_dec, decide_true, condF_T, if_true]
      rfl
    · by_cases h2 : k = 2
      · subst h2
        simp only [Tprim_Turn, beq_dec, decide_true, condF_T, if_true]
        rfl
      · simp only [Tprim_Turn, beq_dec, h0, h1, h2, decide_true, decide_false, condF_T, condF_F, if_true, if_false, hunk_eta, hunk_Turn_sp h hb, bindF_some]
/-- All changes back, from the last one on. -/
def turnL (l : List Prim) : List Prim := l.reverse.map turnP
theorem getD_is {α : Type} (l : List α) (k : Nat) (h : k < l.length) : ∃ x, (∀ d, l.getD k d = x) ∧ l.take (k + 1) = l.take k ++ [x] ∧ x ∈ l := by
  refine ⟨l[k], fun d => by rw [List.getD_eq_getElem?_getD, List.getElem?_eq_getElem h]; rfl, ?_, List.getElem_mem h⟩
  rw [List.take_add_one, List.getElem?_eq_getElem h]; rfl
theorem flow_Turn_L1_sp (l : List Prim) (hl : l.length ≤ 1000000000) (hb : ∀ p ∈ l, PrimB p) : ∀ (k : Nat) (acc : List Prim), k ≤ l.length → acc.length + k ≤ 1000000000 →
    slices_Backward_1_Prim_L1 (acc, l, (k : Int) - 1, ()) = some (acc ++ turnL (l.take k), l, -1, ())
  | 0, acc, hk, ha => by
    rw [slices_Backward_1_Prim_L1_eq]
    simp (disch := omega) only [Tslices_Backward_1_Prim_L1, condF_True, condF_t, condF_f, condF_T, condF_F, condF_not, bindF_some, sumF_inl, sumF_inr, Int.toNat_natCast, wrap_succ, wrap_pred, Option.bind_some, Option.bind_none, Sum.elim_inl, Sum.elim_inr, List.length_append, List.length_cons, List.length_nil, beq_str, less_str, le_str, Bool.not_not, List.take_zero, turnL, List.reverse_nil, List.map_nil, List.append_nil]
    rfl
  | k + 1, acc, hk, ha => by
    have hM := maxEls_eq
    have e0 : (((k + 1 : Nat) : Int) - 1) = (k : Int) := by omega
    have hw : IntKind.wrap .i64 ((k : Int) - 1) = (k : Int) - 1 := wrap_id (by omega) (by omega)
    obtain ⟨x, hx', ht, hmem⟩ := getD_is l k (by omega)
    have ih := flow_Turn_L1_sp l hl hb k (acc ++ [turnP x]) (by omega) (by simp; omega)
    have hT := prim_Turn_sp x (hb x hmem)
    rw [slices_Backward_1_Prim_L1_eq, e0]
    simp (disch := omega) only [Tslices_Backward_1_Prim_L1, condF_True, condF_t, condF_f, condF_T, condF_F, condF_not, bindF_some, sumF_inl, sumF_inr, Int.toNat_natCast, wrap_succ, wrap_pred, Option.bind_some, Option.bind_none, Sum.elim_inl, Sum.elim_inr, List.length_append, List.length_cons, List.length_nil, beq_str, less_str, le_str, Bool.not_not, hw, hx', prim_eta, hT]
    refine Eq.trans ih ?_
    rw [ht, turnL, turnL, List.reverse_append, List.map_append, List.append_assoc]; rfl
theorem flow_Turn_sp (l : List Prim) (hl : l.length ≤ 1000000000) (hb : ∀ p ∈ l, PrimB p) : flow_Turn (l, ()) = some (turnL l, ()) := by
  have e := flow_Turn_L1_sp l hl hb l.length [] (Nat.le_refl _) (by simp; omega)
  rw [List.take_length, List.nil_append] at e
  have hw : IntKind.wrap .i64 ((l.length : Int) - 1) = (l.length : Int) - 1 := wrap_id (by omega) (by omega)
  rw [flow_Turn_eq]
  simp (disch := omega) only [Tflow_Turn, condF_True, condF_t, condF_f, condF_T, condF_F, condF_not, bindF_some, sumF_inl, sumF_inr, Int.toNat_natCast, wrap_succ, wrap_pred, Option.bind_some, Option.bind_none, Sum.elim_inl, Sum.elim_inr, List.length_append, List.length_cons, List.length_nil, beq_str, less_str, le_str, Bool.not_not, hw, e]
def mayH (h : Hunk) : Bool := (decide (0 ≤ h.1) && decide (h.1 ≤ 1048576)) && (allP h.2.1 && allP h.2.2.1)
def bareP (p : Prim) : Bool := decide (p.2.2.2.1.1 = 0) && decide (p.2.2.2.1.2.1.length + p.2.2.2.1.2.2.1.length = 0)
def singleP (p : Prim) : Bool := nameP p.2.1 && decide (p.2.2.1 = ByteArray.empty)
def mayPr (p : Prim) : Bool :=
  if p.1 = 0 ∨ p.1 = 1 then singleP p && bareP p
  else if p.1 = 2 then (nameP p.2.1 && nameP p.2.2.1) && (decide (p.2.1 ≠ p.2.2.1) && bareP p)
  else if p.1 = 3 then singleP p && mayH p.2.2.2.1
  else if p.1 = 4 then (singleP p && mayH p.2.2.2.1) && decide (p.2.2.2.1.1 = 0)
  else false
structure PrimW (p : Prim) : Prop where
  n : p.2.1.size < 4611686018427387903
  t : p.2.2.1.size < 4611686018427387903
  o : p.2.2.2.1.2.1.length ≤ 1000000000000
  w : p.2.2.2.1.2.2.1.length ≤ 1000000000000
theorem PrimW.s {p : Prim} (h : PrimW p) : PrimS p := ⟨by have := h.o; omega, by have := h.w; omega⟩
theorem PrimW.b {p : Prim} (h : PrimW p) : PrimB p := ⟨h.o, h.w⟩
theorem hunk_May_sp (h : Hunk) : hunk_May (h, ()) = some (mayH h, ()) := by
  rw [hunk_May_eq]
  by_cases h0 : 0 ≤ h.1
  · by_cases h1 : h.1 ≤ 1048576
    · cases h2 : allP h.2.1 with
      | true =>
        simp (disch := omega) only [Thunk_May, condF_t, text_All_sp, bindF_some, condF_T, h2, mayH, h0, h1, decide_true, Bool.true_and]
      | false =>
        simp (disch := omega) only [Thunk_May, condF_t, text_All_sp, bindF_some, condF_F, h2, mayH, Bool.false_and, Bool.and_false]
    · simp (disch := omega) only [Thunk_May, condF_t, condF_f, condF_F, mayH, h1, decide_false, Bool.and_false, Bool.false_and]
  · simp (disch := omega) only [Thunk_May, condF_t, condF_f, condF_F, mayH, h0, decide_false, Bool.false_and]
theorem single_sp (p : Prim) (h : PrimW p) : prim_change_single (p, ()) = some (singleP p, ()) := by
  rw [prim_change_single_eq]
  have := h.n
  cases hn : nameP p.2.1 with
  | true => simp (disch := omega) only [Tprim_change_single, text_Name_sp, bindF_some, hn, condF_T, beq_str, singleP, Bool.true_and]
  | false => simp (disch := omega) only [Tprim_change_single, text_Name_sp, bindF_some, hn, condF_F, beq_str, singleP, Bool.false_and]
theorem bare_sp (p : Prim) (h : PrimW p) : prim_change_bare (p, ()) = some (bareP p, ()) := by
  rw [prim_change_bare_eq]
  have h1 := h.o
  have h2 := h.w
  have hw : IntKind.wrap .i64 ((p.2.2.2.1.2.1.length : Int) + (p.2.2.2.1.2.2.1.length : Int)) = ((p.2.2.2.1.2.1.length + p.2.2.2.1.2.2.1.length : Nat) : Int) := by rw [wrap_id (by omega) (by omega)]; omega
  have hd : decide (((p.2.2.2.1.2.1.length + p.2.2.2.1.2.2.1.length : Nat) : Int) = 0) = decide (p.2.2.2.1.2.1.length + p.2.2.2.1.2.2.1.length = 0) := decide_eq_decide.2 (by omega)
  by_cases h0 : p.2.2.2.1.1 = 0
  · simp only [Tprim_change_bare, beq_dec, h0, decide_true, condF_T, hw, hd, bareP, Bool.true_and]
  · simp only [Tprim_change_bare, beq_dec, h0, decide_false, condF_F, bareP, Bool.false_and]
theorem mayBare_sp (p : Prim) (h : PrimW p) : prim_change_mayBare (p, ()) = some (singleP p && bareP p, ()) := by
  rw [prim_change_mayBare_eq]
  have e1 := single_sp p h
  have e2 := bare_sp p h
  unfold Tprim_change_mayBare
  rw [prim_eta, e1, e2]
  cases singleP p <;> rfl
theorem mayPatch_sp (p : Prim) (h : PrimW p) : prim_change_mayPatch (p, ()) = some (singleP p && mayH p.2.2.2.1, ()) := by
  rw [prim_change_mayPatch_eq]
  have e1 := single_sp p h
  have e2 := hunk_May_sp p.2.2.2.1
  unfold Tprim_change_mayPatch
  rw [prim_eta, hunk_eta, e1, e2]
  cases singleP p <;> rfl
theorem maySet_sp (p : Prim) (h : PrimW p) : prim_change_maySet (p, ()) = some ((singleP p && mayH p.2.2.2.1) && decide (p.2.2.2.1.1 = 0), ()) := by
  rw [prim_change_maySet_eq]
  have e1 := mayPatch_sp p h
  unfold Tprim_change_maySet
  rw [prim_eta, e1]
  simp only [beq_dec]
  cases (singleP p && mayH p.2.2.2.1) <;> rfl
theorem mayMove_sp (p : Prim) (h : PrimW p) : prim_change_mayMove (p, ()) = some ((nameP p.2.1 && nameP p.2.2.1) && (decide (p.2.1 ≠ p.2.2.1) && bareP p), ()) := by
  rw [prim_change_mayMove_eq]
  have h1 := h.n
  have h2 := h.t
  have e2 := bare_sp p h
  unfold Tprim_change_mayMove
  rw [prim_eta, text_Name_sp _ (by omega), text_Name_sp _ (by omega), e2, beq_str]
  by_cases hd : p.2.1 = p.2.2.1
  · cases nameP p.2.1 <;> cases nameP p.2.2.1 <;> simp [bindF_some, condF, hd]
  · cases nameP p.2.1 <;> cases nameP p.2.2.1 <;> simp [bindF_some, condF, hd]
theorem prim_May_sp (p : Prim) (h : PrimW p) : prim_May (p, ()) = some (mayPr p, ()) := by
  rw [prim_May_eq]
  unfold Tprim_May
  simp only [prim_eta, mayBare_sp p h, mayMove_sp p h, mayPatch_sp p h, maySet_sp p h, bindF_some]
  unfold mayPr
  by_cases k0 : p.1 = 0
  · simp (disch := omega) only [condF_t, k0, true_or, if_true]
  · by_cases k1 : p.1 = 1
    · simp (disch := omega) only [condF_t, condF_f, k1, or_true, if_true]
    · by_cases k2 : p.1 = 2
      · rw [if_neg (by omega), if_pos k2]
        simp (disch := omega) only [condF_t, condF_f]
      · by_cases k3 : p.1 = 3
        · rw [if_neg (by omega), if_neg k2, if_pos k3]
          simp (disch := omega) only [condF_t, condF_f]
        · by_cases k4 : p.1 = 4
          · rw [if_neg (by omega), if_neg k2, if_neg k3, if_pos k4]
            simp (disch := omega) only [condF_t, condF_f]
          · rw [if_neg (by omega), if_neg k2, if_neg k3, if_neg k4]
            by_cases kn : 0 ≤ p.1
            · simp (disch := omega) only [condF_t, condF_f]
            · simp (disch := omega) only [condF_t, condF_f]
/-- Do lines stand at a place? -/
def isAt (l : List Str) (at0 : Int) (old : List Str) : Bool := decide (0 ≤ at0) && decide ((l.drop at0.toNat).take old.length = old) && decide (at0 ≤ l.length)
def swapL (l : List Str) (h : Hunk) : List Str := l.take h.1.toNat ++ (h.2.2.1 ++ l.drop (h.1.toNat + h.2.1.length))
theorem seq_many_at_sp (l : List Str) (at0 : Int) (old : List Str) (h1 : l.length ≤ 1000000000000) (h2 : at0 ≤ 1048576) (h3 : old.length < 1000000000000000000) : seq_many_at (l, at0, old, ()) = some (isAt l at0 old, ()) := by
  rw [seq_many_at_eq]
  unfold isAt
  by_cases c1 : 0 ≤ at0
  · by_cases c2 : at0 ≤ l.length
    · have hw1 : IntKind.wrap .i64 ((l.length : Int) - at0) = (l.length : Int) - at0 := wrap_id (by omega) (by omega)
      have hw2 : IntKind.wrap .i64 (at0 + (old.length : Int)) = at0 + (old.length : Int) := wrap_id (by omega) (by omega)
      by_cases c3 : (old.length : Int) ≤ (l.length : Int) - at0
      · have e : (at0 + (old.length : Int)).toNat - at0.toNat = old.length := by omega
        have hb : ((l.drop at0.toNat).take old.length).length < 4611686018427387903 := by rw [List.length_take]; omega
        simp (disch := omega) only [Tseq_many_at, condF_True, condF_t, hw1, hw2, bindF_some, e, slices_Equal_string'_sp _ _ hb]
        simp [c1, c2]
      · have hne : ¬ ((l.drop at0.toNat).take old.length = old) := fun he => by
          have := congrArg List.length he
          rw [List.length_take, List.length_drop] at this
          omega
        simp (disch := omega) only [Tseq_many_at, condF_True, condF_t, condF_f, hw1]
        simp [hne]
    · simp (disch := omega) only [Tseq_many_at, condF_True, condF_t, condF_f]
      simp [c2]
  · simp (disch := omega) only [Tseq_many_at, condF_True, condF_t, condF_f]
    simp [c1]
theorem seq_At_sp (l : List Str) (at0 : Int) (old : List Str) (h1 : l.length ≤ 1000000000000) (h2 : at0 ≤ 1048576) (h3 : old.length < 1000000000000000000) : seq_At (l, at0, old, ()) = some (isAt l at0 old, ()) := by
  rw [seq_At_eq]
  simp only [Tseq_At, seq_many_at_sp l at0 old h1 h2 h3, bindF_some]
theorem seq_Swap_sp (l : List Str) (h : Hunk) (h1 : l.length ≤ 100000000000) (h2 : h.1 ≤ 1048576) (h3 : h.2.1.length < 1000000000000000000) (h4 : h.2.2.1.length ≤ 100000000000) :
    seq_Swap (l, h.1, h.2.1, h.2.2.1, ()) = some (if isAt l h.1 h.2.1 = true then swapL l h else [], isAt l h.1 h.2.1, ()) := by
  rw [seq_Swap_eq]
  cases hc : isAt l h.1 h.2.1 with
  | false =>
    simp (disch := omega) only [Tseq_Swap, seq_At_sp l h.1 h.2.1 (by omega) h2 h3, bindF_some, hc, condF_not, condF_F, Bool.false_eq_true, if_false]
  | true =>
    have hc' := hc
    simp only [isAt, Bool.and_eq_true, decide_eq_true_eq] at hc'
    obtain ⟨⟨c1, c2⟩, c3⟩ := hc'
    have hl : h.1 + h.2.1.length ≤ l.length := by
      have := congrArg List.length c2
      rw [List.length_take, List.length_drop] at this
      omega
    have hw : IntKind.wrap .i64 (h.1 + (h.2.1.length : Int)) = h.1 + (h.2.1.length : Int) := wrap_id (by omega) (by omega)
    have hn : (h.1 + (h.2.1.length : Int)).toNat = h.1.toNat + h.2.1.length := by omega
    have ht : (l.drop (h.1.toNat + h.2.1.length)).take (l.length - (h.1.toNat + h.2.1.length)) = l.drop (h.1.toNat + h.2.1.length) := List.take_of_length_le (by rw [List.length_drop]; omega)
    have eC := ConcatS_sp [l.take h.1.toNat, h.2.2.1, l.drop (h.1.toNat + h.2.1.length)] (by simp) (by simp; omega)
    simp (disch := omega) only [Tseq_Swap, seq_At_sp l h.1 h.2.1 (by omega) h2 h3, bindF_some, hc, condF_not, condF_T, condF_True, condF_t, if_true, hw, hn, ht, Nat.sub_zero, List.drop_zero, eC]
    simp [swapL]
theorem mayH_at {h : Hunk} (hm : mayH h = true) : 0 ≤ h.1 ∧ h.1 ≤ 1048576 ∧ h.2.1.length ≤ 200 ∧ h.2.2.1.length ≤ 200 := by
  simp only [mayH, allP, Bool.and_eq_true, decide_eq_true_eq] at hm
  exact ⟨hm.1.1, hm.1.2, hm.2.1.1, hm.2.2.1⟩
theorem hunk_Apply_sp (l : List Str) (h : Hunk) (h1 : l.length ≤ 100000000000) : hunk_Apply (l, h, ()) = some (if mayH h = true ∧ isAt l h.1 h.2.1 = true then swapL l h else [], if mayH h = true then (if isAt l h.1 h.2.1 = true then 0 else 5) else 1, ()) := by
  rw [hunk_Apply_eq]
  unfold Thunk_Apply
  rw [hunk_eta, hunk_May_sp]
  cases hm : mayH h with
  | false => simp only [bindF_some, condF_not, condF_F]; simp
  | true =>
    obtain ⟨a1, a2, a3, a4⟩ := mayH_at hm
    have eS := seq_Swap_sp l h h1 a2 (by omega) (by omega)
    rw [eS]
    cases hc : isAt l h.1 h.2.1 with
    | false => simp only [bindF_some, condF_not, condF_F, condF_T]; simp
    | true => simp only [bindF_some, condF_not, condF_F, condF_T]; simp
/-- A tree that a change changes. -/
def doP (t : Tree) (p : Prim) : Option Tree :=
  if p.1 = 0 then (if (getT t p.2.1).isSome then none else some (putT t p.2.1 []))
  else if p.1 = 1 then (if getT t p.2.1 = some [] then some (delT t p.2.1) else none)
  else if p.1 = 2 then (if (getT t p.2.1).isSome = true ∧ (getT t p.2.2.1).isSome = false then some (putT (delT t p.2.1) p.2.2.1 ((getT t p.2.1).getD [])) else none)
  else if p.1 = 3 then (if (getT t p.2.1).isSome = true ∧ isAt ((getT t p.2.1).getD []) p.2.2.2.1.1 p.2.2.2.1.2.1 = true then some (putT t p.2.1 (swapL ((getT t p.2.1).getD []) p.2.2.2.1)) else none)
  else (if getT t p.2.1 = some p.2.2.2.1.2.1 then some (putT t p.2.1 p.2.2.2.1.2.2.1) else none)
def applyP (t : Tree) (p : Prim) : Tree × Int := if mayPr p = true then (match doP t p with
  | some u => (u, 0)
  | none => ([], 5)) else ([], 1)
/-- A tree of at most n files, of at most m lines each. -/
def Fit (n m : Nat) (t : Tree) : Prop := t.length ≤ n ∧ ∀ f ∈ t, f.2.1.length ≤ m
theorem Fit.wee {n m : Nat} {t : Tree} (h : Fit n m t) (hn : n ≤ 1000000000) (hm : m ≤ 1000000000) : Wee t := ⟨Nat.le_trans h.1 hn, fun f hf => Nat.le_trans (h.2 f hf) hm⟩
theorem Fit.get {n m : Nat} {t : Tree} (h : Fit n m t) (s : Str) : ((getT t s).getD []).length ≤ m := by
  rw [getT_at]
  split
  · rename_i hlt
    simp only [Option.getD_some]
    exact h.2 (t.getD (at_ t s) (ByteArray.empty, [], ())) (by rw [List.getD_eq_getElem?_getD, List.getElem?_eq_getElem hlt]; exact List.getElem_mem _)
  · simp
theorem Fit.put {n m : Nat} {t : Tree} (h : Fit n m t) (s : Str) {l : List Str} (hl : l.length ≤ m) : Fit (n + 1) m (putT t s l) := by
  refine ⟨Nat.le_trans (put_len t s l) (by have := h.1; omega), fun f hf => ?_⟩
  rcases put_mem hf with rfl | hf
  · exact hl
  · exact h.2 f hf
theorem Fit.del {n m : Nat} {t : Tree} (h : Fit n m t) (s : Str) : Fit n m (delT t s) := ⟨Nat.le_trans (del_len t s) h.1, fun f hf => h.2 f (del_mem hf)⟩
theorem Fit.mono {n m n' m' : Nat} {t : Tree} (h : Fit n m t) (hn : n ≤ n') (hm : m ≤ m') : Fit n' m' t := ⟨Nat.le_trans h.1 hn, fun f hf => Nat.le_trans (h.2 f hf) hm⟩
theorem swapL_len (l : List Str) (h : Hunk) : (swapL l h).length ≤ l.length + h.2.2.1.length := by
  simp only [swapL, List.length_append, List.length_take, List.length_drop]; omega
theorem mayPr_hunk {p : Prim} (h : mayPr p = true) (h3 : p.1 = 3 ∨ p.1 = 4) : mayH p.2.2.2.1 = true := by
  unfold mayPr at h
  rw [if_neg (by omega), if_neg (by omega)] at h
  split at h
  · simp only [Bool.and_eq_true] at h; exact h.2
  · split at h
    · simp only [Bool.and_eq_true] at h; exact h.1.2
    · cases h
theorem mayPr_kind {p : Prim} (h : mayPr p = true) : 0 ≤ p.1 ∧ p.1 < 5 := by
  unfold mayPr at h
  split at h
  · omega
  · split at h
    · omega
    · split at h
      · omega
      · split at h
        · omega
        · cases h
theorem doP_fit {n m : Nat} {t u : Tree} {p : Prim} (h : Fit n m t) (hm : mayPr p = true) (hd : doP t p = some u) : Fit (n + 1) (m + 200) u := by
  unfold doP at hd
  split at hd
  · split at hd
    · cases hd
    · cases hd; exact (h.mono (Nat.le_refl _) (by omega)).put _ (by simp)
  · split at hd
    · split at hd
      · cases hd; exact (h.del _).mono (by omega) (by omega)
      · cases hd
    · split at hd
      · split at hd
        · cases hd; exact ((h.del _).mono (Nat.le_refl _) (by omega)).put _ (by have := h.get p.2.1; omega)
        · cases hd
      · split at hd
        · rename_i h3
          have hh := mayH_at (mayPr_hunk hm (.inl h3))
          split at hd
          · cases hd; exact (h.mono (Nat.le_refl _) (by omega)).put _ (by have := swapL_len ((getT t p.2.1).getD []) p.2.2.2.1; have := h.get p.2.1; omega)
          · cases hd
        · rename_i h0 h1 h2 h3
          have hk := mayPr_kind hm
          have hh := mayH_at (mayPr_hunk hm (.inr (by omega)))
          split at hd
          · cases hd; exact (h.mono (Nat.le_refl _) (by omega)).put _ (by omega)
          · cases hd
def resP (o : Option Tree) : Tree × Int := match o with
  | some u => (u, 0)
  | none => ([], 5)
theorem doP_0 {t : Tree} {p : Prim} (h : p.1 = 0) : doP t p = if (getT t p.2.1).isSome then none else some (putT t p.2.1 []) := by unfold doP; rw [if_pos h]
theorem doP_1 {t : Tree} {p : Prim} (h : p.1 = 1) : doP t p = if getT t p.2.1 = some [] then some (delT t p.2.1) else none := by unfold doP; rw [if_neg (by omega), if_pos h]
theorem doP_2 {t : Tree} {p : Prim} (h : p.1 = 2) : doP t p = if (getT t p.2.1).isSome = true ∧ (getT t p.2.2.1).isSome = false then some (putT (delT t p.2.1) p.2.2.1 ((getT t p.2.1).getD [])) else none := by unfold doP; rw [if_neg (by omega), if_neg (by omega), if_pos h]
theorem doP_3 {t : Tree} {p : Prim} (h : p.1 = 3) : doP t p = if (getT t p.2.1).isSome = true ∧ isAt ((getT t p.2.1).getD []) p.2.2.2.1.1 p.2.2.2.1.2.1 = true then some (putT t p.2.1 (swapL ((getT t p.2.1).getD []) p.2.2.2.1)) else none := by unfold doP; rw [if_neg (by omega), if_neg (by omega), if_neg (by omega), if_pos h]
theorem doP_4 {t : Tree} {p : Prim} (h : 4 ≤ p.1) : doP t p = if getT t p.2.1 = some p.2.2.2.1.2.1 then some (putT t p.2.1 p.2.2.2.1.2.2.1) else none := by unfold doP; rw [if_neg (by omega), if_neg (by omega), if_neg (by omega), if_neg (by omega)]
theorem add_sp (t : Tree) (p : Prim) (hw : Wee t) (k0 : p.1 = 0) : prim_change_add (p, t, ()) = some ((resP (doP t p)).1, (resP (doP t p)).2, ()) := by
  rw [prim_change_add_eq, doP_0 k0]
  simp only [Tprim_change_add, tree_Get_sp t p.2.1 hw, bindF_some, tree_Put_sp t p.2.1 [] hw (by simp)]
  cases (getT t p.2.1).isSome <;> rfl
theorem rm_sp (t : Tree) (p : Prim) (hw : Wee t) (k1 : p.1 = 1) : prim_change_rm (p, t, ()) = some ((resP (doP t p)).1, (resP (doP t p)).2, ()) := by
  rw [prim_change_rm_eq, doP_1 k1]
  simp only [Tprim_change_rm, tree_Get_sp t p.2.1 hw, bindF_some, tree_Del_sp t p.2.1 hw]
  cases hg : getT t p.2.1 with
  | none => simp [condF, resP]
  | some l =>
    cases l with
    | nil => simp [condF, resP]
    | cons x l =>
      have h1 : ((((x :: l).length : Nat) : Int)) > 0 := by simp only [List.length_cons]; omega
      simp only [Option.getD_some, Option.isSome_some, condF_not, condF_T]
      rw [condF_t h1]
      simp [resP]
theorem move_sp (t : Tree) (p : Prim) (hw : Wee t) (hl : ((getT t p.2.1).getD []).length ≤ 1000000000) (k2 : p.1 = 2) : prim_change_move (p, t, ()) = some ((resP (doP t p)).1, (resP (doP t p)).2, ()) := by
  rw [prim_change_move_eq, doP_2 k2]
  simp only [Tprim_change_move, tree_Get_sp t p.2.1 hw, tree_Get_sp t p.2.2.1 hw, bindF_some, tree_Del_sp t p.2.1 hw, tree_Put_sp (delT t p.2.1) p.2.2.1 ((getT t p.2.1).getD []) (hw.del _) hl]
  cases (getT t p.2.1).isSome <;> cases (getT t p.2.2.1).isSome <;> simp [condF, resP]
theorem patch_sp (t : Tree) (p : Prim) (hw : Wee t) (hl : ((getT t p.2.1).getD []).length ≤ 100000000) (k3 : p.1 = 3) (hm : mayH p.2.2.2.1 = true) : prim_change_patch (p, t, ()) = some ((resP (doP t p)).1, (resP (doP t p)).2, ()) := by
  have hs := swapL_len ((getT t p.2.1).getD []) p.2.2.2.1
  have ha := mayH_at hm
  have eH := hunk_Apply_sp ((getT t p.2.1).getD []) p.2.2.2.1 (by omega)
  have eP := tree_Put_sp t p.2.1 (swapL ((getT t p.2.1).getD []) p.2.2.2.1) hw (by omega)
  rw [prim_change_patch_eq, doP_3 k3]
  simp only [Tprim_change_patch, hunk_eta, tree_Get_sp t p.2.1 hw, bindF_some, eH, hm, true_and, if_true]
  cases hg : (getT t p.2.1).isSome with
  | false => simp [condF, resP]
  | true =>
    cases hc : isAt ((getT t p.2.1).getD []) p.2.2.2.1.1 p.2.2.2.1.2.1 with
    | false => simp [condF, resP]
    | true => simp [condF, resP, bindF_some, eP]
theorem set_sp (t : Tree) (p : Prim) (hw : Wee t) (hl : ((getT t p.2.1).getD []).length ≤ 100000000) (k4 : 4 ≤ p.1) (hm : p.2.2.2.1.2.2.1.length ≤ 1000000000) : prim_change_set (p, t, ()) = some ((resP (doP t p)).1, (resP (doP t p)).2, ()) := by
  rw [prim_change_set_eq, doP_4 k4]
  simp only [Tprim_change_set, tree_Get_sp t p.2.1 hw, bindF_some, slices_Equal_string_sp ((getT t p.2.1).getD []) p.2.2.2.1.2.1 (by omega), tree_Put_sp t p.2.1 p.2.2.2.1.2.2.1 hw hm]
  cases hg : getT t p.2.1 with
  | none => simp [condF, resP]
  | some l =>
    by_cases he : l = p.2.2.2.1.2.1
    · subst he; simp [condF, resP, bindF_some]
    · simp [condF, resP, he]
theorem eqT_t {α : Type} (t : Ty) (u : t.den) (x y : Option α) : condF (eqT t u u) x y = x := by rw [eqT_refl]; rfl
theorem applyP_res {t : Tree} {p : Prim} (h : mayPr p = true) : applyP t p = resP (doP t p) := by
  unfold applyP resP
  rw [if_pos h]
theorem prim_Apply_sp (t : Tree) (p : Prim) (ht : Fit 1000000 100000000 t) (hp : PrimW p) : prim_Apply (t, p, ()) = some ((applyP t p).1, (applyP t p).2, ()) := by
  have hw := ht.wee (by omega) (by omega)
  have g := ht.get p.2.1
  rw [prim_Apply_eq]
  unfold Tprim_Apply
  simp only [prim_eta, prim_May_sp p hp, bindF_some, eqT_t, condF_True]
  cases hm : mayPr p with
  | false => simp [condF, applyP, hm]
  | true =>
    have hk := mayPr_kind hm
    rw [applyP_res hm]
    simp only [condF_not, condF_T]
    by_cases k0 : p.1 = 0
    · rw [condF_t (by omega), add_sp t p hw k0]; rfl
    · by_cases k1 : p.1 = 1
      · rw [condF_f (by omega), condF_t (by omega), rm_sp t p hw k1]; rfl
      · by_cases k2 : p.1 = 2
        · rw [condF_f (by omega), condF_f (by omega), condF_t (by omega), move_sp t p hw (by omega) k2]; rfl
        · by_cases k3 : p.1 = 3
          · rw [condF_f (by omega), condF_f (by omega), condF_f (by omega), condF_t (by omega), patch_sp t p hw g k3 (mayPr_hunk hm (.inl k3))]; rfl
          · have ha := mayH_at (mayPr_hunk hm (.inr (by omega)))
            rw [condF_f (by omega), condF_f (by omega), condF_f (by omega), condF_f (by omega), condF_t (by omega), set_sp t p hw g (by omega) (by omega)]; rfl
/-- Changes, one behind the other, up to the first error. -/
def flowA : Tree → List Prim → Tree × Int
  | t, [] => (t, 0)
  | t, p :: l => if (applyP t p).2 = 0 then flowA (applyP t p).1 l else ([], (applyP t p).2)
theorem applyP_ok {t u : Tree} {p : Prim} (h : applyP t p = (u, 0)) : mayPr p = true ∧ doP t p = some u := by
  unfold applyP at h
  split at h
  · rename_i hm
    split at h
    · rename_i v hv
      have := (Prod.mk.inj h).1
      subst this
      exact ⟨hm, hv⟩
    · have := (Prod.mk.inj h).2
      simp at this
  · have := (Prod.mk.inj h).2
    simp at this
theorem applyP_fit {n m : Nat} {t : Tree} {p : Prim} (h : Fit n m t) (h0 : (applyP t p).2 = 0) : Fit (n + 1) (m + 200) (applyP t p).1 := by
  obtain ⟨h1, h2⟩ := applyP_ok (t := t) (p := p) (u := (applyP t p).1) (by rw [← h0])
  exact doP_fit h h1 h2
theorem flow_Apply_L2_sp (l : List Prim) (hl : l.length ≤ 100000) (hp : ∀ p ∈ l, PrimW p) : ∀ (r : List Prim) (i : Nat) (t : Tree), l.drop i = r → i ≤ l.length → Fit (100000 + i) (10000000 + i * 200) t →
    ∃ y, flow_Apply_L2 (t, l, (l.length : Int), (i : Int), ()) = some y ∧ (match y with
      | .inl z => flowA t r = ([], z.2.2.2.2.2.2.2.1) ∧ z.2.2.2.2.2.2.2.1 ≠ 0
      | .inr z => flowA t r = (z.1, 0))
  | [], i, t, h, hi, hf => by
    have := drop_nil h hi
    subst this
    rw [flow_Apply_L2_eq]
    simp (disch := omega) only [Tflow_Apply_L2, condF_t, condF_f]
    exact ⟨_, rfl, rfl⟩
  | p :: r, i, t, h, hi, hf => by
    obtain ⟨h1, h2, h3, h4⟩ := drop_cons h
    have eA := prim_Apply_sp t p (hf.mono (by omega) (by omega)) (hp p h4)
    rw [flow_Apply_L2_eq]
    by_cases h0 : (applyP t p).2 = 0
    · have hf2 := applyP_fit hf h0
      obtain ⟨y, e, q⟩ := flow_Apply_L2_sp l hl hp r (i + 1) (applyP t p).1 h3 (by omega) (hf2.mono (by omega) (by omega))
      refine ⟨y, ?_, ?_⟩
      · have hne : ((applyP t p).2 != 0) = false := by simp [h0]
        simp (disch := omega) only [Tflow_Apply_L2, condF_t, condF_True, Int.toNat_natCast, h2, prim_eta, eA, bindF_some, hne, condF_F, wrap_succ, Option.bind_some, Sum.elim_inl, e]
      · cases y with
        | inl z => simp only [flowA, if_pos h0]; exact q
        | inr z => simp only [flowA, if_pos h0]; exact q
    · have hne : ((applyP t p).2 != 0) = true := by simp [h0]
      simp (disch := omega) only [Tflow_Apply_L2, condF_t, condF_True, Int.toNat_natCast, h2, prim_eta, eA, bindF_some, hne, condF_T, Option.bind_some, Sum.elim_inr]
      refine ⟨_, rfl, ?_⟩
      exact ⟨by simp only [flowA, if_neg h0], h0⟩
theorem flow_Apply_sp (t : Tree) (l : List Prim) (ht : Fit 100000 10000000 t) (hl : l.length ≤ 100000) (hp : ∀ p ∈ l, PrimW p) : flow_Apply (t, l, ()) = some ((flowA t l).1, (flowA t l).2, ()) := by
  obtain ⟨y, e, q⟩ := flow_Apply_L2_sp l hl hp l 0 t rfl (by omega) (ht.mono (by omega) (by omega))
  simp only [Int.natCast_zero] at e
  rw [flow_Apply_eq]
  cases y with
  | inl z => simp only at q; simp only [Tflow_Apply, e, bindF_some, sumF_inl, q.1]
  | inr z => simp only at q; simp only [Tflow_Apply, e, bindF_some, sumF_inr, q]
abbrev eS : Str := ByteArray.empty
/-- Pairs of equal lines, from two places on; where neither line ahead is of a pair, they are not the same. -/
def AlP (a b : List Str) : List Pair → Nat → Nat → Prop
  | [], i, j => i < a.length → j < b.length → a.getD i eS ≠ b.getD j eS
  | p :: ps, i, j => ∃ k q : Nat, p = ((k : Int), (q : Int), ()) ∧ i ≤ k ∧ k < a.length ∧ j ≤ q ∧ q < b.length ∧ a.getD k eS = b.getD q eS ∧ (k ≠ i ∨ q ≠ j → a.getD i eS ≠ b.getD j eS) ∧ AlP a b ps (k + 1) (q + 1)
theorem AlP.left {a b : List Str} {ps : List Pair} {i j : Nat} (h : AlP a b ps (i + 1) j) (hn : a.getD i eS ≠ b.getD j eS) : AlP a b ps i j := by
  cases ps with
  | nil => exact fun _ _ => hn
  | cons p ps =>
    obtain ⟨k, q, h1, h2, h3, h4, h5, h6, _, h8⟩ := h
    exact ⟨k, q, h1, by omega, h3, h4, h5, h6, fun _ => hn, h8⟩
theorem AlP.right {a b : List Str} {ps : List Pair} {i j : Nat} (h : AlP a b ps i (j + 1)) (hn : a.getD i eS ≠ b.getD j eS) : AlP a b ps i j := by
  cases ps with
  | nil => exact fun _ _ => hn
  | cons p ps =>
    obtain ⟨k, q, h1, h2, h3, h4, h5, h6, _, h8⟩ := h
    exact ⟨k, q, h1, h2, h3, by omega, h5, h6, fun _ => hn, h8⟩
theorem pairs_al (a b : List Str) : ∀ (n i j : Nat), (a.length - i) + (b.length - j) ≤ n → AlP a b (pairsF (a.drop i) (b.drop j) i j) i j := by
  intro n
  induction n with
  | zero =>
    intro i j h
    rw [List.drop_eq_nil_of_le (by omega), pairsF_nil]
    intro h1 h2
    omega
  | succ n ih =>
    intro i j h
    by_cases hi : i < a.length
    · by_cases hj : j < b.length
      · rw [pairsF_at hi hj]
        split
        · rename_i he
          exact ⟨i, j, rfl, Nat.le_refl _, hi, Nat.le_refl _, hj, he, fun h => by omega, ih (i + 1) (j + 1) (by omega)⟩
        · rename_i he
          split
          · exact (ih (i + 1) j (by omega)).left he
          · exact (ih i (j + 1) (by omega)).right he
      · rw [show b.drop j = [] from List.drop_eq_nil_of_le (by omega), pairsF_nil']
        intro h1 h2; omega
    · rw [List.drop_eq_nil_of_le (by omega), pairsF_nil]
      intro h1 h2; omega
/-- Each edit begins behind the one ahead, with a line between. -/
def SepE : List Edit → Prop
  | e :: e' :: l => e.1 + e.2.1 < e'.1 ∧ SepE (e' :: l)
  | _ => True
theorem SepE.cons {e : Edit} {l : List Edit} (h : SepE l) (h1 : ∀ e' ∈ l, e.1 + e.2.1 < e'.1) : SepE (e :: l) := by
  cases l with
  | nil => trivial
  | cons e' l => exact ⟨h1 e' List.mem_cons_self, h⟩
theorem fileP_name {a b : Tree} {s : Str} {p : Prim} (h : p ∈ fileP a b s) : p.2.1 = s ∧ (p.1 = 0 ∨ p.1 = 1 ∨ p.1 = 3) := by
  simp only [fileP, List.mem_append] at h
  rcases h with h | h | h
  · split at h
    · simp at h
    · simp only [List.mem_singleton] at h; subst h; exact ⟨rfl, .inl rfl⟩
  · obtain ⟨x, hx, rfl⟩ := List.mem_map.1 h
    exact ⟨rfl, .inr (.inr rfl)⟩
  · split at h
    · simp at h
    · simp only [List.mem_singleton] at h; subst h; exact ⟨rfl, .inr (.inl rfl)⟩
theorem names_get {a b : Tree} {s : Str} (h : s ∈ namesT a b) : ((getT a s).isSome || (getT b s).isSome) = true := by
  have : s ∈ (a ++ b).map (·.1) := by
    rw [← names_two] at h
    have := (foldl_insN ((a ++ b).map (·.1)) [] List.Pairwise.nil).2 s
    rw [this] at h
    simpa using h
  obtain ⟨f, hf, rfl⟩ := List.mem_map.1 this
  rcases List.mem_append.1 hf with hf | hf
  · rw [getT_mem hf]; rfl
  · rw [getT_mem hf, Bool.or_true]
theorem names_nodup (a b : Tree) : (namesT a b).Nodup := by
  rw [← names_two]
  have h := (foldl_insN ((a ++ b).map (·.1)) [] List.Pairwise.nil).1
  exact List.Pairwise.imp (fun {x y} hxy => ltS_ne hxy) h
/-- Hunks, one behind the other, on lines; each stands where it says. -/
def hunksOn : List Str → List Hunk → List Str → Prop
  | l, [], m => l = m
  | l, h :: hs, m => isAt l h.1 h.2.1 = true ∧ hunksOn (swapL l h) hs m
theorem take_succ_at {b : List Str} {q : Nat} (h : q < b.length) : b.take (q + 1) = b.take q ++ [b.getD q eS] := by
  rw [List.take_add_one, List.getElem?_eq_getElem h, List.getD_eq_getElem?_getD, List.getElem?_eq_getElem h]; rfl
/-- One edit at its place. -/
theorem edit_at (a b : List Str) (i j k q : Nat) (hi : i ≤ k) (hk : k ≤ a.length) (hj : j ≤ q) (hq : q ≤ b.length) :
    isAt (b.take j ++ a.drop i) (j : Int) ((a.drop i).take (k - i)) = true ∧ swapL (b.take j ++ a.drop i) ((j : Int), (a.drop i).take (k - i), (b.drop j).take (q - j), ()) = b.take q ++ a.drop k := by
  have hl : (b.take j).length = j := by rw [List.length_take]; omega
  have hl2 : ((a.drop i).take (k - i)).length = k - i := by rw [List.length_take, List.length_drop]; omega
  constructor
  · simp only [isAt, Bool.and_eq_true, decide_eq_true_eq]
    refine ⟨⟨by omega, ?_⟩, ?_⟩
    · rw [Int.toNat_natCast, List.drop_left' hl, hl2]
    · rw [List.length_append, hl]; omega
  · simp only [swapL, Int.toNat_natCast, hl2]
    have e1 : (b.take j ++ a.drop i).take j = b.take j := by
      rw [List.take_append_of_le_length (by omega), List.take_of_length_le (by omega)]
    have e2 : (b.take j ++ a.drop i).drop (j + (k - i)) = a.drop k := by
      rw [List.drop_append, hl, List.drop_eq_nil_of_le (by omega), List.nil_append, List.drop_drop]
      congr 1; omega
    have e3 : b.take j ++ (b.drop j).take (q - j) = b.take q := by
      have := List.take_append_drop j (b.take q)
      rw [List.take_take, Nat.min_eq_left hj, List.drop_take] at this
      exact this
    rw [e1, e2, ← List.append_assoc, e3]
theorem edits_on (a b : List Str) : ∀ (ps : List Pair) (i j : Nat), i ≤ a.length → j ≤ b.length → AlP a b ps i j →
    hunksOn (b.take j ++ a.drop i) (hunksF a (editsF b (ps ++ [((a.length : Int), (b.length : Int), ())]) i j) ((j : Int) - i)) b
  | [], i, j, hi, hj, h => by
    rw [List.nil_append, editsF, editsF, List.append_nil]
    have hE := edit_at a b i j a.length b.length hi (Nat.le_refl _) hj (Nat.le_refl _)
    split
    · rw [hunksF, hunksF]
      simp only at hE ⊢
      have e1 : ((i : Int) + ((j : Int) - (i : Int))) = (j : Int) := by omega
      have e2 : ((i : Int) + ((a.length : Int) - (i : Int))).toNat - (i : Int).toNat = a.length - i := by omega
      have e3 : (b.length : Int).toNat - (j : Int).toNat = b.length - j := by omega
      rw [e1, e2, e3, Int.toNat_natCast, Int.toNat_natCast]
      refine ⟨hE.1, ?_⟩
      rw [hE.2]
      simp [hunksOn]
    · rename_i hc
      simp only at hc
      rw [hunksF]
      show b.take j ++ a.drop i = b
      rw [List.take_of_length_le (by omega), List.drop_eq_nil_of_le (by omega), List.append_nil]
  | p :: ps, i, j, hi, hj, h => by
    obtain ⟨k, q, rfl, h2, h3, h4, h5, h6, h7, h8⟩ := h
    have ih := edits_on a b ps (k + 1) (q + 1) (by omega) (by omega) h8
    have hE := edit_at a b i j k q h2 (by omega) h4 (by omega)
    have hsame : b.take q ++ a.drop k = b.take (q + 1) ++ a.drop (k + 1) := by
      rw [take_succ_at h5, drop_at h3, h6, List.append_assoc]; rfl
    simp only [Int.natCast_add, Int.natCast_one] at ih
    rw [List.cons_append, editsF]
    split
    · rw [List.singleton_append, hunksF]
      simp only at hE ⊢
      have e1 : ((i : Int) + ((j : Int) - (i : Int))) = (j : Int) := by omega
      have e2 : ((i : Int) + ((k : Int) - (i : Int))).toNat - (i : Int).toNat = k - i := by omega
      have e3 : (q : Int).toNat - (j : Int).toNat = q - j := by omega
      have e4 : ((b.drop j).take (q - j)).length = q - j := by rw [List.length_take, List.length_drop]; omega
      have e5 : ((j : Int) - (i : Int) + ((q - j : Nat) : Int) - ((k : Int) - (i : Int))) = ((q : Int) + 1 - ((k : Int) + 1)) := by omega
      rw [e1, e2, e3, Int.toNat_natCast, Int.toNat_natCast, e4, e5]
      refine ⟨hE.1, ?_⟩
      rw [hE.2, hsame]
      exact ih
    · rename_i hc
      simp only at hc
      have hk : k = i := by omega
      have hq : q = j := by omega
      subst hk; subst hq
      rw [List.nil_append]
      have e5 : ((q : Int) - (k : Int)) = ((q : Int) + 1 - ((k : Int) + 1)) := by omega
      rw [e5, hsame]
      exact ih
theorem hunks_on (a b : List Str) : hunksOn a (hunksG a b) b := by
  have hal := pairs_al a b _ 0 0 (Nat.le_refl _)
  simp only [List.drop_zero, Int.natCast_zero] at hal
  have := edits_on a b _ 0 0 (by omega) (by omega) hal
  simp only [List.take_zero, List.drop_zero, List.nil_append, Int.natCast_zero, Int.sub_self] at this
  exact this
theorem allP_sub {l m : List Str} (h : allP l = true) (hs : ∀ x ∈ m, x ∈ l) (hl : m.length ≤ l.length) : allP m = true := by
  simp only [allP, Bool.and_eq_true, decide_eq_true_eq, List.all_eq_true] at h ⊢
  exact ⟨by omega, fun x hx => h.2 x (hs x hx)⟩
theorem hunksF_news {n m : Nat} {a b : List Str} (hb : b.length = m) : ∀ {ps : List Pair} {i j : Int} {x : Int}, 0 ≤ i → 0 ≤ j → x = j - i → OkE n m ps i j → ∀ h ∈ hunksF a (editsF b ps i j) x, 0 ≤ h.1 ∧ h.1 ≤ m ∧ (∀ s ∈ h.2.1, s ∈ a) ∧ (∀ s ∈ h.2.2.1, s ∈ b) ∧ h.2.2.1.length ≤ b.length ∧ h.2.1.length ≤ a.length
  | [], _, _, _, _, _, _, _, h, hm => by simp [editsF, hunksF] at hm
  | p :: ps, i, j, x, hi, hj, hx, ho, h, hm => by
    obtain ⟨o1, o2, o3, o4, o5⟩ := ho
    rw [editsF] at hm
    split at hm
    · rw [List.singleton_append, hunksF] at hm
      rcases List.mem_cons.1 hm with rfl | hm
      · refine ⟨by simp only; omega, by simp only; omega, fun s hs => List.mem_of_mem_drop (List.mem_of_mem_take hs), fun s hs => List.mem_of_mem_drop (List.mem_of_mem_take hs), ?_, ?_⟩
        · simp only [List.length_take, List.length_drop]; omega
        · simp only [List.length_take, List.length_drop]; omega
      · refine hunksF_news hb (by omega) (by omega) ?_ o5 h hm
        simp only [List.length_take, List.length_drop]
        omega
    · rename_i hc
      rw [List.nil_append] at hm
      exact hunksF_news hb (by omega) (by omega) (by omega) o5 h hm
theorem hunksG_may {a b : List Str} (ha : allP a = true) (hb : allP b = true) {h : Hunk} (hm : h ∈ hunksG a b) : mayH h = true := by
  obtain ⟨h1, h2, h3, h4, h5, h6⟩ := hunksF_news (n := a.length) rfl (Int.le_refl 0) (Int.le_refl 0) rfl (pairsF_ok a.length b.length a b 0 0 (by omega) (by omega)) h hm
  have hb' := hb
  simp only [allP, Bool.and_eq_true, decide_eq_true_eq] at hb'
  simp only [mayH, Bool.and_eq_true, decide_eq_true_eq]
  exact ⟨⟨h1, by omega⟩, allP_sub ha h3 h6, allP_sub hb h4 h5⟩
theorem allP_get {t : Tree} (h : mayT t = true) (s : Str) : allP ((getT t s).getD []) = true := by
  cases hg : getT t s with
  | none => rfl
  | some l => exact ((mayT_iff.1 h).1 _ (getT_in hg)).2
theorem nameP_of {t : Tree} (h : mayT t = true) {s : Str} (hs : (getT t s).isSome = true) : nameP s = true := by
  cases hg : getT t s with
  | none => rw [hg] at hs; cases hs
  | some l => exact ((mayT_iff.1 h).1 _ (getT_in hg)).1
theorem flowA_ok {t u : Tree} {p : Prim} {l : List Prim} (hm : mayPr p = true) (hd : doP t p = some u) : flowA t (p :: l) = flowA u l := by
  have : applyP t p = (u, 0) := by rw [applyP_res hm, hd]; rfl
  simp only [flowA, this, if_true]
theorem patches_do (s : Str) (hs : nameP s = true) : ∀ (hks : List Hunk) (t : Tree) (l m : List Str) (rest : List Prim), (∀ h ∈ hks, mayH h = true) → RT t → getT t s = some l → hunksOn l hks m →
    ∃ u, flowA t (patchesF s hks ++ rest) = flowA u rest ∧ RT u ∧ getT u s = some m ∧ ∀ x, x ≠ s → getT u x = getT t x
  | [], t, l, m, rest, _, hr, hg, ho => ⟨t, rfl, hr, by rw [hg]; exact congrArg some ho, fun _ _ => rfl⟩
  | h :: hks, t, l, m, rest, hm, hr, hg, ho => by
    obtain ⟨o1, o2⟩ := ho
    have hp : mayPr (3, s, ByteArray.empty, h, ()) = true := by
      simp [mayPr, singleP, hs, hm h List.mem_cons_self]
    have hd : doP t (3, s, ByteArray.empty, h, ()) = some (putT t s (swapL l h)) := by
      rw [doP_3 rfl]
      simp only [hg, Option.isSome_some, Option.getD_some, o1, and_self, if_true]
    have hr2 := put_rising s (swapL l h) hr
    have hg2 : getT (putT t s (swapL l h)) s = some (swapL l h) := by rw [get_putT _ _ _ hr, if_pos rfl]
    obtain ⟨u, e1, e2, e3, e4⟩ := patches_do s hs hks (putT t s (swapL l h)) (swapL l h) m rest (fun h' hh => hm h' (List.mem_cons_of_mem _ hh)) hr2 hg2 o2
    refine ⟨u, ?_, e2, e3, fun x hx => by rw [e4 x hx, get_putT _ _ _ hr, if_neg hx]⟩
    show flowA t ((3, s, ByteArray.empty, h, ()) :: (patchesF s hks ++ rest)) = _
    rw [flowA_ok hp hd, e1]
theorem bare_may {k : Int} {s : Str} (hk : k = 0 ∨ k = 1) (hs : nameP s = true) : mayPr (k, s, ByteArray.empty, noH, ()) = true := by
  rcases hk with rfl | rfl <;> simp [mayPr, singleP, bareP, hs]
/-- A file's changes make it what it is in the other tree, and leave all others. -/
theorem file_do {a b : Tree} (ma : mayT a = true) (mb : mayT b = true) {s : Str} (hs : ((getT a s).isSome || (getT b s).isSome) = true) (t : Tree) (rest : List Prim) (hr : RT t) (hg : getT t s = getT a s) :
    ∃ u, flowA t (fileP a b s ++ rest) = flowA u rest ∧ RT u ∧ getT u s = getT b s ∧ ∀ x, x ≠ s → getT u x = getT t x := by
  have hn : nameP s = true := by
    cases hA : (getT a s).isSome with
    | true => exact nameP_of ma hA
    | false => rw [hA, Bool.false_or] at hs; exact nameP_of mb hs
  have hmay : ∀ h ∈ hunksG ((getT a s).getD []) ((getT b s).getD []), mayH h = true := fun h hh => hunksG_may (allP_get ma s) (allP_get mb s) hh
  -- the file is there
  have h1 : ∃ t1, flowA t (fileP a b s ++ rest) = flowA t1 (patchesF s (hunksG ((getT a s).getD []) ((getT b s).getD [])) ++ ((if (getT b s).isSome then [] else [(1, s, ByteArray.empty, noH, ())]) ++ rest)) ∧ RT t1 ∧ getT t1 s = some ((getT a s).getD []) ∧ ∀ x, x ≠ s → getT t1 x = getT t x := by
    unfold fileP
    cases hA : getT a s with
    | some l =>
      refine ⟨t, ?_, hr, by rw [hg, hA]; rfl, fun _ _ => rfl⟩
      simp only [Option.isSome_some, if_true, List.nil_append, List.append_assoc]
    | none =>
      refine ⟨putT t s [], ?_, put_rising s [] hr, by rw [get_putT _ _ _ hr, if_pos rfl]; rfl, fun x hx => by rw [get_putT _ _ _ hr, if_neg hx]⟩
      have hd : doP t (0, s, ByteArray.empty, noH, ()) = some (putT t s []) := by
        rw [doP_0 rfl]
        simp only [hg, hA, Option.isSome_none, Bool.false_eq_true, if_false]
      have hf := fun l => flowA_ok (l := l) (bare_may (.inl rfl) hn) hd
      simp only [Option.isSome_none, Bool.false_eq_true, if_false, List.append_assoc, List.singleton_append]
      exact (hf _).trans (congrArg (flowA (putT t s [])) (List.append_assoc _ _ _))
  obtain ⟨t1, e1, r1, g1, x1⟩ := h1
  obtain ⟨t2, e2, r2, g2, x2⟩ := patches_do s hn _ t1 _ _ ((if (getT b s).isSome then [] else [(1, s, ByteArray.empty, noH, ())]) ++ rest) hmay r1 g1 (hunks_on ((getT a s).getD []) ((getT b s).getD []))
  cases hB : getT b s with
  | some l =>
    refine ⟨t2, ?_, r2, by rw [g2, hB]; rfl, fun x hx => by rw [x2 x hx, x1 x hx]⟩
    rw [e1, e2, hB]
    rfl
  | none =>
    rw [hB] at g2
    refine ⟨delT t2 s, ?_, del_rising s r2, by rw [get_delT _ _ r2, if_pos rfl], fun x hx => by rw [get_delT _ _ r2, if_neg hx, x2 x hx, x1 x hx]⟩
    rw [e1, e2, hB]
    simp only [Option.isSome_none, Bool.false_eq_true, if_false, List.singleton_append]
    refine flowA_ok (bare_may (.inr rfl) hn) ?_
    rw [doP_1 rfl]
    simp only [g2, Option.getD_none, if_true]
theorem names_do {a b : Tree} (ma : mayT a = true) (mb : mayT b = true) : ∀ (ns : List Str) (t : Tree) (rest : List Prim), ns.Nodup → (∀ s ∈ ns, ((getT a s).isSome || (getT b s).isSome) = true) → RT t → (∀ s ∈ ns, getT t s = getT a s) →
    ∃ u, flowA t (ns.flatMap (fileP a b) ++ rest) = flowA u rest ∧ RT u ∧ (∀ s ∈ ns, getT u s = getT b s) ∧ ∀ x, x ∉ ns → getT u x = getT t x
  | [], t, rest, _, _, hr, _ => ⟨t, rfl, hr, fun s hs => by simp at hs, fun _ _ => rfl⟩
  | s :: ns, t, rest, hn, hs, hr, hg => by
    obtain ⟨n1, n2⟩ := List.nodup_cons.1 hn
    obtain ⟨t1, e1, r1, g1, x1⟩ := file_do ma mb (hs s List.mem_cons_self) t (ns.flatMap (fileP a b) ++ rest) hr (hg s List.mem_cons_self)
    obtain ⟨t2, e2, r2, g2, x2⟩ := names_do ma mb ns t1 rest n2 (fun x hx => hs x (List.mem_cons_of_mem _ hx)) r1 (fun x hx => by
      rw [x1 x (fun he => n1 (he ▸ hx))]; exact hg x (List.mem_cons_of_mem _ hx))
    refine ⟨t2, by rw [List.flatMap_cons, List.append_assoc, e1, e2], r2, fun x hx => ?_, fun x hx => ?_⟩
    · rcases List.mem_cons.1 hx with rfl | hx
      · rw [x2 x n1, g1]
      · exact g2 x hx
    · rw [x2 x (fun h => hx (List.mem_cons_of_mem _ h)), x1 x (fun h => hx (h ▸ List.mem_cons_self))]
theorem names_all {a b : Tree} {s : Str} (h : s ∉ namesT a b) : getT a s = none ∧ getT b s = none := by
  have hm : ∀ f, f ∈ a ∨ f ∈ b → f.1 ≠ s := fun f hf he => by
    apply h
    rw [← names_two, (foldl_insN ((a ++ b).map (·.1)) [] List.Pairwise.nil).2 s]
    exact .inr (List.mem_map.2 ⟨f, List.mem_append.2 hf, he⟩)
  exact ⟨getT_none fun f hf => hm f (.inl hf), getT_none fun f hf => hm f (.inr hf)⟩
/-- The changes from one tree to another one change it into that. -/
theorem news_do {a b : Tree} (ma : mayT a = true) (mb : mayT b = true) (rest : List Prim) : flowA a (newsG a b ++ rest) = flowA b rest := by
  obtain ⟨u, e, r, g, x⟩ := names_do ma mb (namesT a b) a rest (names_nodup a b) (fun s hs => names_get hs) (may_rising ma) fun _ _ => rfl
  have : u = b := tree_ext r (may_rising mb) fun s => by
    by_cases h : s ∈ namesT a b
    · exact g s h
    · rw [x s h, (names_all h).1, (names_all h).2]
  rw [newsG, e, this]
theorem swap_back {l : List Str} {h : Hunk} (ha : isAt l h.1 h.2.1 = true) : isAt (swapL l h) h.1 h.2.2.1 = true ∧ swapL (swapL l h) (turnH h) = l := by
  simp only [isAt, Bool.and_eq_true, decide_eq_true_eq] at ha
  obtain ⟨⟨h1, h2⟩, h3⟩ := ha
  have hl : (l.take h.1.toNat).length = h.1.toNat := by rw [List.length_take]; omega
  constructor
  · have p1 : ((swapL l h).drop h.1.toNat).take h.2.2.1.length = h.2.2.1 := by
      unfold swapL
      rw [List.drop_left' hl, List.take_left']
      rfl
    have p2 : h.1 ≤ (swapL l h).length := by
      unfold swapL
      rw [List.length_append, hl]; omega
    simp only [isAt, Bool.and_eq_true, decide_eq_true_eq]
    exact ⟨⟨h1, p1⟩, p2⟩
  · simp only [swapL, turnH]
    rw [List.take_left' hl]
    have e1 : (l.take h.1.toNat ++ (h.2.2.1 ++ l.drop (h.1.toNat + h.2.1.length))).drop (h.1.toNat + h.2.2.1.length) = l.drop (h.1.toNat + h.2.1.length) := by
      rw [← List.append_assoc, List.drop_left']
      rw [List.length_append, hl]
    rw [e1]
    have e2 : h.2.1 ++ l.drop (h.1.toNat + h.2.1.length) = l.drop h.1.toNat := by
      have := List.take_append_drop h.2.1.length (l.drop h.1.toNat)
      rw [h2, List.drop_drop] at this
      exact this
    rw [e2, List.take_append_drop]
theorem doP_back {t u : Tree} {p : Prim} (hm : mayPr p = true) (hr : RT t) (hd : doP t p = some u) : mayPr (turnP p) = true ∧ RT u ∧ doP u (turnP p) = some t := by
  have hk := mayPr_kind hm
  by_cases k0 : p.1 = 0
  · rw [doP_0 k0] at hd
    split at hd
    · cases hd
    · rename_i hn
      cases hd
      have hn' : getT t p.2.1 = none := by cases hg : getT t p.2.1 with
        | none => rfl
        | some l => rw [hg] at hn; simp at hn
      have e : turnP p = (1, p.2.1, p.2.2.1, p.2.2.2.1, ()) := by unfold turnP; rw [if_pos k0]
      refine ⟨?_, put_rising _ _ hr, ?_⟩
      · rw [e]
        unfold mayPr at hm ⊢
        rw [if_pos (.inl k0)] at hm
        rw [if_pos (.inr rfl)]
        exact hm
      · rw [e, doP_1 rfl]
        simp only
        rw [get_putT _ _ _ hr, if_pos rfl, if_pos rfl, del_put _ _ hr hn']
  · by_cases k1 : p.1 = 1
    · rw [doP_1 k1] at hd
      split at hd
      · rename_i hn
        cases hd
        have e : turnP p = (0, p.2.1, p.2.2.1, p.2.2.2.1, ()) := by unfold turnP; rw [if_neg k0, if_pos k1]
        refine ⟨?_, del_rising _ hr, ?_⟩
        · rw [e]
          unfold mayPr at hm ⊢
          rw [if_pos (.inr k1)] at hm
          rw [if_pos (.inl rfl)]
          exact hm
        · rw [e, doP_0 rfl]
          simp only
          rw [get_delT _ _ hr, if_pos rfl]
          simp only [Option.isSome_none, Bool.false_eq_true, if_false, Option.some.injEq]
          refine tree_ext (put_rising _ _ (del_rising _ hr)) hr fun x => ?_
          rw [get_putT _ _ _ (del_rising _ hr), get_delT _ _ hr]
          by_cases hx : x = p.2.1
          · rw [if_pos hx, hx, hn]
          · rw [if_neg hx, if_neg hx]
      · cases hd
    · by_cases k2 : p.1 = 2
      · rw [doP_2 k2] at hd
        split at hd
        · rename_i hn
          cases hd
          obtain ⟨hn1, hn2⟩ := hn
          obtain ⟨l, hl⟩ := Option.isSome_iff_exists.1 hn1
          have hto : getT t p.2.2.1 = none := by cases hg : getT t p.2.2.1 with
            | none => rfl
            | some l => rw [hg] at hn2; simp at hn2
          have hne : p.2.1 ≠ p.2.2.1 := fun he => by rw [he, hto] at hl; cases hl
          have e : turnP p = (p.1, p.2.2.1, p.2.1, p.2.2.2.1, ()) := by unfold turnP; rw [if_neg k0, if_neg k1, if_pos k2]
          have r1 := del_rising p.2.1 hr
          have r2 := put_rising p.2.2.1 ((getT t p.2.1).getD []) r1
          refine ⟨?_, r2, ?_⟩
          · rw [e]
            unfold mayPr at hm ⊢
            rw [if_neg (by omega), if_pos k2] at hm
            rw [if_neg (by simp only; omega), if_pos k2]
            simp only [Bool.and_eq_true, decide_eq_true_eq] at hm ⊢
            exact ⟨⟨hm.1.2, hm.1.1⟩, Ne.symm hm.2.1, hm.2.2⟩
          · rw [e, doP_2 (show ((p.1, p.2.2.1, p.2.1, p.2.2.2.1, ()) : Prim).1 = 2 from k2)]
            simp only
            have g1 : getT (putT (delT t p.2.1) p.2.2.1 ((getT t p.2.1).getD [])) p.2.2.1 = some l := by rw [get_putT _ _ _ r1, if_pos rfl, hl]; rfl
            have g2 : getT (putT (delT t p.2.1) p.2.2.1 ((getT t p.2.1).getD [])) p.2.1 = none := by rw [get_putT _ _ _ r1, if_neg hne, get_delT _ _ hr, if_pos rfl]
            rw [g1, g2]
            simp only [Option.isSome_some, Option.isSome_none, and_self, if_true, Option.getD_some, Option.some.injEq]
            refine tree_ext (put_rising _ _ (del_rising _ r2)) hr fun x => ?_
            rw [get_putT _ _ _ (del_rising _ r2), get_delT _ _ r2, get_putT _ _ _ r1, get_delT _ _ hr]
            by_cases hx : x = p.2.1
            · rw [if_pos hx, hx, hl]
            · by_cases hx2 : x = p.2.2.1
              · rw [if_neg hx, if_pos hx2, hx2, hto]
              · rw [if_neg hx, if_neg hx2, if_neg hx2, if_neg hx]
        · cases hd
      · have e : turnP p = (p.1, p.2.1, p.2.2.1, turnH p.2.2.2.1, ()) := by unfold turnP; rw [if_neg k0, if_neg k1, if_neg k2]
        by_cases k3 : p.1 = 3
        · rw [doP_3 k3] at hd
          split at hd
          · rename_i hn
            cases hd
            obtain ⟨hn1, hn2⟩ := hn
            obtain ⟨l, hl⟩ := Option.isSome_iff_exists.1 hn1
            simp only [hl, Option.getD_some] at hn2 ⊢
            obtain ⟨b1, b2⟩ := swap_back hn2
            have r2 := put_rising p.2.1 (swapL l p.2.2.2.1) hr
            refine ⟨?_, r2, ?_⟩
            · rw [e]
              unfold mayPr at hm ⊢
              rw [if_neg (by omega), if_neg k2, if_pos k3] at hm
              rw [if_neg (by simp only; omega), if_neg k2, if_pos k3]
              simp only [Bool.and_eq_true, mayH, singleP, turnH] at hm ⊢
              exact ⟨hm.1, hm.2.1, hm.2.2.2, hm.2.2.1⟩
            · rw [e, doP_3 (show ((p.1, p.2.1, p.2.2.1, turnH p.2.2.2.1, ()) : Prim).1 = 3 from k3)]
              simp only
              have g1 : getT (putT t p.2.1 (swapL l p.2.2.2.1)) p.2.1 = some (swapL l p.2.2.2.1) := by rw [get_putT _ _ _ hr, if_pos rfl]
              rw [g1]
              simp only [Option.isSome_some, Option.getD_some, true_and]
              rw [if_pos (show isAt (swapL l p.2.2.2.1) (turnH p.2.2.2.1).1 (turnH p.2.2.2.1).2.1 = true from b1), b2]
              refine congrArg some (tree_ext (put_rising _ _ r2) hr fun x => ?_)
              rw [get_putT _ _ _ r2, get_putT _ _ _ hr]
              by_cases hx : x = p.2.1
              · rw [if_pos hx, hx, hl]
              · rw [if_neg hx, if_neg hx]
          · cases hd
        · have k4 : p.1 = 4 := by omega
          rw [doP_4 (by omega)] at hd
          split at hd
          · rename_i hl
            cases hd
            have r2 := put_rising p.2.1 p.2.2.2.1.2.2.1 hr
            refine ⟨?_, r2, ?_⟩
            · rw [e]
              unfold mayPr at hm ⊢
              rw [if_neg (by omega), if_neg k2, if_neg k3, if_pos k4] at hm
              rw [if_neg (by simp only; omega), if_neg k2, if_neg k3, if_pos k4]
              simp only [Bool.and_eq_true, mayH, singleP, turnH] at hm ⊢
              exact ⟨⟨hm.1.1, hm.1.2.1, hm.1.2.2.2, hm.1.2.2.1⟩, hm.2⟩
            · rw [e, doP_4 (show 4 ≤ ((p.1, p.2.1, p.2.2.1, turnH p.2.2.2.1, ()) : Prim).1 from by simp only; omega)]
              simp only
              rw [get_putT _ _ _ hr, if_pos rfl, if_pos (show some p.2.2.2.1.2.2.1 = some (turnH p.2.2.2.1).2.1 from rfl)]
              refine congrArg some (tree_ext (put_rising _ _ r2) hr fun x => ?_)
              rw [get_putT _ _ _ r2, get_putT _ _ _ hr]
              by_cases hx : x = p.2.1
              · rw [if_pos hx, hx, hl]; rfl
              · rw [if_neg hx, if_neg hx]
          · cases hd
theorem flowA_app {l m : List Prim} : ∀ {t u : Tree}, flowA t l = (u, 0) → flowA t (l ++ m) = flowA u m := by
  induction l with
  | nil => intro t u h; rw [flowA] at h; cases h; rfl
  | cons p l ih =>
    intro t u h
    simp only [List.cons_append, flowA] at h ⊢
    split at h
    · rename_i h0; rw [if_pos h0]; exact ih h
    · rename_i h0; exact absurd (Prod.mk.inj h).2 h0
/-- What is changed is changed back. -/
theorem flowA_back : ∀ (l : List Prim) {t u : Tree}, RT t → flowA t l = (u, 0) → RT u ∧ flowA u (turnL l) = (t, 0)
  | [], t, u, hr, h => by rw [flowA] at h; cases h; exact ⟨hr, rfl⟩
  | p :: l, t, u, hr, h => by
    simp only [flowA] at h
    split at h
    · rename_i h0
      obtain ⟨h1, h2⟩ := applyP_ok (t := t) (p := p) (u := (applyP t p).1) (by rw [← h0])
      obtain ⟨b1, b2, b3⟩ := doP_back h1 hr h2
      obtain ⟨c1, c2⟩ := flowA_back l b2 h
      refine ⟨c1, ?_⟩
      have e : turnL (p :: l) = turnL l ++ [turnP p] := by simp [turnL]
      rw [e, flowA_app c2, flowA_ok b1 b3]
      rfl
    · rename_i h0; exact absurd (Prod.mk.inj h).2 h0
theorem short_fit {t : Tree} (h : short13 t = true) : Fit 40 60 t := by
  simp only [short13, Bool.and_eq_true, decide_eq_true_eq] at h
  exact ⟨h.1.1, fun f hf => by have := List.all_eq_true.1 h.2 f hf; simpa using this⟩
theorem fileP_len' {n m : Nat} {a : Tree} (b : Tree) (ha : Fit n m a) (s : Str) : (fileP a b s).length ≤ m + 3 := by
  have h1 := hunksG_len ((getT a s).getD []) ((getT b s).getD [])
  have h2 := ha.get s
  simp only [fileP, List.length_append, patchesF, List.length_map]
  split <;> split <;> simp <;> omega
theorem newsG_len' {n m : Nat} {a b : Tree} (ha : Fit n m a) (hb : b.length ≤ n) : (newsG a b).length ≤ (n + n) * (m + 3) := by
  have h1 := flatMap_len (fileP a b) (m + 3) (namesT a b) fun s _ => fileP_len' b ha s
  have h2 := names_len a b
  have h3 := ha.1
  exact Nat.le_trans h1 (Nat.mul_le_mul_right _ (by omega))
theorem name_size {s : Str} (h : nameP s = true) : s.size ≤ 16 := by
  simp only [nameP, Bool.and_eq_true, decide_eq_true_eq] at h
  exact h.1.2
theorem fileP_may {a b : Tree} (ma : mayT a = true) (mb : mayT b = true) {s : Str} (hs : ((getT a s).isSome || (getT b s).isSome) = true) {p : Prim} (h : p ∈ fileP a b s) : mayPr p = true := by
  have hn : nameP s = true := by
    cases hA : (getT a s).isSome with
    | true => exact nameP_of ma hA
    | false => rw [hA, Bool.false_or] at hs; exact nameP_of mb hs
  simp only [fileP, List.mem_append] at h
  rcases h with h | h | h
  · split at h
    · simp at h
    · simp only [List.mem_singleton] at h; subst h; exact bare_may (.inl rfl) hn
  · obtain ⟨x, hx, rfl⟩ := List.mem_map.1 h
    have := hunksG_may (allP_get ma s) (allP_get mb s) hx
    simp [mayPr, singleP, hn, this]
  · split at h
    · simp at h
    · simp only [List.mem_singleton] at h; subst h; exact bare_may (.inr rfl) hn
theorem news_may {a b : Tree} (ma : mayT a = true) (mb : mayT b = true) {p : Prim} (h : p ∈ newsG a b) : mayPr p = true := by
  obtain ⟨s, h1, h2⟩ := List.mem_flatMap.1 h
  exact fileP_may ma mb (names_get h1) h2
theorem may_w {p : Prim} (h : mayPr p = true) (hk : p.1 = 0 ∨ p.1 = 1 ∨ p.1 = 3) (h1 : p.2.2.2.1.2.1.length ≤ 1000000000) (h2 : p.2.2.2.1.2.2.1.length ≤ 1000000000) : PrimW p := by
  have hs : singleP p = true := by
    unfold mayPr at h
    rcases hk with k | k | k
    · rw [if_pos (.inl k)] at h; simp only [Bool.and_eq_true] at h; exact h.1
    · rw [if_pos (.inr k)] at h; simp only [Bool.and_eq_true] at h; exact h.1
    · rw [if_neg (by omega), if_neg (by omega), if_pos k] at h; simp only [Bool.and_eq_true] at h; exact h.1
  simp only [singleP, Bool.and_eq_true, decide_eq_true_eq] at hs
  have := name_size hs.1
  exact ⟨by omega, by rw [hs.2]; decide, by omega, by omega⟩
theorem news_w {a b : Tree} (ma : Mid a) (mb : Mid b) (ha : mayT a = true) (hb : mayT b = true) {p : Prim} (h : p ∈ newsG a b) : PrimW p := by
  have hs := newsG_small ma mb h
  obtain ⟨s, h1, h2⟩ := List.mem_flatMap.1 h
  exact may_w (news_may ha hb h) (fileP_name h2).2 (by omega) hs.2
theorem edits_same (b : List Str) (n : Int) : ∀ (l : List Str) (i : Int), n = i + l.length → editsF b (pairsF l l i i ++ [(n, n, ())]) i i = []
  | [], i, h => by
    rw [pairsF_nil, List.nil_append, editsF, editsF, if_neg (by simp at h; simp only; omega)]; rfl
  | x :: xs, i, h => by
    rw [pairsF_cons, if_pos rfl, List.cons_append, editsF, if_neg (by simp only; omega), List.nil_append]
    exact edits_same b n xs (i + 1) (by rw [h, List.length_cons]; omega)
theorem hunks_same (l : List Str) : hunksG l l = [] := by
  rw [hunksG, editsG, edits_same l _ l 0 (by omega)]
  rfl
theorem flow_May_1_sp (p : Prim) (h : PrimW p) : flow_May_1 (p, ()) = some (!mayPr p, ()) := by
  rw [flow_May_1_eq]
  simp only [Tflow_May_1, prim_eta, prim_May_sp p h, bindF_some]
theorem slices_IndexFunc_Prim_L2_sp (l : List Prim) (hb : l.length < 4611686018427387903) (hw : ∀ p ∈ l, PrimW p) : ∀ (r : List Prim) (i : Nat), l.drop i = r → i ≤ l.length →
    ∃ y, slices_IndexFunc_Prim_L2 (l, (l.length : Int), (i : Int), ()) = some y ∧ (match y with
      | .inl z => r.all mayPr = false ∧ 0 ≤ z.2.1
      | .inr _ => r.all mayPr = true)
  | [], i, h, hi => by
    have := drop_nil h hi
    subst this
    rw [slices_IndexFunc_Prim_L2_eq]
    simp (disch := omega) only [Tslices_IndexFunc_Prim_L2, condF_True, condF_t, condF_f, condF_T, condF_F, condF_not, bindF_some, sumF_inl, sumF_inr, Int.toNat_natCast, wrap_succ, wrap_pred, Option.bind_some, Option.bind_none, Sum.elim_inl, Sum.elim_inr, List.length_append, List.length_cons, List.length_nil, beq_str, less_str, le_str, Bool.not_not]
    exact ⟨_, rfl, rfl⟩
  | p :: r, i, h, hi => by
    obtain ⟨h1, h2, h3, h4⟩ := drop_cons h
    have e := flow_May_1_sp p (hw p h4)
    rw [slices_IndexFunc_Prim_L2_eq]
    cases hm : mayPr p with
    | false =>
      rw [hm] at e
      simp (disch := omega) only [Tslices_IndexFunc_Prim_L2, condF_True, condF_t, condF_f, condF_T, condF_F, condF_not, bindF_some, sumF_inl, sumF_inr, Int.toNat_natCast, wrap_succ, wrap_pred, Option.bind_some, Option.bind_none, Sum.elim_inl, Sum.elim_inr, List.length_append, List.length_cons, List.length_nil, beq_str, less_str, le_str, Bool.not_not, h2, prim_eta, e, Bool.not_false]
      refine ⟨_, rfl, ?_⟩
      exact ⟨by rw [List.all_cons, hm, Bool.false_and], by simp only; omega⟩
    | true =>
      rw [hm] at e
      simp (disch := omega) only [Tslices_IndexFunc_Prim_L2, condF_True, condF_t, condF_f, condF_T, condF_F, condF_not, bindF_some, sumF_inl, sumF_inr, Int.toNat_natCast, wrap_succ, wrap_pred, Option.bind_some, Option.bind_none, Sum.elim_inl, Sum.elim_inr, List.length_append, List.length_cons, List.length_nil, beq_str, less_str, le_str, Bool.not_not, h2, prim_eta, e, Bool.not_true]
      obtain ⟨y, e', q⟩ := slices_IndexFunc_Prim_L2_sp l hb hw r (i + 1) h3 (by omega)
      refine ⟨y, e', ?_⟩
      cases y with
      | inl z => simp only [List.all_cons, hm, Bool.true_and] at q ⊢; exact q
      | inr z => simp only [List.all_cons, hm, Bool.true_and] at q ⊢; exact q
theorem flow_May_sp (l : List Prim) (hb : l.length < 4611686018427387903) (hw : ∀ p ∈ l, PrimW p) : flow_May (l, ()) = some (l.all mayPr, ()) := by
  obtain ⟨y, e, q⟩ := slices_IndexFunc_Prim_L2_sp l hb hw l 0 rfl (by omega)
  simp only [Int.natCast_zero] at e
  rw [flow_May_eq]
  cases y with
  | inl z =>
    simp only at q
    simp (disch := omega) only [Tflow_May, condF_True, condF_t, condF_f, condF_T, condF_F, condF_not, bindF_some, sumF_inl, sumF_inr, Int.toNat_natCast, wrap_succ, wrap_pred, Option.bind_some, Option.bind_none, Sum.elim_inl, Sum.elim_inr, List.length_append, List.length_cons, List.length_nil, beq_str, less_str, le_str, Bool.not_not, e, q.1]
    rw [decide_eq_true q.2]; rfl
  | inr z =>
    simp only at q
    simp (disch := omega) only [Tflow_May, condF_True, condF_t, condF_f, condF_T, condF_F, condF_not, bindF_some, sumF_inl, sumF_inr, Int.toNat_natCast, wrap_succ, wrap_pred, Option.bind_some, Option.bind_none, Sum.elim_inl, Sum.elim_inr, List.length_append, List.length_cons, List.length_nil, beq_str, less_str, le_str, Bool.not_not, e, q]
theorem turn_w {p : Prim} (h : PrimW p) : PrimW (turnP p) := by
  unfold turnP
  split
  · exact ⟨h.n, h.t, h.o, h.w⟩
  · split
    · exact ⟨h.n, h.t, h.o, h.w⟩
    · split
      · exact ⟨h.t, h.n, h.o, h.w⟩
      · exact ⟨h.n, h.t, h.w, h.o⟩
theorem turnL_w {l : List Prim} (h : ∀ p ∈ l, PrimW p) : ∀ p ∈ turnL l, PrimW p := fun p hp => by
  simp only [turnL, List.mem_map, List.mem_reverse] at hp
  obtain ⟨q, hq, rfl⟩ := hp
  exact turn_w (h q hq)
theorem turnL_len (l : List Prim) : (turnL l).length = l.length := by simp [turnL]
theorem news_none (a : Tree) : newsG a a = [] := by
  unfold newsG
  rw [List.flatMap_eq_nil_iff]
  intro s hs
  have h := names_get hs
  rw [Bool.or_self] at h
  simp only [fileP, h, if_true, hunks_same, patchesF, List.map_nil, List.append_nil]
theorem news_some {a b : Tree} (ma : mayT a = true) (mb : mayT b = true) : newsG a b = [] ↔ a = b := by
  constructor
  · intro h
    have := news_do ma mb []
    rw [h] at this
    exact (Prod.mk.inj this).1
  · rintro rfl; exact news_none a
theorem law13_NewsGives_sp (a b : Tree) (ha : SlimT a) (ha2 : a.length < 4611686018427387903) (hb : SlimT b) (hb2 : b.length < 4611686018427387903) : law13_NewsGives (a, b, ()) = some (true, ()) := by
  rw [law13_NewsGives_eq]
  cases sa : short13 a with
  | false =>
    cases sb : short13 b <;>
    simp (disch := first | omega | assumption) only [Tlaw13_NewsGives, condF_True, condF_t, condF_f, condF_T, condF_F, condF_not, bindF_some, sumF_inl, sumF_inr, Int.toNat_natCast, wrap_succ, wrap_pred, Option.bind_some, Option.bind_none, Sum.elim_inl, Sum.elim_inr, List.length_append, List.length_cons, List.length_nil, beq_str, less_str, le_str, Bool.not_not, law13_awake_sp, law13_short_sp, sa, sb, Bool.not_true, Bool.not_false]
  | true =>
    cases sb : short13 b with
    | false => simp (disch := first | omega | assumption) only [Tlaw13_NewsGives, condF_True, condF_t, condF_f, condF_T, condF_F, condF_not, bindF_some, sumF_inl, sumF_inr, Int.toNat_natCast, wrap_succ, wrap_pred, Option.bind_some, Option.bind_none, Sum.elim_inl, Sum.elim_inr, List.length_append, List.length_cons, List.length_nil, beq_str, less_str, le_str, Bool.not_not, law13_awake_sp, law13_short_sp, sa, sb, Bool.not_true, Bool.not_false]
    | true =>
      obtain ⟨ma, _⟩ := short_mid sa
      obtain ⟨mb, _⟩ := short_mid sb
      cases m1 : mayT a with
      | false => simp (disch := first | omega | assumption) only [Tlaw13_NewsGives, condF_True, condF_t, condF_f, condF_T, condF_F, condF_not, bindF_some, sumF_inl, sumF_inr, Int.toNat_natCast, wrap_succ, wrap_pred, Option.bind_some, Option.bind_none, Sum.elim_inl, Sum.elim_inr, List.length_append, List.length_cons, List.length_nil, beq_str, less_str, le_str, Bool.not_not, law13_awake_sp, law13_short_sp, sa, sb, Bool.not_true, Bool.not_false, tree_May_sp, m1]
      | true =>
        cases m2 : mayT b with
        | false => simp (disch := first | omega | assumption) only [Tlaw13_NewsGives, condF_True, condF_t, condF_f, condF_T, condF_F, condF_not, bindF_some, sumF_inl, sumF_inr, Int.toNat_natCast, wrap_succ, wrap_pred, Option.bind_some, Option.bind_none, Sum.elim_inl, Sum.elim_inr, List.length_append, List.length_cons, List.length_nil, beq_str, less_str, le_str, Bool.not_not, law13_awake_sp, law13_short_sp, sa, sb, Bool.not_true, Bool.not_false, tree_May_sp, m1, m2]
        | true =>
          have hM := maxEls_eq
          have fa := short_fit sa
          have fb := short_fit sb
          have l1 := newsG_len' fa fb.1
          have n1 := news_Of_sp a b ma mb ha hb
          simp only [m1, m2, Bool.and_self, if_true] at n1
          have hw : ∀ p ∈ newsG a b, PrimW p := fun p hp => news_w ma mb m1 m2 hp
          have eF := flow_Apply_sp a (newsG a b) (fa.mono (by omega) (by omega)) (by omega) hw
          have eD : flowA a (newsG a b) = (b, 0) := by
            have := news_do m1 m2 []
            rw [List.append_nil] at this
            rw [this]; rfl
          have eB := (flowA_back (newsG a b) (may_rising m1) eD).2
          have eT := flow_Turn_sp (newsG a b) (by omega) fun p hp => (hw p hp).b
          have eG := flow_Apply_sp b (turnL (newsG a b)) (fb.mono (by omega) (by omega)) (by rw [turnL_len]; omega) (turnL_w hw)
          rw [eD] at eF
          rw [eB] at eG
          have eM := flow_May_sp (newsG a b) (by omega) hw
          have eMa : (newsG a b).all mayPr = true := List.all_eq_true.2 fun p hp => news_may m1 m2 hp
          rw [eMa] at eM
          have s1 := tree_Same_sp b b mb.wee
          have s2 := tree_Same_sp a a ma.wee
          have s3 := tree_Same_sp a b ma.wee
          rw [decide_eq_true rfl] at s1 s2
          have eE : ((((newsG a b).length : Nat) : Int) == 0) = decide (a = b) := by
            rw [beq_dec, decide_eq_decide, ← news_some m1 m2, ← List.length_eq_zero_iff]
            omega
          simp (disch := first | omega | assumption) only [Tlaw13_NewsGives, condF_True, condF_t, condF_f, condF_T, condF_F, condF_not, bindF_some, sumF_inl, sumF_inr, Int.toNat_natCast, wrap_succ, wrap_pred, Option.bind_some, Option.bind_none, Sum.elim_inl, Sum.elim_inr, List.length_append, List.length_cons, List.length_nil, beq_str, less_str, le_str, Bool.not_not, law13_awake_sp, law13_short_sp, sa, sb, Bool.not_true, Bool.not_false, tree_May_sp, m1, m2, n1, eF, eT, eG, s1, s2, s3, eE, beq_self_eq_true, eM]
theorem law_run {f : FuncId} {ash : List Shp} {F : dens ash Unit → Option (retS (.ty .bool) []).den} (h : FnOK Tryz.prog th f ash (.ty .bool) [] F) {x : dens ash Unit} (e : F x = some (true, ())) :
    run Tryz.prog th (.call f (toLs (encS.encSs [] ash _ x).1)) = some ⟨.normal, .sc (.bool true), default, {}⟩ := h x (true, ()) e
theorem repStrs : Rep Tryz.prog 35 (fun l : List ByteArray => .slice (l.map (encL .str))) (fun l => (∀ x ∈ l, x.size ≤ reachBytes) ∧ l.length * Tryz.prog.bytesOf 9 ≤ reachBytes) :=
  Rep.slice Tryz.underlying35 (Rep.str Tryz.underlying9)
theorem repFile : Rep Tryz.prog 37 (encL (.pair .str (.pair (.list .str) .unit))) (fun f : ByteArray × List ByteArray × Unit => f.1.size ≤ reachBytes ∧ ((∀ x ∈ f.2.1, x.size ≤ reachBytes) ∧ f.2.1.length * Tryz.prog.bytesOf 9 ≤ reachBytes) ∧ True) :=
  Rep.struct Tryz.underlying37 (RepEach.cons (Rep.str Tryz.underlying9) (RepEach.cons repStrs RepEach.nil))
theorem repTree : Rep Tryz.prog 23 (fun t : List (ByteArray × List ByteArray × Unit) => .slice (t.map (encL (.pair .str (.pair (.list .str) .unit))))) (fun t => (∀ f ∈ t, f.1.size ≤ reachBytes ∧ ((∀ x ∈ f.2.1, x.size ≤ reachBytes) ∧ f.2.1.length * Tryz.prog.bytesOf 9 ≤ reachBytes) ∧ True) ∧ t.length * Tryz.prog.bytesOf 37 ≤ reachBytes) :=
  Rep.slice Tryz.underlying23 repFile
theorem bytesS : Tryz.prog.bytesOf 9 = 16 := by kernel_rfl
theorem bytesF : Tryz.prog.bytesOf 37 = 40 := by kernel_rfl
theorem reach_eq : reachBytes ≤ 140737488355328 := by
  have := reachBytes_lt
  have h2 : (2 : Nat) ^ 47 = 140737488355328 := rfl
  omega
theorem okStrs {l : List ByteArray} (h : (∀ x ∈ l, x.size ≤ reachBytes) ∧ l.length * Tryz.prog.bytesOf 9 ≤ reachBytes) : Slim l ∧ l.length < 4611686018427387903 := by
  have hr := reach_eq
  rw [bytesS] at h
  exact ⟨fun s hs => by have := h.1 s hs; omega, by omega⟩
theorem okTree {t : Tree} (h : (∀ f ∈ t, f.1.size ≤ reachBytes ∧ ((∀ x ∈ f.2.1, x.size ≤ reachBytes) ∧ f.2.1.length * Tryz.prog.bytesOf 9 ≤ reachBytes) ∧ True) ∧ t.length * Tryz.prog.bytesOf 37 ≤ reachBytes) : SlimT t ∧ t.length < 4611686018427387903 := by
  have hr := reach_eq
  refine ⟨fun f hf => ?_, ?_⟩
  · obtain ⟨h1, h2, _⟩ := h.1 f hf
    obtain ⟨h3, h4⟩ := okStrs h2
    exact ⟨by omega, h3, h4⟩
  · have := h.2
    rw [bytesF] at this
    omega
end Go.Proofs.YticpcfchhcjjeaaGreat.LI
