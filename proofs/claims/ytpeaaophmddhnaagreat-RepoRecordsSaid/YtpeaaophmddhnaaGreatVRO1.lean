/-
  Small laws for reading what was carried out: tests, names, numbers, lists. Trees: what the program's functions come to. Lines and names, lists that are the same: what the functions come to. Names and lines that may be: what the functions come to. Trees with a file, and without one: what the functions come to. Trees: the document's Put and Del, the program's Del. The names of the files of two trees: what the functions come to. The document's names of two trees; whether a tree may be; whether it is light. Whether a tree may be, and whether it is light: what the functions come to. Light trees; the example; the two ways to names. The example of the chapter, and the laws of trees. Laws of trees: what is got of a tree with a file and of one without, and that rising trees of the same files are the same. What two lists have in common: what the functions come to. Edits and hunks: what the functions come to. News: what the functions come to. The laws NewsTells and NewsCost hold of what was carried out. Lists of strings, joined, and compared once more. Changes: what the functions come to. Trees that changes change: what the functions come to. What the changes from one tree to another one are like: pairs of equal lines, edits that are apart, changes of which none undoes the one ahead. The changes from one tree to another one change it into that. Changes turned back; the laws NewsTwo and NewsFiles hold of what was carried out. The law NewsGives holds of what was carried out. Patches that pass one another, and repositories: plain definitions. Hunks and changes that pass one another: what the functions come to. Lists of changes, and patches, that pass one another: what the functions come to. Patches that pass one another, and those that stay: what the functions come to. Patches and repositories: what the functions come to. Repositories that are light, and such that are the same: what the functions come to. The law RepoReverts holds of what was carried out. What a repository becomes when it is recorded, a file has another name, and a patch is not recorded any more: what the functions come to. The laws RepoMoves and RepoRecords hold of what was carried out. A patch that is not recorded any more: what the function comes to. The law RepoStays holds of what was carried out. From a law's function to its row: which data its arguments are. Which data patches and repositories are.
-/
import Derived.Test.YtpeaaophmddhnaaGreatVRO0
import Derived.Sort.Walk0
import Derived.Test.YtpeaaophmddhnaaGreatRows
import Derived.Test.YtpeaaophmddhnaaGreatChecked
import Derived.ChangeOld
import Derived.ProofKit
import Derived.ShutString
set_option linter.unusedSimpArgs false
set_option linter.unusedVariables false
set_option maxRecDepth 100000
namespace Go.Proofs.YtpeaaophmddhnaaGreat.LI
open Go
open Go Go.RowKit
open KV (toL)
open KV.toL (toLs)
theorem Ada {α : Type} {p : Prop} [Decidable p] (h : p) (x y : Option α) : jKa (decide p) x y = x := by simp [jKa, h]
theorem Aga {α : Type} {p : Prop} [Decidable p] (h : ¬ p) (x y : Option α) : jKa (decide p) x y = y := by simp [jKa, h]
theorem Aja {α : Type} [h : Decidable True] (x y : Option α) : jKa (@decide True h) x y = x := Ada trivial x y
theorem Aca {α : Type} (x y : Option α) : jKa true x y = x := rfl
theorem Aea {α : Type} (x y : Option α) : jKa false x y = y := rfl
theorem Ama {α : Type} (b : Bool) (x y : Option α) : jKa (!b) x y = jKa b y x := by cases b <;> rfl
theorem Aaa {α β : Type} (a : α) (f : α → Option β) : lIa (some a) f = f a := rfl
theorem Gaa {α β γ : Type} (a : α) (f : α → Option γ) (g : β → Option γ) : bFb (.inl a) f g = f a := rfl
theorem Ema {α β γ : Type} (a : β) (f : α → Option γ) (g : β → Option γ) : bFb (.inr a) f g = g a := rfl
theorem Aua {n : Int} (h : -4611686018427387904 ≤ n) (h' : n < 4611686018427387904) : IntKind.wrap .i64 n = n := by rw [IntKind.wrap_i64]; omega
theorem Fxa {i : Nat} (h : i < 4611686018427387903) : IntKind.wrap .i64 ((i : Int) + 1) = ((i + 1 : Nat) : Int) := by rw [IntKind.wrap_i64]; omega
theorem Llb {i : Nat} (h : 0 < i) (h' : i < 4611686018427387903) : IntKind.wrap .i64 ((i : Int) - 1) = ((i - 1 : Nat) : Int) := by rw [IntKind.wrap_i64]; omega
theorem Aia : bBa = 1099511627776 := rfl
theorem Aba {α : Type} {l : List α} {i : Nat} {a : α} {r : List α} (h : l.drop i = a :: r) : i < l.length ∧ (∀ d, l.getD i d = a) ∧ l.drop (i + 1) = r ∧ a ∈ l := by
  have hi : i < l.length := by
    by_cases hi : i < l.length
    · exact hi
    · rw [List.drop_eq_nil_of_le (by omega)] at h; cases h
  rw [List.drop_eq_getElem_cons hi] at h
  injection h with h1 h2
  refine ⟨hi, fun d => ?_, h2, h1 ▸ List.getElem_mem hi⟩
  rw [List.getD_eq_getElem?_getD, List.getElem?_eq_getElem hi, Option.getD_some, h1]
theorem Afa {α : Type} {l : List α} {i : Nat} (h : l.drop i = []) (hi : i ≤ l.length) : i = l.length := by
  rw [List.drop_eq_nil_iff] at h
  omega
theorem Vra (a b : ByteArray) : (ByteArray.toList a == ByteArray.toList b) = decide (a = b) := by
  rw [Bool.eq_iff_iff, beq_iff_eq, decide_eq_true_eq]
  constructor
  · intro h
    rw [Lib.toList_data, Lib.toList_data] at h
    exact ByteArray.ext (Array.toList_inj.1 h)
  · rintro rfl; rfl
def ltS (a b : ByteArray) : Prop := a.data.toList < b.data.toList
instance (a b : ByteArray) : Decidable (ltS a b) := inferInstanceAs (Decidable (a.data.toList < b.data.toList))
theorem Lyb (a b : ByteArray) : Op.bytesLess (ByteArray.toList a) (ByteArray.toList b) = decide (ltS a b) := by
  rw [Go.Proofs.bytesLess_eq, Lib.toList_data, Lib.toList_data]; rfl
theorem Iga (a : ByteArray) : ¬ ltS a a := List.lt_irrefl _
theorem Hha {a b c : ByteArray} (h : ltS a b) (k : ltS b c) : ltS a c := List.lt_trans h k
theorem Zta {a b : ByteArray} (h : ltS a b) : ¬ ltS b a := fun k => Iga a (Hha h k)
theorem Mia (a b : ByteArray) : ltS a b ∨ a = b ∨ ltS b a := by
  by_cases h : ltS a b
  · exact .inl h
  · by_cases k : ltS b a
    · exact .inr (.inr k)
    · have h1 := List.not_lt.1 h
      have k1 := List.not_lt.1 k
      have := List.le_antisymm k1 h1
      exact .inr (.inl (ByteArray.ext (Array.toList_inj.1 this)))
theorem Snb (a b : ByteArray) : (decide (ltS a b) || decide (a = b)) = !decide (ltS b a) := by
  rcases Mia a b with h | h | h
  · have := Zta h; simp [h, this]
  · subst h; simp [Iga]
  · have h1 := Zta h
    have h2 : ¬ a = b := fun e => Iga b (e ▸ h)
    simp [h, h1, h2]
theorem PP : (∀ {α : Type} [h : Decidable True] (x y : Option α), jKa (@decide True h) x y = x) ∧
    (∀ {α : Type} {p : Prop} [Decidable p] (_ : p) (x y : Option α), jKa (decide p) x y = x) ∧
    (∀ {α : Type} {p : Prop} [Decidable p] (_ : ¬ p) (x y : Option α), jKa (decide p) x y = y) ∧
    (∀ {α : Type} (x y : Option α), jKa true x y = x) ∧ (∀ {α : Type} (x y : Option α), jKa false x y = y) ∧
    (∀ {α : Type} (b : Bool) (x y : Option α), jKa (!b) x y = jKa b y x) ∧
    (∀ {α β : Type} (a : α) (f : α → Option β), lIa (some a) f = f a) ∧
    (∀ {α β γ : Type} (a : α) (f : α → Option γ) (g : β → Option γ), bFb (.inl a) f g = f a) ∧
    (∀ {α β γ : Type} (a : β) (f : α → Option γ) (g : β → Option γ), bFb (.inr a) f g = g a) ∧
    (∀ n : Nat, Int.toNat (n : Int) = n) ∧
    (∀ {i : Nat} (_ : i < 4611686018427387903), IntKind.wrap .i64 ((i : Int) + 1) = ((i + 1 : Nat) : Int)) ∧
    (∀ {i : Nat} (_ : 0 < i) (_ : i < 4611686018427387903), IntKind.wrap .i64 ((i : Int) - 1) = ((i - 1 : Nat) : Int)) ∧
    (∀ {α β : Type} (a : α) (f : α → Option β), (some a).bind f = f a) ∧ (∀ {α β : Type} (f : α → Option β), (none : Option α).bind f = none) ∧
    (∀ {α β γ : Type} (f : α → γ) (g : β → γ) (a : α), Sum.elim f g (.inl a) = f a) ∧ (∀ {α β γ : Type} (f : α → γ) (g : β → γ) (a : β), Sum.elim f g (.inr a) = g a) ∧
    (∀ {α : Type} (l m : List α), (l ++ m).length = l.length + m.length) ∧ (∀ {α : Type} (a : α) (l : List α), (a :: l).length = l.length + 1) ∧ (∀ {α : Type}, ([] : List α).length = 0) ∧
    (∀ a b : ByteArray, (ByteArray.toList a == ByteArray.toList b) = decide (a = b)) ∧ (∀ a b : ByteArray, Op.bytesLess (ByteArray.toList a) (ByteArray.toList b) = decide (ltS a b)) ∧
    (∀ a b : ByteArray, (decide (ltS a b) || decide (a = b)) = !decide (ltS b a)) ∧ (∀ b : Bool, (!!b) = b) :=
  ⟨Aja, Ada, Aga, Aca, Aea, Ama, Aaa, Gaa, Ema, Int.toNat_natCast, Fxa, Llb, fun _ _ => rfl, fun _ => rfl, fun _ _ _ => rfl, fun _ _ _ => rfl,
    fun _ _ => List.length_append, fun _ _ => List.length_cons, List.length_nil, Vra, Lyb, Snb, Bool.not_not⟩
mutual
theorem Rca : ∀ (t : Ty) (x : t.den), eqT t x x = true
  | .int _, _ => by simp [eqT]
  | .byte, _ => by simp [eqT]
  | .bool, _ => by simp [eqT]
  | .str, _ => by simp [eqT]
  | .list t, l => by rw [eqT]; exact Icb t l
  | .unit, _ => by simp [eqT]
  | .pair a b, p => by rw [eqT, Rca a, Rca b]; rfl
theorem Icb (t : Ty) : ∀ (l : List t.den), eqT.eqL t l l = true
  | [] => by rw [eqT.eqL]
  | x :: xs => by rw [eqT.eqL, Rca t x, Icb t xs]; rfl
end
abbrev Str := ByteArray
abbrev Bhb := ByteArray × List ByteArray × Unit
abbrev Aha := List Bhb
def Wee (t : Aha) : Prop := t.length ≤ 1000000000 ∧ ∀ f ∈ t, f.2.1.length ≤ 1000000000
theorem Nsa (s : Str) (l : List Str) (h : l.length ≤ 1000000000) : Loa (s, l, ()) = some ((s, l, ()), ()) := by
  have hM := Aia
  rw [Hsb]
  simp (disch := omega) only [Epb, PP]
theorem Tha (t l0 : Aha) (hw : Wee t) : ∀ (r : Aha) (i : Nat) (l1 : Aha), t.drop i = r → i ≤ t.length → l1.length + r.length ≤ 1000000000 →
    Kza (l0, l1, t, (t.length : Int), (i : Int), ()) = some (l0, l1 ++ r, t, (t.length : Int), (t.length : Int), ())
  | [], i, l1, h, hi, _ => by
    have := Afa h hi
    subst this
    rw [Tga]
    simp (disch := omega) only [Pga, PP, List.append_nil]
  | f :: r, i, l1, h, hi, hl => by
    obtain ⟨h1, h2, h3, h4⟩ := Aba h
    have hb := hw.1
    have hf := hw.2 f h4
    have hM := Aia
    rw [Tga]
    simp only [List.length_cons] at hl
    simp (disch := omega) only [Pga, PP, h2, Nsa]
    rw [Tha t l0 hw r (i + 1) _ h3 (by omega) (by simp; omega)]
    simp
theorem Laa (t : Aha) (hw : Wee t) : Vna (t, ()) = some (t, ()) := by
  rw [Hrb]
  have := Tha t [] hw t 0 [] rfl (by omega) (by simpa using hw.1)
  simp only [Int.natCast_zero, List.nil_append] at this
  simp (disch := omega) only [Eob, PP, this]
def at_ (t : Aha) (s : Str) : Nat := t.findIdx fun f => decide (f.1 = s)
theorem Cfb (t : Aha) (s : Str) (hb : t.length < 4611686018427387903) : ∀ (r : Aha) (i : Nat), t.drop i = r → i ≤ t.length →
    ∃ y, Aya (s, t, (t.length : Int), (i : Int), ()) = some y ∧ (match y with
      | .inl z => z.2.2.1 = ((i + r.findIdx (fun f => decide (f.1 = s)) : Nat) : Int) ∧ r.findIdx (fun f => decide (f.1 = s)) < r.length
      | .inr _ => r.findIdx (fun f => decide (f.1 = s)) = r.length)
  | [], i, h, hi => by
    have := Afa h hi
    subst this
    rw [Eda]
    simp (disch := omega) only [Bma, PP]
    exact ⟨_, rfl, rfl⟩
  | f :: r, i, h, hi => by
    obtain ⟨h1, h2, h3, h4⟩ := Aba h
    rw [Eda]
    by_cases hf : f.1 = s
    · simp (disch := omega) only [Bma, PP, h2, hf, List.findIdx_cons, decide_true, cond_true, Nat.add_zero]
      exact ⟨_, rfl, rfl, by omega⟩
    · simp (disch := omega) only [Bma, PP, h2, hf, List.findIdx_cons, decide_false, cond_false]
      obtain ⟨y, e, p⟩ := Cfb t s hb r (i + 1) h3 (by omega)
      refine ⟨y, e, ?_⟩
      cases y with
      | inl z => simp only at p ⊢; exact ⟨by rw [p.1]; omega, by omega⟩
      | inr z => simp only at p ⊢; omega
theorem Daa (t : Aha) (s : Str) (hb : t.length < 4611686018427387903) : Kaa (t, s, ()) = some ((at_ t s : Int), ()) := by
  rw [Eib]
  obtain ⟨y, e, p⟩ := Cfb t s hb t 0 rfl (by omega)
  simp only [Int.natCast_zero] at e
  cases y with
  | inl z =>
    simp only [Nat.zero_add] at p
    simp (disch := omega) only [Tka, e, PP, p.1]
    rfl
  | inr z =>
    simp only at p
    simp only [Tka, e, PP, at_, p]
def Ava (t : Aha) (s : Str) : Option (List Str) := (t.find? fun f => decide (f.1 = s)).map fun f => f.2.1
theorem Zla (t : Aha) (s : Str) : Ava t s = if at_ t s < t.length then some (t.getD (at_ t s) (ByteArray.empty, [], ())).2.1 else none := by
  unfold Ava at_
  induction t with
  | nil => simp
  | cons f t ih =>
    rw [List.find?_cons, List.findIdx_cons]
    by_cases hf : f.1 = s
    · simp [hf]
    · simp only [hf, decide_false, cond_false, List.length_cons, Nat.add_lt_add_iff_right, List.getD_cons_succ]
      exact ih
theorem Ega (t : Aha) (s : Str) (hw : Wee t) : Hxa (t, s, ()) = some ((Ava t s).getD [], (Ava t s).isSome, ()) := by
  have hb := hw.1
  have hM := Aia
  rw [Hob]
  by_cases h : at_ t s < t.length
  · have hm : t.getD (at_ t s) (ByteArray.empty, [], ()) ∈ t := by
      rw [List.getD_eq_getElem?_getD, List.getElem?_eq_getElem h]; exact List.getElem_mem h
    have := hw.2 _ hm
    simp (disch := omega) only [Yja, Daa, PP, Zla, h, if_true, Option.getD_some, Option.isSome_some]
  · simp (disch := omega) only [Yja, Daa, PP, Zla, h, if_false, Option.getD_none, Option.isSome_none]
theorem Ola (m : List Str) : ∀ (r : List Str) (l : List Str) (i : Nat), l.drop i = r → i ≤ l.length → l.length = m.length → l.length < 4611686018427387903 →
    ∃ y, Hoa (l, m, (i : Int), ()) = some y ∧ (match y with
      | .inl _ => l.drop i ≠ m.drop i
      | .inr _ => l.drop i = m.drop i)
  | [], l, i, h, hi, hl, hb => by
    have := Afa h hi
    subst this
    rw [Oka]
    simp (disch := omega) only [Ina, PP]
    exact ⟨_, rfl, by simp [hl]⟩
  | a :: r, l, i, h, hi, hl, hb => by
    obtain ⟨h1, h2, h3, h4⟩ := Aba h
    obtain ⟨b, s, hm⟩ : ∃ b s, m.drop i = b :: s := ⟨_, _, List.drop_eq_getElem_cons (by omega)⟩
    obtain ⟨m1, m2, m3, m4⟩ := Aba hm
    rw [Oka]
    by_cases hab : a = b
    · subst hab
      simp (disch := omega) only [Ina, PP, h2, m2, decide_true, Bool.not_true]
      obtain ⟨y, e, p⟩ := Ola m r l (i + 1) h3 (by omega) hl hb
      refine ⟨y, e, ?_⟩
      rw [h, hm]
      rw [h3, m3] at p
      cases y with
      | inl z => simpa using p
      | inr z => simpa using p
    · simp (disch := first | omega | assumption) only [Ina, PP, h2, m2]
      refine ⟨_, rfl, ?_⟩
      rw [h, hm]
      simp [hab]
theorem Hpa (l m : List Str) (hb : l.length < 4611686018427387903) : Jya (l, m, ()) = some (decide (l = m), ()) := by
  rw [Dnb]
  by_cases hl : l.length = m.length
  · obtain ⟨y, e, p⟩ := Ola m l l 0 rfl (by omega) hl hb
    simp only [Int.natCast_zero] at e
    have hbn : ((l.length : Int) != (m.length : Int)) = false := by simp [hl]
    simp only [List.drop_zero] at p
    cases y with
    | inl z => simp only at p; simp only [Mwa, hbn, e, PP, p, decide_false]
    | inr z => simp only at p; subst p; simp only [Mwa, hbn, e, PP, decide_true]
  · have hbn : ((l.length : Int) != (m.length : Int)) = true := by simp; omega
    have : ¬ l = m := fun e => hl (by rw [e])
    simp only [Mwa, hbn, PP, this, decide_false]
theorem Fva (m : List Str) : ∀ (r : List Str) (l : List Str) (i : Nat), l.drop i = r → i ≤ l.length → l.length = m.length → l.length < 4611686018427387903 →
    ∃ y, Bka (l, m, (l.length : Int), (i : Int), ()) = some y ∧ (match y with
      | .inl _ => l.drop i ≠ m.drop i
      | .inr _ => l.drop i = m.drop i)
  | [], l, i, h, hi, hl, hb => by
    have := Afa h hi
    subst this
    rw [Fua]
    simp (disch := omega) only [Bua, PP]
    exact ⟨_, rfl, by simp [hl]⟩
  | a :: r, l, i, h, hi, hl, hb => by
    obtain ⟨h1, h2, h3, h4⟩ := Aba h
    obtain ⟨b, s, hm⟩ : ∃ b s, m.drop i = b :: s := ⟨_, _, List.drop_eq_getElem_cons (by omega)⟩
    obtain ⟨m1, m2, m3, m4⟩ := Aba hm
    rw [Fua]
    by_cases hab : a = b
    · subst hab
      simp (disch := omega) only [Bua, PP, h2, m2, decide_true, Bool.not_true]
      obtain ⟨y, e, p⟩ := Fva m r l (i + 1) h3 (by omega) hl hb
      refine ⟨y, e, ?_⟩
      rw [h, hm]
      rw [h3, m3] at p
      cases y with
      | inl z => simpa using p
      | inr z => simpa using p
    · simp (disch := first | omega | assumption) only [Bua, PP, h2, m2]
      refine ⟨_, rfl, ?_⟩
      rw [h, hm]
      simp [hab]
theorem Dha (l m : List Str) (hb : l.length < 4611686018427387903) : Bza (l, m, ()) = some (decide (l = m), ()) := by
  rw [Oya]
  by_cases hl : l.length = m.length
  · obtain ⟨y, e, p⟩ := Fva m l l 0 rfl (by omega) hl hb
    simp only [Int.natCast_zero] at e
    have hbn : ((l.length : Int) != (m.length : Int)) = false := by simp [hl]
    simp only [List.drop_zero] at p
    cases y with
    | inl z => simp only at p; simp only [Cma, hbn, e, PP, p, decide_false]
    | inr z => simp only at p; subst p; simp only [Cma, hbn, e, PP, decide_true]
  · have hbn : ((l.length : Int) != (m.length : Int)) = true := by simp; omega
    have : ¬ l = m := fun e => hl (by rw [e])
    simp only [Cma, hbn, PP, this, decide_false]
theorem Idb {f g : Bhb} (h : f.1 = g.1) (k : f.2.1 = g.2.1) : f = g := by
  obtain ⟨a, b, ⟨⟩⟩ := f
  obtain ⟨c, d, ⟨⟩⟩ := g
  simp only at h k
  rw [h, k]
theorem Tfa (f g : Bhb) (hb : f.2.1.length < 4611686018427387903) : Nra (f, g, ()) = some (decide (f = g), ()) := by
  rw [Bgb]
  by_cases h : f.1 = g.1
  · by_cases k : f.2.1 = g.2.1
    · have := Idb h k
      subst this
      simp (disch := omega) only [Lka, PP, decide_true, Dha]
    · have : ¬ f = g := fun e => k (by rw [e])
      simp (disch := omega) only [Lka, PP, h, decide_true, Dha, k, decide_false, this]
  · have : ¬ f = g := fun e => h (by rw [e])
    simp (disch := first | omega | assumption) only [Lka, PP, decide_false, this]
theorem Eca (m l : Aha) (hw : Wee l) : ∀ (r : Aha) (i : Nat), l.drop i = r → i ≤ l.length → l.length = m.length →
    ∃ y, Axa (m, l, (l.length : Int), (i : Int), ()) = some y ∧ (match y with
      | .inl _ => l.drop i ≠ m.drop i
      | .inr _ => l.drop i = m.drop i)
  | [], i, h, hi, hl => by
    have := Afa h hi
    subst this
    rw [Eba]
    simp (disch := omega) only [Bla, PP]
    exact ⟨_, rfl, by simp [hl]⟩
  | a :: r, i, h, hi, hl => by
    have hb := hw.1
    obtain ⟨h1, h2, h3, h4⟩ := Aba h
    have ha := hw.2 a h4
    obtain ⟨b, s, hm⟩ : ∃ b s, m.drop i = b :: s := ⟨_, _, List.drop_eq_getElem_cons (by omega)⟩
    obtain ⟨m1, m2, m3, m4⟩ := Aba hm
    rw [Eba]
    have e1 : ((a.1, a.2.1, ()) : Bhb) = a := rfl
    have e2 : ((b.1, b.2.1, ()) : Bhb) = b := rfl
    by_cases hab : a = b
    · subst hab
      simp (disch := omega) only [Bla, PP, h2, m2, e1, Tfa, decide_true]
      obtain ⟨y, e, p⟩ := Eca m l hw r (i + 1) h3 (by omega) hl
      refine ⟨y, e, ?_⟩
      rw [h, hm]
      rw [h3, m3] at p
      cases y with
      | inl z => simpa using p
      | inr z => simpa using p
    · simp (disch := omega) only [Bla, PP, h2, m2, e1, e2, Tfa, hab, decide_false]
      refine ⟨_, rfl, ?_⟩
      rw [h, hm]
      simp [hab]
theorem Xfa (l m : Aha) (hw : Wee l) : Kya (l, m, ()) = some (decide (l = m), ()) := by
  rw [Gnb]
  by_cases hl : l.length = m.length
  · obtain ⟨y, e, p⟩ := Eca m l hw l 0 rfl (by omega) hl
    simp only [Int.natCast_zero] at e
    have hbn : ((l.length : Int) != (m.length : Int)) = false := by simp [hl]
    simp only [List.drop_zero] at p
    cases y with
    | inl z => simp only at p; simp only [Qza, hbn, e, PP, p, decide_false]
    | inr z => simp only at p; subst p; simp only [Qza, hbn, e, PP, decide_true]
  · have hbn : ((l.length : Int) != (m.length : Int)) = true := by simp; omega
    have : ¬ l = m := fun e => hl (by rw [e])
    simp only [Qza, hbn, PP, this, decide_false]
def Jeb (c : UInt8) : Bool := (decide (97 ≤ c.toNat) && decide (c.toNat ≤ 122)) || (decide (48 ≤ c.toNat) && decide (c.toNat ≤ 57)) || decide (c.toNat = 46)
theorem Xea (c : UInt8) : Vma (c, ()) = some (Jeb c, ()) := by
  rw [Gmb]
  have e : (((UInt8.toNat c : Nat) : Int) == 46) = decide (c.toNat = 46) := by
    rw [Bool.eq_iff_iff]; simp; omega
  by_cases h1 : 97 ≤ c.toNat <;> by_cases h2 : c.toNat ≤ 122 <;> by_cases h3 : 48 ≤ c.toNat <;> by_cases h4 : c.toNat ≤ 57 <;>
    first
    | (exfalso; omega)
    | simp (disch := omega) only [Bob, PP, e, Jeb, h1, h2, h3, h4, decide_true, decide_false, Bool.true_and, Bool.false_and, Bool.true_or, Bool.false_or, Bool.or_false, Bool.or_true, Bool.and_false, Bool.and_true]
theorem Crb (c : UInt8) : UInt8.ofNat (UInt8.toNat c) = c := by simp
theorem Kab (c : UInt8) : (decide ((0 : Int) ≤ ((UInt8.toNat c : Nat) : Int)) && decide (((UInt8.toNat c : Nat) : Int) < 256)) = true := by
  have := UInt8.toNat_lt c
  simp; omega
def Foa (s : Str) : Bool := decide (1 ≤ s.size) && decide (s.size ≤ 16) && s.data.toList.all Jeb
theorem Vja (s : Str) : s.data.toList.length = s.size := by simp
theorem Qva (s : Str) (hb : s.size < 4611686018427387903) : ∀ (r : List UInt8) (i : Nat), s.data.toList.drop i = r → i ≤ s.size →
    ∃ y, Jfa (s, (s.size : Int), (i : Int), ()) = some y ∧ (match y with
      | .inl _ => r.all Jeb = false
      | .inr z => r.all Jeb = true ∧ z.1 = s)
  | [], i, h, hi => by
    have := Afa h (by rw [Vja]; exact hi)
    rw [Vja] at this
    subst this
    rw [Qua]
    simp (disch := omega) only [Jsa, PP]
    exact ⟨_, rfl, rfl, rfl⟩
  | c :: r, i, h, hi => by
    obtain ⟨h1, h2, h3, h4⟩ := Aba h
    rw [Vja] at h1
    rw [Qua]
    cases hc : Jeb c with
    | true =>
      simp (disch := omega) only [Jsa, PP, h2, Kab, Crb, Xea, hc]
      obtain ⟨y, e, p⟩ := Qva s hb r (i + 1) h3 (by omega)
      refine ⟨y, e, ?_⟩
      cases y with
      | inl z => simpa [hc] using p
      | inr z => simpa [hc] using p
    | false =>
      simp (disch := omega) only [Jsa, PP, h2, Kab, Crb, Xea, hc]
      exact ⟨_, rfl, by simp [hc]⟩
theorem Gib (s : Str) : s = ByteArray.empty ↔ s.size = 0 := by
  constructor
  · rintro rfl; rfl
  · intro h
    apply ByteArray.ext
    apply Array.ext'
    have : s.data.toList = [] := List.eq_nil_of_length_eq_zero (by rw [Vja]; exact h)
    rw [this]; rfl
theorem Cia (s : Str) (hb : s.size < 4611686018427387903) : Kwa (s, ()) = some (Foa s, ()) := by
  rw [Glb]
  obtain ⟨y, e, p⟩ := Qva s hb s.data.toList 0 rfl (by omega)
  simp only [Int.natCast_zero] at e
  cases y with
  | inl z =>
    simp only at p
    simp only [Qya, e, PP, Foa, p, Bool.and_false]
  | inr z =>
    obtain ⟨p, rfl⟩ := p
    have hd : decide (((z.1.size : Nat) : Int) ≤ 16) = decide (z.1.size ≤ 16) := by
      rw [decide_eq_decide]; omega
    by_cases h0 : z.1 = ByteArray.empty
    · have h1 := (Gib _).1 h0
      have : Foa z.1 = false := by simp [Foa, h1]
      simp only [Qya, e, PP, this]
      simp only [h0, decide_true, PP]
    · have h1 : 1 ≤ z.1.size := by
        have := mt (Gib z.1).2 h0
        omega
      simp only [Qya, e, PP, h0, decide_false, Foa, h1, decide_true, p, Bool.true_and, Bool.and_true, hd]
def Frb (s : Str) : Bool := decide (s.size ≤ 80) && s.data.toList.all fun c => decide (c ≠ 10)
theorem Wva : ∀ (l : List UInt8) (c : UInt8), -1 ≤ Lib.indexByte l c
  | [], c => by simp [Lib.indexByte]
  | b :: l, c => by
    have := Wva l c
    simp only [Lib.indexByte]
    split
    · omega
    · split
      · omega
      · omega
theorem Ula : ∀ (l : List UInt8), decide (Lib.indexByte l 10 < 0) = l.all fun c => decide (c ≠ 10)
  | [] => rfl
  | b :: l => by
    have ih := Ula l
    have hge := Wva l 10
    simp only [Lib.indexByte, List.all_cons, ← ih]
    by_cases hb : b = 10
    · subst hb; simp
    · simp only [beq_iff_eq, hb, if_false, ne_eq, not_false_eq_true, decide_true, Bool.true_and]
      split
      · rename_i h; rw [h]
      · rename_i h
        rw [Bool.eq_iff_iff, decide_eq_true_eq, decide_eq_true_eq]; omega
theorem Agb (s : Str) : Rpa (s, ()) = some (Frb s, ()) := by
  have e10 : Nat.toUInt8 (Int.toNat (((UInt8.toNat (UInt8.ofNat (Int.toNat 10))) : Nat) : Int)) = 10 := rfl
  have hi : Ela (s, UInt8.ofNat (Int.toNat 10), ()) = some (Lib.indexByte s.data.toList 10, ()) := by
    rw [Rwa]
    simp only [Lja, Kab, PP, Crb, Hga, Cpa]
    rfl
  rw [Hmb]
  by_cases h : s.size ≤ 80
  · simp (disch := omega) only [Yga, PP, hi, Ula, Frb, h, decide_true, Bool.true_and]
  · simp (disch := omega) only [Yga, PP, Frb, h, decide_false, Bool.false_and]
theorem Vla (s : Str) : Roa (s, ()) = some (!Frb s, ()) := by
  rw [Edb]
  simp only [Yfa, Agb, PP]
def Xka (l : List Str) : Bool := decide (l.length ≤ 200) && l.all Frb
theorem Dfa (l : List Str) (hb : l.length < 4611686018427387903) : ∀ (r : List Str) (i : Nat), l.drop i = r → i ≤ l.length →
    ∃ y, Aoa (l, (l.length : Int), (i : Int), ()) = some y ∧ (match y with
      | .inl z => r.all Frb = false ∧ 0 ≤ z.2.1
      | .inr z => r.all Frb = true)
  | [], i, h, hi => by
    have := Afa h hi
    subst this
    rw [Dea]
    simp (disch := omega) only [Bba, PP]
    exact ⟨_, rfl, rfl⟩
  | c :: r, i, h, hi => by
    obtain ⟨h1, h2, h3, h4⟩ := Aba h
    rw [Dea]
    cases hc : Frb c with
    | true =>
      simp (disch := omega) only [Bba, PP, h2, Vla, hc, Bool.not_true]
      obtain ⟨y, e, p⟩ := Dfa l hb r (i + 1) h3 (by omega)
      refine ⟨y, e, ?_⟩
      cases y with
      | inl z => simpa [hc] using p
      | inr z => simpa [hc] using p
    | false =>
      simp (disch := omega) only [Bba, PP, h2, Vla, hc, Bool.not_false]
      exact ⟨_, rfl, by simp [hc], by simp only; omega⟩
theorem Ila (l : List Str) : Rna (l, ()) = some (Xka l, ()) := by
  rw [Hlb]
  by_cases h : l.length ≤ 200
  · obtain ⟨y, e, p⟩ := Dfa l (by omega) l 0 rfl (by omega)
    simp only [Int.natCast_zero] at e
    cases y with
    | inl z =>
      simp only at p
      have : decide (z.2.1 ≥ 0) = true := decide_eq_true p.2
      simp (disch := omega) only [Txa, PP, e, Xka, h, p.1, decide_true, Bool.true_and, this, Bool.not_true]
    | inr z =>
      simp only at p
      simp (disch := omega) only [Txa, PP, e, Xka, h, p, decide_true, Bool.true_and]
  · simp (disch := omega) only [Txa, PP, Xka, h, decide_false, Bool.false_and]
def gt_ (t : Aha) (s : Str) : Nat := t.findIdx fun f => decide (ltS s f.1)
def Oxa (t : Aha) (s : Str) (l : List Str) : Aha := if at_ t s < t.length then t.set (at_ t s) (s, l, ()) else t.take (gt_ t s) ++ (s, l, ()) :: t.drop (gt_ t s)
theorem Ieb (t : Aha) (s : Str) (hb : t.length < 4611686018427387903) : ∀ (r : Aha) (i : Nat), t.drop i = r → i ≤ t.length →
    ∃ y, Asa (t, s, (t.length : Int), (i : Int), ()) = some y ∧ (match y with
      | .inl z => z.1 = t ∧ z.2.1 = s ∧ z.2.2.1 = ((i + r.findIdx (fun f => decide (ltS s f.1)) : Nat) : Int) ∧ r.findIdx (fun f => decide (ltS s f.1)) < r.length
      | .inr z => z.1 = t ∧ z.2.1 = s ∧ r.findIdx (fun f => decide (ltS s f.1)) = r.length)
  | [], i, h, hi => by
    have := Afa h hi
    subst this
    rw [Dla]
    simp (disch := omega) only [Bha, PP]
    exact ⟨_, rfl, rfl, rfl, rfl⟩
  | f :: r, i, h, hi => by
    obtain ⟨h1, h2, h3, h4⟩ := Aba h
    rw [Dla]
    by_cases hf : ltS s f.1
    · simp (disch := omega) only [Bha, PP, h2, hf, List.findIdx_cons, decide_true, cond_true, Nat.add_zero]
      exact ⟨_, rfl, rfl, rfl, rfl, by omega⟩
    · simp (disch := omega) only [Bha, PP, h2, hf, List.findIdx_cons, decide_false, cond_false]
      obtain ⟨y, e, p⟩ := Ieb t s hb r (i + 1) h3 (by omega)
      refine ⟨y, e, ?_⟩
      cases y with
      | inl z => simp only at p ⊢; exact ⟨p.1, p.2.1, by rw [p.2.2.1]; omega, by omega⟩
      | inr z => simp only at p ⊢; exact ⟨p.1, p.2.1, by omega⟩
theorem Ifb (t : Aha) (n : Nat) (f : Bhb) : oPb t (n : Int) [f] = t.take n ++ f :: t.drop n := by simp [oPb]
theorem Nqa (t : Aha) (s : Str) (l : List Str) (hw : Wee t) (hl : l.length ≤ 1000000000) : Npa (t, s, l, ()) = some (Oxa t s l, ()) := by
  have hb := hw.1
  have hM := Aia
  rw [Hqb]
  by_cases h : at_ t s < t.length
  · simp (disch := first | omega | assumption) only [Tya, PP, Laa, Daa, Nsa, List.length_set, Oxa, h, if_true]
  · obtain ⟨y, e, p⟩ := Ieb t s (by omega) t 0 rfl (by omega)
    simp only [Int.natCast_zero] at e
    cases y with
    | inl z =>
      obtain ⟨p1, p2, p3, p4⟩ := p
      simp only [Nat.zero_add] at p3
      rw [show (t.findIdx fun f => decide (ltS s f.1)) = gt_ t s from rfl] at p3 p4
      simp (disch := first | omega | assumption) only [Tya, PP, Laa, Daa, e, p1, p2, p3, Rca, Nsa, Ifb, Oxa, h, if_false]
    | inr z =>
      obtain ⟨p1, p2, p3⟩ := p
      rw [show (t.findIdx fun f => decide (ltS s f.1)) = gt_ t s from rfl] at p3
      simp (disch := first | omega | assumption) only [Tya, PP, Laa, Daa, e, p1, p2, Rca, Nsa, Ifb, Oxa, h, if_false, p3]
def Zia (t : Aha) (s : Str) : Aha := t.eraseIdx (at_ t s)
theorem Mjb (t : Aha) (n : Nat) (h : n < t.length) : t.take n ++ t.drop (n + 1) = t.eraseIdx n := (List.eraseIdx_eq_take_drop_succ t n).symm
theorem Uxa {α : Type} (l : List α) (n : Nat) (ys : List α) (h : n + ys.length ≤ l.length) : (hYb l n ys).length = l.length := by
  simp only [hYb, List.length_append, List.length_take, List.length_drop]; omega
theorem Tta (t : Aha) (s : Str) (hw : Wee t) : Rqa (t, s, ()) = some (Zia t s, ()) := by
  have hb := hw.1
  have hM := Aia
  rw [Hnb]
  by_cases h : at_ t s < t.length
  · have hne : (((at_ t s : Nat) : Int) == ((at_ t s + 1 : Nat) : Int)) = false := by simp; omega
    have h1 : (List.take (0 + (t.length - 0) - (0 + (at_ t s + 1))) (List.drop (0 + (at_ t s + 1)) t)) = t.drop (at_ t s + 1) := by
      rw [Nat.zero_add, Nat.zero_add, Nat.sub_zero]
      exact List.take_of_length_le (by simp)
    have hl1 : (t.drop (at_ t s + 1)).length = t.length - (at_ t s + 1) := List.length_drop
    simp (disch := first | omega | assumption) only [Yia, PP, Laa, Daa, hne, h1]
    have hO : (hYb t (at_ t s) (t.drop (at_ t s + 1))).length = t.length := Uxa _ _ _ (by omega)
    have hk : at_ t s + (t.drop (at_ t s + 1)).length = t.length - 1 := by omega
    have hO2 : ∀ d : Bhb, (hYb (hYb t (at_ t s) (t.drop (at_ t s + 1))) (t.length - 1) (List.replicate (t.length - (t.length - 1)) d)).length = t.length := fun d => by
      rw [Uxa _ _ _ (by rw [List.length_replicate, hO]; omega), hO]
    simp only [Nat.zero_add, Nat.add_zero, Nat.sub_zero, List.drop_zero]
    simp (disch := first | omega | assumption) only [hO, hk, hO2, PP]
    have e1 : hYb t (at_ t s) (t.drop (at_ t s + 1)) = t.take (at_ t s) ++ t.drop (at_ t s + 1) ++ t.drop (at_ t s + (t.drop (at_ t s + 1)).length) := rfl
    have e2 : ∀ (O r : List Bhb), t.length - 1 ≤ O.length → (hYb O (t.length - 1) r).take (t.length - 1) = O.take (t.length - 1) := fun O r ho => by
      simp only [hYb, List.append_assoc]
      rw [List.take_append_of_le_length (by rw [List.length_take]; omega), List.take_take, Nat.min_self]
    rw [e2 _ _ (by omega), e1, List.take_append_of_le_length (by rw [List.length_append, List.length_take, hl1]; omega), List.take_of_length_le (by rw [List.length_append, List.length_take, hl1]; omega), Mjb t _ h]
    rfl
  · simp (disch := first | omega | assumption) only [Yia, PP, Laa, Daa, Zia]
    rw [List.eraseIdx_of_length_le (by omega)]
theorem Wba (l0 ts : List Aha) (hb : ts.length < 4611686018427387903) : ∀ (r : List Aha) (i n : Nat), ts.drop i = r → i ≤ ts.length → n + r.flatten.length < 4611686018427387903 →
    Bpa (l0, (n : Int), ts, (ts.length : Int), (i : Int), ()) = some (l0, ((n + r.flatten.length : Nat) : Int), ts, (ts.length : Int), (ts.length : Int), ())
  | [], i, n, h, hi, _ => by
    have := Afa h hi
    subst this
    rw [Gsa]
    simp (disch := omega) only [Dga, PP, List.flatten_nil, Nat.add_zero]
  | t :: r, i, n, h, hi, hn => by
    obtain ⟨h1, h2, h3, h4⟩ := Aba h
    simp only [List.flatten_cons, List.length_append] at hn
    have hw : IntKind.wrap .i64 ((n : Int) + (t.length : Int)) = ((n + t.length : Nat) : Int) := by rw [Aua (by omega) (by omega)]; omega
    rw [Gsa]
    simp (disch := omega) only [Dga, PP, h2, hw]
    rw [Wba l0 ts hb r (i + 1) (n + t.length) h3 (by omega) (by omega)]
    simp only [List.flatten_cons, List.length_append, Nat.add_assoc]
theorem Tva (l0 : Aha) (ts : List Aha) (hb : ts.length < 4611686018427387903) : ∀ (r : List Aha) (i n : Nat) (row : Aha), ts.drop i = r → i ≤ ts.length → n + r.flatten.length ≤ row.length →
    ∃ row' : Aha, Bja (l0, row, 0, n, ts, (ts.length : Int), (i : Int), ()) = some (l0, row', 0, n + r.flatten.length, ts, (ts.length : Int), (ts.length : Int), ()) ∧ row'.length = row.length ∧ row'.take (n + r.flatten.length) = row.take n ++ r.flatten
  | [], i, n, row, h, hi, _ => by
    have := Afa h hi
    subst this
    rw [Fta]
    simp (disch := omega) only [Cwa, PP, List.flatten_nil, Nat.add_zero, List.append_nil]
    exact ⟨row, rfl, rfl, rfl⟩
  | t :: r, i, n, row, h, hi, hn => by
    obtain ⟨h1, h2, h3, h4⟩ := Aba h
    simp only [List.flatten_cons, List.length_append] at hn
    have ho := Uxa row n t (by omega)
    rw [Fta]
    simp (disch := omega) only [Cwa, PP, h2, ho]
    obtain ⟨row', e, e1, e2⟩ := Tva l0 ts hb r (i + 1) (n + t.length) (hYb row n t) h3 (by omega) (by omega)
    refine ⟨row', ?_, by rw [e1, ho], ?_⟩
    · rw [e]; simp only [List.flatten_cons, List.length_append, Nat.add_assoc]
    · have e3 : (hYb row n t).take (n + t.length) = row.take n ++ t := by
        have : (row.take n ++ t).length = n + t.length := by rw [List.length_append, List.length_take]; omega
        rw [hYb, ← this]; exact List.take_left
      rw [e3] at e2
      simp only [List.flatten_cons, List.length_append]
      rw [← Nat.add_assoc, e2, List.append_assoc]
theorem Rya (l0 : Aha) (ts : List Aha) (hb : ts.length < 4611686018427387903) : ∀ (r : List Aha) (i : Nat), ts.drop i = r → i ≤ ts.length → r.flatten = [] →
    Bda (l0, [], ts, (ts.length : Int), (i : Int), ()) = some (l0, [], ts, (ts.length : Int), (ts.length : Int), ())
  | [], i, h, hi, _ => by
    have := Afa h hi
    subst this
    rw [Ewa]
    simp (disch := omega) only [Cqa, PP]
  | t :: r, i, h, hi, hn => by
    obtain ⟨h1, h2, h3, h4⟩ := Aba h
    have hM := Aia
    simp only [List.flatten_cons, List.append_eq_nil_iff] at hn
    obtain ⟨rfl, hn⟩ := hn
    rw [Ewa]
    simp (disch := omega) only [Cqa, PP, h2, List.append_nil]
    exact Rya l0 ts hb r (i + 1) h3 (by omega) hn
theorem Jhb (ts : List Aha) (hb : ts.length < 1000000000) (hn : ts.flatten.length ≤ 1000000000000) : Cfa (ts, ()) = some (ts.flatten, ()) := by
  have hM := Aia
  have e := Wba ts ts (by omega) ts 0 0 rfl (by omega) (by omega)
  simp only [Int.natCast_zero, Nat.zero_add] at e
  rw [Qsa]
  have hw0 : IntKind.wrap .i64 ((0 : Int) - ((0 : Nat) : Int)) = 0 := by rw [Aua (by omega) (by omega)]; rfl
  have hw0' : IntKind.wrap .i64 ((0 : Int) - 0) = 0 := by rw [Aua (by omega) (by omega)]; rfl
  have hw : IntKind.wrap .i64 (((ts.flatten.length : Nat) : Int) - 0) = ((ts.flatten.length : Nat) : Int) := by rw [Aua (by omega) (by omega)]; omega
  by_cases h0 : ts.flatten.length = 0
  · have hf : ts.flatten = [] := List.eq_nil_of_length_eq_zero h0
    have e2 := Rya [] ts (by omega) ts 0 rfl (by omega) hf
    simp only [Int.natCast_zero] at e2
    simp (disch := omega) only [Gda, e, PP, hw0, hw, e2]
    rw [hf]
  · obtain ⟨row', e2, e3, e4⟩ := Tva [] ts (by omega) ts 0 0 (List.replicate ts.flatten.length (ByteArray.empty, [], ())) rfl (by omega) (by simp)
    simp only [Int.natCast_zero, Nat.zero_add, List.take_zero, List.nil_append] at e2 e4
    simp only [List.length_replicate] at e3
    simp (disch := omega) only [Gda, e, PP, hw0, hw0', hw, List.length_replicate, Nat.sub_zero, Int.natCast_zero, Int.toNat_zero, Nat.add_zero, e2, List.drop_zero, e4]
def Hab (x : Str) (l : List Str) : Bool := l.any fun y => decide (y = x)
theorem Xpa (x : Str) (l : List Str) : Hab x l = true ↔ x ∈ l := by simp [Hab]
def Htb : List Str → List Str → List Str
  | seen, [] => seen
  | seen, x :: xs => bif Hab x seen then Htb seen xs else Htb (seen ++ [x]) xs
theorem Nvb (a b : Str) : eqK .str a b = decide (b = a) := by
  show (ByteArray.toList a == ByteArray.toList b) = _
  rw [Vra, decide_eq_decide]
  exact eq_comm
theorem Gab (s : Str) (p : Str × Bool) (m : List (Str × Bool)) : aLb .str .bool s (p :: m) = if p.1 = s then some 0 else (aLb .str .bool s m).map (· + 1) := by
  unfold aLb
  rw [List.findIdx?_cons, Nvb]
  by_cases h : p.1 = s <;> simp [h]
theorem Uaa (s : Str) (p : Str × Bool) (m : List (Str × Bool)) : nMb .str .bool s false (p :: m) = if p.1 = s then p.2 else nMb .str .bool s false m := by
  unfold nMb
  rw [Gab]
  by_cases h : p.1 = s
  · simp [h]
  · simp only [h, if_false]
    cases aLb .str .bool s m <;> simp
theorem Ldb (k : Str) (p : Str × Bool) (m : List (Str × Bool)) : qLb .str .bool k true (p :: m) = if p.1 = k then (k, true) :: m else p :: qLb .str .bool k true m := by
  unfold qLb
  rw [Gab]
  by_cases h : p.1 = k
  · simp [h]
  · simp only [h, if_false]
    cases aLb .str .bool k m <;> simp
theorem Kob (s k : Str) : ∀ (m : List (Str × Bool)), nMb .str .bool s false (qLb .str .bool k true m) = if k = s then true else nMb .str .bool s false m
  | [] => by
    have : qLb .str .bool k true [] = [(k, true)] := rfl
    rw [this, Uaa]
  | p :: m => by
    rw [Ldb, Uaa]
    by_cases h : p.1 = k
    · subst h
      simp only [if_true]
      rw [Uaa]
      by_cases hs : p.1 = s <;> simp [hs]
    · simp only [h, if_false]
      rw [Uaa, Kob s k m]
      by_cases hs : p.1 = s
      · have : ¬ k = s := fun e => h (hs.trans e.symm)
        simp [hs, this]
      · simp [hs]
theorem Jia (t : Aha) (hb : t.length ≤ 10000000000) : ∀ (r : Aha) (i : Nat) (o : List Str) (m : List (Str × Bool)), t.drop i = r → i ≤ t.length → o.length ≤ i → m.length ≤ i → (∀ s, nMb .str .bool s false m = Hab s o) →
    ∃ m', Hya (o, m, t, (t.length : Int), (i : Int), ()) = some (Htb o (r.map (·.1)), m', t, (t.length : Int), (t.length : Int), ())
  | [], i, o, m, h, hi, ho, hm, hs => by
    have := Afa h hi
    subst this
    rw [Oua]
    simp (disch := omega) only [Ira, PP]
    exact ⟨m, rfl⟩
  | f :: r, i, o, m, h, hi, ho, hm, hs => by
    obtain ⟨h1, h2, h3, h4⟩ := Aba h
    have hM := Aia
    rw [Oua]
    cases hf : Hab f.1 o with
    | true =>
      simp (disch := omega) only [Ira, PP, h2, hs, hf, decide_true, Bool.not_true]
      obtain ⟨m', e⟩ := Jia t hb r (i + 1) o m h3 (by omega) (by omega) (by omega) hs
      refine ⟨m', ?_⟩
      rw [e]
      simp only [List.map_cons, Htb, hf, cond_true]
    | false =>
      simp (disch := omega) only [Ira, PP, h2, hs, hf, decide_false, Bool.not_false]
      obtain ⟨m', e⟩ := Jia t hb r (i + 1) (o ++ [f.1]) (qLb .str .bool f.1 true m) h3 (by omega) (by simp; omega) (by
        unfold qLb; split
        · simp; omega
        · simp; omega) (fun s => by
        rw [Kob, hs]
        by_cases hsf : f.1 = s
        · subst hsf; simp [Hab]
        · simp [Hab, hsf])
      refine ⟨m', ?_⟩
      rw [e]
      simp only [List.map_cons, Htb, hf, cond_false]
theorem Xta : ∀ (xs o : List Str), (Htb o xs).length ≤ o.length + xs.length
  | [], o => by simp [Htb]
  | x :: xs, o => by
    simp only [Htb]
    cases Hab x o with
    | true => have := Xta xs o; simp; omega
    | false => have := Xta xs (o ++ [x]); simp at this ⊢; omega
theorem Ehb (a b : Aha) (ha : a.length ≤ 1000000000) (hb : b.length ≤ 1000000000) : Rra (a, b, ()) = some (lSa (Htb [] ((a ++ b).map (·.1))), ()) := by
  have hM := Aia
  have hl : (a ++ b).length ≤ 10000000000 := by rw [List.length_append]; omega
  obtain ⟨m', e⟩ := Jia (a ++ b) hl (a ++ b) 0 [] [] rfl (by omega) (by simp) (by simp) (fun s => rfl)
  simp only [Int.natCast_zero] at e
  have hc : Cfa ([a, b], ()) = some (a ++ b, ()) := by
    have := Jhb [a, b] (by simp) (by simp; omega)
    simpa using this
  have hu := Xta ((a ++ b).map (·.1)) []
  simp only [List.length_map, List.length_nil, Nat.zero_add] at hu
  rw [Egb]
  simp (disch := omega) only [Yla, hc, Aaa, e, Aja, Ada, List.length_nil, sDa]
def Mob (l : List Str) (x : Str) : List Str := bif Hab x l then l else l.take (l.findIdx fun y => decide (ltS x y)) ++ x :: l.drop (l.findIdx fun y => decide (ltS x y))
def Urb (l : List Str) : Prop := ∀ s ∈ l, s.size < 4611686018427387903
def Gzb : Option Str → Aha → Bool
  | _, [] => true
  | q, f :: r => Foa f.1 && (Xka f.2.1 && ((match q with | some q => decide (ltS q f.1) | none => true) && Gzb (some f.1) r))
def Paa (t : Aha) : Bool := Gzb none t && decide (t.length ≤ 30)
def Xga (t : Aha) : Prop := ∀ f ∈ t, f.1.size < 4611686018427387903 ∧ Urb f.2.1 ∧ f.2.1.length < 4611686018427387903
def Odb (t : Aha) (i : Nat) : Option Str := if i = 0 then none else some (t.getD (i - 1) (ByteArray.empty, [], ())).1
theorem Adb (t : Aha) : Odb t 0 = none := rfl
theorem Lcb (t : Aha) (i : Nat) {f : Bhb} (h : ∀ d, t.getD i d = f) : Odb t (i + 1) = some f.1 := by
  unfold Odb; rw [if_neg (by omega), Nat.add_sub_cancel, h]
theorem Tea (t : Aha) (hs : Xga t) (hb : t.length < 4611686018427387903) : ∀ (r : Aha) (i : Nat), t.drop i = r → i ≤ t.length →
    ∃ y, Kxa (t, t, (t.length : Int), (i : Int), ()) = some y ∧ (match y with
      | .inl _ => Gzb (Odb t i) r = false
      | .inr z => Gzb (Odb t i) r = true ∧ z.1 = t)
  | [], i, h, hi => by
    have := Afa h hi
    subst this
    rw [Tda]
    simp (disch := omega) only [Dta, PP]
    exact ⟨_, rfl, rfl, rfl⟩
  | f :: r, i, h, hi => by
    obtain ⟨h1, h2, h3, h4⟩ := Aba h
    obtain ⟨s1, s2, s3⟩ := hs f h4
    obtain ⟨y, e, p⟩ := Tea t hs hb r (i + 1) h3 (by omega)
    rw [Lcb t i h2] at p
    rw [Tda]
    cases hn : Foa f.1 with
    | false =>
      simp (disch := first | omega | assumption) only [Dta, PP, h2, Cia, hn, Bool.not_false]
      exact ⟨_, rfl, by simp [Gzb, hn]⟩
    | true =>
      cases ha : Xka f.2.1 with
      | false =>
        simp (disch := first | omega | assumption) only [Dta, PP, h2, Cia, hn, Bool.not_true, Ila, ha, Bool.not_false]
        exact ⟨_, rfl, by simp [Gzb, hn, ha]⟩
      | true =>
        by_cases h0 : i = 0
        · subst h0
          have hb1 : 0 < t.length := h1
          have hw1 : IntKind.wrap .i64 ((0 : Int) + 1) = 1 := by rw [Aua (by omega) (by omega)]; rfl
          simp only [Int.natCast_zero] at *
          simp (disch := first | omega | assumption) only [Dta, PP, h2, Cia, hn, Bool.not_true, Ila, ha, Int.toNat_zero, hw1]
          refine ⟨y, by simpa using e, ?_⟩
          cases y with
          | inl z => simp only at p; simp [Gzb, hn, ha, Adb, p]
          | inr z => simp only at p; simp [Gzb, hn, ha, Adb, p]
        · have hp : Odb t i = some (t.getD (i - 1) (ByteArray.empty, [], ())).1 := by unfold Odb; rw [if_neg h0]
          rw [hp]
          generalize hq : (t.getD (i - 1) (ByteArray.empty, [], ())).1 = q
          by_cases hlt : ltS q f.1
          · simp (disch := first | omega | assumption) only [Dta, PP, h2, Cia, hn, Bool.not_true, Ila, ha, hq, hlt, decide_true]
            refine ⟨y, e, ?_⟩
            cases y with
            | inl z => simp only at p; simp [Gzb, hn, ha, hlt, p]
            | inr z => simp only at p; simp [Gzb, hn, ha, hlt, p]
          · simp (disch := first | omega | assumption) only [Dta, PP, h2, Cia, hn, Bool.not_true, Ila, ha, hq, hlt, decide_false, Bool.not_false]
            exact ⟨_, rfl, by simp [Gzb, hn, ha, hlt]⟩
theorem Eha (t : Aha) (hs : Xga t) (hb : t.length < 4611686018427387903) : Lna (t, ()) = some (Paa t, ()) := by
  rw [Hpb]
  obtain ⟨y, e, p⟩ := Tea t hs hb t 0 rfl (by omega)
  simp only [Int.natCast_zero, Adb] at e p
  cases y with
  | inl z =>
    simp only at p
    simp only [Yka, e, PP, Paa, p, Bool.false_and]
  | inr z =>
    obtain ⟨p, rfl⟩ := p
    have hd : decide (((z.1.length : Nat) : Int) ≤ 30) = decide (z.1.length ≤ 30) := by
      rw [decide_eq_decide]; omega
    simp only [Yka, e, PP, Paa, p, Bool.true_and, hd]
def Oha (l : List Str) : Bool := l.all fun s => decide (s.size ≤ 200)
theorem Mca (l : List Str) (hb : l.length < 4611686018427387903) : ∀ (r : List Str) (i : Nat), l.drop i = r → i ≤ l.length →
    ∃ y, Fia (l, (i : Int), ()) = some y ∧ (match y with
      | .inl _ => Oha r = false
      | .inr _ => Oha r = true)
  | [], i, h, hi => by
    have := Afa h hi
    subst this
    rw [Mba]
    simp (disch := omega) only [Gva, PP]
    exact ⟨_, rfl, rfl⟩
  | c :: r, i, h, hi => by
    obtain ⟨h1, h2, h3, h4⟩ := Aba h
    rw [Mba]
    by_cases hc : c.size ≤ 200
    · simp (disch := omega) only [Gva, PP, h2]
      obtain ⟨y, e, p⟩ := Mca l hb r (i + 1) h3 (by omega)
      refine ⟨y, e, ?_⟩
      cases y with
      | inl z => simp only [Oha] at p ⊢; simpa [hc] using p
      | inr z => simp only [Oha] at p ⊢; simpa [hc] using p
    · simp (disch := omega) only [Gva, PP, h2]
      exact ⟨_, rfl, by simp [Oha, hc]⟩
theorem Fja (l : List Str) (hb : l.length < 4611686018427387903) : Gea (l, 300, ()) = some (decide (l.length ≤ 300) && Oha l, ()) := by
  rw [Apb]
  by_cases h : l.length ≤ 300
  · obtain ⟨y, e, p⟩ := Mca l hb l 0 rfl (by omega)
    simp only [Int.natCast_zero] at e
    cases y with
    | inl z => simp only at p; simp (disch := omega) only [Lfa, PP, e, p, Bool.and_false]
    | inr z => simp only at p; simp (disch := omega) only [Lfa, PP, e, p, h, decide_true, Bool.true_and]
  · simp (disch := omega) only [Lfa, PP, h, decide_false, Bool.false_and]
def Qda (t : Aha) : Bool := t.all fun f => (decide (f.2.1.length ≤ 300) && Oha f.2.1) && decide (f.1.size ≤ 100)
theorem Mea (t : Aha) (hs : Xga t) (hb : t.length < 4611686018427387903) : ∀ (r : Aha) (i : Nat), t.drop i = r → i ≤ t.length →
    ∃ y, Fka (t, (i : Int), ()) = some y ∧ (match y with
      | .inl _ => Qda r = false
      | .inr _ => Qda r = true)
  | [], i, h, hi => by
    have := Afa h hi
    subst this
    rw [Mda]
    simp (disch := omega) only [Doa, PP]
    exact ⟨_, rfl, rfl⟩
  | f :: r, i, h, hi => by
    obtain ⟨h1, h2, h3, h4⟩ := Aba h
    obtain ⟨s1, s2, s3⟩ := hs f h4
    rw [Mda]
    cases hl : (decide (f.2.1.length ≤ 300) && Oha f.2.1) with
    | false =>
      simp (disch := omega) only [Doa, PP, h2, Fja, hl, Bool.not_false]
      exact ⟨_, rfl, by simp [Qda, hl]⟩
    | true =>
      by_cases hc : f.1.size ≤ 100
      · simp (disch := omega) only [Doa, PP, h2, Fja, hl, Bool.not_true]
        obtain ⟨y, e, p⟩ := Mea t hs hb r (i + 1) h3 (by omega)
        refine ⟨y, e, ?_⟩
        cases y with
        | inl z => simp only [Qda, List.all_cons, hl, hc, decide_true, Bool.true_and] at p ⊢; exact p
        | inr z => simp only [Qda, List.all_cons, hl, hc, decide_true, Bool.true_and] at p ⊢; exact p
      · simp (disch := omega) only [Doa, PP, h2, Fja, hl, Bool.not_true]
        exact ⟨_, rfl, by simp [Qda, hc]⟩
theorem Isa (t : Aha) (hs : Xga t) (hb : t.length < 4611686018427387903) : Koa (t, ()) = some (decide (t.length ≤ 40) && Qda t, ()) := by
  rw [Asb]
  by_cases h : t.length ≤ 40
  · obtain ⟨y, e, p⟩ := Mea t hs hb t 0 rfl (by omega)
    simp only [Int.natCast_zero] at e
    cases y with
    | inl z => simp only at p; simp (disch := omega) only [Lga, PP, e, p, Bool.and_false]
    | inr z => simp only at p; simp (disch := omega) only [Lga, PP, e, p, h, decide_true, Bool.true_and]
  · simp (disch := omega) only [Lga, PP, h, decide_false, Bool.false_and]
theorem Ktb {t : Aha} (h1 : t.length ≤ 40) (h2 : Qda t = true) : t.length ≤ 40 ∧ Wee t ∧ Xga t := by
  rw [Qda, List.all_eq_true] at h2
  refine ⟨h1, ⟨by omega, fun f hf => ?_⟩, fun f hf => ?_⟩
  · have := h2 f hf
    simp only [Bool.and_eq_true, decide_eq_true_eq] at this
    omega
  · have := h2 f hf
    simp only [Bool.and_eq_true, decide_eq_true_eq, Oha, List.all_eq_true] at this
    refine ⟨by omega, fun s hs => ?_, by omega⟩
    have := this.1.2 s hs
    omega
theorem Wee.set {t : Aha} (h : Wee t) (i : Nat) {f : Bhb} (hf : f.2.1.length ≤ 1000000000) : Wee (t.set i f) := by
  refine ⟨by rw [List.length_set]; exact h.1, fun g hg => ?_⟩
  rcases List.mem_or_eq_of_mem_set hg with hg | rfl
  · exact h.2 g hg
  · exact hf
theorem Wee.put {t : Aha} (h : Wee t) (ht : t.length < 1000000000) (s : Str) {l : List Str} (hl : l.length ≤ 1000000000) : Wee (Oxa t s l) := by
  unfold Oxa
  split
  · exact h.set _ hl
  · refine ⟨?_, fun g hg => ?_⟩
    · rw [List.length_append, List.length_cons, List.length_take, List.length_drop]; omega
    · simp only [List.mem_append, List.mem_cons] at hg
      rcases hg with hg | rfl | hg
      · exact h.2 g (List.mem_of_mem_take hg)
      · exact hl
      · exact h.2 g (List.mem_of_mem_drop hg)
theorem Wee.del {t : Aha} (h : Wee t) (s : Str) : Wee (Zia t s) := by
  refine ⟨Nat.le_trans (by rw [Zia, List.length_eraseIdx]; split <;> omega) h.1, fun g hg => h.2 g (List.mem_of_mem_eraseIdx hg)⟩
theorem Oeb (t : Aha) (s : Str) (l : List Str) : (Oxa t s l).length ≤ t.length + 1 := by
  unfold Oxa
  split
  · rw [List.length_set]; omega
  · rw [List.length_append, List.length_cons, List.length_take, List.length_drop]; omega
abbrev Twa (l : List Str) : Prop := l.Pairwise ltS
theorem Lvb {l : List Str} {x y : Str} : y ∈ Mob l x ↔ y ∈ l ∨ y = x := by
  unfold Mob
  cases h : Hab x l with
  | true =>
    have := (Xpa x l).1 h
    simp only [cond_true]
    constructor
    · exact .inl
    · rintro (h | rfl) <;> assumption
  | false =>
    simp only [cond_false, List.mem_append, List.mem_cons]
    have := List.take_append_drop (l.findIdx fun y => decide (ltS x y)) l
    constructor
    · rintro (h | h | h)
      · exact .inl (List.mem_of_mem_take h)
      · exact .inr h
      · exact .inl (List.mem_of_mem_drop h)
    · rintro (h | h)
      · rw [← this, List.mem_append] at h
        rcases h with h | h
        · exact .inl h
        · exact .inr (.inr h)
      · exact .inr (.inl h)
theorem Hvb {x : Str} : ∀ {l : List Str}, Hab x l = false → Twa l → (∀ y ∈ l.take (l.findIdx fun y => decide (ltS x y)), ltS y x) ∧ ∀ y ∈ l.drop (l.findIdx fun y => decide (ltS x y)), ltS x y
  | [], _, _ => by simp
  | o :: l, hm, hr => by
    simp only [Hab, List.any_cons, Bool.or_eq_false_iff, decide_eq_false_iff_not] at hm
    obtain ⟨hr1, hr2⟩ := List.pairwise_cons.1 hr
    obtain ⟨i1, i2⟩ := Hvb (x := x) (l := l) hm.2 hr2
    rw [List.findIdx_cons]
    by_cases h : ltS x o
    · simp only [h, decide_true, cond_true, List.take_zero, List.drop_zero]
      refine ⟨by simp, fun y hy => ?_⟩
      rcases List.mem_cons.1 hy with rfl | hy
      · exact h
      · exact Hha h (hr1 y hy)
    · simp only [h, decide_false, cond_false, List.take_succ_cons, List.drop_succ_cons]
      refine ⟨fun y hy => ?_, i2⟩
      rcases List.mem_cons.1 hy with rfl | hy
      · rcases Mia y x with k | k | k
        · exact k
        · exact absurd k hm.1
        · exact absurd k h
      · exact i1 y hy
theorem Gvb {l : List Str} {x : Str} (h : Twa l) : Twa (Mob l x) := by
  unfold Mob
  cases hm : Hab x l with
  | true => exact h
  | false =>
    obtain ⟨h1, h2⟩ := Hvb hm h
    simp only [cond_false]
    rw [Twa, List.pairwise_append]
    refine ⟨h.sublist (List.take_sublist _ _), List.pairwise_cons.2 ⟨h2, h.sublist (List.drop_sublist _ _)⟩, fun a ha b hb => ?_⟩
    rcases List.mem_cons.1 hb with rfl | hb
    · exact h1 a ha
    · exact Hha (h1 a ha) (h2 b hb)
theorem Lza : ∀ (xs l : List Str), Twa l → Twa (xs.foldl Mob l) ∧ ∀ y, y ∈ xs.foldl Mob l ↔ y ∈ l ∨ y ∈ xs
  | [], l, h => ⟨h, fun y => by simp⟩
  | x :: xs, l, h => by
    obtain ⟨h1, h2⟩ := Lza xs (Mob l x) (Gvb h)
    refine ⟨h1, fun y => ?_⟩
    rw [List.foldl_cons, h2, Lvb, List.mem_cons]
    constructor
    · rintro ((h | h) | h)
      · exact .inl h
      · exact .inr (.inl h)
      · exact .inr (.inr h)
    · rintro (h | h | h)
      · exact .inl (.inl h)
      · exact .inl (.inr h)
      · exact .inr h
theorem Aib : ∀ (xs o : List Str), o.Nodup → (Htb o xs).Nodup ∧ ∀ y, y ∈ Htb o xs ↔ y ∈ o ∨ y ∈ xs
  | [], o, h => ⟨h, fun y => by simp [Htb]⟩
  | x :: xs, o, h => by
    simp only [Htb]
    cases hm : Hab x o with
    | true =>
      have hx := (Xpa x o).1 hm
      obtain ⟨h1, h2⟩ := Aib xs o h
      refine ⟨h1, fun y => ?_⟩
      simp only [cond_true, h2, List.mem_cons]
      constructor
      · rintro (h | h)
        · exact .inl h
        · exact .inr (.inr h)
      · rintro (h | rfl | h)
        · exact .inl h
        · exact .inl hx
        · exact .inr h
    | false =>
      have hx : ¬ x ∈ o := fun h => by rw [(Xpa x o).2 h] at hm; cases hm
      obtain ⟨h1, h2⟩ := Aib xs (o ++ [x]) (by rw [List.nodup_append]; exact ⟨h, by simp, fun a ha b hb => by simp at hb; subst hb; exact fun e => hx (e ▸ ha)⟩)
      refine ⟨h1, fun y => ?_⟩
      simp only [cond_false, h2, List.mem_append, List.mem_cons, List.not_mem_nil, or_false, or_assoc]
theorem Ghb {l : List Str} (h : l.Nodup) : Twa (lSa l) := by
  have h1 : (lSa l).Pairwise fun a b => decide (a.data.toList ≤ b.data.toList) = true := oXa l
  have h2 : (lSa l).Nodup := (oFa l).nodup_iff.2 h
  refine (h1.and h2).imp fun {a b} hab => ?_
  obtain ⟨k1, k2⟩ := hab
  rw [decide_eq_true_eq] at k1
  rcases Mia a b with k | k | k
  · exact k
  · exact absurd k k2
  · exact absurd k (List.not_lt.2 k1)
theorem Ljb {l : List Str} {y : Str} : y ∈ lSa l ↔ y ∈ l := (oFa l).mem_iff
theorem Cmb : ∀ {l m : List Str}, Twa l → Twa m → (∀ y, y ∈ l ↔ y ∈ m) → l = m
  | [], [], _, _, _ => rfl
  | [], b :: m, _, _, h => by have := (h b).2 List.mem_cons_self; cases this
  | a :: l, [], _, _, h => by have := (h a).1 List.mem_cons_self; cases this
  | a :: l, b :: m, hl, hm, h => by
    obtain ⟨l1, l2⟩ := List.pairwise_cons.1 hl
    obtain ⟨m1, m2⟩ := List.pairwise_cons.1 hm
    have hab : a = b := by
      rcases List.mem_cons.1 ((h a).1 List.mem_cons_self) with e | e
      · exact e
      · rcases List.mem_cons.1 ((h b).2 List.mem_cons_self) with e' | e'
        · exact e'.symm
        · exact absurd (Hha (m1 a e) (l1 b e')) (Iga _)
    subst hab
    congr 1
    refine Cmb l2 m2 fun y => ?_
    have hy := h y
    simp only [List.mem_cons] at hy
    constructor
    · intro k
      rcases hy.1 (.inr k) with rfl | k'
      · exact absurd (l1 y k) (Iga _)
      · exact k'
    · intro k
      rcases hy.2 (.inr k) with rfl | k'
      · exact absurd (m1 y k) (Iga _)
      · exact k'
def Mka (a b : Aha) : List Str := lSa (Htb [] ((a ++ b).map (·.1)))
theorem Zxa (a b : Aha) : ((a ++ b).map (·.1)).foldl Mob [] = Mka a b := by
  obtain ⟨h1, h2⟩ := Lza ((a ++ b).map (·.1)) [] List.Pairwise.nil
  obtain ⟨h3, h4⟩ := Aib ((a ++ b).map (·.1)) [] List.nodup_nil
  refine Cmb h1 (Ghb h3) fun y => ?_
  rw [h2, Mka, Ljb, h4]
theorem Fub (a b : Aha) : (Mka a b).length ≤ a.length + b.length := by
  rw [Mka, sDa]
  have := Xta ((a ++ b).map (·.1)) []
  simpa using this
abbrev RT (t : Aha) : Prop := t.Pairwise fun f g => ltS f.1 g.1
theorem Dcb (s : Str) : Ava [] s = none := rfl
theorem Bca (f : Bhb) (t : Aha) (s : Str) : Ava (f :: t) s = if f.1 = s then some f.2.1 else Ava t s := by
  unfold Ava
  rw [List.find?_cons]
  by_cases h : f.1 = s <;> simp [h]
theorem Grb (f : Bhb) (t : Aha) (s : Str) : at_ (f :: t) s = if f.1 = s then 0 else at_ t s + 1 := by
  unfold at_
  rw [List.findIdx_cons]
  by_cases h : f.1 = s <;> simp [h]
theorem Kpb (f : Bhb) (t : Aha) (s : Str) : gt_ (f :: t) s = if ltS s f.1 then 0 else gt_ t s + 1 := by
  unfold gt_
  rw [List.findIdx_cons]
  by_cases h : ltS s f.1 <;> simp [h]
theorem Jxb (t : Aha) (s : Str) : at_ t s < t.length ↔ (Ava t s).isSome = true := by
  rw [Zla]
  by_cases h : at_ t s < t.length <;> simp [h]
theorem Fda : ∀ {t : Aha} {s : Str}, (∀ f ∈ t, f.1 ≠ s) → Ava t s = none
  | [], _, _ => rfl
  | f :: t, s, h => by
    rw [Bca, if_neg (h f List.mem_cons_self)]
    exact Fda fun g hg => h g (List.mem_cons_of_mem _ hg)
theorem Dbb : ∀ {t : Aha} {f : Bhb}, f ∈ t → (Ava t f.1).isSome = true
  | g :: t, f, h => by
    rw [Bca]
    split
    · rfl
    · rcases List.mem_cons.1 h with rfl | h
      · rename_i hn; exact absurd rfl hn
      · exact Dbb h
theorem Dab : ∀ {t : Aha} {s : Str} {l : List Str}, Ava t s = some l → (s, l, ()) ∈ t
  | f :: t, s, l, h => by
    rw [Bca] at h
    split at h
    · rename_i e; subst e; cases h; exact List.mem_cons_self
    · exact List.mem_cons_of_mem _ (Dab h)
theorem Oia {a b : Str} (h : ltS a b) : a ≠ b := fun e => Iga b (e ▸ h)
theorem Leb (s : Str) (l : List Str) : Oxa [] s l = [(s, l, ())] := by simp [Oxa, at_, gt_]
theorem Ilb (f : Bhb) (t : Aha) (s : Str) (l : List Str) (h : f.1 = s) : Oxa (f :: t) s l = (s, l, ()) :: t := by
  unfold Oxa
  rw [Grb, if_pos h, if_pos (by simp)]; rfl
theorem Mqb (f : Bhb) (t : Aha) (s : Str) (l : List Str) (h : ltS f.1 s) : Oxa (f :: t) s l = f :: Oxa t s l := by
  unfold Oxa
  rw [Grb, if_neg (Oia h), Kpb, if_neg (Zta h), List.length_cons]
  by_cases k : at_ t s < t.length
  · rw [if_pos (by omega), if_pos k]; rfl
  · rw [if_neg (by omega), if_neg k]; rfl
theorem Mpb (f : Bhb) (t : Aha) (s : Str) (l : List Str) (hr : RT (f :: t)) (h : ltS s f.1) : Oxa (f :: t) s l = (s, l, ()) :: f :: t := by
  have hn : Ava (f :: t) s = none := Fda fun g hg => by
    rcases List.mem_cons.1 hg with rfl | hg
    · exact (Oia h).symm
    · exact (Oia (Hha h ((List.pairwise_cons.1 hr).1 g hg))).symm
  have ha : ¬ at_ (f :: t) s < (f :: t).length := by rw [Jxb, hn]; simp
  unfold Oxa
  rw [if_neg ha, Kpb, if_pos h]; rfl
theorem Heb : ∀ {t : Aha} {s : Str} {l : List Str} {g : Bhb}, g ∈ Oxa t s l → g = (s, l, ()) ∨ g ∈ t := by
  intro t s l g h
  unfold Oxa at h
  split at h
  · rcases List.mem_or_eq_of_mem_set h with h | h
    · exact .inr h
    · exact .inl h
  · simp only [List.mem_append, List.mem_cons] at h
    rcases h with h | h | h
    · exact .inr (List.mem_of_mem_take h)
    · exact .inl h
    · exact .inr (List.mem_of_mem_drop h)
theorem Vza : ∀ {t : Aha} (s : Str) (l : List Str), RT t → RT (Oxa t s l)
  | [], s, l, _ => by rw [Leb]; exact List.pairwise_singleton _ _
  | f :: t, s, l, hr => by
    obtain ⟨h1, h2⟩ := List.pairwise_cons.1 hr
    rcases Mia f.1 s with h | h | h
    · rw [Mqb _ _ _ _ h]
      refine List.pairwise_cons.2 ⟨fun g hg => ?_, Vza s l h2⟩
      rcases Heb hg with rfl | hg
      · exact h
      · exact h1 g hg
    · rw [Ilb _ _ _ _ h]
      refine List.pairwise_cons.2 ⟨fun g hg => ?_, h2⟩
      rw [← h]; exact h1 g hg
    · rw [Mpb _ _ _ _ hr h]
      refine List.pairwise_cons.2 ⟨fun g hg => ?_, hr⟩
      rcases List.mem_cons.1 hg with rfl | hg
      · exact h
      · exact Hha h (h1 g hg)
theorem Uba : ∀ {t : Aha} (s : Str) (l : List Str) (x : Str), RT t → Ava (Oxa t s l) x = if x = s then some l else Ava t x
  | [], s, l, x, _ => by
    rw [Leb, Bca]
    by_cases h : x = s
    · rw [if_pos h.symm, if_pos h]
    · rw [if_neg fun e => h e.symm, if_neg h]
  | f :: t, s, l, x, hr => by
    obtain ⟨h1, h2⟩ := List.pairwise_cons.1 hr
    rcases Mia f.1 s with h | h | h
    · rw [Mqb _ _ _ _ h, Bca, Uba s l x h2, Bca]
      by_cases k : f.1 = x
      · rw [if_pos k, if_pos k, if_neg fun e => Oia h (k.trans e)]
      · rw [if_neg k, if_neg k]
    · rw [Ilb _ _ _ _ h, Bca, Bca]
      by_cases k : x = s
      · rw [if_pos k.symm, if_pos k]
      · rw [if_neg fun e => k e.symm, if_neg k, if_neg fun e => k (e.symm.trans h)]
    · rw [Mpb _ _ _ _ hr h, Bca]
      by_cases k : x = s
      · rw [if_pos k.symm, if_pos k]
      · rw [if_neg fun e => k e.symm, if_neg k]
theorem Ntb (s : Str) : Zia [] s = [] := rfl
theorem Lrb (f : Bhb) (t : Aha) (s : Str) : Zia (f :: t) s = if f.1 = s then t else f :: Zia t s := by
  unfold Zia
  rw [Grb]
  by_cases h : f.1 = s
  · rw [if_pos h, if_pos h]; rfl
  · rw [if_neg h, if_neg h]; rfl
theorem Kcb {t : Aha} {s : Str} {g : Bhb} (h : g ∈ Zia t s) : g ∈ t := List.mem_of_mem_eraseIdx h
theorem Irb {t : Aha} (s : Str) (h : RT t) : RT (Zia t s) := h.sublist (List.eraseIdx_sublist _ _)
theorem Ddb : ∀ {t : Aha} (s x : Str), RT t → Ava (Zia t s) x = if x = s then none else Ava t x
  | [], s, x, _ => by rw [Ntb, Dcb]; split <;> rfl
  | f :: t, s, x, hr => by
    obtain ⟨h1, h2⟩ := List.pairwise_cons.1 hr
    rw [Lrb, Bca]
    by_cases h : f.1 = s
    · rw [if_pos h]
      by_cases k : x = s
      · rw [if_pos k]
        exact Fda fun g hg e => Oia (h1 g hg) ((h.trans k.symm).trans e.symm)
      · rw [if_neg k, if_neg fun e => k (e.symm.trans h)]
    · rw [if_neg h, Bca, Ddb s x h2]
      by_cases k : f.1 = x
      · rw [if_pos k, if_pos k, if_neg fun e => h (k.trans e)]
      · rw [if_neg k, if_neg k]
theorem Nsb (t : Aha) (s : Str) : (Zia t s).length ≤ t.length := by
  rw [Zia, List.length_eraseIdx]; split <;> omega
theorem Inb : ∀ {t u : Aha}, RT t → RT u → (∀ x, Ava t x = Ava u x) → t = u
  | [], [], _, _, _ => rfl
  | [], g :: u, _, _, h => by
    have := h g.1; rw [Dcb, Bca, if_pos rfl] at this; cases this
  | f :: t, [], _, _, h => by
    have := h f.1; rw [Dcb, Bca, if_pos rfl] at this; cases this
  | f :: t, g :: u, ht, hu, h => by
    obtain ⟨t1, t2⟩ := List.pairwise_cons.1 ht
    obtain ⟨u1, u2⟩ := List.pairwise_cons.1 hu
    have hfg : f.1 = g.1 := by
      rcases Mia f.1 g.1 with k | k | k
      · have e : Ava (g :: u) f.1 = none := Fda fun a ha => by
          rcases List.mem_cons.1 ha with rfl | ha
          · exact (Oia k).symm
          · exact (Oia (Hha k (u1 a ha))).symm
        have := h f.1
        rw [e, Bca, if_pos rfl] at this; cases this
      · exact k
      · have e : Ava (f :: t) g.1 = none := Fda fun a ha => by
          rcases List.mem_cons.1 ha with rfl | ha
          · exact (Oia k).symm
          · exact (Oia (Hha k (t1 a ha))).symm
        have := h g.1
        rw [e, Bca, if_pos rfl] at this; cases this
    have hl := h f.1
    rw [Bca, if_pos rfl, Bca, if_pos hfg.symm] at hl
    have e : f = g := Idb hfg (Option.some.inj hl)
    subst e
    congr 1
    refine Inb t2 u2 fun x => ?_
    have hx := h x
    rw [Bca, Bca] at hx
    by_cases k : f.1 = x
    · rw [Fda fun a ha e => Oia (t1 a ha) (k.trans e.symm), Fda fun a ha e => Oia (u1 a ha) (k.trans e.symm)]
    · rwa [if_neg k, if_neg k] at hx
theorem Ihb : ∀ {t : Aha} {q : Option Str}, Gzb q t = true ↔ (∀ f ∈ t, Foa f.1 = true ∧ Xka f.2.1 = true) ∧ RT t ∧ ∀ a, q = some a → ∀ f ∈ t, ltS a f.1
  | [], q => by simp [Gzb]
  | f :: t, q => by
    have ih := Ihb (t := t) (q := some f.1)
    rw [show Gzb q (f :: t) = (Foa f.1 && (Xka f.2.1 && ((match q with | some q => decide (ltS q f.1) | none => true) && Gzb (some f.1) t))) from by cases q <;> rfl, Bool.and_eq_true, Bool.and_eq_true, Bool.and_eq_true, ih, show RT (f :: t) ↔ _ from List.pairwise_cons]
    constructor
    · rintro ⟨h1, h2, h3, h4, h5, h6⟩
      refine ⟨fun g hg => ?_, ⟨h6 _ rfl, h5⟩, fun a ha g hg => ?_⟩
      · rcases List.mem_cons.1 hg with rfl | hg
        · exact ⟨h1, h2⟩
        · exact h4 g hg
      · subst ha
        simp only [decide_eq_true_eq] at h3
        rcases List.mem_cons.1 hg with rfl | hg
        · exact h3
        · exact Hha h3 (h6 _ rfl g hg)
    · rintro ⟨h1, ⟨h2, h3⟩, h4⟩
      refine ⟨(h1 f List.mem_cons_self).1, (h1 f List.mem_cons_self).2, ?_, fun g hg => h1 g (List.mem_cons_of_mem _ hg), h3, fun a ha g hg => ?_⟩
      · cases q with
        | none => rfl
        | some a => exact decide_eq_true (h4 a rfl f List.mem_cons_self)
      · cases ha; exact h2 g hg
theorem Una {t : Aha} : Paa t = true ↔ (∀ f ∈ t, Foa f.1 = true ∧ Xka f.2.1 = true) ∧ RT t ∧ t.length ≤ 30 := by
  rw [Paa, Bool.and_eq_true, Ihb, decide_eq_true_eq]
  constructor
  · rintro ⟨⟨h1, h2, _⟩, h3⟩; exact ⟨h1, h2, h3⟩
  · rintro ⟨h1, h2, h3⟩; exact ⟨⟨h1, h2, by simp⟩, h3⟩
theorem Cjb {t : Aha} (h : Paa t = true) : RT t := (Una.1 h).2.1
def Jqa (a b : List Str) (i : Nat) : List Int := (List.range (b.length + 1)).map fun j => ((sRa (a.drop i) (b.drop j) : Nat) : Int)
theorem Hva (a b : List Str) (i : Nat) : (Jqa a b i).length = b.length + 1 := by simp [Jqa]
theorem Jua (a b : List Str) (i j : Nat) (h : j ≤ b.length) (d : Int) : (Jqa a b i).getD j d = ((sRa (a.drop i) (b.drop j) : Nat) : Int) := by
  rw [Jqa, List.getD_eq_getElem?_getD, List.getElem?_map, List.getElem?_range (by omega)]; rfl
theorem Ecb (a b : List Str) : (lIb a b).length = a.length + 1 := by simp [lIb]
theorem Ebb (a b : List Str) (i : Nat) (h : i ≤ a.length) (d : List Int) : (lIb a b).getD i d = Jqa a b i := by
  rw [lIb, List.getD_eq_getElem?_getD, List.getElem?_map, List.getElem?_range (by omega)]; rfl
theorem Afb (a b : List Str) (i : Nat) (h : a.length ≤ i) : Jqa a b i = List.replicate (b.length + 1) 0 := by
  unfold Jqa
  rw [List.drop_eq_nil_of_le h]
  simp only [cIb, Int.natCast_zero]
  apply List.ext_getElem <;> simp
theorem Ltb {α : Type} (x y : List α) (k : Nat) (d : α) (h : k < x.length) : (x ++ y).getD k d = x.getD k d := by
  rw [List.getD_eq_getElem?_getD, List.getElem?_append_left h, ← List.getD_eq_getElem?_getD]
theorem Kkb {α : Type} (x y : List α) (k : Nat) (d : α) (h : x.length ≤ k) : (x ++ y).getD k d = y.getD (k - x.length) d := by
  rw [List.getD_eq_getElem?_getD, List.getElem?_append_right h, ← List.getD_eq_getElem?_getD]
theorem Klb {α : Type} (x : List α) (i k : Nat) (d : α) : (x.drop i).getD k d = x.getD (i + k) d := by
  rw [List.getD_eq_getElem?_getD, List.getElem?_drop, ← List.getD_eq_getElem?_getD]
theorem Knb {α : Type} (x : List α) (i k : Nat) (d : α) (h : k < i) : (x.take i).getD k d = x.getD k d := by
  rw [List.getD_eq_getElem?_getD, List.getElem?_take, if_pos h, ← List.getD_eq_getElem?_getD]
def Kwb {α : Type} (k : Nat) (x y : List α) : List α := x.take k ++ y.drop k
theorem Xqa {α : Type} (k : Nat) (x y : List α) (h : x.length = y.length) : (Kwb k x y).length = x.length := by
  simp only [Kwb, List.length_append, List.length_take, List.length_drop]; omega
theorem Uoa {α : Type} (k j : Nat) (x y : List α) (h : x.length = y.length) (hk : k ≤ x.length) (d : α) : (Kwb k x y).getD j d = if j < k then x.getD j d else y.getD j d := by
  unfold Kwb
  split
  · rename_i hj
    rw [Ltb _ _ _ _ (by rw [List.length_take]; omega), Knb _ _ _ _ hj]
  · rename_i hj
    rw [Kkb _ _ _ _ (by rw [List.length_take]; omega), Klb, List.length_take]
    congr 1; omega
theorem Kxb {α : Type} (x y : List α) : Kwb 0 x y = y := by simp [Kwb]
theorem Mbb {α : Type} (k : Nat) (x y : List α) (h : x.length = y.length) (hk : k < x.length) (d : α) : (Kwb (k + 1) x y).set k (y.getD k d) = Kwb k x y := by
  apply List.ext_getElem?
  intro i
  have h1 := Xqa (k + 1) x y h
  have h2 := Xqa k x y h
  rw [List.getElem?_set, h1]
  split
  · rename_i he
    subst he
    have := Uoa k k x y h (by omega) d
    rw [if_neg (by omega), List.getD_eq_getElem?_getD, List.getElem?_eq_getElem (by omega)] at this
    rw [List.getElem?_eq_getElem (by omega)]
    simpa using this.symm
  · rename_i he
    by_cases hi : i < x.length
    · have a1 := Uoa (k + 1) i x y h (by omega) d
      have a2 := Uoa k i x y h (by omega) d
      rw [List.getD_eq_getElem?_getD, List.getElem?_eq_getElem (by omega)] at a1 a2
      rw [List.getElem?_eq_getElem (by omega), List.getElem?_eq_getElem (by omega)]
      simp only [Option.getD_some] at a1 a2
      rw [a1, a2]
      by_cases hik : i < k
      · rw [if_pos (by omega), if_pos hik]
      · rw [if_neg (by omega), if_neg hik]
    · rw [List.getElem?_eq_none (by omega), List.getElem?_eq_none (by omega)]
theorem Zja {a : List Str} {i : Nat} (h : i < a.length) : a.drop i = a.getD i ByteArray.empty :: a.drop (i + 1) := by
  rw [List.drop_eq_getElem_cons h, List.getD_eq_getElem?_getD, List.getElem?_eq_getElem h]; rfl
theorem Lwb (a b : List Str) (i j : Nat) (hi : i < a.length) (hj : j < b.length) (u v : Int) : (Jqa a b i).getD j u = if a.getD i ByteArray.empty = b.getD j ByteArray.empty then (Jqa a b (i + 1)).getD (j + 1) v + 1 else
    bif decide ((Jqa a b (i + 1)).getD j v < (Jqa a b i).getD (j + 1) v) then (Jqa a b i).getD (j + 1) v else (Jqa a b (i + 1)).getD j v := by
  rw [Jua _ _ _ _ (by omega), Jua _ _ _ _ (by omega), Jua _ _ _ _ (by omega), Jua _ _ _ _ (by omega), Zja hi, Zja hj, xXa]
  split
  · omega
  · split
    · rename_i h; rw [decide_eq_false (by omega)]; rfl
    · rename_i h; rw [decide_eq_true (by omega)]; rfl
theorem Ojb (a b : List Str) (i j : Nat) (d : Int) (hd : d = 0) (hl : b.length < 1000000000) : 0 ≤ (Jqa a b i).getD j d ∧ (Jqa a b i).getD j d ≤ a.length := by
  by_cases h : j ≤ b.length
  · rw [Jua _ _ _ _ h]
    have := vWa (a.drop i) (b.drop j)
    rw [List.length_drop] at this
    omega
  · rw [List.getD_eq_getElem?_getD, List.getElem?_eq_none (by rw [Hva]; omega)]
    subst hd
    simp
theorem Soa (t : List (List Int)) (z : List Int) (a b : List Str) (ha : a.length ≤ 1000000000) (hb : b.length < 1000000000) (i : Nat) (hi : i < a.length) : ∀ (k : Nat), k ≤ b.length →
    Ifa (t, z, Kwb k (Jqa a b (i + 1)) (Jqa a b i), a, b, Jqa a b (i + 1), (i : Int), (k : Int) - 1, ()) = some (t, z, Jqa a b i, a, b, Jqa a b (i + 1), (i : Int), -1, ())
  | 0, hk => by
    rw [Lqa, Kxb]
    simp (disch := omega) only [Gfa, PP]
    rfl
  | k + 1, hk => by
    have hl1 := Hva a b (i + 1)
    have hl2 := Hva a b i
    have hl := Xqa (k + 1) (Jqa a b (i + 1)) (Jqa a b i) (by omega)
    have e0 : (((k + 1 : Nat) : Int) - 1) = (k : Int) := by omega
    have hw : IntKind.wrap .i64 ((k : Int) + 1) = ((k + 1 : Nat) : Int) := Fxa (by omega)
    have hw2 : IntKind.wrap .i64 ((k : Int) - 1) = (k : Int) - 1 := Aua (by omega) (by omega)
    have ih := Soa t z a b ha hb i hi k (by omega)
    have hm : ∀ d, (Kwb (k + 1) (Jqa a b (i + 1)) (Jqa a b i)).getD (k + 1) d = (Jqa a b i).getD (k + 1) d := fun d => by rw [Uoa _ _ _ _ (by omega) (by omega), if_neg (by omega)]
    have hx : ∀ d, a.getD i d = a.getD i ByteArray.empty := fun d => by
      rw [List.getD_eq_getElem?_getD, List.getD_eq_getElem?_getD, List.getElem?_eq_getElem (by omega)]; rfl
    have hy : ∀ d, b.getD k d = b.getD k ByteArray.empty := fun d => by
      rw [List.getD_eq_getElem?_getD, List.getD_eq_getElem?_getD, List.getElem?_eq_getElem (by omega)]; rfl
    have hs := Mbb k (Jqa a b (i + 1)) (Jqa a b i) (by omega) (by omega) 0
    have hst := Lwb a b i k hi (by omega) 0 0
    have hbd := Ojb a b (i + 1) (k + 1) 0 rfl hb
    have hw3 : IntKind.wrap .i64 ((Jqa a b (i + 1)).getD (k + 1) 0 + 1) = (Jqa a b (i + 1)).getD (k + 1) 0 + 1 := Aua (by omega) (by omega)
    have hd : ∀ d : Int, (Ty.dfl (Ty.int IntKind.i64) : Int) = 0 := fun _ => rfl
    rw [Lqa, e0]
    by_cases heq : a.getD i ByteArray.empty = b.getD k ByteArray.empty
    · rw [if_pos heq] at hst
      simp (disch := omega) only [Gfa, PP, hw, hw2, hm, hl, List.length_set, List.set_set, heq, decide_true, hx, hy]
      simp only [hd 0, hw3]
      simp only [← hst, hs]
      exact ih
    · rw [if_neg heq] at hst
      simp (disch := omega) only [Gfa, PP, hw, hw2, hm, hl, List.length_set, heq, decide_false, hx, hy]
      simp only [hd 0, ← hst, hs]
      exact ih
theorem Fvb {α : Type} (x y : List α) (h : x.length = y.length) : hYb x 0 y = y := by
  simp [hYb, h]
theorem Sna (a b : List Str) (ha : a.length ≤ 1000000000) (hb : b.length < 1000000000) : ∀ (k : Nat), k ≤ a.length + 1 → ∀ z : List Int,
    ∃ z' x, Kta (List.replicate k [] ++ (lIb a b).drop k, z, a, b, Jqa a b k, (k : Int) - 1, ()) = some (lIb a b, z', a, b, x, -1, ())
  | 0, hk, z => by
    rw [Sma]
    simp (disch := omega) only [Pea, PP]
    exact ⟨_, _, rfl⟩
  | k + 1, hk, z => by
    have hM := Aia
    have hl := Hva a b (k + 1)
    have e0 : (((k + 1 : Nat) : Int) - 1) = (k : Int) := by omega
    have hw : IntKind.wrap .i64 ((b.length : Int) + 1) = ((b.length + 1 : Nat) : Int) := Fxa (by omega)
    have hw2 : IntKind.wrap .i64 ((k : Int) - 1) = (k : Int) - 1 := Aua (by omega) (by omega)
    have hw4 : IntKind.wrap .i64 ((b.length : Int) - 1) = (b.length : Int) - 1 := Aua (by omega) (by omega)
    have ho : ∀ x : List Int, x.length = b.length + 1 → hYb x 0 ((Jqa a b (k + 1)).take (x.length - 0)) = Jqa a b (k + 1) := fun x hx => by
      rw [List.take_of_length_le (by omega), Fvb _ _ (by omega)]
    have h9 : ∃ row, row = Jqa a b k ∧ ∃ j, Ifa (List.replicate (k + 1) [] ++ (lIb a b).drop (k + 1), z, Jqa a b (k + 1), a, b, Jqa a b (k + 1), (k : Int), (b.length : Int) - 1, ()) = some (List.replicate (k + 1) [] ++ (lIb a b).drop (k + 1), z, row, a, b, Jqa a b (k + 1), (k : Int), j, ()) := by
      by_cases hka : k < a.length
      · refine ⟨_, rfl, -1, ?_⟩
        have := Soa (List.replicate (k + 1) [] ++ (lIb a b).drop (k + 1)) z a b ha hb k hka b.length (Nat.le_refl _)
        have hmx : Kwb b.length (Jqa a b (k + 1)) (Jqa a b k) = Jqa a b (k + 1) := by
          apply List.ext_getElem?
          intro i
          have l1 := Xqa b.length (Jqa a b (k + 1)) (Jqa a b k) (by rw [Hva, Hva])
          have l2 := Hva a b k
          by_cases hi : i < b.length + 1
          · have q1 := Uoa b.length i (Jqa a b (k + 1)) (Jqa a b k) (by rw [Hva, Hva]) (by omega) 0
            rw [List.getElem?_eq_getElem (by omega), List.getElem?_eq_getElem (by omega)]
            rw [List.getD_eq_getElem?_getD, List.getElem?_eq_getElem (by omega)] at q1
            simp only [Option.getD_some] at q1
            rw [q1]
            by_cases hib : i < b.length
            · rw [if_pos hib, List.getD_eq_getElem?_getD, List.getElem?_eq_getElem (by omega)]; rfl
            · have : i = b.length := by omega
              subst this
              rw [if_neg (by omega), Jua _ _ _ _ (Nat.le_refl _)]
              have q2 := Jua a b (k + 1) b.length (Nat.le_refl _) 0
              rw [List.getD_eq_getElem?_getD, List.getElem?_eq_getElem (by omega)] at q2
              simp only [Option.getD_some] at q2
              rw [q2]
              rw [List.drop_eq_nil_of_le (Nat.le_refl b.length), xYa, xYa]
          · rw [List.getElem?_eq_none (by omega), List.getElem?_eq_none (by omega)]
        rw [hmx] at this
        exact this
      · refine ⟨Jqa a b (k + 1), by rw [Afb _ _ _ (by omega), Afb _ _ _ (by omega)], (b.length : Int) - 1, ?_⟩
        rw [Lqa]
        by_cases hb0 : b.length = 0
        · simp (disch := omega) only [Gfa, PP]
        · simp (disch := omega) only [Gfa, PP]
    obtain ⟨row, hrow, j, e9⟩ := h9
    subst hrow
    have htl := Ecb a b
    have hset : (List.replicate (k + 1) [] ++ (lIb a b).drop (k + 1)).set k (Jqa a b k) = List.replicate k [] ++ (lIb a b).drop k := by
      have e1 : List.replicate (k + 1) ([] : List Int) = List.replicate k [] ++ [[]] := List.replicate_succ'
      have e2 : (lIb a b).drop k = Jqa a b k :: (lIb a b).drop (k + 1) := by
        rw [List.drop_eq_getElem_cons (by omega)]
        have := Ebb a b k (by omega) []
        rw [List.getD_eq_getElem?_getD, List.getElem?_eq_getElem (by omega)] at this
        simp only [Option.getD_some] at this
        rw [this]
      rw [e1, e2, List.append_assoc, List.set_append_right _ _ (by simp), List.length_replicate, Nat.sub_self]
      rfl
    obtain ⟨z', x, ih⟩ := Sna a b ha hb k (by omega) z
    refine ⟨z', x, ?_⟩
    have hll : (List.replicate (k + 1) ([] : List Int) ++ (lIb a b).drop (k + 1)).length = a.length + 1 := by
      rw [List.length_append, List.length_replicate, List.length_drop, htl]; omega
    rw [Sma, e0]
    simp (disch := first | omega | (simp only [List.length_replicate]; omega)) only [Pea, Aja, Ada, Aaa, Int.toNat_natCast, hw, hw2, hw4, List.length_replicate, ho, Nat.sub_zero, hl, e9, hll, List.length_set, hset, Option.bind_some, Sum.elim_inl, List.take_of_length_le, Fvb]
    exact ih
theorem Gxb (a b : List Str) (ha : a.length ≤ 1000000000) (hb : b.length < 1000000000) : Xna (a, b, ()) = some (lIb a b, ()) := by
  have hM := Aia
  obtain ⟨z', x, e⟩ := Sna a b ha hb (a.length + 1) (Nat.le_refl _) (List.replicate (b.length + 1) 0)
  rw [Afb _ _ _ (by omega), List.drop_eq_nil_of_le (by rw [Ecb]; exact Nat.le_refl _), List.append_nil] at e
  have e0 : (((a.length + 1 : Nat) : Int) - 1) = (a.length : Int) := by omega
  rw [e0] at e
  have hw : IntKind.wrap .i64 ((b.length : Int) + 1) = ((b.length + 1 : Nat) : Int) := Fxa (by omega)
  have hw2 : IntKind.wrap .i64 ((a.length : Int) + 1) = ((a.length + 1 : Nat) : Int) := Fxa (by omega)
  rw [Gwb]
  simp (disch := first | omega | (simp only [List.length_replicate]; omega)) only [Ejb, Aja, Ada, Aaa, Int.toNat_natCast, hw, hw2, e]
abbrev Gqb := Int × Int × Unit
def Dca : List Str → List Str → Int → Int → List Gqb
  | x :: xs, y :: ys, i, j => if x = y then (i, j, ()) :: Dca xs ys (i + 1) (j + 1) else if sRa (x :: xs) ys ≤ sRa xs (y :: ys) then Dca xs (y :: ys) (i + 1) j else Dca (x :: xs) ys i (j + 1)
  | _, _, _, _ => []
termination_by a b => a.length + b.length
theorem Iha (b : List Str) (i j : Int) : Dca [] b i j = [] := by rw [Dca]; intros; simp_all
theorem Nda (a : List Str) (i j : Int) : Dca a [] i j = [] := by cases a <;> (rw [Dca]; intros; simp_all)
theorem Nca (x y : Str) (xs ys : List Str) (i j : Int) : Dca (x :: xs) (y :: ys) i j = if x = y then (i, j, ()) :: Dca xs ys (i + 1) (j + 1) else if sRa (x :: xs) ys ≤ sRa xs (y :: ys) then Dca xs (y :: ys) (i + 1) j else Dca (x :: xs) ys i (j + 1) := by rw [Dca]
theorem Fwb {a b : List Str} {i j : Nat} (hi : i < a.length) (hj : j < b.length) : Dca (a.drop i) (b.drop j) i j = if a.getD i ByteArray.empty = b.getD j ByteArray.empty then ((i : Int), (j : Int), ()) :: Dca (a.drop (i + 1)) (b.drop (j + 1)) ((i + 1 : Nat) : Int) ((j + 1 : Nat) : Int)
    else if (Jqa a b i).getD (j + 1) 0 ≤ (Jqa a b (i + 1)).getD j 0 then Dca (a.drop (i + 1)) (b.drop j) ((i + 1 : Nat) : Int) j else Dca (a.drop i) (b.drop (j + 1)) i ((j + 1 : Nat) : Int) := by
  rw [Jua _ _ _ _ (by omega), Jua _ _ _ _ (by omega), Zja hi, Zja hj, Nca]
  simp only [Int.natCast_add, Int.natCast_one, Int.ofNat_le]
theorem Fib {α : Type} (l : List α) (k : Nat) (h : k < l.length) (d d' : α) : l.getD k d = l.getD k d' := by
  rw [List.getD_eq_getElem?_getD, List.getD_eq_getElem?_getD, List.getElem?_eq_getElem h]; rfl
theorem Fqb (a b : List Str) (ha : a.length ≤ 1000000000) (hb : b.length < 1000000000) : ∀ (n i j : Nat) (l : List Gqb), (a.length - i) + (b.length - j) ≤ n → i ≤ a.length → j ≤ b.length → l.length ≤ i →
    ∃ x y, Fma (l, a, b, lIb a b, (i : Int), (j : Int), ()) = some (l ++ Dca (a.drop i) (b.drop j) i j, a, b, lIb a b, x, y, ()) := by
  have hM := Aia
  intro n
  induction n with
  | zero =>
    intro i j l hn hi hj hl
    have e1 : i = a.length := by omega
    subst e1
    rw [Eja]
    simp (disch := omega) only [Bva, PP]
    rw [List.drop_eq_nil_of_le (Nat.le_refl _), Iha, List.append_nil]
    exact ⟨_, _, rfl⟩
  | succ n ih =>
    intro i j l hn hi hj hl
    by_cases hia : i = a.length
    · subst hia
      rw [Eja]
      simp (disch := omega) only [Bva, PP]
      rw [List.drop_eq_nil_of_le (Nat.le_refl _), Iha, List.append_nil]
      exact ⟨_, _, rfl⟩
    · by_cases hjb : j = b.length
      · subst hjb
        rw [Eja]
        simp (disch := omega) only [Bva, PP]
        rw [List.drop_eq_nil_of_le (Nat.le_refl b.length), Nda, List.append_nil]
        exact ⟨_, _, rfl⟩
      · have hw : IntKind.wrap .i64 ((i : Int) + 1) = ((i + 1 : Nat) : Int) := Fxa (by omega)
        have hw2 : IntKind.wrap .i64 ((j : Int) + 1) = ((j + 1 : Nat) : Int) := Fxa (by omega)
        have hx := Fib a i (by omega)
        have hy := Fib b j (by omega)
        have ht1 := Ebb a b i (by omega)
        have ht2 := Ebb a b (i + 1) (by omega)
        have hr1 := Hva a b i
        have hr2 := Hva a b (i + 1)
        have htl := Ecb a b
        rw [Eja, Fwb (by omega) (by omega)]
        by_cases heq : a.getD i ByteArray.empty = b.getD j ByteArray.empty
        · obtain ⟨x, y, e⟩ := ih (i + 1) (j + 1) (l ++ [((i : Int), (j : Int), ())]) (by omega) (by omega) (by omega) (by simp; omega)
          refine ⟨x, y, ?_⟩
          simp (disch := omega) only [Bva, PP, hw, hw2, heq, decide_true, e, if_true]
          rw [List.append_assoc]; rfl
        · rw [if_neg heq]
          by_cases hc : (Jqa a b i).getD (j + 1) 0 ≤ (Jqa a b (i + 1)).getD j 0
          · obtain ⟨x, y, e⟩ := ih (i + 1) j l (by omega) (by omega) (by omega) (by omega)
            refine ⟨x, y, ?_⟩
            rw [if_pos hc]
            simp (disch := omega) only [Bva, PP, hw, hw2, heq, decide_false, ht1, ht2, e]
          · obtain ⟨x, y, e⟩ := ih i (j + 1) l (by omega) (by omega) (by omega) (by omega)
            refine ⟨x, y, ?_⟩
            rw [if_neg hc]
            simp (disch := omega) only [Bva, PP, hw, hw2, heq, decide_false, ht1, ht2, e]
theorem Qca (a b : List Str) (ha : a.length ≤ 1000000000) (hb : b.length < 1000000000) : Uma (a, b, ()) = some (Dca a b 0 0, ()) := by
  obtain ⟨x, y, e⟩ := Fqb a b ha hb _ 0 0 [] (Nat.le_refl _) (by omega) (by omega) (by simp)
  simp only [Int.natCast_zero, List.drop_zero, List.nil_append] at e
  rw [Fpb]
  simp (disch := omega) only [Bkb, PP, Gxb a b ha hb, e]
abbrev Jib := Int × Int × List Str × Unit
abbrev Pca := Int × List Str × List Str × Unit
abbrev Bqa := Int × Str × Str × Pca × Unit
def Cua (b : List Str) : List Gqb → Int → Int → List Jib
  | [], _, _ => []
  | p :: ps, i, j => (if p.1 > i ∨ p.2.1 > j then [(i, p.1 - i, (b.drop j.toNat).take (p.2.1.toNat - j.toNat), ())] else []) ++ Cua b ps (p.1 + 1) (p.2.1 + 1)
def OkE (n m : Nat) : List Gqb → Int → Int → Prop
  | [], _, _ => True
  | p :: ps, i, j => i ≤ p.1 ∧ p.1 ≤ n ∧ j ≤ p.2.1 ∧ p.2.1 ≤ m ∧ OkE n m ps (p.1 + 1) (p.2.1 + 1)
theorem Mna (n m : Nat) : ∀ (a b : List Str) (i j : Int), i + a.length ≤ n → j + b.length ≤ m → OkE n m (Dca a b i j ++ [((n : Int), (m : Int), ())]) i j
  | [], b, i, j, h1, h2 => by rw [Iha]; simp only [List.length_nil, List.nil_append, OkE] at *; exact ⟨by omega, by omega, by omega, by omega, trivial⟩
  | x :: xs, [], i, j, h1, h2 => by rw [Nda]; simp only [List.length_nil, List.nil_append, OkE] at *; exact ⟨by omega, by omega, by omega, by omega, trivial⟩
  | x :: xs, y :: ys, i, j, h1, h2 => by
    rw [Nca]
    simp only [List.length_cons] at h1 h2
    split
    · rw [List.cons_append]
      exact ⟨by simp, by simp; omega, by simp, by simp; omega, Mna n m xs ys (i + 1) (j + 1) (by omega) (by omega)⟩
    · have pNb : ∀ (ps : List Gqb) (i j i' j' : Int), i' ≤ i → j' ≤ j → OkE n m ps i j → OkE n m ps i' j' := fun ps i j i' j' hi hj h => by
        cases ps with
        | nil => trivial
        | cons p ps => exact ⟨by have := h.1; omega, h.2.1, by have := h.2.2.1; omega, h.2.2.2⟩
      split
      · exact pNb _ _ _ _ _ (by omega) (by omega) (Mna n m xs (y :: ys) (i + 1) j (by omega) (by simp only [List.length_cons]; omega))
      · exact pNb _ _ _ _ _ (by omega) (by omega) (Mna n m (x :: xs) ys i (j + 1) (by simp only [List.length_cons]; omega) (by omega))
termination_by a b => a.length + b.length
theorem Mma : ∀ (a b : List Str) (i j : Int), (Dca a b i j).length ≤ a.length
  | [], b, i, j => by rw [Iha]; simp
  | x :: xs, [], i, j => by rw [Nda]; simp
  | x :: xs, y :: ys, i, j => by
    have h1 := Mma xs ys (i + 1) (j + 1)
    have h2 := Mma xs (y :: ys) (i + 1) j
    have h3 := Mma (x :: xs) ys i (j + 1)
    rw [Nca]
    simp only [List.length_cons] at *
    split
    · simp only [List.length_cons]; omega
    · split <;> omega
termination_by a b => a.length + b.length
def Woa (a b : List Str) : List Jib := Cua b (Dca a b 0 0 ++ [((a.length : Int), (b.length : Int), ())]) 0 0
theorem Jga (n : Nat) (ps : List Gqb) (a b : List Str) (q : Gqb) (hn : n ≤ 1000000000) (hb : b.length ≤ 1000000000) (hp : ps.length ≤ 2000000000) : ∀ (r : List Gqb) (k : Nat) (l : List Jib) (i j : Int), ps.drop k = r → k ≤ ps.length → l.length ≤ k → 0 ≤ i → 0 ≤ j → OkE n b.length (r ++ [q]) i j →
    ∃ l' x y, Hba (l, b, i, j, a, ps, (ps.length : Int), (k : Int), ()) = some (l', b, x, y, a, ps, (ps.length : Int), (ps.length : Int), ()) ∧ l' ++ Cua b [q] x y = l ++ Cua b (r ++ [q]) i j ∧ OkE n b.length [q] x y ∧ 0 ≤ x ∧ 0 ≤ y ∧ l'.length ≤ ps.length
  | [], k, l, i, j, h, hk, hl, hi, hj, ho => by
    have := Afa h hk
    subst this
    rw [Oca]
    simp (disch := omega) only [Fba, PP]
    exact ⟨_, _, _, rfl, rfl, ho, hi, hj, hl⟩
  | p :: r, k, l, i, j, h, hk, hl, hi, hj, ho => by
    obtain ⟨h1, h2, h3, h4⟩ := Aba h
    obtain ⟨o1, o2, o3, o4, o5⟩ := ho
    have hM := Aia
    have hw1 : IntKind.wrap .i64 (p.1 + 1) = p.1 + 1 := Aua (by omega) (by omega)
    have hw2 : IntKind.wrap .i64 (p.2.1 + 1) = p.2.1 + 1 := Aua (by omega) (by omega)
    have hw3 : IntKind.wrap .i64 (p.1 - i) = p.1 - i := Aua (by omega) (by omega)
    have ht : ((b.drop j.toNat).take (p.2.1.toNat - j.toNat)).length ≤ 1000000000 := by rw [List.length_take, List.length_drop]; omega
    rw [Oca, List.cons_append, Cua]
    by_cases hc : p.1 > i ∨ p.2.1 > j
    · obtain ⟨l', x, y, e, e2, e3⟩ := Jga n ps a b q hn hb hp r (k + 1) (l ++ [(i, p.1 - i, (b.drop j.toNat).take (p.2.1.toNat - j.toNat), ())]) (p.1 + 1) (p.2.1 + 1) h3 (by omega) (by simp; omega) (by omega) (by omega) o5
      refine ⟨l', x, y, ?_, by rw [e2, if_pos hc, List.append_assoc], e3⟩
      by_cases hc1 : p.1 > i
      · simp (disch := omega) only [Fba, PP, h2, hw1, hw2, hw3, e]
      · simp (disch := omega) only [Fba, PP, h2, hw1, hw2, hw3, e]
    · obtain ⟨l', x, y, e, e2, e3⟩ := Jga n ps a b q hn hb hp r (k + 1) l (p.1 + 1) (p.2.1 + 1) h3 (by omega) (by omega) (by omega) (by omega) o5
      refine ⟨l', x, y, ?_, by rw [e2, if_neg hc, List.nil_append], e3⟩
      simp (disch := omega) only [Fba, PP, h2, hw1, hw2, hw3, e]
theorem Cub (a b : List Str) (ha : a.length ≤ 1000000000) (hb : b.length < 1000000000) : Rba (a, b, ()) = some (Woa a b, ()) := by
  have hM := Aia
  have hpl := Mma a b 0 0
  obtain ⟨l', x, y, e, e2, e3, e4, e5, e6⟩ := Jga a.length (Dca a b 0 0) a b ((a.length : Int), (b.length : Int), ()) ha (by omega) (by omega) _ 0 [] 0 0 rfl (by omega) (by simp) (by omega) (by omega) (Mna a.length b.length a b 0 0 (by omega) (by omega))
  simp only [Int.natCast_zero, List.nil_append] at e e2
  obtain ⟨o1, o2, o3, o4, _⟩ := e3
  simp only at o1 o3
  have hw3 : IntKind.wrap .i64 ((a.length : Int) - x) = (a.length : Int) - x := Aua (by omega) (by omega)
  have ht : ((b.drop y.toNat).take (b.length - y.toNat)).length ≤ 1000000000 := by rw [List.length_take, List.length_drop]; omega
  have he : Woa a b = l' ++ Cua b [((a.length : Int), (b.length : Int), ())] x y := by rw [e2]; rfl
  rw [Ctb, he, Cua]
  by_cases hc1 : (a.length : Int) > x
  · rw [if_pos (.inl hc1)]
    simp (disch := omega) only [Mta, PP, Qca a b ha hb, e, hw3, Cua]
    rfl
  · by_cases hc2 : (b.length : Int) > y
    · rw [if_pos (.inr hc2)]
      simp (disch := omega) only [Mta, PP, Qca a b ha hb, e, hw3, Cua]
      rfl
    · rw [if_neg (by simp only; omega)]
      simp (disch := omega) only [Mta, PP, Qca a b ha hb, e, hw3, Cua]
      simp
def Kma (a : List Str) : List Jib → Int → List Pca
  | [], _ => []
  | e :: es, by_ => (e.1 + by_, (a.drop e.1.toNat).take ((e.1 + e.2.1).toNat - e.1.toNat), e.2.2.1, ()) :: Kma a es (by_ + e.2.2.1.length - e.2.1)
def Ucb (a : List Str) (e : Jib) : Prop := 0 ≤ e.1 ∧ 0 ≤ e.2.1 ∧ e.1 + e.2.1 ≤ a.length ∧ e.2.2.1.length ≤ 1000000000
theorem Dgb (a : List Str) (es : List Jib) (ha : a.length ≤ 1000000000) (he : ∀ e ∈ es, Ucb a e) (hs : es.length ≤ 1000000001) : ∀ (r : List Jib) (k : Nat) (l : List Pca) (by_ : Int), es.drop k = r → k ≤ es.length → l.length ≤ k → -(k * 1000000000 : Int) ≤ by_ → by_ ≤ k * 1000000000 →
    ∃ x y, Maa (l, a, by_, es, (es.length : Int), (k : Int), ()) = some (l ++ Kma a r by_, a, x, es, (es.length : Int), y, ()) := by
  intro r
  induction r with
  | nil =>
    intro k l by_ h hk hl hb1 hb2
    have := Afa h hk
    subst this
    rw [Uia]
    simp (disch := omega) only [Tja, PP, Kma, List.append_nil]
    exact ⟨_, _, rfl⟩
  | cons e r ih =>
    intro k l by_ h hk hl hb1 hb2
    obtain ⟨h1, h2, h3, h4⟩ := Aba h
    obtain ⟨o1, o2, o3, o4⟩ := he e h4
    have hM := Aia
    have hw1 : IntKind.wrap .i64 (e.1 + e.2.1) = e.1 + e.2.1 := Aua (by omega) (by omega)
    have hw2 : IntKind.wrap .i64 (e.1 + by_) = e.1 + by_ := Aua (by omega) (by omega)
    have hw3 : IntKind.wrap .i64 ((e.2.2.1.length : Int) - e.2.1) = (e.2.2.1.length : Int) - e.2.1 := Aua (by omega) (by omega)
    have hw4 : IntKind.wrap .i64 (by_ + ((e.2.2.1.length : Int) - e.2.1)) = by_ + e.2.2.1.length - e.2.1 := by rw [Aua (by omega) (by omega)]; omega
    have ht : ((a.drop e.1.toNat).take ((e.1 + e.2.1).toNat - e.1.toNat)).length ≤ 1000000000 := by rw [List.length_take, List.length_drop]; omega
    obtain ⟨x, y, e9⟩ := ih (k + 1) (l ++ [(e.1 + by_, (a.drop e.1.toNat).take ((e.1 + e.2.1).toNat - e.1.toNat), e.2.2.1, ())]) (by_ + e.2.2.1.length - e.2.1) h3 (by omega) (by simp; omega) (by omega) (by omega)
    refine ⟨x, y, ?_⟩
    rw [Uia, Kma]
    simp (disch := omega) only [Tja, PP, h2, hw1, hw2, hw3, hw4, e9]
    rw [List.append_assoc]; rfl
theorem Fgb (n : Nat) (a b : List Str) (ha : n ≤ a.length) (hb : b.length ≤ 1000000000) : ∀ (ps : List Gqb) (i j : Int), 0 ≤ i → 0 ≤ j → OkE n b.length ps i j → ∀ e ∈ Cua b ps i j, Ucb a e
  | [], i, j, hi, hj, ho, e, he => by simp [Cua] at he
  | p :: ps, i, j, hi, hj, ho, e, he => by
    obtain ⟨o1, o2, o3, o4, o5⟩ := ho
    rw [Cua, List.mem_append] at he
    rcases he with he | he
    · split at he
      · simp only [List.mem_singleton] at he
        subst he
        refine ⟨hi, by simp only; omega, by simp only; omega, ?_⟩
        simp only [List.length_take, List.length_drop]; omega
      · simp at he
    · exact Fgb n a b ha hb ps _ _ (by omega) (by omega) o5 e he
theorem Ccb (b : List Str) : ∀ (ps : List Gqb) (i j : Int), (Cua b ps i j).length ≤ ps.length
  | [], i, j => by simp [Cua]
  | p :: ps, i, j => by
    have := Ccb b ps (p.1 + 1) (p.2.1 + 1)
    rw [Cua, List.length_append, List.length_cons]
    split <;> simp <;> omega
theorem Keb (a b : List Str) (hb : b.length ≤ 1000000000) : ∀ e ∈ Woa a b, Ucb a e := Fgb a.length a b (Nat.le_refl _) hb _ 0 0 (by omega) (by omega) (Mna a.length b.length a b 0 0 (by omega) (by omega))
theorem Cdb (a b : List Str) : (Woa a b).length ≤ a.length + 1 := by
  have h1 := Ccb b (Dca a b 0 0 ++ [((a.length : Int), (b.length : Int), ())]) 0 0
  have h2 := Mma a b 0 0
  rw [List.length_append] at h1
  simp only [Woa, List.length_cons, List.length_nil] at *
  omega
def Oga (a b : List Str) : List Pca := Kma a (Woa a b) 0
theorem Iub (a b : List Str) (ha : a.length ≤ 1000000000) (hb : b.length < 1000000000) : Zpa (a, b, ()) = some (Oga a b, ()) := by
  have hel := Cdb a b
  obtain ⟨x, y, e⟩ := Dgb a (Woa a b) ha (Keb a b (by omega)) (by omega) _ 0 [] 0 rfl (by omega) (by simp) (by simp) (by simp)
  simp only [Int.natCast_zero, List.nil_append] at e
  rw [Itb]
  simp (disch := omega) only [Hub, PP, Cub a b ha hb, e]
  rfl
theorem Cgb (a : List Str) : ∀ (es : List Jib) (x : Int), (Kma a es x).length = es.length
  | [], _ => rfl
  | e :: es, x => by rw [Kma, List.length_cons, List.length_cons, Cgb a es]
def Mid (t : Aha) : Prop := t.length ≤ 1000 ∧ ∀ f ∈ t, f.2.1.length ≤ 1000
theorem Mid.wee {t : Aha} (h : Mid t) : Wee t := ⟨by have := h.1; omega, fun f hf => by have := h.2 f hf; omega⟩
theorem Mid.get {t : Aha} (h : Mid t) (s : Str) : ((Ava t s).getD []).length ≤ 1000 := by
  rw [Zla]
  split
  · rename_i hlt
    simp only [Option.getD_some]
    have := h.2 (t.getD (at_ t s) (ByteArray.empty, [], ())) (by rw [List.getD_eq_getElem?_getD, List.getElem?_eq_getElem hlt]; exact List.getElem_mem _)
    exact this
  · simp
abbrev noH : Pca := (0, [], [], ())
def Hla (s : Str) (hs : List Pca) : List Bqa := hs.map fun h => (3, s, ByteArray.empty, h, ())
def Lca (a b : Aha) (s : Str) : List Bqa := (if (Ava a s).isSome then [] else [(0, s, ByteArray.empty, noH, ())]) ++ (Hla s (Oga ((Ava a s).getD []) ((Ava b s).getD [])) ++
  (if (Ava b s).isSome then [] else [(1, s, ByteArray.empty, noH, ())]))
theorem Qfa (s : Str) (b : Bool) (hs : List Pca) (hl : hs.length ≤ 1000000000) : ∀ (r : List Pca) (k : Nat) (l : List Bqa), hs.drop k = r → k ≤ hs.length → l.length ≤ 10000000000 + k →
    Gma (l, s, b, hs, (hs.length : Int), (k : Int), ()) = some (l ++ Hla s r, s, b, hs, (hs.length : Int), (hs.length : Int), ())
  | [], k, l, h, hk, hb => by
    have := Afa h hk
    subst this
    rw [Qea]
    simp (disch := omega) only [Mua, PP, Hla, List.map_nil, List.append_nil]
  | x :: r, k, l, h, hk, hb => by
    obtain ⟨h1, h2, h3, h4⟩ := Aba h
    have hM := Aia
    have ih := Qfa s b hs hl r (k + 1) (l ++ [(3, s, ByteArray.empty, x, ())]) h3 (by omega) (by simp; omega)
    rw [Qea]
    simp (disch := omega) only [Mua, PP, h2]
    refine ih.trans ?_
    rw [List.append_assoc]; rfl
theorem Vsa (a b : List Str) : (Oga a b).length ≤ a.length + 1 := by
  rw [Oga, Cgb]; exact Cdb a b
theorem Kfb (a b : Aha) (ha : Mid a) (s : Str) : (Lca a b s).length ≤ 1003 := by
  have h1 := Vsa ((Ava a s).getD []) ((Ava b s).getD [])
  have h2 := ha.get s
  simp only [Lca, List.length_append, Hla, List.length_map]
  split <;> split <;> simp <;> omega
theorem Ura (a b : Aha) (ha : Mid a) (hb : Mid b) (ns : List Str) (hn : ns.length ≤ 1000000) : ∀ (r : List Str) (k : Nat) (l : List Bqa), ns.drop k = r → k ≤ ns.length → l.length ≤ k * 1003 →
    Jxa (l, a, b, ns, (ns.length : Int), (k : Int), ()) = some (l ++ r.flatMap (Lca a b), a, b, ns, (ns.length : Int), (ns.length : Int), ())
  | [], k, l, h, hk, hl => by
    have := Afa h hk
    subst this
    rw [Uqa]
    simp (disch := omega) only [Ica, PP, List.flatMap_nil, List.append_nil]
  | s :: r, k, l, h, hk, hl => by
    obtain ⟨h1, h2, h3, h4⟩ := Aba h
    have hM := Aia
    have g1 := ha.get s
    have g2 := hb.get s
    have hfl := Kfb a b ha s
    have hhl := Vsa ((Ava a s).getD []) ((Ava b s).getD [])
    have ih := Ura a b ha hb ns hn r (k + 1) (l ++ Lca a b s) h3 (by omega) (by rw [List.length_append]; omega)
    have eA := Ega a s ha.wee
    have eB := Ega b s hb.wee
    have eH := Iub ((Ava a s).getD []) ((Ava b s).getD []) (by omega) (by omega)
    have eL := fun b2 l (hl : l.length ≤ 10000000000) => Qfa s b2 (Oga ((Ava a s).getD []) ((Ava b s).getD [])) (by omega) _ 0 l rfl (by omega) (by omega)
    simp only [Int.natCast_zero, List.drop_zero] at eL
    have hpl : (Hla s (Oga ((Ava a s).getD []) ((Ava b s).getD []))).length ≤ 1001 := by rw [Hla, List.length_map]; omega
    have fin : ∀ l', l' = l ++ Lca a b s → Jxa (l', a, b, ns, (ns.length : Int), ((k + 1 : Nat) : Int), ()) = some (l ++ (s :: r).flatMap (Lca a b), a, b, ns, (ns.length : Int), (ns.length : Int), ()) := fun l' hl' => by
      rw [hl', ih, List.flatMap_cons, List.append_assoc]
    rw [Uqa]
    cases hA : (Ava a s).isSome with
    | true =>
      cases hB : (Ava b s).isSome with
      | true =>
        simp (disch := first | omega | (simp only [List.length_append, List.length_cons, List.length_nil]; omega)) only [Ica, PP, h2, eA, eB, eH, eL, hA, hB]
        refine fin _ ?_; simp [Lca, hA, hB]
      | false =>
        simp (disch := first | omega | (simp only [List.length_append, List.length_cons, List.length_nil]; omega)) only [Ica, PP, h2, eA, eB, eH, eL, hA, hB]
        refine fin _ ?_; simp [Lca, hA, hB]
    | false =>
      cases hB : (Ava b s).isSome with
      | true =>
        simp (disch := first | omega | (simp only [List.length_append, List.length_cons, List.length_nil]; omega)) only [Ica, PP, h2, eA, eB, eH, eL, hA, hB]
        refine fin _ ?_; simp [Lca, hA, hB]
      | false =>
        simp (disch := first | omega | (simp only [List.length_append, List.length_cons, List.length_nil]; omega)) only [Ica, PP, h2, eA, eB, eH, eL, hA, hB]
        refine fin _ ?_; simp [Lca, hA, hB]
def Zya (a b : Aha) : List Bqa := (Mka a b).flatMap (Lca a b)
theorem Jcb (a b : Aha) (ha : Mid a) (hb : Mid b) (sa : Xga a) (sb : Xga b) : Dhb (a, b, ()) = some (if Paa a && Paa b then Zya a b else [], if Paa a && Paa b then 0 else 1, ()) := by
  have hl := Fub a b
  have h1 := ha.1
  have h2 := hb.1
  have eN := Ehb a b (by omega) (by omega)
  have eL := Ura a b ha hb (Mka a b) (by omega) _ 0 [] rfl (by omega) (by simp)
  simp only [Int.natCast_zero, List.nil_append, List.drop_zero] at eL
  rw [Jbb]
  cases hA : Paa a with
  | false =>
    simp (disch := omega) only [Xja, PP, Eha a sa (by omega), hA]
    rfl
  | true =>
    cases hB : Paa b with
    | false =>
      simp (disch := omega) only [Xja, PP, Eha a sa (by omega), Eha b sb (by omega), hA, hB]
      rfl
    | true =>
      rw [show lSa (Htb [] ((a ++ b).map (·.1))) = Mka a b from rfl] at eN
      simp (disch := omega) only [Xja, PP, Eha a sa (by omega), Eha b sb (by omega), hA, hB, eN, eL]
      rfl
def Akb (p : Bqa) : Prop := p.2.2.2.1.2.1.length < 4611686018427387903 ∧ p.2.2.2.1.2.2.1.length < 4611686018427387903
theorem Bwa {α : Type} [DecidableEq α] (a b : α) : (a == b) = decide (a = b) := by by_cases h : a = b <;> simp [h]
theorem Dpb (p q : Pca) (h1 : p.2.1.length < 4611686018427387903) (h2 : p.2.2.1.length < 4611686018427387903) : Ria (p, q, ()) = some (decide (p = q), ()) := by
  rw [Dob]
  obtain ⟨pa, po, pn, pu⟩ := p
  obtain ⟨qa, qo, qn, qu⟩ := q
  simp only at h1 h2
  by_cases e1 : po = qo
  · subst e1
    by_cases e2 : pn = qn
    · subst e2
      simp (disch := first | omega | assumption) only [Kca, PP, Hpa, decide_true, Bwa]
      simp
    · simp (disch := first | omega | assumption) only [Kca, PP, Hpa, decide_true, Bwa, e2, decide_false]
      simp [e2]
  · by_cases e2 : pn = qn
    · subst e2
      simp (disch := first | omega | assumption) only [Kca, PP, Hpa, decide_true, Bwa, e1, decide_false]
      simp [e1]
    · simp (disch := first | omega | assumption) only [Kca, PP, Hpa, decide_true, Bwa, e1, e2, decide_false]
      simp [e1]
instance decPrim1 : DecidableEq (Pca × Unit) := inferInstance
instance decPrim2 : DecidableEq (Str × Pca × Unit) := inferInstance
instance decPrim3 : DecidableEq (Str × Str × Pca × Unit) := inferInstance
instance decPrim : DecidableEq Bqa := inferInstanceAs (DecidableEq (Int × Str × Str × Pca × Unit))
theorem Dub (p q : Bqa) (h : Akb p) : Rka (p, q, ()) = some (decide (p = q), ()) := by
  obtain ⟨pk, pn, pt, ph, pu⟩ := p
  obtain ⟨qk, qn, qt, qh, qu⟩ := q
  have e := Dpb ph qh h.1 h.2
  rw [Dtb]
  by_cases e1 : ph = qh
  · subst e1
    by_cases e2 : pk = qk
    · subst e2
      by_cases e3 : pn = qn
      · subst e3
        simp (disch := first | omega | assumption) only [Kda, PP, e, Bwa, decide_true]
        simp
      · simp (disch := first | omega | assumption) only [Kda, PP, e, e3, Bwa, decide_true, decide_false]
        simp [e3]
    · simp (disch := first | omega | assumption) only [Kda, PP, e, e2, Bwa, decide_true, decide_false]
      simp [e2]
  · simp (disch := first | omega | assumption) only [Kda, PP, e, e1, Bwa, decide_true, decide_false]
    simp [e1]
theorem Opa (m l : List Bqa) (hs : ∀ p ∈ l, Akb p) (hb : l.length < 4611686018427387903) : ∀ (r : List Bqa) (k : Nat), l.drop k = r → k ≤ l.length → l.length = m.length →
    ∃ y, Hra (l, m, (k : Int), ()) = some y ∧ (match y with
      | .inl _ => r ≠ m.drop k
      | .inr _ => r = m.drop k)
  | [], k, h, hk, hlm => by
    have := Afa h hk
    subst this
    rw [Ooa]
    simp (disch := omega) only [Ioa, PP]
    exact ⟨_, rfl, by rw [hlm, List.drop_length]⟩
  | x :: r, k, h, hk, hlm => by
    obtain ⟨h1, h2, h3, h4⟩ := Aba h
    have h5 : k < m.length := by omega
    have hm : m.drop k = m.getD k (0, ByteArray.empty, ByteArray.empty, (0, [], [], ()), ()) :: m.drop (k + 1) := by
      rw [List.drop_eq_getElem_cons h5, List.getD_eq_getElem?_getD, List.getElem?_eq_getElem h5]; rfl
    obtain ⟨y, ih, p⟩ := Opa m l hs hb r (k + 1) h3 (by omega) hlm
    have e := Dub x (m.getD k (0, ByteArray.empty, ByteArray.empty, (0, [], [], ()), ())) (hs x h4)
    rw [Ooa, hm]
    by_cases hx : x = m.getD k (0, ByteArray.empty, ByteArray.empty, (0, [], [], ()), ())
    · simp only [hx, decide_true] at e
      simp (disch := omega) only [Ioa, PP, h2, hx, e]
      refine ⟨y, ih, ?_⟩
      cases y with
      | inl _ => exact fun he => p (List.cons.inj he).2
      | inr _ => simp only at p ⊢; rw [p]
    · rw [decide_eq_false hx] at e
      simp (disch := omega) only [Ioa, PP, h2, e]
      exact ⟨_, rfl, fun he => hx (List.cons.inj he).1⟩
theorem Dsb (l m : List Bqa) (hs : ∀ p ∈ l, Akb p) (hb : l.length < 4611686018427387903) : Rja (l, m, ()) = some (decide (l = m), ()) := by
  rw [Drb]
  by_cases hl : l.length = m.length
  · obtain ⟨y, e, p⟩ := Opa m l hs hb l 0 rfl (by omega) hl
    simp only [Int.natCast_zero, List.drop_zero] at e p
    have : ((l.length : Int) != (m.length : Int)) = false := by rw [hl]; simp
    cases y with
    | inl z =>
      simp (disch := omega) only [Mya, PP, this, e]
      rw [decide_eq_false p]
    | inr z =>
      simp (disch := omega) only [Mya, PP, this, e]
      rw [decide_eq_true p]
  · have : ((l.length : Int) != (m.length : Int)) = true := by simp; omega
    simp only [Mya, this, Aca]
    rw [decide_eq_false fun h => hl (by rw [h])]
theorem Tla {α β : Type} (f : α → List β) (c : Nat) : ∀ (l : List α), (∀ x ∈ l, (f x).length ≤ c) → (l.flatMap f).length ≤ l.length * c
  | [], _ => by simp
  | x :: l, h => by
    have h1 := Tla f c l fun y hy => h y (List.mem_cons_of_mem _ hy)
    have h2 := h x List.mem_cons_self
    rw [List.flatMap_cons, List.length_append, List.length_cons, Nat.add_mul]
    omega
theorem Tua (l0 ts : List (List Str)) (hb : ts.length < 4611686018427387903) : ∀ (r : List (List Str)) (i n : Nat), ts.drop i = r → i ≤ ts.length → n + r.flatten.length < 4611686018427387903 →
    Bea (l0, (n : Int), ts, (ts.length : Int), (i : Int), ()) = some (l0, ((n + r.flatten.length : Nat) : Int), ts, (ts.length : Int), (ts.length : Int), ())
  | [], i, n, h, hi, _ => by
    have := Afa h hi
    subst this
    rw [Exa]
    simp (disch := omega) only [Cra, PP, List.flatten_nil, Nat.add_zero]
  | t :: r, i, n, h, hi, hn => by
    obtain ⟨h1, h2, h3, h4⟩ := Aba h
    simp only [List.flatten_cons, List.length_append] at hn
    have hw : IntKind.wrap .i64 ((n : Int) + (t.length : Int)) = ((n + t.length : Nat) : Int) := by rw [Aua (by omega) (by omega)]; omega
    rw [Exa]
    simp (disch := omega) only [Cra, PP, h2, hw]
    rw [Tua l0 ts hb r (i + 1) (n + t.length) h3 (by omega) (by omega)]
    simp only [List.flatten_cons, List.length_append, Nat.add_assoc]
theorem Rxa (l0 : List Str) (ts : List (List Str)) (hb : ts.length < 4611686018427387903) : ∀ (r : List (List Str)) (i n : Nat) (row : List Str), ts.drop i = r → i ≤ ts.length → n + r.flatten.length ≤ row.length →
    ∃ row' : List Str, Awa (l0, row, 0, n, ts, (ts.length : Int), (i : Int), ()) = some (l0, row', 0, n + r.flatten.length, ts, (ts.length : Int), (ts.length : Int), ()) ∧ row'.length = row.length ∧ row'.take (n + r.flatten.length) = row.take n ++ r.flatten
  | [], i, n, row, h, hi, _ => by
    have := Afa h hi
    subst this
    rw [Dza]
    simp (disch := omega) only [Cja, PP, List.flatten_nil, Nat.add_zero, List.append_nil]
    exact ⟨row, rfl, rfl, rfl⟩
  | t :: r, i, n, row, h, hi, hn => by
    obtain ⟨h1, h2, h3, h4⟩ := Aba h
    simp only [List.flatten_cons, List.length_append] at hn
    have ho := Uxa row n t (by omega)
    rw [Dza]
    simp (disch := omega) only [Cja, PP, h2, ho]
    obtain ⟨row', e, e1, e2⟩ := Rxa l0 ts hb r (i + 1) (n + t.length) (hYb row n t) h3 (by omega) (by omega)
    refine ⟨row', ?_, by rw [e1, ho], ?_⟩
    · rw [e]; simp only [List.flatten_cons, List.length_append, Nat.add_assoc]
    · have e3 : (hYb row n t).take (n + t.length) = row.take n ++ t := by
        have : (row.take n ++ t).length = n + t.length := by rw [List.length_append, List.length_take]; omega
        rw [hYb, ← this]; exact List.take_left
      rw [e3] at e2
      simp only [List.flatten_cons, List.length_append]
      rw [← Nat.add_assoc, e2, List.append_assoc]
theorem Pba (l0 : List Str) (ts : List (List Str)) (hb : ts.length < 4611686018427387903) : ∀ (r : List (List Str)) (i : Nat), ts.drop i = r → i ≤ ts.length → r.flatten = [] →
    Ara (l0, [], ts, (ts.length : Int), (i : Int), ()) = some (l0, [], ts, (ts.length : Int), (ts.length : Int), ())
  | [], i, h, hi, _ => by
    have := Afa h hi
    subst this
    rw [Dka]
    simp (disch := omega) only [Cba, PP]
  | t :: r, i, h, hi, hn => by
    obtain ⟨h1, h2, h3, h4⟩ := Aba h
    have hM := Aia
    simp only [List.flatten_cons, List.append_eq_nil_iff] at hn
    obtain ⟨rfl, hn⟩ := hn
    rw [Dka]
    simp (disch := omega) only [Cba, PP, h2, List.append_nil]
    exact Pba l0 ts hb r (i + 1) h3 (by omega) hn
theorem Iob (ts : List (List Str)) (hb : ts.length < 1000000000) (hn : ts.flatten.length ≤ 1000000000000) : Cna (ts, ()) = some (ts.flatten, ()) := by
  have hM := Aia
  have e := Tua ts ts (by omega) ts 0 0 rfl (by omega) (by omega)
  simp only [Int.natCast_zero, Nat.zero_add] at e
  rw [Nma]
  have hw0 : IntKind.wrap .i64 ((0 : Int) - ((0 : Nat) : Int)) = 0 := by rw [Aua (by omega) (by omega)]; rfl
  have hw0' : IntKind.wrap .i64 ((0 : Int) - 0) = 0 := by rw [Aua (by omega) (by omega)]; rfl
  have hw : IntKind.wrap .i64 (((ts.flatten.length : Nat) : Int) - 0) = ((ts.flatten.length : Nat) : Int) := by rw [Aua (by omega) (by omega)]; omega
  by_cases h0 : ts.flatten.length = 0
  · have hf : ts.flatten = [] := List.eq_nil_of_length_eq_zero h0
    have e2 := Pba [] ts (by omega) ts 0 rfl (by omega) hf
    simp only [Int.natCast_zero] at e2
    simp (disch := omega) only [Dsa, e, PP, hw0, hw, e2]
    rw [hf]
  · obtain ⟨row', e2, e3, e4⟩ := Rxa [] ts (by omega) ts 0 0 (List.replicate ts.flatten.length ByteArray.empty) rfl (by omega) (by simp)
    simp only [Int.natCast_zero, Nat.zero_add, List.take_zero, List.nil_append] at e2 e4
    simp only [List.length_replicate] at e3
    simp (disch := omega) only [Dsa, e, PP, hw0, hw0', hw, List.length_replicate, Nat.sub_zero, Int.natCast_zero, Int.toNat_zero, Nat.add_zero, e2, List.drop_zero, e4]
theorem Eza (m : List Str) : ∀ (r : List Str) (l : List Str) (i : Nat), l.drop i = r → i ≤ l.length → l.length = m.length → l.length < 4611686018427387903 →
    ∃ y, Bfa (l, m, (l.length : Int), (i : Int), ()) = some y ∧ (match y with
      | .inl _ => l.drop i ≠ m.drop i
      | .inr _ => l.drop i = m.drop i)
  | [], l, i, h, hi, hl, hb => by
    have := Afa h hi
    subst this
    rw [Eya]
    simp (disch := omega) only [Bra, PP]
    exact ⟨_, rfl, by simp [hl]⟩
  | a :: r, l, i, h, hi, hl, hb => by
    obtain ⟨h1, h2, h3, h4⟩ := Aba h
    obtain ⟨b, s, hm⟩ : ∃ b s, m.drop i = b :: s := ⟨_, _, List.drop_eq_getElem_cons (by omega)⟩
    obtain ⟨m1, m2, m3, m4⟩ := Aba hm
    rw [Eya]
    by_cases hab : a = b
    · subst hab
      simp (disch := omega) only [Bra, PP, h2, m2, decide_true, Bool.not_true]
      obtain ⟨y, e, p⟩ := Eza m r l (i + 1) h3 (by omega) hl hb
      refine ⟨y, e, ?_⟩
      rw [h, hm]
      rw [h3, m3] at p
      cases y with
      | inl z => simpa using p
      | inr z => simpa using p
    · simp (disch := first | omega | assumption) only [Bra, PP, h2, m2]
      refine ⟨_, rfl, ?_⟩
      rw [h, hm]
      simp [hab]
theorem Noa (l m : List Str) (hb : l.length < 4611686018427387903) : Coa (l, m, ()) = some (decide (l = m), ()) := by
  rw [Nna]
  by_cases hl : l.length = m.length
  · obtain ⟨y, e, p⟩ := Eza m l l 0 rfl (by omega) hl hb
    simp only [Int.natCast_zero] at e
    have hbn : ((l.length : Int) != (m.length : Int)) = false := by simp [hl]
    simp only [List.drop_zero] at p
    cases y with
    | inl z => simp only at p; simp only [Cca, hbn, e, PP, p, decide_false]
    | inr z => simp only at p; subst p; simp only [Cca, hbn, e, PP, decide_true]
  · have hbn : ((l.length : Int) != (m.length : Int)) = true := by simp; omega
    have : ¬ l = m := fun e => hl (by rw [e])
    simp only [Cca, hbn, PP, this, decide_false]
theorem Cza (p : Bqa) : ((p.1, p.2.1, p.2.2.1, (p.2.2.2.1.1, p.2.2.2.1.2.1, p.2.2.2.1.2.2.1, ()), ()) : Bqa) = p := rfl
theorem Uka (h : Pca) : ((h.1, h.2.1, h.2.2.1, ()) : Pca) = h := rfl
def Olb (h : Pca) : Pca := (h.1, h.2.2.1, h.2.1, ())
def Ahb (p : Bqa) : Bqa :=
  if p.1 = 0 then (1, p.2.1, p.2.2.1, p.2.2.2.1, ()) else if p.1 = 1 then (0, p.2.1, p.2.2.1, p.2.2.2.1, ()) else if p.1 = 2 then (p.1, p.2.2.1, p.2.1, p.2.2.2.1, ()) else (p.1, p.2.1, p.2.2.1, Olb p.2.2.2.1, ())
theorem Jgb (p : Bqa) : Ahb (Ahb p) = p := by
  obtain ⟨k, n, t, h, u⟩ := p
  unfold Ahb
  by_cases h0 : k = 0
  · subst h0; simp
  · by_cases h1 : k = 1
    · subst h1; simp
    · by_cases h2 : k = 2
      · subst h2; simp
      · simp [h0, h1, h2, Olb]
def Oob (h : Pca) : Prop := h.2.1.length ≤ 1000000000000 ∧ h.2.2.1.length ≤ 1000000000000
theorem Fkb (h : Pca) (hb : Oob h) : Uja (h, ()) = some (Olb h, ()) := by
  have hM := Aia
  obtain ⟨h1, h2⟩ := hb
  rw [Fjb]
  simp (disch := omega) only [Bjb, Aja, Ada]
  rfl
abbrev Ipb (p : Bqa) : Prop := Oob p.2.2.2.1
theorem Gcb (p : Bqa) (hb : Ipb p) : Vba (p, ()) = some (Ahb p, ()) := by
  obtain ⟨k, n, t, h, u⟩ := p
  rw [Gbb]
  unfold Ahb
  by_cases h0 : k = 0
  · simp only [Lsa, Bwa, h0, decide_true, Aca, if_true]
  · by_cases h1 : k = 1
    · subst h1
      simp only [Lsa, Bwa, decide_true, Aca, if_true]
      rfl
    · by_cases h2 : k = 2
      · subst h2
        simp only [Lsa, Bwa, decide_true, Aca, if_true]
        rfl
      · simp only [Lsa, Bwa, h0, h1, h2, decide_true, decide_false, Aca, Aea, if_true, if_false, Uka, Fkb h hb, Aaa]
def Voa (l : List Bqa) : List Bqa := l.reverse.map Ahb
theorem Jfb (l : List Bqa) : Voa (Voa l) = l := by
  simp only [Voa, ← List.map_reverse, List.reverse_reverse, List.map_map]
  have : Ahb ∘ Ahb = id := funext Jgb
  rw [this, List.map_id]
theorem Nyb {α : Type} (l : List α) (k : Nat) (h : k < l.length) : ∃ x, (∀ d, l.getD k d = x) ∧ l.take (k + 1) = l.take k ++ [x] ∧ x ∈ l := by
  refine ⟨l[k], fun d => by rw [List.getD_eq_getElem?_getD, List.getElem?_eq_getElem h]; rfl, ?_, List.getElem_mem h⟩
  rw [List.take_add_one, List.getElem?_eq_getElem h]; rfl
theorem Pqa (l : List Bqa) (hl : l.length ≤ 1000000000) (hb : ∀ p ∈ l, Ipb p) : ∀ (k : Nat) (acc : List Bqa), k ≤ l.length → acc.length + k ≤ 1000000000 →
    Aqa (acc, l, (k : Int) - 1, ()) = some (acc ++ Voa (l.take k), l, -1, ())
  | 0, acc, hk, ha => by
    rw [Dja]
    simp (disch := omega) only [Caa, PP, List.take_zero, Voa, List.reverse_nil, List.map_nil, List.append_nil]
    rfl
  | k + 1, acc, hk, ha => by
    have hM := Aia
    have e0 : (((k + 1 : Nat) : Int) - 1) = (k : Int) := by omega
    have hw : IntKind.wrap .i64 ((k : Int) - 1) = (k : Int) - 1 := Aua (by omega) (by omega)
    obtain ⟨x, hx', ht, hmem⟩ := Nyb l k (by omega)
    have ih := Pqa l hl hb k (acc ++ [Ahb x]) (by omega) (by simp; omega)
    have hT := Gcb x (hb x hmem)
    rw [Dja, e0]
    simp (disch := omega) only [Caa, PP, hw, hx', Cza, hT]
    refine Eq.trans ih ?_
    rw [ht, Voa, Voa, List.reverse_append, List.map_append, List.append_assoc]; rfl
theorem Wpa (l : List Bqa) (hl : l.length ≤ 1000000000) (hb : ∀ p ∈ l, Ipb p) : Ppa (l, ()) = some (Voa l, ()) := by
  have e := Pqa l hl hb l.length [] (Nat.le_refl _) (by simp; omega)
  rw [List.take_length, List.nil_append] at e
  have hw : IntKind.wrap .i64 ((l.length : Int) - 1) = (l.length : Int) - 1 := Aua (by omega) (by omega)
  rw [Fhb]
  simp (disch := omega) only [Bib, PP, hw, e]
def Xoa (h : Pca) : Bool := (decide (0 ≤ h.1) && decide (h.1 ≤ 1048576)) && (Xka h.2.1 && Xka h.2.2.1)
def Amb (p : Bqa) : Bool := decide (p.2.2.2.1.1 = 0) && decide (p.2.2.2.1.2.1.length + p.2.2.2.1.2.2.1.length = 0)
def Cva (p : Bqa) : Bool := Foa p.2.1 && decide (p.2.2.1 = ByteArray.empty)
def Fna (p : Bqa) : Bool :=
  if p.1 = 0 ∨ p.1 = 1 then Cva p && Amb p
  else if p.1 = 2 then (Foa p.2.1 && Foa p.2.2.1) && (decide (p.2.1 ≠ p.2.2.1) && Amb p)
  else if p.1 = 3 then Cva p && Xoa p.2.2.2.1
  else if p.1 = 4 then (Cva p && Xoa p.2.2.2.1) && decide (p.2.2.2.1.1 = 0)
  else false
structure Lba (p : Bqa) : Prop where
  n : p.2.1.size < 4611686018427387903
  t : p.2.2.1.size < 4611686018427387903
  o : p.2.2.2.1.2.1.length ≤ 1000000000000
  w : p.2.2.2.1.2.2.1.length ≤ 1000000000000
theorem Lba.s {p : Bqa} (h : Lba p) : Akb p := ⟨by have := h.o; omega, by have := h.w; omega⟩
theorem Lba.b {p : Bqa} (h : Lba p) : Ipb p := ⟨h.o, h.w⟩
theorem Zoa (h : Pca) : Uha (h, ()) = some (Xoa h, ()) := by
  rw [Gub]
  by_cases h0 : 0 ≤ h.1
  · by_cases h1 : h.1 ≤ 1048576
    · cases h2 : Xka h.2.1 with
      | true =>
        simp (disch := omega) only [Pda, Ada, Ila, Aaa, Aca, h2, Xoa, h0, h1, decide_true, Bool.true_and]
      | false =>
        simp (disch := omega) only [Pda, Ada, Ila, Aaa, Aea, h2, Xoa, Bool.false_and, Bool.and_false]
    · simp (disch := omega) only [Pda, Ada, Aga, Aea, Xoa, h1, decide_false, Bool.and_false, Bool.false_and]
  · simp (disch := omega) only [Pda, Ada, Aga, Aea, Xoa, h0, decide_false, Bool.false_and]
theorem Ggb (p : Bqa) (h : Lba p) : Cea (p, ()) = some (Cva p, ()) := by
  rw [Qqa]
  have := h.n
  cases hn : Foa p.2.1 with
  | true => simp (disch := omega) only [Gca, Cia, Aaa, hn, Aca, Vra, Cva, Bool.true_and]
  | false => simp (disch := omega) only [Gca, Cia, Aaa, hn, Aea, Vra, Cva, Bool.false_and]
theorem Jyb (p : Bqa) (h : Lba p) : Dda (p, ()) = some (Amb p, ()) := by
  rw [Tpa]
  have h1 := h.o
  have h2 := h.w
  have hw : IntKind.wrap .i64 ((p.2.2.2.1.2.1.length : Int) + (p.2.2.2.1.2.2.1.length : Int)) = ((p.2.2.2.1.2.1.length + p.2.2.2.1.2.2.1.length : Nat) : Int) := by rw [Aua (by omega) (by omega)]; omega
  have hd : decide (((p.2.2.2.1.2.1.length + p.2.2.2.1.2.2.1.length : Nat) : Int) = 0) = decide (p.2.2.2.1.2.1.length + p.2.2.2.1.2.2.1.length = 0) := decide_eq_decide.2 (by omega)
  by_cases h0 : p.2.2.2.1.1 = 0
  · simp only [Ida, Bwa, h0, decide_true, Aca, hw, hd, Amb, Bool.true_and]
  · simp only [Ida, Bwa, h0, decide_false, Aea, Amb, Bool.false_and]
theorem Ixb (p : Bqa) (h : Lba p) : Bya (p, ()) = some (Cva p && Amb p, ()) := by
  rw [Ova]
  have e1 := Ggb p h
  have e2 := Jyb p h
  unfold Jka
  rw [Cza, e1, e2]
  cases Cva p <;> rfl
theorem Zua (p : Bqa) (h : Lba p) : Bta (p, ()) = some (Cva p && Xoa p.2.2.2.1, ()) := by
  rw [Nfa]
  have e1 := Ggb p h
  have e2 := Zoa p.2.2.2.1
  unfold Iva
  rw [Cza, Uka, e1, e2]
  cases Cva p <;> rfl
theorem Kvb (p : Bqa) (h : Lba p) : Dia (p, ()) = some ((Cva p && Xoa p.2.2.2.1) && decide (p.2.2.2.1.1 = 0), ()) := by
  rw [Qpa]
  have e1 := Zua p h
  unfold Kba
  rw [Cza, e1]
  simp only [Bwa]
  cases (Cva p && Xoa p.2.2.2.1) <;> rfl
theorem Iyb (p : Bqa) (h : Lba p) : Cya (p, ()) = some ((Foa p.2.1 && Foa p.2.2.1) && (decide (p.2.1 ≠ p.2.2.1) && Amb p), ()) := by
  rw [Owa]
  have h1 := h.n
  have h2 := h.t
  have e2 := Jyb p h
  unfold Jla
  rw [Cza, Cia _ (by omega), Cia _ (by omega), e2, Vra]
  by_cases hd : p.2.1 = p.2.2.1
  · cases Foa p.2.1 <;> cases Foa p.2.2.1 <;> simp [Aaa, jKa, hd]
  · cases Foa p.2.1 <;> cases Foa p.2.2.1 <;> simp [Aaa, jKa, hd]
theorem Aeb (p : Bqa) (h : Lba p) : Vaa (p, ()) = some (Fna p, ()) := by
  rw [Hdb]
  unfold Elb
  simp only [Cza, Ixb p h, Iyb p h, Zua p h, Kvb p h, Aaa]
  unfold Fna
  by_cases k0 : p.1 = 0
  · simp (disch := omega) only [Ada, k0, true_or, if_true]
  · by_cases k1 : p.1 = 1
    · simp (disch := omega) only [Ada, Aga, k1, or_true, if_true]
    · by_cases k2 : p.1 = 2
      · rw [if_neg (by omega), if_pos k2]
        simp (disch := omega) only [Ada, Aga]
      · by_cases k3 : p.1 = 3
        · rw [if_neg (by omega), if_neg k2, if_pos k3]
          simp (disch := omega) only [Ada, Aga]
        · by_cases k4 : p.1 = 4
          · rw [if_neg (by omega), if_neg k2, if_neg k3, if_pos k4]
            simp (disch := omega) only [Ada, Aga]
          · rw [if_neg (by omega), if_neg k2, if_neg k3, if_neg k4]
            by_cases kn : 0 ≤ p.1
            · simp (disch := omega) only [Ada, Aga]
            · simp (disch := omega) only [Ada, Aga]
def isAt (l : List Str) (at0 : Int) (old : List Str) : Bool := decide (0 ≤ at0) && decide ((l.drop at0.toNat).take old.length = old) && decide (at0 ≤ l.length)
def Oza (l : List Str) (h : Pca) : List Str := l.take h.1.toNat ++ (h.2.2.1 ++ l.drop (h.1.toNat + h.2.1.length))
theorem Bfb (l : List Str) (at0 : Int) (old : List Str) (h1 : l.length ≤ 1000000000000) (h2 : at0 ≤ 1048576) (h3 : old.length < 1000000000000000000) : Nka (l, at0, old, ()) = some (isAt l at0 old, ()) := by
  rw [Beb]
  unfold isAt
  by_cases c1 : 0 ≤ at0
  · by_cases c2 : at0 ≤ l.length
    · have hw1 : IntKind.wrap .i64 ((l.length : Int) - at0) = (l.length : Int) - at0 := Aua (by omega) (by omega)
      have hw2 : IntKind.wrap .i64 (at0 + (old.length : Int)) = at0 + (old.length : Int) := Aua (by omega) (by omega)
      by_cases c3 : (old.length : Int) ≤ (l.length : Int) - at0
      · have e : (at0 + (old.length : Int)).toNat - at0.toNat = old.length := by omega
        have hb : ((l.drop at0.toNat).take old.length).length < 4611686018427387903 := by rw [List.length_take]; omega
        simp (disch := omega) only [Iwa, Aja, Ada, hw1, hw2, Aaa, e, Noa _ _ hb]
        simp [c1, c2]
      · have hne : ¬ ((l.drop at0.toNat).take old.length = old) := fun he => by
          have := congrArg List.length he
          rw [List.length_take, List.length_drop] at this
          omega
        simp (disch := omega) only [Iwa, Aja, Ada, Aga, hw1]
        simp [hne]
    · simp (disch := omega) only [Iwa, Aja, Ada, Aga]
      simp [c2]
  · simp (disch := omega) only [Iwa, Aja, Ada, Aga]
    simp [c1]
theorem Geb (l : List Str) (at0 : Int) (old : List Str) (h1 : l.length ≤ 1000000000000) (h2 : at0 ≤ 1048576) (h3 : old.length < 1000000000000000000) : Imb (l, at0, old, ()) = some (isAt l at0 old, ()) := by
  rw [Lhb]
  simp only [Jtb, Bfb l at0 old h1 h2 h3, Aaa]
theorem Hkb (l : List Str) (h : Pca) (h1 : l.length ≤ 100000000000) (h2 : h.1 ≤ 1048576) (h3 : h.2.1.length < 1000000000000000000) (h4 : h.2.2.1.length ≤ 100000000000) :
    Xsa (l, h.1, h.2.1, h.2.2.1, ()) = some (if isAt l h.1 h.2.1 = true then Oza l h else [], isAt l h.1 h.2.1, ()) := by
  rw [Hjb]
  cases hc : isAt l h.1 h.2.1 with
  | false =>
    simp (disch := omega) only [Yea, Geb l h.1 h.2.1 (by omega) h2 h3, Aaa, hc, Ama, Aea, Bool.false_eq_true, if_false]
  | true =>
    have hc' := hc
    simp only [isAt, Bool.and_eq_true, decide_eq_true_eq] at hc'
    obtain ⟨⟨c1, c2⟩, c3⟩ := hc'
    have hl : h.1 + h.2.1.length ≤ l.length := by
      have := congrArg List.length c2
      rw [List.length_take, List.length_drop] at this
      omega
    have hw : IntKind.wrap .i64 (h.1 + (h.2.1.length : Int)) = h.1 + (h.2.1.length : Int) := Aua (by omega) (by omega)
    have hn : (h.1 + (h.2.1.length : Int)).toNat = h.1.toNat + h.2.1.length := by omega
    have ht : (l.drop (h.1.toNat + h.2.1.length)).take (l.length - (h.1.toNat + h.2.1.length)) = l.drop (h.1.toNat + h.2.1.length) := List.take_of_length_le (by rw [List.length_drop]; omega)
    have eC := Iob [l.take h.1.toNat, h.2.2.1, l.drop (h.1.toNat + h.2.1.length)] (by simp) (by simp; omega)
    simp (disch := omega) only [Yea, Geb l h.1 h.2.1 (by omega) h2 h3, Aaa, hc, Ama, Aca, Aja, Ada, if_true, hw, hn, ht, Nat.sub_zero, List.drop_zero, eC]
    simp [Oza]
theorem Vva {h : Pca} (hm : Xoa h = true) : 0 ≤ h.1 ∧ h.1 ≤ 1048576 ∧ h.2.1.length ≤ 200 ∧ h.2.2.1.length ≤ 200 := by
  simp only [Xoa, Xka, Bool.and_eq_true, decide_eq_true_eq] at hm
  exact ⟨hm.1.1, hm.1.2, hm.2.1.1, hm.2.2.1⟩
theorem Dfb (l : List Str) (h : Pca) (h1 : l.length ≤ 100000000000) : Rfa (l, h, ()) = some (if Xoa h = true ∧ isAt l h.1 h.2.1 = true then Oza l h else [], if Xoa h = true then (if isAt l h.1 h.2.1 = true then 0 else 5) else 1, ()) := by
  rw [Deb]
  unfold Xya
  rw [Uka, Zoa]
  cases hm : Xoa h with
  | false => simp only [Aaa, Ama, Aea]; simp
  | true =>
    obtain ⟨a1, a2, a3, a4⟩ := Vva hm
    have eS := Hkb l h h1 a2 (by omega) (by omega)
    rw [eS]
    cases hc : isAt l h.1 h.2.1 with
    | false => simp only [Aaa, Ama, Aea, Aca]; simp
    | true => simp only [Aaa, Ama, Aea, Aca]; simp
def doP (t : Aha) (p : Bqa) : Option Aha :=
  if p.1 = 0 then (if (Ava t p.2.1).isSome then none else some (Oxa t p.2.1 []))
  else if p.1 = 1 then (if Ava t p.2.1 = some [] then some (Zia t p.2.1) else none)
  else if p.1 = 2 then (if (Ava t p.2.1).isSome = true ∧ (Ava t p.2.2.1).isSome = false then some (Oxa (Zia t p.2.1) p.2.2.1 ((Ava t p.2.1).getD [])) else none)
  else if p.1 = 3 then (if (Ava t p.2.1).isSome = true ∧ isAt ((Ava t p.2.1).getD []) p.2.2.2.1.1 p.2.2.2.1.2.1 = true then some (Oxa t p.2.1 (Oza ((Ava t p.2.1).getD []) p.2.2.2.1)) else none)
  else (if Ava t p.2.1 = some p.2.2.2.1.2.1 then some (Oxa t p.2.1 p.2.2.2.1.2.2.1) else none)
def Hza (t : Aha) (p : Bqa) : Aha × Int := if Fna p = true then (match doP t p with
  | some u => (u, 0)
  | none => ([], 5)) else ([], 1)
def Fit (n m : Nat) (t : Aha) : Prop := t.length ≤ n ∧ ∀ f ∈ t, f.2.1.length ≤ m
theorem Fit.wee {n m : Nat} {t : Aha} (h : Fit n m t) (hn : n ≤ 1000000000) (hm : m ≤ 1000000000) : Wee t := ⟨Nat.le_trans h.1 hn, fun f hf => Nat.le_trans (h.2 f hf) hm⟩
theorem Fit.get {n m : Nat} {t : Aha} (h : Fit n m t) (s : Str) : ((Ava t s).getD []).length ≤ m := by
  rw [Zla]
  split
  · rename_i hlt
    simp only [Option.getD_some]
    exact h.2 (t.getD (at_ t s) (ByteArray.empty, [], ())) (by rw [List.getD_eq_getElem?_getD, List.getElem?_eq_getElem hlt]; exact List.getElem_mem _)
  · simp
theorem Fit.put {n m : Nat} {t : Aha} (h : Fit n m t) (s : Str) {l : List Str} (hl : l.length ≤ m) : Fit (n + 1) m (Oxa t s l) := by
  refine ⟨Nat.le_trans (Oeb t s l) (by have := h.1; omega), fun f hf => ?_⟩
  rcases Heb hf with rfl | hf
  · exact hl
  · exact h.2 f hf
theorem Fit.del {n m : Nat} {t : Aha} (h : Fit n m t) (s : Str) : Fit n m (Zia t s) := ⟨Nat.le_trans (Nsb t s) h.1, fun f hf => h.2 f (Kcb hf)⟩
theorem Fit.mono {n m n' m' : Nat} {t : Aha} (h : Fit n m t) (hn : n ≤ n') (hm : m ≤ m') : Fit n' m' t := ⟨Nat.le_trans h.1 hn, fun f hf => Nat.le_trans (h.2 f hf) hm⟩
theorem Gjb (l : List Str) (h : Pca) : (Oza l h).length ≤ l.length + h.2.2.1.length := by
  simp only [Oza, List.length_append, List.length_take, List.length_drop]; omega
theorem Jva {p : Bqa} (h : Fna p = true) (h3 : p.1 = 3 ∨ p.1 = 4) : Xoa p.2.2.2.1 = true := by
  unfold Fna at h
  rw [if_neg (by omega), if_neg (by omega)] at h
  split at h
  · simp only [Bool.and_eq_true] at h; exact h.2
  · split at h
    · simp only [Bool.and_eq_true] at h; exact h.1.2
    · cases h
theorem Vwa {p : Bqa} (h : Fna p = true) : 0 ≤ p.1 ∧ p.1 < 5 := by
  unfold Fna at h
  split at h
  · omega
  · split at h
    · omega
    · split at h
      · omega
      · split at h
        · omega
        · cases h
theorem Nub {n m : Nat} {t u : Aha} {p : Bqa} (h : Fit n m t) (hm : Fna p = true) (hd : doP t p = some u) : Fit (n + 1) (m + 200) u := by
  unfold doP at hd
  split at hd
  · split at hd
    · cases hd
    · cases hd; exact (h.mono (Nat.le_refl _) (by omega)).put _ (by simp)
  · split at hd
    · split at hd
      · cases hd; exact (h.del _).mono (by omega) (by omega)
      · cases hd
    · split at hd
      · split at hd
        · cases hd; exact ((h.del _).mono (Nat.le_refl _) (by omega)).put _ (by have := h.get p.2.1; omega)
        · cases hd
      · split at hd
        · rename_i h3
          have hh := Vva (Jva hm (.inl h3))
          split at hd
          · cases hd; exact (h.mono (Nat.le_refl _) (by omega)).put _ (by have := Gjb ((Ava t p.2.1).getD []) p.2.2.2.1; have := h.get p.2.1; omega)
          · cases hd
        · rename_i h0 h1 h2 h3
          have hk := Vwa hm
          have hh := Vva (Jva hm (.inr (by omega)))
          split at hd
          · cases hd; exact (h.mono (Nat.le_refl _) (by omega)).put _ (by omega)
          · cases hd
def Ajb (o : Option Aha) : Aha × Int := match o with
  | some u => (u, 0)
  | none => ([], 5)
theorem Skb {t : Aha} {p : Bqa} (h : p.1 = 0) : doP t p = if (Ava t p.2.1).isSome then none else some (Oxa t p.2.1 []) := by unfold doP; rw [if_pos h]
theorem Slb {t : Aha} {p : Bqa} (h : p.1 = 1) : doP t p = if Ava t p.2.1 = some [] then some (Zia t p.2.1) else none := by unfold doP; rw [if_neg (by omega), if_pos h]
theorem Unb {t : Aha} {p : Bqa} (h : p.1 = 2) : doP t p = if (Ava t p.2.1).isSome = true ∧ (Ava t p.2.2.1).isSome = false then some (Oxa (Zia t p.2.1) p.2.2.1 ((Ava t p.2.1).getD [])) else none := by unfold doP; rw [if_neg (by omega), if_neg (by omega), if_pos h]
theorem Smb {t : Aha} {p : Bqa} (h : p.1 = 3) : doP t p = if (Ava t p.2.1).isSome = true ∧ isAt ((Ava t p.2.1).getD []) p.2.2.2.1.1 p.2.2.2.1.2.1 = true then some (Oxa t p.2.1 (Oza ((Ava t p.2.1).getD []) p.2.2.2.1)) else none := by unfold doP; rw [if_neg (by omega), if_neg (by omega), if_neg (by omega), if_pos h]
theorem Uob {t : Aha} {p : Bqa} (h : 4 ≤ p.1) : doP t p = if Ava t p.2.1 = some p.2.2.2.1.2.1 then some (Oxa t p.2.1 p.2.2.2.1.2.2.1) else none := by unfold doP; rw [if_neg (by omega), if_neg (by omega), if_neg (by omega), if_neg (by omega)]
theorem Seb (t : Aha) (p : Bqa) (hw : Wee t) (k0 : p.1 = 0) : Hma (p, t, ()) = some ((Ajb (doP t p)).1, (Ajb (doP t p)).2, ()) := by
  rw [Vca, Skb k0]
  simp only [Nta, Ega t p.2.1 hw, Aaa, Nqa t p.2.1 [] hw (by simp)]
  cases (Ava t p.2.1).isSome <;> rfl
theorem Upb (t : Aha) (p : Bqa) (hw : Wee t) (k1 : p.1 = 1) : Ita (p, t, ()) = some ((Ajb (doP t p)).1, (Ajb (doP t p)).2, ()) := by
  rw [Vya, Slb k1]
  simp only [Pfa, Ega t p.2.1 hw, Aaa, Tta t p.2.1 hw]
  cases hg : Ava t p.2.1 with
  | none => simp [jKa, Ajb]
  | some l =>
    cases l with
    | nil => simp [jKa, Ajb]
    | cons x l =>
      have h1 : ((((x :: l).length : Nat) : Int)) > 0 := by simp only [List.length_cons]; omega
      simp only [Option.getD_some, Option.isSome_some, Ama, Aca]
      rw [Ada h1]
      simp [Ajb]
theorem Oab (t : Aha) (p : Bqa) (hw : Wee t) (hl : ((Ava t p.2.1).getD []).length ≤ 1000000000) (k2 : p.1 = 2) : Fza (p, t, ()) = some ((Ajb (doP t p)).1, (Ajb (doP t p)).2, ()) := by
  rw [Tqa, Unb k2]
  simp only [Lta, Ega t p.2.1 hw, Ega t p.2.2.1 hw, Aaa, Tta t p.2.1 hw, Nqa (Zia t p.2.1) p.2.2.1 ((Ava t p.2.1).getD []) (hw.del _) hl]
  cases (Ava t p.2.1).isSome <;> cases (Ava t p.2.2.1).isSome <;> simp [jKa, Ajb]
theorem Mlb (t : Aha) (p : Bqa) (hw : Wee t) (hl : ((Ava t p.2.1).getD []).length ≤ 100000000) (k3 : p.1 = 3) (hm : Xoa p.2.2.2.1 = true) : Eka (p, t, ()) = some ((Ajb (doP t p)).1, (Ajb (doP t p)).2, ()) := by
  have hs := Gjb ((Ava t p.2.1).getD []) p.2.2.2.1
  have ha := Vva hm
  have eH := Dfb ((Ava t p.2.1).getD []) p.2.2.2.1 (by omega)
  have eP := Nqa t p.2.1 (Oza ((Ava t p.2.1).getD []) p.2.2.2.1) hw (by omega)
  rw [Rva, Smb k3]
  simp only [Lia, Uka, Ega t p.2.1 hw, Aaa, eH, hm, true_and, if_true]
  cases hg : (Ava t p.2.1).isSome with
  | false => simp [jKa, Ajb]
  | true =>
    cases hc : isAt ((Ava t p.2.1).getD []) p.2.2.2.1.1 p.2.2.2.1.2.1 with
    | false => simp [jKa, Ajb]
    | true => simp [jKa, Ajb, Aaa, eP]
theorem Sqb (t : Aha) (p : Bqa) (hw : Wee t) (hl : ((Ava t p.2.1).getD []).length ≤ 100000000) (k4 : 4 ≤ p.1) (hm : p.2.2.2.1.2.2.1.length ≤ 1000000000) : Hna (p, t, ()) = some ((Ajb (doP t p)).1, (Ajb (doP t p)).2, ()) := by
  rw [Vda, Uob k4]
  simp only [Nua, Ega t p.2.1 hw, Aaa, Dha ((Ava t p.2.1).getD []) p.2.2.2.1.2.1 (by omega), Nqa t p.2.1 p.2.2.2.1.2.2.1 hw hm]
  cases hg : Ava t p.2.1 with
  | none => simp [jKa, Ajb]
  | some l =>
    by_cases he : l = p.2.2.2.1.2.1
    · subst he; simp [jKa, Ajb, Aaa]
    · simp [jKa, Ajb, he]
theorem Nwb {α : Type} (t : Ty) (u : t.den) (x y : Option α) : jKa (eqT t u u) x y = x := by rw [Rca]; rfl
theorem Bwb {t : Aha} {p : Bqa} (h : Fna p = true) : Hza t p = Ajb (doP t p) := by
  unfold Hza Ajb
  rw [if_pos h]
theorem Dmb (t : Aha) (p : Bqa) (ht : Fit 1000000 100000000 t) (hp : Lba p) : Rha (t, p, ()) = some ((Hza t p).1, (Hza t p).2, ()) := by
  have hw := ht.wee (by omega) (by omega)
  have g := ht.get p.2.1
  rw [Dlb]
  unfold Yba
  simp only [Cza, Aeb p hp, Aaa, Nwb, Aja]
  cases hm : Fna p with
  | false => simp [jKa, Hza, hm]
  | true =>
    have hk := Vwa hm
    rw [Bwb hm]
    simp only [Ama, Aca]
    by_cases k0 : p.1 = 0
    · rw [Ada (by omega), Seb t p hw k0]; rfl
    · by_cases k1 : p.1 = 1
      · rw [Aga (by omega), Ada (by omega), Upb t p hw k1]; rfl
      · by_cases k2 : p.1 = 2
        · rw [Aga (by omega), Aga (by omega), Ada (by omega), Oab t p hw (by omega) k2]; rfl
        · by_cases k3 : p.1 = 3
          · rw [Aga (by omega), Aga (by omega), Aga (by omega), Ada (by omega), Mlb t p hw g k3 (Jva hm (.inl k3))]; rfl
          · have ha := Vva (Jva hm (.inr (by omega)))
            rw [Aga (by omega), Aga (by omega), Aga (by omega), Aga (by omega), Ada (by omega), Sqb t p hw g (by omega) (by omega)]; rfl
def Dna : Aha → List Bqa → Aha × Int
  | t, [] => (t, 0)
  | t, p :: l => if (Hza t p).2 = 0 then Dna (Hza t p).1 l else ([], (Hza t p).2)
theorem Jvb {t u : Aha} {p : Bqa} (h : Hza t p = (u, 0)) : Fna p = true ∧ doP t p = some u := by
  unfold Hza at h
  split at h
  · rename_i hm
    split at h
    · rename_i v hv
      have := (Prod.mk.inj h).1
      subst this
      exact ⟨hm, hv⟩
    · have := (Prod.mk.inj h).2
      simp at this
  · have := (Prod.mk.inj h).2
    simp at this
theorem Bvb {n m : Nat} {t : Aha} {p : Bqa} (h : Fit n m t) (h0 : (Hza t p).2 = 0) : Fit (n + 1) (m + 200) (Hza t p).1 := by
  obtain ⟨h1, h2⟩ := Jvb (t := t) (p := p) (u := (Hza t p).1) (by rw [← h0])
  exact Nub h h1 h2
theorem Oea (l : List Bqa) (hl : l.length ≤ 100000) (hp : ∀ p ∈ l, Lba p) : ∀ (r : List Bqa) (i : Nat) (t : Aha), l.drop i = r → i ≤ l.length → Fit (100000 + i) (10000000 + i * 200) t →
    ∃ y, Hca (t, l, (l.length : Int), (i : Int), ()) = some y ∧ (match y with
      | .inl z => Dna t r = ([], z.2.2.2.2.2.2.2.1) ∧ z.2.2.2.2.2.2.2.1 ≠ 0
      | .inr z => Dna t r = (z.1, 0))
  | [], i, t, h, hi, hf => by
    have := Afa h hi
    subst this
    rw [Oda]
    simp (disch := omega) only [Ima, Ada, Aga]
    exact ⟨_, rfl, rfl⟩
  | p :: r, i, t, h, hi, hf => by
    obtain ⟨h1, h2, h3, h4⟩ := Aba h
    have eA := Dmb t p (hf.mono (by omega) (by omega)) (hp p h4)
    rw [Oda]
    by_cases h0 : (Hza t p).2 = 0
    · have hf2 := Bvb hf h0
      obtain ⟨y, e, q⟩ := Oea l hl hp r (i + 1) (Hza t p).1 h3 (by omega) (hf2.mono (by omega) (by omega))
      refine ⟨y, ?_, ?_⟩
      · have hne : ((Hza t p).2 != 0) = false := by simp [h0]
        simp (disch := omega) only [Ima, Ada, Aja, Int.toNat_natCast, h2, Cza, eA, Aaa, hne, Aea, Fxa, Option.bind_some, Sum.elim_inl, e]
      · cases y with
        | inl z => simp only [Dna, if_pos h0]; exact q
        | inr z => simp only [Dna, if_pos h0]; exact q
    · have hne : ((Hza t p).2 != 0) = true := by simp [h0]
      simp (disch := omega) only [Ima, Ada, Aja, Int.toNat_natCast, h2, Cza, eA, Aaa, hne, Aca, Option.bind_some, Sum.elim_inr]
      refine ⟨_, rfl, ?_⟩
      exact ⟨by simp only [Dna, if_neg h0], h0⟩
theorem Cxb (t : Aha) (l : List Bqa) (ht : Fit 100000 10000000 t) (hl : l.length ≤ 100000) (hp : ∀ p ∈ l, Lba p) : Rda (t, l, ()) = some ((Dna t l).1, (Dna t l).2, ()) := by
  obtain ⟨y, e, q⟩ := Oea l hl hp l 0 t rfl (by omega) (ht.mono (by omega) (by omega))
  simp only [Int.natCast_zero] at e
  rw [Cwb]
  cases y with
  | inl z => simp only at q; simp only [Tia, e, Aaa, Gaa, q.1]
  | inr z => simp only at q; simp only [Tia, e, Aaa, Ema, q]
abbrev eS : Str := ByteArray.empty
def AlP (a b : List Str) : List Gqb → Nat → Nat → Prop
  | [], i, j => i < a.length → j < b.length → a.getD i eS ≠ b.getD j eS
  | p :: ps, i, j => ∃ k q : Nat, p = ((k : Int), (q : Int), ()) ∧ i ≤ k ∧ k < a.length ∧ j ≤ q ∧ q < b.length ∧ a.getD k eS = b.getD q eS ∧ (k ≠ i ∨ q ≠ j → a.getD i eS ≠ b.getD j eS) ∧ AlP a b ps (k + 1) (q + 1)
theorem AlP.left {a b : List Str} {ps : List Gqb} {i j : Nat} (h : AlP a b ps (i + 1) j) (hn : a.getD i eS ≠ b.getD j eS) : AlP a b ps i j := by
  cases ps with
  | nil => exact fun _ _ => hn
  | cons p ps =>
    obtain ⟨k, q, h1, h2, h3, h4, h5, h6, _, h8⟩ := h
    exact ⟨k, q, h1, by omega, h3, h4, h5, h6, fun _ => hn, h8⟩
theorem AlP.right {a b : List Str} {ps : List Gqb} {i j : Nat} (h : AlP a b ps i (j + 1)) (hn : a.getD i eS ≠ b.getD j eS) : AlP a b ps i j := by
  cases ps with
  | nil => exact fun _ _ => hn
  | cons p ps =>
    obtain ⟨k, q, h1, h2, h3, h4, h5, h6, _, h8⟩ := h
    exact ⟨k, q, h1, h2, h3, by omega, h5, h6, fun _ => hn, h8⟩
theorem Mkb (a b : List Str) : ∀ (n i j : Nat), (a.length - i) + (b.length - j) ≤ n → AlP a b (Dca (a.drop i) (b.drop j) i j) i j := by
  intro n
  induction n with
  | zero =>
    intro i j h
    rw [List.drop_eq_nil_of_le (by omega), Iha]
    intro h1 h2
    omega
  | succ n ih =>
    intro i j h
    by_cases hi : i < a.length
    · by_cases hj : j < b.length
      · rw [Fwb hi hj]
        split
        · rename_i he
          exact ⟨i, j, rfl, Nat.le_refl _, hi, Nat.le_refl _, hj, he, fun h => by omega, ih (i + 1) (j + 1) (by omega)⟩
        · rename_i he
          split
          · exact (ih (i + 1) j (by omega)).left he
          · exact (ih i (j + 1) (by omega)).right he
      · rw [show b.drop j = [] from List.drop_eq_nil_of_le (by omega), Nda]
        intro h1 h2; omega
    · rw [List.drop_eq_nil_of_le (by omega), Iha]
      intro h1 h2; omega
def Ubb : List Jib → Prop
  | e :: e' :: l => e.1 + e.2.1 < e'.1 ∧ Ubb (e' :: l)
  | _ => True
theorem Ubb.cons {e : Jib} {l : List Jib} (h : Ubb l) (h1 : ∀ e' ∈ l, e.1 + e.2.1 < e'.1) : Ubb (e :: l) := by
  cases l with
  | nil => trivial
  | cons e' l => exact ⟨h1 e' List.mem_cons_self, h⟩
theorem Zwa {a b : Aha} {s : Str} (h : s ∈ Mka a b) : ((Ava a s).isSome || (Ava b s).isSome) = true := by
  have : s ∈ (a ++ b).map (·.1) := by
    rw [← Zxa] at h
    have := (Lza ((a ++ b).map (·.1)) [] List.Pairwise.nil).2 s
    rw [this] at h
    simpa using h
  obtain ⟨f, hf, rfl⟩ := List.mem_map.1 this
  rcases List.mem_append.1 hf with hf | hf
  · rw [Dbb hf]; rfl
  · rw [Dbb hf, Bool.or_true]
theorem Hbb (a b : Aha) : (Mka a b).Nodup := by
  rw [← Zxa]
  have h := (Lza ((a ++ b).map (·.1)) [] List.Pairwise.nil).1
  exact List.Pairwise.imp (fun {x y} hxy => Oia hxy) h
def Zqa : List Str → List Pca → List Str → Prop
  | l, [], m => l = m
  | l, h :: hs, m => isAt l h.1 h.2.1 = true ∧ Zqa (Oza l h) hs m
theorem Gkb {b : List Str} {q : Nat} (h : q < b.length) : b.take (q + 1) = b.take q ++ [b.getD q eS] := by
  rw [List.take_add_one, List.getElem?_eq_getElem h, List.getD_eq_getElem?_getD, List.getElem?_eq_getElem h]; rfl
theorem Kdb (a b : List Str) (i j k q : Nat) (hi : i ≤ k) (hk : k ≤ a.length) (hj : j ≤ q) (hq : q ≤ b.length) :
    isAt (b.take j ++ a.drop i) (j : Int) ((a.drop i).take (k - i)) = true ∧ Oza (b.take j ++ a.drop i) ((j : Int), (a.drop i).take (k - i), (b.drop j).take (q - j), ()) = b.take q ++ a.drop k := by
  have hl : (b.take j).length = j := by rw [List.length_take]; omega
  have hl2 : ((a.drop i).take (k - i)).length = k - i := by rw [List.length_take, List.length_drop]; omega
  constructor
  · simp only [isAt, Bool.and_eq_true, decide_eq_true_eq]
    refine ⟨⟨by omega, ?_⟩, ?_⟩
    · rw [Int.toNat_natCast, List.drop_left' hl, hl2]
    · rw [List.length_append, hl]; omega
  · simp only [Oza, Int.toNat_natCast, hl2]
    have e1 : (b.take j ++ a.drop i).take j = b.take j := by
      rw [List.take_append_of_le_length (by omega), List.take_of_length_le (by omega)]
    have e2 : (b.take j ++ a.drop i).drop (j + (k - i)) = a.drop k := by
      rw [List.drop_append, hl, List.drop_eq_nil_of_le (by omega), List.nil_append, List.drop_drop]
      congr 1; omega
    have e3 : b.take j ++ (b.drop j).take (q - j) = b.take q := by
      have := List.take_append_drop j (b.take q)
      rw [List.take_take, Nat.min_eq_left hj, List.drop_take] at this
      exact this
    rw [e1, e2, ← List.append_assoc, e3]
theorem Ibb (a b : List Str) : ∀ (ps : List Gqb) (i j : Nat), i ≤ a.length → j ≤ b.length → AlP a b ps i j →
    Zqa (b.take j ++ a.drop i) (Kma a (Cua b (ps ++ [((a.length : Int), (b.length : Int), ())]) i j) ((j : Int) - i)) b
  | [], i, j, hi, hj, h => by
    rw [List.nil_append, Cua, Cua, List.append_nil]
    have hE := Kdb a b i j a.length b.length hi (Nat.le_refl _) hj (Nat.le_refl _)
    split
    · rw [Kma, Kma]
      simp only at hE ⊢
      have e1 : ((i : Int) + ((j : Int) - (i : Int))) = (j : Int) := by omega
      have e2 : ((i : Int) + ((a.length : Int) - (i : Int))).toNat - (i : Int).toNat = a.length - i := by omega
      have e3 : (b.length : Int).toNat - (j : Int).toNat = b.length - j := by omega
      rw [e1, e2, e3, Int.toNat_natCast, Int.toNat_natCast]
      refine ⟨hE.1, ?_⟩
      rw [hE.2]
      simp [Zqa]
    · rename_i hc
      simp only at hc
      rw [Kma]
      show b.take j ++ a.drop i = b
      rw [List.take_of_length_le (by omega), List.drop_eq_nil_of_le (by omega), List.append_nil]
  | p :: ps, i, j, hi, hj, h => by
    obtain ⟨k, q, rfl, h2, h3, h4, h5, h6, h7, h8⟩ := h
    have ih := Ibb a b ps (k + 1) (q + 1) (by omega) (by omega) h8
    have hE := Kdb a b i j k q h2 (by omega) h4 (by omega)
    have hsame : b.take q ++ a.drop k = b.take (q + 1) ++ a.drop (k + 1) := by
      rw [Gkb h5, Zja h3, h6, List.append_assoc]; rfl
    simp only [Int.natCast_add, Int.natCast_one] at ih
    rw [List.cons_append, Cua]
    split
    · rw [List.singleton_append, Kma]
      simp only at hE ⊢
      have e1 : ((i : Int) + ((j : Int) - (i : Int))) = (j : Int) := by omega
      have e2 : ((i : Int) + ((k : Int) - (i : Int))).toNat - (i : Int).toNat = k - i := by omega
      have e3 : (q : Int).toNat - (j : Int).toNat = q - j := by omega
      have e4 : ((b.drop j).take (q - j)).length = q - j := by rw [List.length_take, List.length_drop]; omega
      have e5 : ((j : Int) - (i : Int) + ((q - j : Nat) : Int) - ((k : Int) - (i : Int))) = ((q : Int) + 1 - ((k : Int) + 1)) := by omega
      rw [e1, e2, e3, Int.toNat_natCast, Int.toNat_natCast, e4, e5]
      refine ⟨hE.1, ?_⟩
      rw [hE.2, hsame]
      exact ih
    · rename_i hc
      simp only at hc
      have hk : k = i := by omega
      have hq : q = j := by omega
      subst hk; subst hq
      rw [List.nil_append]
      have e5 : ((q : Int) - (k : Int)) = ((q : Int) + 1 - ((k : Int) + 1)) := by omega
      rw [e5, hsame]
      exact ih
theorem Lub (a b : List Str) : Zqa a (Oga a b) b := by
  have hal := Mkb a b _ 0 0 (Nat.le_refl _)
  simp only [List.drop_zero, Int.natCast_zero] at hal
  have := Ibb a b _ 0 0 (by omega) (by omega) hal
  simp only [List.take_zero, List.drop_zero, List.nil_append, Int.natCast_zero, Int.sub_self] at this
  exact this
theorem Hzb {l m : List Str} (h : Xka l = true) (hs : ∀ x ∈ m, x ∈ l) (hl : m.length ≤ l.length) : Xka m = true := by
  simp only [Xka, Bool.and_eq_true, decide_eq_true_eq, List.all_eq_true] at h ⊢
  exact ⟨by omega, fun x hx => h.2 x (hs x hx)⟩
theorem Tma {n m : Nat} {a b : List Str} (hb : b.length = m) : ∀ {ps : List Gqb} {i j : Int} {x : Int}, 0 ≤ i → 0 ≤ j → x = j - i → OkE n m ps i j → ∀ h ∈ Kma a (Cua b ps i j) x, 0 ≤ h.1 ∧ h.1 ≤ m ∧ (∀ s ∈ h.2.1, s ∈ a) ∧ (∀ s ∈ h.2.2.1, s ∈ b) ∧ h.2.2.1.length ≤ b.length ∧ h.2.1.length ≤ a.length
  | [], _, _, _, _, _, _, _, h, hm => by simp [Cua, Kma] at hm
  | p :: ps, i, j, x, hi, hj, hx, ho, h, hm => by
    obtain ⟨o1, o2, o3, o4, o5⟩ := ho
    rw [Cua] at hm
    split at hm
    · rw [List.singleton_append, Kma] at hm
      rcases List.mem_cons.1 hm with rfl | hm
      · refine ⟨by simp only; omega, by simp only; omega, fun s hs => List.mem_of_mem_drop (List.mem_of_mem_take hs), fun s hs => List.mem_of_mem_drop (List.mem_of_mem_take hs), ?_, ?_⟩
        · simp only [List.length_take, List.length_drop]; omega
        · simp only [List.length_take, List.length_drop]; omega
      · refine Tma hb (by omega) (by omega) ?_ o5 h hm
        simp only [List.length_take, List.length_drop]
        omega
    · rename_i hc
      rw [List.nil_append] at hm
      exact Tma hb (by omega) (by omega) (by omega) o5 h hm
theorem Chb {a b : List Str} (ha : Xka a = true) (hb : Xka b = true) {h : Pca} (hm : h ∈ Oga a b) : Xoa h = true := by
  obtain ⟨h1, h2, h3, h4, h5, h6⟩ := Tma (n := a.length) rfl (Int.le_refl 0) (Int.le_refl 0) rfl (Mna a.length b.length a b 0 0 (by omega) (by omega)) h hm
  have hb' := hb
  simp only [Xka, Bool.and_eq_true, decide_eq_true_eq] at hb'
  simp only [Xoa, Bool.and_eq_true, decide_eq_true_eq]
  exact ⟨⟨h1, by omega⟩, Hzb ha h3 h6, Hzb hb h4 h5⟩
theorem Xla {t : Aha} (h : Paa t = true) (s : Str) : Xka ((Ava t s).getD []) = true := by
  cases hg : Ava t s with
  | none => rfl
  | some l => exact ((Una.1 h).1 _ (Dab hg)).2
theorem Xra {t : Aha} (h : Paa t = true) {s : Str} (hs : (Ava t s).isSome = true) : Foa s = true := by
  cases hg : Ava t s with
  | none => rw [hg] at hs; cases hs
  | some l => exact ((Una.1 h).1 _ (Dab hg)).1
theorem Cvb {t u : Aha} {p : Bqa} {l : List Bqa} (hm : Fna p = true) (hd : doP t p = some u) : Dna t (p :: l) = Dna u l := by
  have : Hza t p = (u, 0) := by rw [Bwb hm, hd]; rfl
  simp only [Dna, this, if_true]
theorem Ckb (s : Str) (hs : Foa s = true) : ∀ (hks : List Pca) (t : Aha) (l m : List Str) (rest : List Bqa), (∀ h ∈ hks, Xoa h = true) → RT t → Ava t s = some l → Zqa l hks m →
    ∃ u, Dna t (Hla s hks ++ rest) = Dna u rest ∧ RT u ∧ Ava u s = some m ∧ ∀ x, x ≠ s → Ava u x = Ava t x
  | [], t, l, m, rest, _, hr, hg, ho => ⟨t, rfl, hr, by rw [hg]; exact congrArg some ho, fun _ _ => rfl⟩
  | h :: hks, t, l, m, rest, hm, hr, hg, ho => by
    obtain ⟨o1, o2⟩ := ho
    have hp : Fna (3, s, ByteArray.empty, h, ()) = true := by
      simp [Fna, Cva, hs, hm h List.mem_cons_self]
    have hd : doP t (3, s, ByteArray.empty, h, ()) = some (Oxa t s (Oza l h)) := by
      rw [Smb rfl]
      simp only [hg, Option.isSome_some, Option.getD_some, o1, and_self, if_true]
    have hr2 := Vza s (Oza l h) hr
    have hg2 : Ava (Oxa t s (Oza l h)) s = some (Oza l h) := by rw [Uba _ _ _ hr, if_pos rfl]
    obtain ⟨u, e1, e2, e3, e4⟩ := Ckb s hs hks (Oxa t s (Oza l h)) (Oza l h) m rest (fun h' hh => hm h' (List.mem_cons_of_mem _ hh)) hr2 hg2 o2
    refine ⟨u, ?_, e2, e3, fun x hx => by rw [e4 x hx, Uba _ _ _ hr, if_neg hx]⟩
    show Dna t ((3, s, ByteArray.empty, h, ()) :: (Hla s hks ++ rest)) = _
    rw [Cvb hp hd, e1]
theorem Xma {k : Int} {s : Str} (hk : k = 0 ∨ k = 1) (hs : Foa s = true) : Fna (k, s, ByteArray.empty, noH, ()) = true := by
  rcases hk with rfl | rfl <;> simp [Fna, Cva, Amb, hs]
theorem Nxb {a b : Aha} (ma : Paa a = true) (mb : Paa b = true) {s : Str} (hs : ((Ava a s).isSome || (Ava b s).isSome) = true) (t : Aha) (rest : List Bqa) (hr : RT t) (hg : Ava t s = Ava a s) :
    ∃ u, Dna t (Lca a b s ++ rest) = Dna u rest ∧ RT u ∧ Ava u s = Ava b s ∧ ∀ x, x ≠ s → Ava u x = Ava t x := by
  have hn : Foa s = true := by
    cases hA : (Ava a s).isSome with
    | true => exact Xra ma hA
    | false => rw [hA, Bool.false_or] at hs; exact Xra mb hs
  have hmay : ∀ h ∈ Oga ((Ava a s).getD []) ((Ava b s).getD []), Xoa h = true := fun h hh => Chb (Xla ma s) (Xla mb s) hh
  have h1 : ∃ t1, Dna t (Lca a b s ++ rest) = Dna t1 (Hla s (Oga ((Ava a s).getD []) ((Ava b s).getD [])) ++ ((if (Ava b s).isSome then [] else [(1, s, ByteArray.empty, noH, ())]) ++ rest)) ∧ RT t1 ∧ Ava t1 s = some ((Ava a s).getD []) ∧ ∀ x, x ≠ s → Ava t1 x = Ava t x := by
    unfold Lca
    cases hA : Ava a s with
    | some l =>
      refine ⟨t, ?_, hr, by rw [hg, hA]; rfl, fun _ _ => rfl⟩
      simp only [Option.isSome_some, if_true, List.nil_append, List.append_assoc]
    | none =>
      refine ⟨Oxa t s [], ?_, Vza s [] hr, by rw [Uba _ _ _ hr, if_pos rfl]; rfl, fun x hx => by rw [Uba _ _ _ hr, if_neg hx]⟩
      have hd : doP t (0, s, ByteArray.empty, noH, ()) = some (Oxa t s []) := by
        rw [Skb rfl]
        simp only [hg, hA, Option.isSome_none, Bool.false_eq_true, if_false]
      have hf := fun l => Cvb (l := l) (Xma (.inl rfl) hn) hd
      simp only [Option.isSome_none, Bool.false_eq_true, if_false, List.append_assoc, List.singleton_append]
      exact (hf _).trans (congrArg (Dna (Oxa t s [])) (List.append_assoc _ _ _))
  obtain ⟨t1, e1, r1, g1, x1⟩ := h1
  obtain ⟨t2, e2, r2, g2, x2⟩ := Ckb s hn _ t1 _ _ ((if (Ava b s).isSome then [] else [(1, s, ByteArray.empty, noH, ())]) ++ rest) hmay r1 g1 (Lub ((Ava a s).getD []) ((Ava b s).getD []))
  cases hB : Ava b s with
  | some l =>
    refine ⟨t2, ?_, r2, by rw [g2, hB]; rfl, fun x hx => by rw [x2 x hx, x1 x hx]⟩
    rw [e1, e2, hB]
    rfl
  | none =>
    rw [hB] at g2
    refine ⟨Zia t2 s, ?_, Irb s r2, by rw [Ddb _ _ r2, if_pos rfl], fun x hx => by rw [Ddb _ _ r2, if_neg hx, x2 x hx, x1 x hx]⟩
    rw [e1, e2, hB]
    simp only [Option.isSome_none, Bool.false_eq_true, if_false, List.singleton_append]
    refine Cvb (Xma (.inr rfl) hn) ?_
    rw [Slb rfl]
    simp only [g2, Option.getD_none, if_true]
theorem Iib {a b : Aha} (ma : Paa a = true) (mb : Paa b = true) : ∀ (ns : List Str) (t : Aha) (rest : List Bqa), ns.Nodup → (∀ s ∈ ns, ((Ava a s).isSome || (Ava b s).isSome) = true) → RT t → (∀ s ∈ ns, Ava t s = Ava a s) →
    ∃ u, Dna t (ns.flatMap (Lca a b) ++ rest) = Dna u rest ∧ RT u ∧ (∀ s ∈ ns, Ava u s = Ava b s) ∧ ∀ x, x ∉ ns → Ava u x = Ava t x
  | [], t, rest, _, _, hr, _ => ⟨t, rfl, hr, fun s hs => by simp at hs, fun _ _ => rfl⟩
  | s :: ns, t, rest, hn, hs, hr, hg => by
    obtain ⟨n1, n2⟩ := List.nodup_cons.1 hn
    obtain ⟨t1, e1, r1, g1, x1⟩ := Nxb ma mb (hs s List.mem_cons_self) t (ns.flatMap (Lca a b) ++ rest) hr (hg s List.mem_cons_self)
    obtain ⟨t2, e2, r2, g2, x2⟩ := Iib ma mb ns t1 rest n2 (fun x hx => hs x (List.mem_cons_of_mem _ hx)) r1 (fun x hx => by
      rw [x1 x (fun he => n1 (he ▸ hx))]; exact hg x (List.mem_cons_of_mem _ hx))
    refine ⟨t2, by rw [List.flatMap_cons, List.append_assoc, e1, e2], r2, fun x hx => ?_, fun x hx => ?_⟩
    · rcases List.mem_cons.1 hx with rfl | hx
      · rw [x2 x n1, g1]
      · exact g2 x hx
    · rw [x2 x (fun h => hx (List.mem_cons_of_mem _ h)), x1 x (fun h => hx (h ▸ List.mem_cons_self))]
theorem Ftb {a b : Aha} {s : Str} (h : s ∉ Mka a b) : Ava a s = none ∧ Ava b s = none := by
  have hm : ∀ f, f ∈ a ∨ f ∈ b → f.1 ≠ s := fun f hf he => by
    apply h
    rw [← Zxa, (Lza ((a ++ b).map (·.1)) [] List.Pairwise.nil).2 s]
    exact .inr (List.mem_map.2 ⟨f, List.mem_append.2 hf, he⟩)
  exact ⟨Fda fun f hf => hm f (.inl hf), Fda fun f hf => hm f (.inr hf)⟩
theorem Kyb {a b : Aha} (ma : Paa a = true) (mb : Paa b = true) (rest : List Bqa) : Dna a (Zya a b ++ rest) = Dna b rest := by
  obtain ⟨u, e, r, g, x⟩ := Iib ma mb (Mka a b) a rest (Hbb a b) (fun s hs => Zwa hs) (Cjb ma) fun _ _ => rfl
  have : u = b := Inb r (Cjb mb) fun s => by
    by_cases h : s ∈ Mka a b
    · exact g s h
    · rw [x s h, (Ftb h).1, (Ftb h).2]
  rw [Zya, e, this]
theorem Kib (t : Aha) : Dna t [] = (t, 0) := rfl
theorem Khb {l m : List Bqa} : ∀ {t u : Aha}, Dna t l = (u, 0) → Dna t (l ++ m) = Dna u m := by
  induction l with
  | nil => intro t u h; rw [Dna] at h; cases h; rfl
  | cons p l ih =>
    intro t u h
    simp only [List.cons_append, Dna] at h ⊢
    split at h
    · rename_i h0; rw [if_pos h0]; exact ih h
    · rename_i h0; exact absurd (Prod.mk.inj h).2 h0
theorem Isb {n m : Nat} {a : Aha} (b : Aha) (ha : Fit n m a) (s : Str) : (Lca a b s).length ≤ m + 3 := by
  have h1 := Vsa ((Ava a s).getD []) ((Ava b s).getD [])
  have h2 := ha.get s
  simp only [Lca, List.length_append, Hla, List.length_map]
  split <;> split <;> simp <;> omega
theorem Jab {n m : Nat} {a b : Aha} (ha : Fit n m a) (hb : b.length ≤ n) : (Zya a b).length ≤ (n + n) * (m + 3) := by
  have h1 := Tla (Lca a b) (m + 3) (Mka a b) fun s _ => Isb b ha s
  have h2 := Fub a b
  have h3 := ha.1
  exact Nat.le_trans h1 (Nat.mul_le_mul_right _ (by omega))
theorem Upa {s : Str} (h : Foa s = true) : s.size ≤ 16 := by
  simp only [Foa, Bool.and_eq_true, decide_eq_true_eq] at h
  exact h.1.2
theorem Kgb {a b : Aha} (ma : Paa a = true) (mb : Paa b = true) {s : Str} (hs : ((Ava a s).isSome || (Ava b s).isSome) = true) {p : Bqa} (h : p ∈ Lca a b s) : Fna p = true := by
  have hn : Foa s = true := by
    cases hA : (Ava a s).isSome with
    | true => exact Xra ma hA
    | false => rw [hA, Bool.false_or] at hs; exact Xra mb hs
  simp only [Lca, List.mem_append] at h
  rcases h with h | h | h
  · split at h
    · simp at h
    · simp only [List.mem_singleton] at h; subst h; exact Xma (.inl rfl) hn
  · obtain ⟨x, hx, rfl⟩ := List.mem_map.1 h
    have := Chb (Xla ma s) (Xla mb s) hx
    simp [Fna, Cva, hn, this]
  · split at h
    · simp at h
    · simp only [List.mem_singleton] at h; subst h; exact Xma (.inr rfl) hn
theorem Ijb {a b : Aha} (ma : Paa a = true) (mb : Paa b = true) {p : Bqa} (h : p ∈ Zya a b) : Fna p = true := by
  obtain ⟨s, h1, h2⟩ := List.mem_flatMap.1 h
  exact Kgb ma mb (Zwa h1) h2
theorem Ceb (b : List Str) (n : Int) : ∀ (l : List Str) (i : Int), n = i + l.length → Cua b (Dca l l i i ++ [(n, n, ())]) i i = []
  | [], i, h => by
    rw [Iha, List.nil_append, Cua, Cua, if_neg (by simp at h; simp only; omega)]; rfl
  | x :: xs, i, h => by
    rw [Nca, if_pos rfl, List.cons_append, Cua, if_neg (by simp only; omega), List.nil_append]
    exact Ceb b n xs (i + 1) (by rw [h, List.length_cons]; omega)
theorem Ivb (l : List Str) : Oga l l = [] := by
  rw [Oga, Woa, Ceb l _ l 0 (by omega)]
  rfl
theorem Czb (p : Bqa) (h : Lba p) : Rea (p, ()) = some (!Fna p, ()) := by
  rw [Cyb]
  simp only [Xxa, Cza, Aeb p h, Aaa]
theorem Efa (l : List Bqa) (hb : l.length < 4611686018427387903) (hw : ∀ p ∈ l, Lba p) : ∀ (r : List Bqa) (i : Nat), l.drop i = r → i ≤ l.length →
    ∃ y, Aza (l, (l.length : Int), (i : Int), ()) = some y ∧ (match y with
      | .inl z => r.all Fna = false ∧ 0 ≤ z.2.1
      | .inr _ => r.all Fna = true)
  | [], i, h, hi => by
    have := Afa h hi
    subst this
    rw [Eea]
    simp (disch := omega) only [Bna, PP]
    exact ⟨_, rfl, rfl⟩
  | p :: r, i, h, hi => by
    obtain ⟨h1, h2, h3, h4⟩ := Aba h
    have e := Czb p (hw p h4)
    rw [Eea]
    cases hm : Fna p with
    | false =>
      rw [hm] at e
      simp (disch := omega) only [Bna, PP, h2, Cza, e, Bool.not_false]
      refine ⟨_, rfl, ?_⟩
      exact ⟨by rw [List.all_cons, hm, Bool.false_and], by simp only; omega⟩
    | true =>
      rw [hm] at e
      simp (disch := omega) only [Bna, PP, h2, Cza, e, Bool.not_true]
      obtain ⟨y, e', q⟩ := Efa l hb hw r (i + 1) h3 (by omega)
      refine ⟨y, e', ?_⟩
      cases y with
      | inl z => simp only [List.all_cons, hm, Bool.true_and] at q ⊢; exact q
      | inr z => simp only [List.all_cons, hm, Bool.true_and] at q ⊢; exact q
theorem Gtb (l : List Bqa) (hb : l.length < 4611686018427387903) (hw : ∀ p ∈ l, Lba p) : Tza (l, ()) = some (l.all Fna, ()) := by
  obtain ⟨y, e, q⟩ := Efa l hb hw l 0 rfl (by omega)
  simp only [Int.natCast_zero] at e
  rw [Gsb]
  cases y with
  | inl z =>
    simp only at q
    simp (disch := omega) only [Xwa, PP, e, q.1]
    rw [decide_eq_true q.2]; rfl
  | inr z =>
    simp only at q
    simp (disch := omega) only [Xwa, PP, e, q]
theorem Srb {p : Bqa} (h : Lba p) : Lba (Ahb p) := by
  unfold Ahb
  split
  · exact ⟨h.n, h.t, h.o, h.w⟩
  · split
    · exact ⟨h.n, h.t, h.o, h.w⟩
    · split
      · exact ⟨h.t, h.n, h.o, h.w⟩
      · exact ⟨h.n, h.t, h.w, h.o⟩
theorem Omb {l : List Bqa} (h : ∀ p ∈ l, Lba p) : ∀ p ∈ Voa l, Lba p := fun p hp => by
  simp only [Voa, List.mem_map, List.mem_reverse] at hp
  obtain ⟨q, hq, rfl⟩ := hp
  exact Srb (h q hq)
theorem Lkb (l : List Bqa) : (Voa l).length = l.length := by simp [Voa]
theorem Kzb (a : Aha) : Zya a a = [] := by
  unfold Zya
  rw [List.flatMap_eq_nil_iff]
  intro s hs
  have h := Zwa hs
  rw [Bool.or_self] at h
  simp only [Lca, h, if_true, Ivb, Hla, List.map_nil, List.append_nil]
theorem Lab {a b : Aha} (ma : Paa a = true) (mb : Paa b = true) : Zya a b = [] ↔ a = b := by
  constructor
  · intro h
    have := Kyb ma mb []
    rw [h] at this
    exact (Prod.mk.inj this).1
  · rintro rfl; exact Kzb a
abbrev Id := Int × Int × Unit
abbrev Aka := Id × List Id × Str × List Bqa × Unit
abbrev Msa := Int × List Aka × Aha × Aha × Int × Unit
instance (s : Str) (l : List Str) : Decidable (s ∈ l) := decidable_of_iff (Hab s l = true) (Xpa s l)
inductive Lob {α : Type} (R : α → α → Prop) : List α → List α → Prop
  | nil : Lob R [] []
  | cons {x y : α} {l m : List α} : R x y → Lob R l m → Lob R (x :: l) (y :: m)
def Ssb (p : Aka) (l : List Bqa) : Aka := (p.1, p.2.1, p.2.2.1, l, ())
def Lxb (a b : Id) : Bool := decide (a.1 < b.1) || (decide (a.1 = b.1) && decide (a.2.1 < b.2.1))
def Mab (x : Id) : Bool := decide (0 ≤ x.1) && decide (x.1 < 8) && decide (1 ≤ x.2.1) && decide (x.2.1 ≤ 1048576)
def Abb : List Id → Bool
  | a :: b :: l => Lxb a b && Abb (b :: l)
  | _ => true
def Gyb (p : Aka) : Bool :=
  Mab p.1 && decide (p.2.1.length ≤ 60) && p.2.1.all (fun x => Mab x && decide (x ≠ p.1)) && Abb p.2.1 && Frb p.2.2.1 && decide (p.2.2.2.1.length ≤ 200) && p.2.2.2.1.all Fna
def Jub (l : List Aka) : List Bqa := l.flatMap fun p => p.2.2.2.1
def Nwa (t : Aha) (l : List Aka) : Aha × Int := Dna t (Jub l)
def Lya (l : List Aka) (id : Id) : Option Nat := l.findIdx? fun p => decide (p.1 = id)
def Gob : List Id → List Aka → Int → Int → Bool
  | _, [], _, _ => true
  | ids, p :: l, who, made => Gyb p && decide (p.1 ∉ ids) && !(decide (p.1.1 = who) && decide (made < p.1.2.1)) && Gob (ids ++ [p.1]) l who made
def Fsb (r : Msa) : Bool :=
  decide (0 ≤ r.1) && decide (r.1 < 8) && decide (r.2.1.length ≤ 60) && decide (0 ≤ r.2.2.2.2.1) && decide (r.2.2.2.2.1 ≤ 1048576) && Gob [] r.2.1 r.1 r.2.2.2.2.1
    && decide ((Nwa [] r.2.1).2 = 0) && decide ((Nwa [] r.2.1).1 = r.2.2.1) && Paa r.2.2.1 && Paa r.2.2.2.1
def Dba (r : Msa) : List Bqa := if Fsb r = true then Zya r.2.2.1 r.2.2.2.1 else []
theorem Hxb {α : Type} {R : α → α → Prop} {l m : List α} (h : Lob R l m) : ∀ {y}, y ∈ m → ∃ x ∈ l, R x y := by
  induction h with
  | nil => intro y hy; cases hy
  | cons a1 a2 ih =>
    intro y hy
    rcases List.mem_cons.1 hy with rfl | hy
    · exact ⟨_, List.mem_cons_self, a1⟩
    · obtain ⟨x, hx, hr⟩ := ih hy; exact ⟨x, List.mem_cons_of_mem _ hx, hr⟩
structure Rza (p : Bqa) : Prop where
  n : p.2.1.size ≤ 100
  t : p.2.2.1.size ≤ 100
  o : p.2.2.2.1.2.1.length ≤ 300
  w : p.2.2.2.1.2.2.1.length ≤ 300
theorem Rza.w' {p : Bqa} (h : Rza p) : Lba p := ⟨by have := h.n; omega, by have := h.t; omega, by have := h.o; omega, by have := h.w; omega⟩
theorem Cib {h : Pca} (k : Xoa h = true) : h.2.1.length ≤ 300 ∧ h.2.2.1.length ≤ 300 := by
  obtain ⟨_, _, a, b⟩ := Vva k; omega
theorem Zha {p : Bqa} (h : Amb p = true) : p.2.2.2.1.2.1.length ≤ 300 ∧ p.2.2.2.1.2.2.1.length ≤ 300 := by
  simp only [Amb, Bool.and_eq_true, decide_eq_true_eq] at h; omega
theorem Nla {p : Bqa} (h : Cva p = true) : p.2.1.size ≤ 100 ∧ p.2.2.1.size ≤ 100 := by
  simp only [Cva, Bool.and_eq_true, decide_eq_true_eq] at h
  have := Upa h.1
  rw [h.2]
  exact ⟨by omega, by simp⟩
theorem Zva {p : Bqa} (h : Fna p = true) : Rza p := by
  unfold Fna at h
  split at h
  · simp only [Bool.and_eq_true] at h
    have a := Nla h.1
    have b := Zha h.2
    exact ⟨a.1, a.2, b.1, b.2⟩
  · split at h
    · simp only [Bool.and_eq_true] at h
      have a := Upa h.1.1
      have a' := Upa h.1.2
      have b := Zha h.2.2
      exact ⟨by omega, by omega, b.1, b.2⟩
    · split at h
      · simp only [Bool.and_eq_true] at h
        have a := Nla h.1
        have b := Cib h.2
        exact ⟨a.1, a.2, b.1, b.2⟩
      · split at h
        · simp only [Bool.and_eq_true] at h
          have a := Nla h.1.1
          have b := Cib h.1.2
          exact ⟨a.1, a.2, b.1, b.2⟩
        · cases h
structure Opb (p q : Bqa) : Prop where
  k : p.1 = q.1
  m : Fna p = true → Fna q = true
  l : Rza p → Rza q
theorem Opb.trans {p q r : Bqa} (h : Opb p q) (k : Opb q r) : Opb p r := ⟨h.k.trans k.k, k.m ∘ h.m, k.l ∘ h.l⟩
structure Kin (p q : Aka) : Prop where
  id : p.1 = q.1
  deps : p.2.1 = q.2.1
  text : p.2.2.1 = q.2.2.1
  l : Lob Opb p.2.2.2.1 q.2.2.2.1
theorem Bsb {α : Type} {R : α → α → Prop} (ht : ∀ {x y z}, R x y → R y z → R x z) : ∀ {a b c : List α}, Lob R a b → Lob R b c → Lob R a c
  | _, _, _, .nil, .nil => .nil
  | _, _, _, .cons a b, .cons c d => .cons (ht a c) (Bsb (R := R) (fun h k => ht h k) b d)
theorem Cob {α : Type} {R : α → α → Prop} : ∀ {a b : List α}, Lob R a b → a.length = b.length
  | _, _, .nil => rfl
  | _, _, .cons _ b => by simp [Cob b]
theorem Kin.trans {p q r : Aka} (h : Kin p q) (k : Kin q r) : Kin p r := ⟨h.id.trans k.id, h.deps.trans k.deps, h.text.trans k.text, Bsb (fun a b => a.trans b) h.l k.l⟩
theorem Kin.may {p q : Aka} (h : Kin p q) (k : Gyb p = true) : Gyb q = true := by
  unfold Gyb at k ⊢
  rw [← h.id, ← h.deps, ← h.text, ← Cob h.l]
  simp only [Bool.and_eq_true] at k ⊢
  refine ⟨k.1, ?_⟩
  have := k.2
  rw [List.all_eq_true] at this ⊢
  intro y hy
  obtain ⟨x, hx, hr⟩ := Hxb h.l hy
  exact hr.m (this x hx)
theorem Gpb (who made : Int) : ∀ (l : List Aka) (ids : List Id), Gob ids l who made = true ↔ (∀ p ∈ l, Gyb p = true ∧ (p.1.1 = who → p.1.2.1 ≤ made)) ∧ (l.map (·.1)).Nodup ∧ ∀ p ∈ l, p.1 ∉ ids
  | [], ids => by simp [Gob]
  | p :: l, ids => by
    have ih := Gpb who made l (ids ++ [p.1])
    unfold Gob
    rw [Bool.and_eq_true, ih]
    simp only [Bool.and_eq_true, decide_eq_true_eq, Bool.not_eq_true', Bool.and_eq_false_iff, decide_eq_false_iff_not, List.mem_cons, forall_eq_or_imp, List.map_cons, List.nodup_cons, List.mem_append, List.mem_map, not_or, List.not_mem_nil, not_false_eq_true, and_true, List.mem_singleton]
    constructor
    · rintro ⟨⟨⟨a, b⟩, c⟩, d, e, f⟩
      refine ⟨⟨⟨a, fun h => ?_⟩, d⟩, ⟨?_, e⟩, b, fun q hq => (f q hq).1⟩
      · rcases c with c | c
        · exact absurd h c
        · omega
      · rintro ⟨q, hq, h⟩; exact (f q hq).2 h
    · rintro ⟨⟨⟨a, b⟩, c⟩, ⟨d, e⟩, f, g⟩
      refine ⟨⟨⟨a, f⟩, ?_⟩, c, e, fun q hq => ⟨g q hq, fun h => d ⟨q, hq, h⟩⟩⟩
      by_cases h : p.1.1 = who
      · right; have := b h; omega
      · left; exact h
structure Jjb (r : Msa) : Prop where
  w0 : 0 ≤ r.1
  w1 : r.1 < 8
  n : r.2.1.length ≤ 60
  m0 : 0 ≤ r.2.2.2.2.1
  m1 : r.2.2.2.2.1 ≤ 1048576
  p : ∀ p ∈ r.2.1, Gyb p = true ∧ (p.1.1 = r.1 → p.1.2.1 ≤ r.2.2.2.2.1)
  u : (r.2.1.map (·.1)).Nodup
  a : Nwa [] r.2.1 = (r.2.2.1, 0)
  b : Paa r.2.2.1 = true
  k : Paa r.2.2.2.1 = true
theorem Mja (r : Msa) : Fsb r = true ↔ Jjb r := by
  unfold Fsb
  simp only [Bool.and_eq_true, decide_eq_true_eq, Gpb]
  constructor
  · rintro ⟨⟨⟨⟨⟨⟨⟨⟨⟨a, b⟩, c⟩, d⟩, e⟩, f, g, _⟩, h⟩, i⟩, j⟩, k⟩
    exact ⟨a, b, c, d, e, f, g, Prod.ext i h, j, k⟩
  · rintro ⟨a, b, c, d, e, f, g, h, i, j⟩
    exact ⟨⟨⟨⟨⟨⟨⟨⟨⟨a, b⟩, c⟩, d⟩, e⟩, f, g, by simp⟩, by rw [h]⟩, by rw [h]⟩, i⟩, j⟩
abbrev noR : Msa := (0, [], [], [], 0, ())
def Okb (r : Msa) (t : Aha) : Msa := (r.1, r.2.1, r.2.2.1, t, r.2.2.2.2.1, ())
def Vxa (r : Msa) : Id := (r.1, r.2.2.2.2.1 + 1, ())
def Xha (r : Msa) : Prop := 60 ≤ r.2.1.length ∨ 1048576 ≤ r.2.2.2.2.1
instance (r : Msa) : Decidable (Xha r) := inferInstanceAs (Decidable (_ ∨ _))
def Nba (r : Msa) (p : Aka) (t : Aha) : Msa := (r.1, r.2.1 ++ [p], t, t, r.2.2.2.2.1 + 1, ())
def Ija (r : Msa) (text : Str) (deps : List Id) : Msa × Int :=
  if Fsb r = false then (noR, 1)
  else if Dba r = [] then (noR, 3)
  else if Xha r ∨ 200 < (Dba r).length then (noR, 8)
  else if Gyb (Vxa r, deps, text, Dba r, ()) = false then (noR, 1)
  else if deps.any (fun d => (Lya r.2.1 d).isNone) = true then (noR, 3)
  else (Nba r (Vxa r, deps, text, Dba r, ()) r.2.2.2.1, 0)
theorem Mla {r : Msa} (h : Jjb r) : Dba r = Zya r.2.2.1 r.2.2.2.1 := by rw [Dba, if_pos ((Mja r).2 h)]
theorem Kjb {l m : List Bqa} {t u : Aha} (h : Dna t l = (u, 0)) : Dna t (l ++ m) = Dna u m := Khb h
theorem Lzb {r : Msa} (h : Jjb r) (hf : ¬ Xha r) {p : Aka} {t : Aha} (hi : p.1 = Vxa r) (hp : Gyb p = true) (ha : Dna r.2.2.1 p.2.2.2.1 = (t, 0)) (ht : Paa t = true) : Jjb (Nba r p t) := by
  unfold Xha at hf
  refine ⟨h.w0, h.w1, ?_, ?_, ?_, ?_, ?_, ?_, ht, ht⟩
  · simp only [Nba, List.length_append, List.length_singleton]; omega
  · simp only [Nba]; have := h.m0; omega
  · simp only [Nba]; omega
  · intro q hq
    simp only [Nba] at hq ⊢
    rcases List.mem_append.1 hq with hq | hq
    · obtain ⟨a, b⟩ := h.p q hq
      exact ⟨a, fun e => by have := b e; omega⟩
    · rw [List.mem_singleton.1 hq, hi]
      refine ⟨hp, fun _ => ?_⟩
      simp [Vxa]
  · simp only [Nba, List.map_append, List.map_cons, List.map_nil]
    rw [List.nodup_append]
    refine ⟨h.u, by simp, ?_⟩
    intro a ha' b hb e
    rw [List.mem_singleton] at hb
    subst hb
    obtain ⟨q, hq, rfl⟩ := List.mem_map.1 ha'
    have := (h.p q hq).2
    rw [e, hi] at this
    simp only [Vxa] at this
    have := this trivial
    omega
  · simp only [Nba, Nwa, Jub, List.flatMap_append]
    have ha' := h.a
    unfold Nwa at ha'
    rw [show List.flatMap (fun p : Aka => p.2.2.2.1) r.2.1 = Jub r.2.1 from rfl, Kjb ha']
    simpa using ha
theorem Jdb {r : Msa} {text : Str} {deps : List Id} (h : (Ija r text deps).2 = 0) : Jjb r ∧ Jjb (Ija r text deps).1 ∧ (Ija r text deps).1 = Nba r (Vxa r, deps, text, Dba r, ()) r.2.2.2.1 ∧ ¬ Xha r ∧ Gyb (Vxa r, deps, text, Dba r, ()) = true := by
  unfold Ija at h ⊢
  split at h
  · simp at h
  · rename_i h1
    split at h
    · simp at h
    · rename_i h2
      split at h
      · simp at h
      · rename_i h3
        split at h
        · simp at h
        · rename_i h4
          split at h
          · simp at h
          · rename_i h5
            rw [if_neg h1, if_neg h2, if_neg h3, if_neg h4, if_neg h5]
            have hm : Jjb r := (Mja r).1 (by simpa using h1)
            have hf : ¬ Xha r := fun k => h3 (.inl k)
            refine ⟨hm, Lzb hm hf rfl (by simpa using h4) ?_ hm.k, rfl, hf, by simpa using h4⟩
            have := Kyb hm.b hm.k []
            rw [List.append_nil, Kib] at this
            rw [Mla hm]
            exact this
def Oqb (h : Pca) : Prop := h.2.1.length ≤ 300 ∧ h.2.2.1.length ≤ 300
theorem Rza.h {p : Bqa} (h : Rza p) : Oqb p.2.2.2.1 := ⟨h.o, h.w⟩
theorem Cda (x : Id) : ((x.1, x.2.1, ()) : Id) = x := rfl
theorem Bxa (x : Aka) : (((x.1.1, x.1.2.1, ()), x.2.1, x.2.2.1, x.2.2.2.1, ()) : Aka) = x := rfl
theorem Jwa (x : Aka) : ((x.1, x.2.1, x.2.2.1, x.2.2.2.1, ()) : Aka) = x := rfl
theorem Jzb (a b c d : Int) : (a == c && (b == d && true)) = decide (((a, b, ()) : Id) = (c, d, ())) := by
  simp only [Bool.and_true, Bwa, Prod.mk.injEq, and_true, Bool.decide_and]
theorem Jea (l : List Id) (s : Id) (hb : l.length < 4611686018427387903) : ∀ (r : List Id) (i : Nat), l.drop i = r → i ≤ l.length →
    ∃ y, Cha (s.1, s.2.1, l, (l.length : Int), (i : Int), ()) = some y ∧ (match y with
      | .inl z => 0 ≤ z.2.2.2.1 ∧ s ∈ r
      | .inr _ => s ∉ r)
  | [], i, h, hi => by
    have := Afa h hi
    subst this
    rw [Jda]
    simp (disch := omega) only [Cxa, PP]
    exact ⟨_, rfl, by simp⟩
  | f :: r, i, h, hi => by
    obtain ⟨h1, h2, h3, h4⟩ := Aba h
    rw [Jda]
    by_cases hf : s = f
    · simp (disch := first | omega | exact hf) only [Cxa, PP, h2, Jzb, Cda]
      exact ⟨_, rfl, by simp only; omega, by simp [hf]⟩
    · simp (disch := first | omega | exact hf) only [Cxa, PP, h2, Jzb, Cda]
      obtain ⟨y, e, p⟩ := Jea l s hb r (i + 1) h3 (by omega)
      refine ⟨y, e, ?_⟩
      cases y with
      | inl z => simp only at p ⊢; exact ⟨p.1, List.mem_cons_of_mem _ p.2⟩
      | inr z => simp only [List.mem_cons, not_or] at p ⊢; exact ⟨hf, p⟩
theorem Eaa (l : List Id) (s : Id) (hb : l.length < 4611686018427387903) : Cga (l, s, ()) = some (decide (s ∈ l), ()) := by
  obtain ⟨y, e, p⟩ := Jea l s hb l 0 rfl (by omega)
  simp only [Int.natCast_zero] at e
  have e2 : ∃ n : Int, Hwa (l, s, ()) = some (n, ()) ∧ (0 ≤ n ↔ s ∈ l) := by
    rw [Vka]
    unfold Nva
    simp only [e, Aaa]
    cases y with
    | inl z => simp only at p; simp only [Gaa]; exact ⟨_, rfl, ⟨fun _ => p.2, fun _ => p.1⟩⟩
    | inr z => simp only at p; simp only [Ema]; exact ⟨_, rfl, ⟨fun h => by omega, fun h => absurd h p⟩⟩
  obtain ⟨n, e2, hn⟩ := e2
  rw [Qta]
  unfold Kea
  simp only [Cda, e2, Aaa]
  exact congrArg (fun b => some (b, ())) (decide_eq_decide.2 hn)
structure Gta (p : Aka) : Prop where
  l : ∀ c ∈ p.2.2.2.1, Rza c
  n : p.2.2.2.1.length ≤ 1000
  d : p.2.1.length ≤ 1000
  t : p.2.2.1.size ≤ 1000
theorem Kin.light {p q : Aka} (h : Kin p q) (k : Gta p) : Gta q := by
  refine ⟨fun c hc => ?_, by rw [← Cob h.l]; exact k.n, by rw [← h.deps]; exact k.d, by rw [← h.text]; exact k.t⟩
  obtain ⟨x, hx, hr⟩ := Hxb h.l hc
  exact hr.l (k.l x hx)
theorem Gta.b {p : Aka} (h : Gta p) : ∀ c ∈ p.2.2.2.1, Ipb c := fun c hc => (h.l c hc).w'.b
theorem Efb (p : Aka) (l : List Bqa) (h : p.2.1.length ≤ 1000) : Gba (p, l, ()) = some (Ssb p l, ()) := by
  have hM := Aia
  rw [Tsa]
  simp (disch := omega) only [Lua, PP, Cda]
  rfl
def Lpb {α : Type} (l c : List α) (i : Nat) : Prop := c.length = l.length ∧ ∀ x, c[x]? = if x < i ∨ l.length ≤ x + i then l.reverse[x]? else l[x]?
theorem Lpb.zero {α : Type} (l : List α) : Lpb l l 0 := by
  refine ⟨rfl, fun x => ?_⟩
  split
  · rename_i h
    rw [List.getElem?_eq_none (by omega), List.getElem?_eq_none (by simp; omega)]
  · rfl
theorem Lpb.end {α : Type} {l c : List α} {i : Nat} (h : Lpb l c i) (hi : l.length ≤ 2 * i + 1) : c = l.reverse := by
  apply List.ext_getElem?
  intro x
  rw [h.2 x]
  split
  · rfl
  · rename_i hx
    have : x < l.length := by omega
    rw [List.getElem?_reverse this]
    congr 1
    omega
theorem Ena (q : Aka) (hq : Gta q) : Jza ([], q, ()) = some ([], q, true, ()) := by
  have e1 := Wpa q.2.2.2.1 (by have := hq.n; omega) hq.b
  have hb2 : ∀ c ∈ Voa q.2.2.2.1, Ipb c := fun c hc => (Omb (fun p hp => (hq.l p hp).w') c hc).b
  have e2 := Wpa (Voa q.2.2.2.1) (by rw [Lkb]; have := hq.n; omega) hb2
  rw [Jfb] at e2
  have e3 := Efb q q.2.2.2.1 hq.d
  rw [show Ssb q q.2.2.2.1 = q from rfl] at e3
  have hw1 : IntKind.wrap .i64 (((([] : List Aka).length : Nat) : Int) - 1) = -1 := by rw [Aua (by simp) (by simp)]; rfl
  have e4 : Ana ([], [], q.1.1, q.1.2.1, q.2.1, q.2.2.1, q.2.2.2.1, [], -1, ()) = some (.inr ([], [], q.1.1, q.1.2.1, q.2.1, q.2.2.1, q.2.2.2.1, [], -1, ())) := by
    rw [Jha]
    simp (disch := omega) only [Dra, PP]
  have e5 : Bga ([], [], q.1.1, q.1.2.1, q.2.1, q.2.2.1, q.2.2.2.1, [], 0, -1, ()) = some ([], [], q.1.1, q.1.2.1, q.2.1, q.2.2.1, q.2.2.2.1, [], 0, -1, ()) := by
    rw [Lda]
    simp (disch := omega) only [Gga, PP]
  rw [Eeb]
  unfold Yha
  simp only [hw1]
  simp (disch := simp) only [Aja, Ada, Bxa, Jwa, Cda, e1, e2, e3, e4, e5, hw1, Aaa, Ema]
theorem Naa (ids : List Id) (l s a : List Aka) (hl : l.length ≤ 100000) : Cta (s, a, ids, l, (l.length : Int), (l.length : Int), ()) = some (s, a, ids, l, (l.length : Int), (l.length : Int), ()) := by
  rw [Gza]
  simp (disch := omega) only [Fya, PP]
theorem Poa (ids : List Id) (hi0 : ids.length ≤ 1000000) (l : List Aka) (hl : l.length ≤ 100000) (hw : ∀ p ∈ l, Gta p) (b : List Aka) (hb : b = [] ∨ ∃ p, b = [p] ∧ p.1 ∈ ids) : ∀ (r : List Aka) (i : Nat) (s : List Aka), l.drop i = r ++ b → i ≤ l.length → s.length + r.length ≤ 100000 → (∀ p ∈ r, p.1 ∉ ids) →
    Cta (s, [], ids, l, (l.length : Int), (i : Int), ()) = some (s ++ r, b, ids, l, (l.length : Int), (l.length : Int), ())
  | [], i, s, h, hi, hn, hr => by
    rw [List.append_nil]
    rcases hb with rfl | ⟨p, rfl, hp⟩
    · have := Afa h hi
      subst this
      exact Naa ids l s [] hl
    · obtain ⟨h1, h2, h3, h4⟩ := Aba h
      have hM := Aia
      have e1 := Eaa ids p.1 (by omega)
      rw [decide_eq_true hp] at e1
      have e2 := Ena p (hw p h4)
      have hil := Afa h3 (by omega)
      rw [Gza]
      simp (disch := omega) only [Fya, PP, h2, Bxa, Jwa, Cda, e1, e2]
      rw [hil]
      exact Naa ids l s [p] hl
  | p :: r, i, s, h, hi, hn, hr => by
    obtain ⟨h1, h2, h3, h4⟩ := Aba h
    have hM := Aia
    have e1 := Eaa ids p.1 (by omega)
    rw [decide_eq_false (hr p List.mem_cons_self)] at e1
    have e2 := Ena p (hw p h4)
    simp only [List.length_cons] at hn
    have ih := Poa ids hi0 l hl hw b hb r (i + 1) (s ++ [p]) h3 (by omega) (by simp; omega) (fun q hq => hr q (List.mem_cons_of_mem _ hq))
    rw [Gza]
    simp (disch := omega) only [Fya, PP, h2, Bxa, Jwa, Cda, e1, e2, ih, List.nil_append]
    simp
theorem Oba (l : List Aka) (hl : l.length ≤ 1000000) (hw : ∀ p ∈ l, Gta p) : ∀ (r : List Aka) (i : Nat) (acc : List Aka), l.drop i = r → i ≤ l.length → acc.length + r.length ≤ 1000000 →
    Haa (acc, l, (l.length : Int), (i : Int), ()) = some (acc ++ r, l, (l.length : Int), (l.length : Int), ())
  | [], i, acc, h, hi, ha => by
    have := Afa h hi
    subst this
    rw [Oaa]
    simp (disch := omega) only [Lpa, PP, List.append_nil]
  | p :: r, i, acc, h, hi, ha => by
    obtain ⟨h1, h2, h3, h4⟩ := Aba h
    have hM := Aia
    have e1 := Ena p (hw p h4)
    simp only [List.length_cons] at ha
    rw [Oaa]
    simp (disch := omega) only [Lpa, PP, h2, Bxa, Jwa, Cda, e1]
    rw [Oba l hl hw r (i + 1) _ h3 (by omega) (by simp; omega)]
    simp
theorem Cqb (l : List Aka) (hl : l.length ≤ 1000000) (hw : ∀ p ∈ l, Gta p) : Raa (l, ()) = some (l, ()) := by
  have e := Oba l hl hw l 0 [] rfl (by omega) (by simp; omega)
  simp only [Int.natCast_zero, List.nil_append] at e
  rw [Cpb]
  simp (disch := omega) only [Xva, PP, e]
theorem Jpa (ids : List Id) (hi0 : ids.length ≤ 1000000) (a b : List Aka) (hl : (a ++ b).length ≤ 100000) (hw : ∀ p ∈ a ++ b, Gta p) (hb : b = [] ∨ ∃ p, b = [p] ∧ p.1 ∈ ids) (ha : ∀ p ∈ a, p.1 ∉ ids) : Dua (a ++ b, ids, ()) = some (a, b, ()) := by
  have e0 := Cqb (a ++ b) (by omega) hw
  have hM := Aia
  rw [Anb]
  match hab : a ++ b with
  | [] =>
    rw [hab] at e0
    obtain ⟨rfl, rfl⟩ := List.append_eq_nil_iff.1 hab
    have e1 : Cka ([], [], ids, [], ((([] : List Aka).length : Nat) : Int), ()) = some (.inr ([], [], ids, [], 0, ())) := by
      rw [Iea]
      simp (disch := simp) only [Gua, PP]
      rfl
    simp only [List.length_nil, Int.natCast_zero] at e1
    simp (disch := omega) only [Lea, PP, e0, Int.natCast_zero, e1]
  | p :: r =>
    rw [hab] at e0 hl hw
    have hp := hw p List.mem_cons_self
    have e1 := Eaa ids p.1 (by omega)
    have e2 := Ena p hp
    have g0 : ∀ d, (p :: r).getD 0 d = p := fun d => rfl
    simp only [List.length_cons] at hl
    by_cases hc : p.1 ∈ ids
    · rw [decide_eq_true hc] at e1
      have e3 : Cka ([], [], ids, p :: r, (((p :: r).length : Nat) : Int), ()) = some (.inl ([], [p], ids, p :: r, (((p :: r).length : Nat) : Int), ())) := by
        rw [Iea]
        simp (disch := first | omega | (simp only [List.length_cons]; omega)) only [Gua, Aja, Ada, Aga, Aca, Aea, Ama, Aaa, Int.toNat_zero, g0, Bxa, Jwa, Cda, e1, e2, Option.bind_some, Sum.elim_inr, List.nil_append, List.length_cons, List.length_nil]
      cases a with
      | cons x a => rw [List.cons_append] at hab; exact absurd hc ((List.cons.inj hab).1 ▸ ha x List.mem_cons_self)
      | nil =>
        rcases hb with rfl | ⟨q, rfl, hq⟩
        · simp at hab
        · rw [List.nil_append] at hab
          obtain ⟨rfl, rfl⟩ := List.cons.inj hab
          have ih := Naa ids [q] [] [q] (by simp)
          simp only [List.length_cons, List.length_nil, Nat.zero_add, Int.natCast_one] at ih e3
          simp (disch := omega) only [Lea, PP, e0]
          simp (disch := omega) only [Nat.zero_add, Int.natCast_one, PP, e3, ih]
    · rw [decide_eq_false hc] at e1
      have e3 : Cka ([], [], ids, p :: r, (((p :: r).length : Nat) : Int), ()) = some (.inl ([p], [], ids, p :: r, (((p :: r).length : Nat) : Int), ())) := by
        rw [Iea]
        simp (disch := first | omega | (simp only [List.length_cons]; omega)) only [Gua, Aja, Ada, Aga, Aca, Aea, Ama, Aaa, Int.toNat_zero, g0, Bxa, Jwa, Cda, e1, e2, Option.bind_some, Sum.elim_inr, List.nil_append, List.length_cons, List.length_nil]
      cases a with
      | nil =>
        rcases hb with rfl | ⟨q, rfl, hq⟩
        · simp at hab
        · rw [List.nil_append] at hab
          exact absurd hq ((List.cons.inj hab).1 ▸ hc)
      | cons x a =>
        rw [List.cons_append] at hab
        obtain ⟨rfl, rfl⟩ := List.cons.inj hab
        have ih := Poa ids hi0 (x :: (a ++ b)) (by simp only [List.length_cons]; omega) hw b hb a 1 [x] rfl (by simp) (by simp at hl ⊢; omega) (fun q hq => ha q (List.mem_cons_of_mem _ hq))
        simp only [Int.natCast_one] at ih
        simp (disch := omega) only [Lea, PP, e0]
        simp only [List.length_cons, List.length_append] at e3 ih
        simp (disch := omega) only [PP, e3, ih, List.singleton_append]
theorem Acb (x : Id) : Uza (x, ()) = some (Mab x, ()) := by
  rw [Hcb]
  unfold Ekb Mab
  by_cases h1 : 0 ≤ x.1
  · by_cases h2 : x.1 < 8
    · by_cases h3 : 1 ≤ x.2.1
      · simp only [ge_iff_le, h1, h2, h3, decide_true, Aca, Bool.true_and]
      · simp only [ge_iff_le, h1, h2, h3, decide_true, decide_false, Aca, Aea, Bool.true_and, Bool.false_and]
    · simp only [ge_iff_le, h1, h2, decide_true, decide_false, Aca, Aea, Bool.true_and, Bool.false_and]
  · simp only [ge_iff_le, h1, decide_false, Aea, Bool.false_and]
theorem Dkb (a b : Id) : Rga (a, b, ()) = some (Lxb a b, ()) := by
  rw [Djb]
  unfold Yaa Lxb
  by_cases h1 : a.1 < b.1
  · simp only [h1, decide_true, Aca, Bool.true_or]
  · by_cases h2 : a.1 = b.1
    · simp only [Bwa, h1, h2, decide_true, decide_false, Aca, Aea, Bool.false_or, Bool.true_and, Int.lt_irrefl]
    · simp only [Bwa, h1, h2, decide_true, decide_false, Aca, Aea, Bool.false_or, Bool.false_and]
def Onb (x0 x : Id) : Bool := Mab x && decide (x ≠ x0)
theorem Kja (a b : Id) : (a.1 == b.1 && (a.2.1 == b.2.1 && true)) = decide (a = b) := by
  rw [Jzb]
theorem Xca (p : Aka) (l : List Id) (hb : l.length < 4611686018427387903) : ∀ (r : List Id) (i : Nat), l.drop i = r → i ≤ l.length →
    (r.all (Onb p.1) = true ∧ Apa (p.1.1, p.1.2.1, p.2.1, p.2.2.1, p.2.2.2.1, l, (l.length : Int), (i : Int), ()) = some (.inr (p.1.1, p.1.2.1, p.2.1, p.2.2.1, p.2.2.2.1, l, (l.length : Int), (l.length : Int), ()))) ∨
    (r.all (Onb p.1) = false ∧ ∃ z, Apa (p.1.1, p.1.2.1, p.2.1, p.2.2.1, p.2.2.2.1, l, (l.length : Int), (i : Int), ()) = some (.inl z) ∧ 0 ≤ z.2.2.2.2.2.2.1)
  | [], i, h, hi => by
    have := Afa h hi
    subst this
    rw [Fwa]
    simp (disch := omega) only [Baa, PP]
    exact .inl ⟨by rfl, trivial⟩
  | f :: r, i, h, hi => by
    obtain ⟨h1, h2, h3, h4⟩ := Aba h
    have e1 := Acb f
    rw [Fwa]
    cases hm : Mab f with
    | false =>
      rw [hm] at e1
      simp (disch := omega) only [Baa, PP, h2, Cda, e1]
      exact .inr ⟨by simp [Onb, hm], _, rfl, by simp only; omega⟩
    | true =>
      rw [hm] at e1
      by_cases hf : f = p.1
      · simp (disch := first | omega | exact hf) only [Baa, PP, h2, Cda, e1, Kja]
        exact .inr ⟨by simp [Onb, hf], _, rfl, by simp only; omega⟩
      · simp (disch := first | omega | exact hf) only [Baa, PP, h2, Cda, e1, Kja]
        have ih := Xca p l hb r (i + 1) h3 (by omega)
        have ho : Onb p.1 f = true := by simp [Onb, hm, hf]
        rcases ih with ⟨a, b⟩ | ⟨a, b⟩
        · exact .inl ⟨by rw [List.all_cons, ho, a]; rfl, b⟩
        · exact .inr ⟨by rw [List.all_cons, ho, a]; rfl, b⟩
theorem Sza (p : Aka) (l : List Id) (hb : l.length < 4611686018427387903) : ∀ (r : List Id) (i : Nat), l.drop i = r → i ≤ l.length →
    (Abb (l.drop (i - 1)) = true ∧ Cla (p.1.1, p.1.2.1, p.2.1, p.2.2.1, p.2.2.2.1, l, (l.length : Int), (i : Int), ()) = some (.inr (p.1.1, p.1.2.1, p.2.1, p.2.2.1, p.2.2.2.1, l, (l.length : Int), (l.length : Int), ()))) ∨
    (Abb (l.drop (i - 1)) = false ∧ ∃ z, Cla (p.1.1, p.1.2.1, p.2.1, p.2.2.1, p.2.2.2.1, l, (l.length : Int), (i : Int), ()) = some (.inl z))
  | [], i, h, hi => by
    have := Afa h hi
    subst this
    rw [Mpa]
    simp (disch := omega) only [Dpa, PP]
    refine .inl ⟨?_, trivial⟩
    have hl : (l.drop (l.length - 1)).length ≤ 1 := by simp; omega
    match hd : l.drop (l.length - 1) with
    | [] => rfl
    | [x] => rfl
    | x :: y :: t => rw [hd] at hl; simp at hl
  | f :: r, i, h, hi => by
    obtain ⟨h1, h2, h3, h4⟩ := Aba h
    rw [Mpa]
    have ih := Sza p l hb r (i + 1) h3 (by omega)
    rw [Nat.add_sub_cancel, h] at ih
    by_cases h0 : i = 0
    · subst h0
      simp (disch := omega) only [Dpa, PP]
      rw [Nat.zero_sub, h]
      exact ih
    · obtain ⟨j, rfl⟩ : ∃ j, i = j + 1 := ⟨i - 1, by omega⟩
      have hg : l.drop j = l.getD j (0, 0, ()) :: f :: r := by
        rw [List.drop_eq_getElem_cons (by omega), h, List.getD_eq_getElem?_getD, List.getElem?_eq_getElem (by omega)]
        rfl
      have hg' : ∀ d, l.getD j d = l.getD j (0, 0, ()) := fun d => by rw [List.getD_eq_getElem?_getD, List.getD_eq_getElem?_getD, List.getElem?_eq_getElem (by omega)]; rfl
      have e0 : (((j + 1 : Nat) : Int) - 1) = (j : Int) := by omega
      have hw1 : IntKind.wrap .i64 (((j + 1 : Nat) : Int) - 1) = (j : Int) := by rw [Aua (by omega) (by omega)]; omega
      have e1 := Dkb (l.getD j (0, 0, ())) f
      rw [Nat.add_sub_cancel, hg]
      cases hl : Lxb (l.getD j (0, 0, ())) f with
      | false =>
        rw [hl] at e1
        simp (disch := omega) only [Dpa, Aja, Ada, Aga, Aca, Aea, Ama, Aaa, hw1, Int.toNat_natCast, h2, Cda, e1, Option.bind_some, Sum.elim_inr]
        exact .inr ⟨by rw [Abb, hl]; rfl, _, rfl⟩
      | true =>
        rw [hl] at e1
        simp (disch := omega) only [Dpa, Aja, Ada, Aga, Aca, Aea, Ama, Aaa, hw1, Fxa, Int.toNat_natCast, h2, Cda, e1, Option.bind_some, Sum.elim_inl]
        rcases ih with ⟨a, b⟩ | ⟨a, b⟩
        · exact .inl ⟨by rw [Abb, hl, a]; rfl, b⟩
        · exact .inr ⟨by rw [Abb, hl, a]; rfl, b⟩
theorem Xba (p : Aka) (hp : Gta p) : Moa (p, ()) = some (Gyb p, ()) := by
  have e1 := Acb p.1
  have e4 := Agb p.2.2.1
  have hd := hp.d
  have hn := hp.n
  have e5 := Gtb p.2.2.2.1 (by omega) (fun c hc => (hp.l c hc).w')
  rw [Fzb]
  unfold Bmb Gyb
  simp only [Cda, e1, Aaa]
  cases h1 : Mab p.1 with
  | false => simp only [Aea, Bool.false_and]
  | true =>
    by_cases h2 : p.2.1.length ≤ 60
    · rcases Xca p p.2.1 (by omega) p.2.1 0 rfl (by omega) with ⟨a, b⟩ | ⟨a, z, b, hz⟩
      · simp only [Int.natCast_zero] at b
        have a' : (p.2.1.all fun x => Mab x && decide (x ≠ p.1)) = true := a
        rcases Sza p p.2.1 (by omega) p.2.1 0 rfl (by omega) with ⟨c, d⟩ | ⟨c, z, d⟩
        · simp only [Int.natCast_zero, Nat.zero_sub, List.drop_zero] at c d
          cases h3 : Frb p.2.2.1 with
          | false =>
            rw [h3] at e4
            simp (disch := omega) only [Aca, Aea, Ada, Aga, b, d, e4, Aaa, Gaa, Ema, Bool.and_false, Bool.false_and, c, h2, a', decide_true, Bool.true_and]
          | true =>
            rw [h3] at e4
            by_cases h4 : p.2.2.2.1.length ≤ 200
            · simp (disch := omega) only [Aca, Aea, Ada, Aga, b, d, e4, e5, Aaa, Gaa, Ema, c, h2, a', h4, decide_true, Bool.true_and]
            · simp (disch := omega) only [Aca, Aea, Ada, Aga, b, d, e4, e5, Aaa, Gaa, Ema, c, h2, a', h4, decide_true, decide_false, Bool.true_and, Bool.false_and]
        · simp only [Int.natCast_zero, Nat.zero_sub, List.drop_zero] at c d
          simp (disch := omega) only [Aca, Aea, Ada, Aga, b, d, Aaa, Gaa, Ema, Bool.and_false, Bool.false_and, c, h2, a', decide_true, Bool.true_and]
      · simp only [Int.natCast_zero] at b
        have a' : (p.2.1.all fun x => Mab x && decide (x ≠ p.1)) = false := a
        have hz' : decide (z.2.2.2.2.2.2.1 ≥ 0) = true := by simpa using hz
        simp (disch := omega) only [Aca, Aea, Ada, Ama, hz', b, Aaa, Gaa, Ema, Bool.and_false, Bool.false_and, a']
    · simp (disch := omega) only [Aca, Aea, Ada, Aga, h2, decide_false, Bool.and_false, Bool.false_and]
def Aob (l : List Aka) (id : Id) : Int := match Lya l id with
  | some n => n
  | none => -1
theorem Qoa (l : List Aka) (s : Id) (hb : l.length < 4611686018427387903) : ∀ (r : List Aka) (i : Nat), l.drop i = r → i ≤ l.length →
    ∃ y, Ata (s.1, s.2.1, l, (l.length : Int), (i : Int), ()) = some y ∧ (match y with
      | .inl z => ∃ n, Lya r s = some n ∧ z.2.2.2.1 = ((i + n : Nat) : Int)
      | .inr _ => Lya r s = none)
  | [], i, h, hi => by
    have := Afa h hi
    subst this
    rw [Dma]
    simp (disch := omega) only [Bia, PP]
    exact ⟨_, rfl, rfl⟩
  | f :: r, i, h, hi => by
    obtain ⟨h1, h2, h3, h4⟩ := Aba h
    rw [Dma]
    by_cases hf : f.1 = s
    · simp (disch := first | omega | exact hf) only [Bia, PP, h2, Kja]
      exact ⟨_, rfl, 0, by simp [Lya, List.findIdx?_cons, hf], by simp⟩
    · simp (disch := first | omega | exact hf) only [Bia, PP, h2, Kja]
      obtain ⟨y, e, p⟩ := Qoa l s hb r (i + 1) h3 (by omega)
      refine ⟨y, e, ?_⟩
      have hc : Lya (f :: r) s = (Lya r s).map (· + 1) := by simp [Lya, List.findIdx?_cons, hf]
      cases y with
      | inl z =>
        simp only at p ⊢
        obtain ⟨n, p1, p2⟩ := p
        exact ⟨n + 1, by rw [hc, p1]; rfl, by rw [p2]; omega⟩
      | inr z => simp only at p ⊢; rw [hc, p]; rfl
theorem Nea (l : List Aka) (s : Id) (hb : l.length < 4611686018427387903) : Iia (l, s, ()) = some (Aob l s, ()) := by
  obtain ⟨y, e, p⟩ := Qoa l s hb l 0 rfl (by omega)
  simp only [Int.natCast_zero] at e
  rw [Dib]
  unfold Xza Aob
  simp only [e, Aaa]
  cases y with
  | inl z =>
    simp only at p
    obtain ⟨n, p1, p2⟩ := p
    simp only [Gaa, p1, p2, Nat.zero_add]
  | inr z => simp only at p; simp only [Ema, p]
theorem Zka (l : List Aka) (id : Id) : Aob l id < 0 ↔ Lya l id = none := by
  unfold Aob
  cases Lya l id with
  | none => simp
  | some n => simp <;> omega
theorem Lsb (l : List Aka) (i : Nat) (p : Aka) (h : l.drop i = p :: l.drop (i + 1)) (hi : i < l.length) : Aob l p.1 < (i : Int) ↔ p.1 ∈ (l.take i).map (·.1) := by
  have hs : Lya l p.1 = (Lya (l.take i) p.1).or (some i) := by
    conv => lhs; rw [← List.take_append_drop i l, h]
    unfold Lya
    rw [List.findIdx?_append, List.findIdx?_cons, if_pos (by simp)]
    simp only [Option.map_some, Nat.zero_add, List.length_take, Nat.min_eq_left (Nat.le_of_lt hi)]
  unfold Aob
  rw [hs]
  cases ht : Lya (l.take i) p.1 with
  | none =>
    simp only [Option.none_or, Int.lt_irrefl, false_iff]
    unfold Lya at ht
    rw [List.findIdx?_eq_none_iff] at ht
    rw [List.mem_map]
    rintro ⟨x, hx, e⟩
    have := ht x hx
    simp [e] at this
  | some n =>
    simp only [Option.some_or]
    unfold Lya at ht
    rw [List.findIdx?_eq_some_iff_getElem] at ht
    obtain ⟨hn, he, _⟩ := ht
    have hlt : n < i := by simp at hn; omega
    constructor
    · intro _
      rw [List.mem_map]
      exact ⟨_, List.getElem_mem hn, by simpa using he⟩
    · intro _; omega
theorem Qna (l : List Aka) (hl : l.length ≤ 1000000) (hw : ∀ p ∈ l, p.2.2.2.1.length ≤ 1000) : ∀ (r : List Aka) (i : Nat) (acc : List Bqa), l.drop i = r → i ≤ l.length → acc.length + r.length * 1000 ≤ 1000000000 →
    Jca (acc, l, (l.length : Int), (i : Int), ()) = some (acc ++ Jub r, l, (l.length : Int), (l.length : Int), ())
  | [], i, acc, h, hi, ha => by
    have := Afa h hi
    subst this
    rw [Qma]
    simp (disch := omega) only [Mva, PP, Jub, List.flatMap_nil, List.append_nil]
  | p :: r, i, acc, h, hi, ha => by
    obtain ⟨h1, h2, h3, h4⟩ := Aba h
    have hM := Aia
    have hp := hw p h4
    simp only [List.length_cons] at ha
    rw [Qma]
    simp (disch := omega) only [Mva, PP, h2]
    rw [Qna l hl hw r (i + 1) _ h3 (by omega) (by simp; omega)]
    simp [Jub]
theorem Fyb (l : List Aka) (hl : l.length ≤ 1000000) (hw : ∀ p ∈ l, p.2.2.2.1.length ≤ 1000) : Uya (l, ()) = some (Jub l, ()) := by
  have e := Qna l hl hw l 0 [] rfl (by omega) (by simp; omega)
  simp only [Int.natCast_zero, List.nil_append] at e
  rw [Fxb]
  simp (disch := omega) only [Blb, PP, e]
theorem Hyb (l : List Aka) (hw : ∀ p ∈ l, p.2.2.2.1.length ≤ 1000) : (Jub l).length ≤ l.length * 1000 := Tla _ 1000 l hw
theorem Iqb {l : List Aka} (hw : ∀ p ∈ l, Gta p) : ∀ c ∈ Jub l, Rza c := by
  intro c hc
  obtain ⟨p, hp, h⟩ := List.mem_flatMap.1 hc
  exact (hw p hp).l c h
theorem Sya (t : Aha) (l : List Aka) (ht : Fit 100000 10000000 t) (hl : l.length ≤ 100) (hw : ∀ p ∈ l, Gta p) : Kva (t, l, ()) = some ((Nwa t l).1, (Nwa t l).2, ()) := by
  have hn : ∀ p ∈ l, p.2.2.2.1.length ≤ 1000 := fun p hp => (hw p hp).n
  have e1 := Fyb l (by omega) hn
  have hlen := Hyb l hn
  have e2 := Cxb t (Jub l) ht (by omega) (fun c hc => (Iqb hw c hc).w')
  rw [Bbb]
  simp only [Wga, e1, e2, Aaa]
  rfl
theorem Kub {s : Str} (h : Frb s = true) : s.size ≤ 80 := by
  simp only [Frb, Bool.and_eq_true, decide_eq_true_eq] at h; exact h.1
structure Rsa (t : Aha) : Prop where
  m : Mid t
  s : Xga t
theorem Rsa.w {t : Aha} (h : Rsa t) : Wee t := ⟨by have := h.m.1; omega, fun f hf => by have := h.m.2 f hf; omega⟩
theorem Rsa.n {t : Aha} (h : Rsa t) : t.length < 4611686018427387903 := by have := h.m.1; omega
theorem Rsa.may {t : Aha} (h : Paa t = true) : Rsa t := by
  obtain ⟨h1, h2, h3⟩ := Una.1 h
  refine ⟨⟨by omega, fun f hf => ?_⟩, fun f hf => ?_⟩
  · have := (h1 f hf).2
    simp only [Xka, Bool.and_eq_true, decide_eq_true_eq] at this
    omega
  · obtain ⟨a, b⟩ := h1 f hf
    have a' := Upa a
    simp only [Xka, Bool.and_eq_true, decide_eq_true_eq, List.all_eq_true] at b
    exact ⟨by omega, fun s hs => by have := Kub (b.2 s hs); omega, by omega⟩
structure Jja (r : Msa) : Prop where
  l : ∀ p ∈ r.2.1, Gta p
  n : r.2.1.length ≤ 1000
  b : Rsa r.2.2.1
  w : Rsa r.2.2.2.1
theorem Via (r : Msa) : ((r.1, r.2.1, r.2.2.1, r.2.2.2.1, r.2.2.2.2.1, ()) : Msa) = r := rfl
theorem Tca (r : Msa) (hr : Jja r) : ∀ (m : List Aka) (i : Nat), r.2.1.drop i = m → i ≤ r.2.1.length →
    (Gob ((r.2.1.take i).map (·.1)) m r.1 r.2.2.2.2.1 = true ∧ Ika (r.1, r.2.1, r.2.2.1, r.2.2.2.1, r.2.2.2.2.1, r.2.1, (r.2.1.length : Int), (i : Int), ()) = some (.inr (r.1, r.2.1, r.2.2.1, r.2.2.2.1, r.2.2.2.2.1, r.2.1, (r.2.1.length : Int), (r.2.1.length : Int), ()))) ∨
    (Gob ((r.2.1.take i).map (·.1)) m r.1 r.2.2.2.2.1 = false ∧ ∃ z, Ika (r.1, r.2.1, r.2.2.1, r.2.2.2.1, r.2.2.2.2.1, r.2.1, (r.2.1.length : Int), (i : Int), ()) = some (.inl z))
  | [], i, h, hi => by
    have := Afa h hi
    have hn := hr.n
    subst this
    rw [Tba]
    simp (disch := omega) only [Dqa, PP]
    exact .inl ⟨by rfl, trivial⟩
  | p :: m, i, h, hi => by
    obtain ⟨h1, h2, h3, h4⟩ := Aba h
    have hn := hr.n
    have e1 := Xba p (hr.l p h4)
    have e2 := Nea r.2.1 p.1 (by omega)
    have hlt := Lsb r.2.1 i p (by rw [h, h3]) h1
    have ih := Tca r hr m (i + 1) h3 (by omega)
    have ht : (r.2.1.take (i + 1)).map (·.1) = (r.2.1.take i).map (·.1) ++ [p.1] := by
      have hg : r.2.1[i]? = some p := by
        have := congrArg (·[0]?) h
        simpa using this
      rw [List.take_add_one, hg]; simp
    rw [ht] at ih
    rw [Tba, Gob]
    cases hm : Gyb p with
    | false =>
      rw [hm] at e1
      simp (disch := omega) only [Dqa, PP, h2, Bxa, Cda, e1]
      exact .inr ⟨rfl, _, rfl⟩
    | true =>
      rw [hm] at e1
      by_cases hf : Aob r.2.1 p.1 < (i : Int)
      · simp (disch := omega) only [Dqa, PP, h2, Bxa, Cda, e1, e2]
        have : p.1 ∈ (r.2.1.take i).map (·.1) := hlt.1 hf
        exact .inr ⟨by simp only [this, not_true_eq_false, decide_false, Bool.and_false, Bool.false_and], _, rfl⟩
      · have hno : p.1 ∉ (r.2.1.take i).map (·.1) := fun k => hf (hlt.2 k)
        by_cases hw : p.1.1 = r.1
        · by_cases hmd : r.2.2.2.2.1 < p.1.2.1
          · simp (disch := first | omega | exact hw) only [Dqa, PP, h2, Bxa, Cda, e1, e2, Bwa]
            exact .inr ⟨by simp [hw, hmd], _, rfl⟩
          · simp (disch := first | omega | exact hw) only [Dqa, PP, h2, Bxa, Cda, e1, e2, Bwa]
            simp only [hno, hmd, not_false_eq_true, decide_true, decide_false, Bool.and_false, Bool.not_false, Bool.true_and]
            exact ih
        · simp (disch := first | omega | exact hw) only [Dqa, PP, h2, Bxa, Cda, e1, e2, Bwa]
          simp only [hno, hw, not_false_eq_true, decide_true, decide_false, Bool.false_and, Bool.not_false, Bool.true_and]
          exact ih
theorem Nha (r : Msa) (hr : Jja r) : Nga (r, ()) = some (Fsb r, ()) := by
  have hn := hr.n
  rw [Hhb]
  unfold Emb Fsb
  by_cases h0 : 0 ≤ r.1
  · by_cases h1 : r.1 < 8
    · by_cases h2 : r.2.1.length ≤ 60
      · by_cases h3 : 0 ≤ r.2.2.2.2.1
        · by_cases h4 : r.2.2.2.2.1 ≤ 1048576
          · have hA := Sya [] r.2.1 ⟨by simp, by simp⟩ (by omega) hr.l
            have hB := Eha r.2.2.1 hr.b.s hr.b.n
            have hW := Eha r.2.2.2.1 hr.w.s hr.w.n
            rcases Tca r hr r.2.1 0 rfl (by omega) with ⟨a, b⟩ | ⟨a, z, b⟩
            · simp only [Int.natCast_zero, List.take_zero, List.map_nil] at a b
              simp (disch := omega) only [Ada, Aga, b, Aaa, Ema, hA, a, h0, h1, h2, h3, h4, decide_true, Bool.true_and, Bwa]
              by_cases h5 : (Nwa [] r.2.1).2 = 0
              · have eS : Kya ((Nwa [] r.2.1).1, r.2.2.1, ()) = some (decide ((Nwa [] r.2.1).1 = r.2.2.1), ()) := by
                  have ht : Wee (Nwa [] r.2.1).1 := by
                    have hal := Hyb r.2.1 (fun p hp => (hr.l p hp).n)
                    have fit : ∀ (l : List Bqa) (t : Aha) (n m : Nat), Fit n m t → Fit (n + l.length) (m + l.length * 200) (Dna t l).1 := by
                      intro l
                      induction l with
                      | nil => intro t n m h; exact h.mono (by simp) (by simp)
                      | cons p l ih =>
                        intro t n m h
                        unfold Dna
                        split
                        · rename_i h0
                          exact (ih _ _ _ (Bvb h h0)).mono (by simp; omega) (by simp; omega)
                        · exact ⟨by simp, by simp⟩
                    have := fit (Jub r.2.1) [] 0 0 ⟨by simp, by simp⟩
                    exact this.wee (by omega) (by omega)
                  exact Xfa _ _ ht
                simp only [h5, decide_true, Aca, eS, Aaa, Bool.true_and]
                by_cases h6 : (Nwa [] r.2.1).1 = r.2.2.1
                · simp only [h6, decide_true, Aca, hB, Aaa, Bool.true_and]
                  cases h7 : Paa r.2.2.1 with
                  | false => simp only [Aea, Bool.false_and]
                  | true => simp only [Aca, hW, Aaa, Bool.true_and]
                · simp only [h6, decide_false, Aea, Bool.false_and]
              · simp only [h5, decide_false, Aea, Bool.false_and]
            · simp only [Int.natCast_zero, List.take_zero, List.map_nil] at a b
              simp (disch := omega) only [Ada, Aga, b, Aaa, Gaa, a, Bool.and_false, Bool.false_and]
          · simp (disch := omega) only [Ada, Aga, h4, decide_false, Bool.and_false, Bool.false_and]
        · simp (disch := omega) only [Ada, Aga, h3, decide_false, Bool.and_false, Bool.false_and]
      · simp (disch := omega) only [Ada, Aga, h2, decide_false, Bool.and_false, Bool.false_and]
    · simp (disch := omega) only [Ada, Aga, h1, decide_false, Bool.and_false, Bool.false_and]
  · simp (disch := omega) only [Ada, Aga, h0, decide_false, Bool.and_false, Bool.false_and]
theorem Kbb {t : Aha} (h : Paa t = true) : Zia t ByteArray.empty = t := by
  have hn : Ava t ByteArray.empty = none := Fda fun f hf e => by
    have := ((Una.1 h).1 f hf).1
    rw [e] at this
    simp [Foa] at this
  have : ¬ at_ t ByteArray.empty < t.length := by
    rw [Jxb, hn]; simp
  unfold Zia
  exact List.eraseIdx_of_length_le (by omega)
theorem Nja {t : Aha} (h : Paa t = true) : Hua (t, ()) = some (t, ()) := by
  have e := Tta t ByteArray.empty (Rsa.may h).w
  rw [Kbb h] at e
  rw [Hib]
  simp only [Enb, e, Aaa]
theorem Xda (r : Msa) (hr : Jja r) : Qra (r, ()) = some (Dba r, ()) := by
  have e1 := Nha r hr
  have e2 := Jcb r.2.2.1 r.2.2.2.1 hr.b.m hr.w.m hr.b.s hr.w.s
  rw [Gdb]
  unfold Bnb Dba
  simp only [Via, e1, Aaa, Ama]
  cases h : Fsb r with
  | false => simp only [Aea, Bool.false_eq_true, if_false]
  | true =>
    have hm := (Mja r).1 h
    rw [hm.b, hm.k] at e2
    simp only [Bool.and_self, if_true] at e2
    simp only [Aca, e2, Aaa, if_true]
def Zsa (h : Pca) : Bool := (decide (h.2.1.length ≤ 300) && Oha h.2.1) && (decide (h.2.2.1.length ≤ 300) && Oha h.2.2.1)
def Vua (p : Bqa) : Bool := Zsa p.2.2.2.1 && (decide (p.2.1.size ≤ 100) && decide (p.2.2.1.size ≤ 100))
def Lnb (l : List Bqa) : Bool := l.all fun p => Vua p && decide (p.2.2.2.1.1 ≤ 524288)
def Vta (p : Aka) : Bool := (decide (p.2.2.2.1.length ≤ 10) && Lnb p.2.2.2.1) && (decide (p.2.1.length ≤ 100) && decide (p.2.2.1.size ≤ 200))
def Lmb (l : List Aka) : Bool := l.all Vta
structure Alb (p : Aka) : Prop where
  n : p.2.2.2.1.length < 4611686018427387903
  l : ∀ c ∈ p.2.2.2.1, Akb c
  d : p.2.1.length < 4611686018427387903
structure Nrb (r : Msa) : Prop where
  n : r.2.1.length < 4611686018427387903
  l : ∀ p ∈ r.2.1, Alb p
  b : Xga r.2.2.1
  bn : r.2.2.1.length < 4611686018427387903
  w : Xga r.2.2.2.1
  wn : r.2.2.2.1.length < 4611686018427387903
theorem Arb (h : Pca) (h1 : h.2.1.length < 4611686018427387903) (h2 : h.2.2.1.length < 4611686018427387903) : Kna (h, ()) = some (Zsa h, ()) := by
  rw [Aqb]
  have e1 := Fja h.2.1 h1
  have e2 := Fja h.2.2.1 h2
  simp only [Wca, e1, e2, Aaa, Zsa]
  cases (decide (h.2.1.length ≤ 300) && Oha h.2.1) <;> rfl
theorem Csb (a b : Nat) : decide ((a : Int) ≤ (b : Int)) = decide (a ≤ b) := by rw [decide_eq_decide]; omega
theorem Aub (p : Bqa) (h : Akb p) : Kpa (p, ()) = some (Vua p, ()) := by
  rw [Atb]
  have e1 := Arb p.2.2.2.1 h.1 h.2
  have e2 : decide ((p.2.2.1.size : Int) ≤ 100) = decide (p.2.2.1.size ≤ 100) := Csb p.2.2.1.size 100
  have e3 : decide ((p.2.1.size : Int) ≤ 100) = decide (p.2.1.size ≤ 100) := Csb p.2.1.size 100
  unfold Wda Vua
  simp only [Uka, e1, e2, e3, Aaa]
  cases Zsa p.2.2.2.1 with
  | false => simp only [Aea, Bool.false_and]
  | true =>
    by_cases hn : p.2.1.size ≤ 100
    · simp only [Aca, hn, decide_true, Bool.true_and]
    · simp only [Aca, Aea, hn, decide_false, Bool.true_and, Bool.false_and]
theorem Pza (l : List Bqa) (hs : ∀ p ∈ l, Akb p) (hb : l.length < 4611686018427387903) : ∀ (r : List Bqa) (i : Nat), l.drop i = r → i ≤ l.length →
    ∃ y, Jaa (l, (i : Int), ()) = some y ∧ (match y with
      | .inl _ => Lnb r = false
      | .inr _ => Lnb r = true)
  | [], i, h, hi => by
    have := Afa h hi
    subst this
    rw [Pya]
    simp (disch := omega) only [Gwa, PP]
    exact ⟨_, rfl, rfl⟩
  | f :: r, i, h, hi => by
    obtain ⟨h1, h2, h3, h4⟩ := Aba h
    have e1 := Aub f (hs f h4)
    rw [Pya]
    cases hl : Vua f with
    | false =>
      rw [hl] at e1
      simp (disch := omega) only [Gwa, PP, h2, Cza, e1]
      exact ⟨_, rfl, by simp [Lnb, hl]⟩
    | true =>
      rw [hl] at e1
      by_cases hc : f.2.2.2.1.1 ≤ 524288
      · simp (disch := omega) only [Gwa, PP, h2, Cza, e1]
        obtain ⟨y, e, p⟩ := Pza l hs hb r (i + 1) h3 (by omega)
        refine ⟨y, e, ?_⟩
        cases y with
        | inl z => simp only [Lnb, List.all_cons, hl, hc, decide_true, Bool.true_and] at p ⊢; exact p
        | inr z => simp only [Lnb, List.all_cons, hl, hc, decide_true, Bool.true_and] at p ⊢; exact p
      · simp (disch := omega) only [Gwa, PP, h2, Cza, e1]
        exact ⟨_, rfl, by simp [Lnb, hc]⟩
theorem Fmb (l : List Bqa) (hs : ∀ p ∈ l, Akb p) (hb : l.length < 4611686018427387903) : Pxa (l, 10, ()) = some (decide (l.length ≤ 10) && Lnb l, ()) := by
  rw [Flb]
  by_cases h : l.length ≤ 10
  · obtain ⟨y, e, p⟩ := Pza l hs hb l 0 rfl (by omega)
    simp only [Int.natCast_zero] at e
    cases y with
    | inl z => simp only at p; simp (disch := omega) only [Qwa, PP, e, p, Bool.and_false]
    | inr z => simp only at p; simp (disch := omega) only [Qwa, PP, e, p, h, decide_true, Bool.true_and]
  · simp (disch := omega) only [Qwa, PP, h, decide_false, Bool.false_and]
theorem Awb (p : Aka) (h : Alb p) : Kqa (p, 10, ()) = some (Vta p, ()) := by
  rw [Avb]
  have e1 := Fmb p.2.2.2.1 h.l h.n
  have e2 : decide ((p.2.2.1.size : Int) ≤ 200) = decide (p.2.2.1.size ≤ 200) := Csb p.2.2.1.size 200
  have e3 : decide ((p.2.1.length : Int) ≤ 100) = decide (p.2.1.length ≤ 100) := Csb p.2.1.length 100
  unfold Wea Vta
  simp only [e1, e2, e3, Aaa]
  cases (decide (p.2.2.2.1.length ≤ 10) && Lnb p.2.2.2.1) with
  | false => simp only [Aea, Bool.false_and]
  | true =>
    by_cases hn : p.2.1.length ≤ 100
    · simp only [Aca, hn, decide_true, Bool.true_and]
    · simp only [Aca, Aea, hn, decide_false, Bool.true_and, Bool.false_and]
theorem Qba (l : List Aka) (hs : ∀ p ∈ l, Alb p) (hb : l.length < 4611686018427387903) : ∀ (r : List Aka) (i : Nat), l.drop i = r → i ≤ l.length →
    ∃ y, Jba (l, (i : Int), ()) = some y ∧ (match y with
      | .inl _ => Lmb r = false
      | .inr _ => Lmb r = true)
  | [], i, h, hi => by
    have := Afa h hi
    subst this
    rw [Qaa]
    simp (disch := omega) only [Jra, PP]
    exact ⟨_, rfl, rfl⟩
  | f :: r, i, h, hi => by
    obtain ⟨h1, h2, h3, h4⟩ := Aba h
    have e1 := Awb f (hs f h4)
    rw [Qaa]
    cases hl : Vta f with
    | false =>
      rw [hl] at e1
      simp (disch := omega) only [Jra, PP, h2, Bxa, Cda, e1]
      exact ⟨_, rfl, by simp [Lmb, hl]⟩
    | true =>
      rw [hl] at e1
      simp (disch := omega) only [Jra, PP, h2, Bxa, Cda, e1]
      obtain ⟨y, e, p⟩ := Qba l hs hb r (i + 1) h3 (by omega)
      refine ⟨y, e, ?_⟩
      cases y with
      | inl z => simp only [Lmb, List.all_cons, hl, Bool.true_and] at p ⊢; exact p
      | inr z => simp only [Lmb, List.all_cons, hl, Bool.true_and] at p ⊢; exact p
theorem Fob (l : List Aka) (n : Nat) (hn : n ≤ 1000) (hs : ∀ p ∈ l, Alb p) (hb : l.length < 4611686018427387903) : Mfa (l, (n : Int), ()) = some (decide (l.length ≤ n) && Lmb l, ()) := by
  rw [Fnb]
  by_cases h : l.length ≤ n
  · obtain ⟨y, e, p⟩ := Qba l hs hb l 0 rfl (by omega)
    simp only [Int.natCast_zero] at e
    cases y with
    | inl z => simp only at p; simp (disch := omega) only [Qxa, PP, e, p, Bool.and_false]
    | inr z => simp only at p; simp (disch := omega) only [Qxa, PP, e, p, h, decide_true, Bool.true_and]
  · simp (disch := omega) only [Qxa, PP, h, decide_false, Bool.false_and]
theorem Ksb {p : Bqa} (h : Vua p = true) : Rza p := by
  simp only [Vua, Zsa, Bool.and_eq_true, decide_eq_true_eq] at h
  exact ⟨h.2.1, h.2.2, h.1.1.1, h.1.2.1⟩
theorem Krb {p : Aka} (h : Vta p = true) : Gta p ∧ p.2.2.2.1.length ≤ 10 := by
  simp only [Vta, Lnb, Bool.and_eq_true, decide_eq_true_eq, List.all_eq_true] at h
  exact ⟨⟨fun c hc => Ksb (h.1.2 c hc).1, by omega, by omega, by omega⟩, h.1.1⟩
def Tra (t : Aha) : Bool := t.all fun f => decide (f.2.1.length ≤ 40)
theorem Mha (t : Aha) (hb : t.length < 4611686018427387903) : ∀ (r : Aha) (i : Nat), t.drop i = r → i ≤ t.length →
    ∃ y, Fla (t, (i : Int), ()) = some y ∧ (match y with
      | .inl _ => Tra r = false
      | .inr _ => Tra r = true)
  | [], i, h, hi => by
    have := Afa h hi
    subst this
    rw [Mga]
    simp (disch := omega) only [Gxa, PP]
    exact ⟨_, rfl, rfl⟩
  | f :: r, i, h, hi => by
    obtain ⟨h1, h2, h3, h4⟩ := Aba h
    rw [Mga]
    by_cases hc : f.2.1.length ≤ 40
    · simp (disch := omega) only [Gxa, PP, h2]
      obtain ⟨y, e, p⟩ := Mha t hb r (i + 1) h3 (by omega)
      refine ⟨y, e, ?_⟩
      cases y with
      | inl z => simp only [Tra, List.all_cons, hc, decide_true, Bool.true_and] at p ⊢; exact p
      | inr z => simp only [Tra, List.all_cons, hc, decide_true, Bool.true_and] at p ⊢; exact p
    · simp (disch := omega) only [Gxa, PP, h2]
      exact ⟨_, rfl, by simp [Tra, hc]⟩
def Lra (t : Aha) : Bool := (decide (t.length ≤ 40) && Qda t) && (decide (t.length ≤ 6) && Tra t)
theorem Sla (t : Aha) (hs : Xga t) (hb : t.length < 4611686018427387903) : Ksa (t, ()) = some (Lra t, ()) := by
  rw [Bab]
  cases hl : (decide (t.length ≤ 40) && Qda t) with
  | false => simp (disch := first | omega | assumption) only [Iua, PP, Isa, hl, Bool.not_false, Lra, Bool.false_and]
  | true =>
    by_cases h6 : t.length ≤ 6
    · obtain ⟨y, e, p⟩ := Mha t hb t 0 rfl (by omega)
      simp only [Int.natCast_zero] at e
      cases y with
      | inl z => simp only at p; simp (disch := first | omega | assumption) only [Iua, PP, Isa, hl, Bool.not_true, Lra, e, p, Bool.true_and, Bool.and_false]
      | inr z => simp only at p; simp (disch := first | omega | assumption) only [Iua, PP, Isa, hl, Bool.not_true, Lra, e, p, h6, decide_true, Bool.true_and]
    · simp (disch := first | omega | assumption) only [Iua, PP, Isa, hl, Bool.not_true, Lra, h6, decide_false, Bool.true_and, Bool.false_and]
theorem Gfb {t : Aha} (h : Lra t = true) : Rsa t ∧ t.length ≤ 6 ∧ ∀ f ∈ t, f.2.1.length ≤ 40 := by
  simp only [Lra, Tra, Bool.and_eq_true, decide_eq_true_eq, List.all_eq_true] at h
  obtain ⟨h1, h2, h3⟩ := Ktb h.1.1 h.1.2
  exact ⟨⟨⟨by omega, fun f hf => by have := h.2.2 f hf; omega⟩, h3⟩, h.2.1, h.2.2⟩
def Zra (r : Msa) : Bool := (decide (r.2.1.length ≤ 10) && Lmb r.2.1) && (Lra r.2.2.1 && Lra r.2.2.2.1)
theorem Ayb (r : Msa) (h : Nrb r) : Kra (r, ()) = some (Zra r, ()) := by
  rw [Axb]
  have e1 : Mfa (r.2.1, 10, ()) = some (decide (r.2.1.length ≤ 10) && Lmb r.2.1, ()) := Fob r.2.1 10 (by omega) h.l h.n
  have e2 := Sla r.2.2.1 h.b h.bn
  have e3 := Sla r.2.2.2.1 h.w h.wn
  simp only [Wfa, e1, e2, e3, Aaa, Zra]
  cases (decide (r.2.1.length ≤ 10) && Lmb r.2.1) <;> cases Lra r.2.2.1 <;> rfl
theorem Kqb {r : Msa} (h : Zra r = true) : Jja r ∧ r.2.1.length ≤ 10 := by
  simp only [Zra, Lmb, Bool.and_eq_true, decide_eq_true_eq, List.all_eq_true] at h
  exact ⟨⟨fun p hp => (Krb (h.1.2 p hp)).1, by omega, (Gfb h.2.1).1, (Gfb h.2.2).1⟩, h.1.1⟩
instance : DecidableEq Bqa := instDecidableEqProd
instance : DecidableEq Aka := instDecidableEqProd
instance : DecidableEq (List Aka) := inferInstance
instance : DecidableEq (Aha × Aha × Int × Unit) := instDecidableEqProd
instance : DecidableEq (List Aka × Aha × Aha × Int × Unit) := instDecidableEqProd
instance : DecidableEq Msa := instDecidableEqProd
theorem Gta.s {p : Aka} (h : Gta p) : Alb p := ⟨by have := h.n; omega, fun c hc => (h.l c hc).w'.s, by have := h.d; omega⟩
theorem Ota (p q : Aka) (l m : List Id) (hl : l.length < 4611686018427387903) (hlm : l.length = m.length) : ∀ (r : List Id) (i : Nat), l.drop i = r → i ≤ l.length →
    ∃ y, Hta (p.1.1, p.1.2.1, l, p.2.2.1, p.2.2.2.1, q.1.1, q.1.2.1, m, q.2.2.1, q.2.2.2.1, (i : Int), ()) = some y ∧ (match y with
      | .inl _ => l.drop i ≠ m.drop i
      | .inr _ => l.drop i = m.drop i)
  | [], i, h, hi => by
    have := Afa h hi
    subst this
    rw [Osa]
    simp (disch := omega) only [Iqa, PP]
    exact ⟨_, rfl, by simp only; rw [List.drop_length, hlm, List.drop_length]⟩
  | f :: r, i, h, hi => by
    obtain ⟨h1, h2, h3, h4⟩ := Aba h
    have hm : m.drop i = m[i] :: m.drop (i + 1) := List.drop_eq_getElem_cons (by omega)
    obtain ⟨m1, m2, m3, m4⟩ := Aba hm
    rw [Osa, h, hm]
    by_cases hf : f = m[i]
    · simp (disch := first | omega | exact hf) only [Iqa, PP, h2, m2, Kja]
      obtain ⟨y, e, p⟩ := Ota p q l m hl hlm r (i + 1) h3 (by omega)
      rw [h3] at p
      refine ⟨y, e, ?_⟩
      cases y with
      | inl z => simp only at p ⊢; intro k; exact p (List.cons.inj k).2
      | inr z => simp only at p ⊢; rw [hf, p]
    · simp (disch := first | omega | exact hf) only [Iqa, PP, h2, m2, Kja]
      exact ⟨_, rfl, fun k => hf (List.cons.inj k).1⟩
theorem Dyb (p q : Aka) (h : Alb p) : Rma (p, q, ()) = some (decide (p = q), ()) := by
  have e1 := Dsb p.2.2.2.1 q.2.2.2.1 h.l h.n
  rw [Dxb]
  unfold Yca
  simp only [e1, Aaa, Kja, Vra]
  by_cases hL : p.2.2.2.1 = q.2.2.2.1
  · by_cases hI : p.1 = q.1
    · by_cases hT : p.2.2.1 = q.2.2.1
      · by_cases hD : p.2.1.length = q.2.1.length
        · obtain ⟨y, e, k⟩ := Ota p q p.2.1 q.2.1 h.d hD p.2.1 0 rfl (by omega)
          simp only [Int.natCast_zero, List.drop_zero] at e k
          have hbn : ((p.2.1.length : Int) != (q.2.1.length : Int)) = false := by simp [hD]
          simp only [hL, hI, hT, decide_true, hbn, Ama, Aca, Aea]
          rw [hL, hI, hT] at e
          simp only [e, Aaa]
          obtain ⟨pi, pd, pt, pl, pu⟩ := p
          obtain ⟨qi, qd, qt, ql, qu⟩ := q
          simp only at hL hI hT hD e k
          subst hL hI hT
          cases y with
          | inl z => simp only at k; simp only [Gaa]; simp [k]
          | inr z => simp only at k; subst k; simp only [Ema]; simp
        · have hbn : ((p.2.1.length : Int) != (q.2.1.length : Int)) = true := by simp; omega
          have hne : p ≠ q := fun k => hD (by rw [k])
          simp only [hL, hI, hT, decide_true, hbn, Ama, Aca, Aea, hne, decide_false]
      · have hne : p ≠ q := fun k => hT (by rw [k])
        simp only [hL, hI, hT, decide_true, decide_false, Ama, Aca, Aea, hne]
    · have hne : p ≠ q := fun k => hI (by rw [k])
      simp only [hL, hI, decide_true, decide_false, Ama, Aca, Aea, hne]
  · have hne : p ≠ q := fun k => hL (by rw [k])
    simp only [hL, decide_false, Ama, Aea, hne]
theorem Ora (l m : List Aka) (hs : ∀ p ∈ l, Alb p) (hl : l.length < 4611686018427387903) (hlm : l.length = m.length) : ∀ (r : List Aka) (i : Nat), l.drop i = r → i ≤ l.length →
    ∃ y, Hsa (l, m, (i : Int), ()) = some y ∧ (match y with
      | .inl _ => l.drop i ≠ m.drop i
      | .inr _ => l.drop i = m.drop i)
  | [], i, h, hi => by
    have := Afa h hi
    subst this
    rw [Oqa]
    simp (disch := omega) only [Ipa, PP]
    exact ⟨_, rfl, by simp only; rw [List.drop_length, hlm, List.drop_length]⟩
  | f :: r, i, h, hi => by
    obtain ⟨h1, h2, h3, h4⟩ := Aba h
    have hm : m.drop i = m[i] :: m.drop (i + 1) := List.drop_eq_getElem_cons (by omega)
    obtain ⟨m1, m2, m3, m4⟩ := Aba hm
    have e1 := Dyb f m[i] (hs f h4)
    rw [Oqa, h, hm]
    by_cases hf : f = m[i]
    · rw [decide_eq_true hf] at e1
      simp (disch := omega) only [Ipa, PP, h2, m2, Bxa, Cda, e1]
      obtain ⟨y, e, p⟩ := Ora l m hs hl hlm r (i + 1) h3 (by omega)
      rw [h3] at p
      refine ⟨y, e, ?_⟩
      cases y with
      | inl z => simp only at p ⊢; intro k; exact p (List.cons.inj k).2
      | inr z => simp only at p ⊢; rw [hf, p]
    · rw [decide_eq_false hf] at e1
      simp (disch := omega) only [Ipa, PP, h2, m2, Bxa, Cda, e1]
      exact ⟨_, rfl, fun k => hf (List.cons.inj k).1⟩
theorem Dwb (l m : List Aka) (hs : ∀ p ∈ l, Alb p) (hl : l.length < 4611686018427387903) : Rla (l, m, ()) = some (decide (l = m), ()) := by
  rw [Dvb]
  by_cases hlm : l.length = m.length
  · obtain ⟨y, e, p⟩ := Ora l m hs hl hlm l 0 rfl (by omega)
    simp only [Int.natCast_zero, List.drop_zero] at e p
    have hbn : ((l.length : Int) != (m.length : Int)) = false := by simp [hlm]
    cases y with
    | inl z => simp only at p; simp only [Mza, hbn, e, PP, p, decide_false]
    | inr z => simp only at p; subst p; simp only [Mza, hbn, e, PP, decide_true]
  · have hbn : ((l.length : Int) != (m.length : Int)) = true := by simp; omega
    have : ¬ l = m := fun e => hlm (by rw [e])
    simp only [Mza, hbn, PP, this, decide_false]
theorem Ona (l m : Aha) (hw : Wee l) (hlm : l.length = m.length) : ∀ (r : Aha) (i : Nat), l.drop i = r → i ≤ l.length →
    ∃ y, Hqa (l, m, (i : Int), ()) = some y ∧ (match y with
      | .inl _ => l.drop i ≠ m.drop i
      | .inr _ => l.drop i = m.drop i)
  | [], i, h, hi => by
    have := Afa h hi
    have hb := hw.1
    subst this
    rw [Oma]
    simp (disch := omega) only [Fca, PP]
    exact ⟨_, rfl, by simp only; rw [List.drop_length, hlm, List.drop_length]⟩
  | f :: r, i, h, hi => by
    obtain ⟨h1, h2, h3, h4⟩ := Aba h
    have hb := hw.1
    have hm : m.drop i = m[i] :: m.drop (i + 1) := List.drop_eq_getElem_cons (by omega)
    obtain ⟨m1, m2, m3, m4⟩ := Aba hm
    have e1 := Hpa f.2.1 m[i].2.1 (by have := hw.2 f h4; omega)
    rw [Oma, h, hm]
    by_cases hf : f.2.1 = m[i].2.1
    · rw [decide_eq_true hf] at e1
      by_cases hn : f.1 = m[i].1
      · simp (disch := first | omega | exact hn) only [Fca, PP, h2, m2, e1]
        obtain ⟨y, e, p⟩ := Ona l m hw hlm r (i + 1) h3 (by omega)
        rw [h3] at p
        refine ⟨y, e, ?_⟩
        have hfm : f = m[i] := by
          obtain ⟨a, b, c⟩ := f
          exact Prod.ext hn (Prod.ext hf rfl)
        cases y with
        | inl z => simp only at p ⊢; intro k; exact p (List.cons.inj k).2
        | inr z => simp only at p ⊢; rw [hfm, p]
      · simp (disch := first | omega | exact hn) only [Fca, PP, h2, m2, e1]
        exact ⟨_, rfl, fun k => hn (by rw [(List.cons.inj k).1])⟩
    · rw [decide_eq_false hf] at e1
      simp (disch := omega) only [Fca, PP, h2, m2, e1]
      exact ⟨_, rfl, fun k => hf (by rw [(List.cons.inj k).1])⟩
theorem Vfa (l m : Aha) (hw : Wee l) : Mqa (l, m, ()) = some (decide (l = m), ()) := by
  rw [Dqb]
  by_cases hlm : l.length = m.length
  · obtain ⟨y, e, p⟩ := Ona l m hw hlm l 0 rfl (by omega)
    simp only [Int.natCast_zero, List.drop_zero] at e p
    have hbn : ((l.length : Int) != (m.length : Int)) = false := by simp [hlm]
    cases y with
    | inl z => simp only at p; simp only [Mxa, hbn, e, PP, p, decide_false]
    | inr z => simp only at p; subst p; simp only [Mxa, hbn, e, PP, decide_true]
  · have hbn : ((l.length : Int) != (m.length : Int)) = true := by simp; omega
    have : ¬ l = m := fun e => hlm (by rw [e])
    simp only [Mxa, hbn, PP, this, decide_false]
theorem Eab (a b : Msa) (ha : Jja a) : Mra (a, b, ()) = some (decide (a = b), ()) := by
  have e1 := Dwb a.2.1 b.2.1 (fun p hp => (ha.l p hp).s) (by have := ha.n; omega)
  have e2 := Vfa a.2.2.1 b.2.2.1 ha.b.w
  have e3 := Vfa a.2.2.2.1 b.2.2.2.1 ha.w.w
  rw [Dzb]
  simp only [Yda, e1, e2, e3, Aaa, Bwa]
  obtain ⟨a1, a2, a3, a4, a5, au⟩ := a
  obtain ⟨b1, b2, b3, b4, b5, bu⟩ := b
  by_cases h1 : a2 = b2
  · by_cases h2 : a3 = b3
    · by_cases h3 : a4 = b4
      · by_cases h4 : a1 = b1
        · simp [h1, h2, h3, h4, Aca]
        · simp [h1, h2, h3, h4, Aca, Aea]
      · simp [h1, h2, h3, Aca, Aea]
    · simp [h1, h2, Aca, Aea]
  · simp [h1, Aea]
theorem Jja.set {r : Msa} (h : Jja r) {t : Aha} (ht : Rsa t) : Jja (Okb r t) := ⟨h.l, h.n, h.b, ht⟩
theorem Kka (r : Msa) (hr : Jja r) : Dua (r.2.1, [], ()) = some (r.2.1, [], ()) := by
  have e3 := Jpa [] (by simp) r.2.1 [] (by have := hr.n; simp; omega) (by simpa using hr.l) (.inl rfl) (by simp)
  rwa [List.append_nil] at e3
theorem Rsa.fit {t : Aha} (h : Rsa t) : Fit 1000 1000 t := ⟨h.m.1, h.m.2⟩
theorem Mcb {a b : Aha} (ha : Rsa a) (hb : Rsa b) : (Zya a b).length ≤ 10000000 := by
  have := Jab ha.fit hb.m.1
  omega
theorem Iwb {r : Msa} {p : Aka} {t : Aha} (h : Jja r) (hm : Jjb r) (hp : Gta p) (ht : Rsa t) : Jja (Nba r p t) := by
  have := hm.n
  refine ⟨fun q hq => ?_, by simp only [Nba, List.length_append, List.length_singleton]; omega, ht, ht⟩
  simp only [Nba] at hq
  rcases List.mem_append.1 hq with hq | hq
  · exact h.l q hq
  · rw [List.mem_singleton.1 hq]; exact hp
theorem Taa (r : Msa) (hr : Jja r) (text : Str) (news : List Bqa) (n : Int) (l : List Id) (hb : l.length < 4611686018427387903) : ∀ (m : List Id) (i : Nat), l.drop i = m → i ≤ l.length →
    ((m.any fun d => (Lya r.2.1 d).isNone) = false ∧ Ala (r.2.1, r.1, r.2.1, r.2.2.1, r.2.2.2.1, r.2.2.2.2.1, r.1, r.2.2.1, r.2.2.2.1, r.2.2.2.2.1, r.1, r.2.2.1, r.2.2.2.1, r.2.2.2.2.1, r.1, n, r.1, n, l, text, news, l, (l.length : Int), (i : Int), ()) =
      some (.inr (r.2.1, r.1, r.2.1, r.2.2.1, r.2.2.2.1, r.2.2.2.2.1, r.1, r.2.2.1, r.2.2.2.1, r.2.2.2.2.1, r.1, r.2.2.1, r.2.2.2.1, r.2.2.2.2.1, r.1, n, r.1, n, l, text, news, l, (l.length : Int), (l.length : Int), ()))) ∨
    ((m.any fun d => (Lya r.2.1 d).isNone) = true ∧ ∃ z, Ala (r.2.1, r.1, r.2.1, r.2.2.1, r.2.2.2.1, r.2.2.2.2.1, r.1, r.2.2.1, r.2.2.2.1, r.2.2.2.2.1, r.1, r.2.2.1, r.2.2.2.1, r.2.2.2.2.1, r.1, n, r.1, n, l, text, news, l, (l.length : Int), (i : Int), ()) =
      some (.inl z) ∧ z.2.2.2.2.2.2.2.2.2.2.2.2.2.2.2.2.2.2.2.2.2.2.1 ≥ 0)
  | [], i, h, hi => by
    have := Afa h hi
    subst this
    rw [Faa]
    simp (disch := omega) only [Bsa, PP]
    exact .inl ⟨by rfl, trivial⟩
  | d :: m, i, h, hi => by
    obtain ⟨h1, h2, h3, h4⟩ := Aba h
    have hn := hr.n
    have e1 := Nea r.2.1 d (by omega)
    have ih := Taa r hr text news n l hb m (i + 1) h3 (by omega)
    rw [Faa]
    cases hf : Lya r.2.1 d with
    | none =>
      have hlt := (Zka r.2.1 d).2 hf
      simp (disch := first | omega | exact hlt) only [Bsa, PP, h2, Cda, e1]
      exact .inr ⟨by simp [hf], _, rfl, by simp only; omega⟩
    | some k =>
      have hlt : ¬ Aob r.2.1 d < 0 := fun h => by rw [Zka, hf] at h; cases h
      simp (disch := first | omega | exact hlt) only [Bsa, PP, h2, Cda, e1]
      simpa [hf] using ih
theorem Bdb (r : Msa) (text : Str) (deps : List Id) (hr : Jja r) (ht : text.size ≤ 1000) (hd : deps.length ≤ 1000) : Nia (r, text, deps, ()) = some ((Ija r text deps).1, (Ija r text deps).2, ()) := by
  have e1 := Nha r hr
  have e2 := Kka r hr
  have e3 := Xda r hr
  have hn := hr.n
  have hM := Aia
  rw [Bcb]
  unfold Wha Ija
  simp only [Via, e1, Aaa, Ama]
  cases h : Fsb r with
  | false => simp only [Aea, if_true]
  | true =>
    have hm := (Mja r).1 h
    have hn60 := hm.n
    have hm1 := hm.m1
    have hm0 := hm.m0
    rw [if_neg (by simp)]
    simp only [Aca, e2, Aaa, Nja hm.b, Nja hm.k, Aja, Nwb, e3]
    have hnl := Mcb hr.b hr.w
    rw [← Mla hm] at hnl
    have hw1 : IntKind.wrap .i64 (r.2.2.2.2.1 + 1) = r.2.2.2.2.1 + 1 := Aua (by omega) (by omega)
    by_cases hz : Dba r = []
    · have hz' : ((((Dba r).length : Nat) : Int) == 0) = true := by simp [hz]
      rw [if_pos hz]
      by_cases hf : r.2.1.length < 60
      · simp (disch := omega) only [Ada, Aga, Aca, Aea, Aaa, hz']
      · simp (disch := omega) only [Ada, Aga, Aca, Aea, Aaa, hz']
    · have hz0 : (Dba r).length ≠ 0 := fun e => hz (List.eq_nil_of_length_eq_zero e)
      have hz' : ((((Dba r).length : Nat) : Int) == 0) = false := by simp [hz]
      rw [if_neg hz]
      by_cases hf : r.2.1.length < 60
      · by_cases hf2 : r.2.2.2.2.1 < 1048576
        · have hfull : ¬ Xha r := by unfold Xha; omega
          by_cases h200 : 200 < (Dba r).length
          · rw [if_pos (.inr h200)]
            simp (disch := omega) only [Ada, Aga, Aca, Aea, Aaa, hz']
          · rw [if_neg (fun k => k.elim hfull h200)]
            have hlp : Gta (Vxa r, deps, text, Dba r, ()) := by
              refine ⟨fun c hc => ?_, by simp only; omega, hd, ht⟩
              simp only at hc
              rw [Mla hm] at hc
              exact Zva (Ijb hm.b hm.k hc)
            have e4 := Xba _ hlp
            have e4' : Moa (((r.1, r.2.2.2.2.1 + 1, ()), deps, text, Dba r, ()), ()) = some (Gyb (Vxa r, deps, text, Dba r, ()), ()) := e4
            cases hp : Gyb (Vxa r, deps, text, Dba r, ()) with
            | false =>
              rw [hp] at e4'
              simp (disch := omega) only [Ada, Aga, Aca, Aea, Aaa, hz', hw1, e4', if_true]
            | true =>
              rw [hp] at e4'
              rw [if_neg (by simp)]
              rcases Taa r hr text (Dba r) (r.2.2.2.2.1 + 1) deps (by omega) deps 0 rfl (by omega) with ⟨a, b⟩ | ⟨a, z, b, hz2⟩
              · simp only [Int.natCast_zero] at b
                rw [if_neg (by rw [a]; simp)]
                simp (disch := first | omega | (simp only [List.length_append, List.length_cons, List.length_nil]; omega)) only [Aja, Ada, Aga, Aca, Aea, Aaa, hz', hw1, e4', b, Ema, Nja hm.k]
                rfl
              · simp only [Int.natCast_zero] at b
                rw [if_pos a]
                simp (disch := first | omega | exact hz2) only [Aja, Ada, Aga, Aca, Aea, Aaa, hz', hw1, e4', b, Gaa]
        · have hfull : Xha r := by unfold Xha; omega
          rw [if_pos (.inl hfull)]
          simp (disch := omega) only [Ada, Aga, Aca, Aea, Aaa, hz']
      · have hfull : Xha r := by unfold Xha; omega
        rw [if_pos (.inl hfull)]
        simp (disch := omega) only [Ada, Aga, Aca, Aea, Aaa, hz']
theorem Kmb {α : Type} (l : List α) (p d : α) : (l ++ [p]).getD l.length d = p := by
  rw [List.getD_eq_getElem?_getD, List.getElem?_append_right (Nat.le_refl _)]; simp
theorem Vha (r : Msa) (p : Aka) (t : Aha) (hr : Jja r) (hm : Jjb r) (hs : Jja (Nba r p t)) (hms : Jjb (Nba r p t)) : Jta (Nba r p t, p.1, ()) = some ((r.1, r.2.1, r.2.2.1, t, r.2.2.2.2.1 + 1, ()), 0, ()) := by
  have e1 := Nha _ hs
  rw [(Mja _).2 hms] at e1
  have e2 := Kka _ hs
  have hn := hm.n
  have hids : ∀ q ∈ r.2.1, q.1 ∉ [p.1] := by
    intro q hq hc
    have hu := hms.u
    simp only [Nba, List.map_append, List.map_cons, List.map_nil] at hu
    rw [List.nodup_append] at hu
    exact hu.2.2 q.1 (List.mem_map.2 ⟨q, hq, rfl⟩) p.1 (by simp) (by simpa using hc)
  have e3 : Dua (r.2.1 ++ [p], [p.1], ()) = some (r.2.1, [p], ()) := Jpa [p.1] (by simp) r.2.1 [p] (by simp; omega) hs.l (.inr ⟨p, rfl, by simp⟩) hids
  have e4 : Iia (r.2.1 ++ [p], p.1, ()) = some (Aob (r.2.1 ++ [p]) p.1, ()) := Nea (r.2.1 ++ [p]) p.1 (by simp; omega)
  have hf : ¬ Aob (r.2.1 ++ [p]) p.1 < 0 := by
    rw [Zka]
    intro h
    unfold Lya at h
    rw [List.findIdx?_eq_none_iff] at h
    have := h p (by simp)
    simp at this
  have e5 := Sya [] r.2.1 ⟨by simp, by simp⟩ (by omega) hr.l
  rw [hm.a] at e5
  have e6 := Eha r.2.2.1 hr.b.s hr.b.n
  rw [hm.b] at e6
  have ht : Paa t = true := hms.k
  rw [Xia]
  unfold Saa
  simp only [Via, Cda, e1, Aaa, Ama, Aca]
  simp only [Nba] at e2 ⊢
  simp (disch := first | omega | exact hf) only [e4, e2, Aaa, Aga, Aja, Ada, Nwb, Nja ht, e3, e5, e6, List.length_cons, List.length_nil]
  rfl
theorem Hfb (r : Msa) (t : Str) (d : List Id) (h : (Ija r t d).2 ≠ 0) : (Ija r t d).1 = noR := by
  unfold Ija at h ⊢
  split
  · rfl
  · split
    · rfl
    · split
      · rfl
      · split
        · rfl
        · split
          · rfl
          · simp_all
theorem Rua (r : Msa) (text : Str) (hr : Nrb r) : Eia (r, text, ()) = some (true, ()) := by
  have e1 := Ayb r hr
  rw [Rta]
  unfold Lha
  simp only [Azb, Aaa, Via, e1, Ama, Aca]
  cases hl : Zra r with
  | false => simp only [Aea]
  | true =>
    obtain ⟨lr, hn10⟩ := Kqb hl
    by_cases h200 : 200 < text.size
    · simp (disch := omega) only [Aca, Ada]
    · have e2 := Bdb r text [] lr (by omega) (by simp)
      simp (disch := omega) only [Aca, Aga, e2, Aaa]
      by_cases h0 : (Ija r text []).2 = 0
      · obtain ⟨mr, ms, hs, hf, hmn⟩ := Jdb h0
        have hne : ((Ija r text []).2 != 0) = false := by simp [h0]
        simp only [hne, Aea]
        rw [hs] at ms ⊢
        have hm0 := mr.m0
        have hm1 := mr.m1
        have hlp : Gta (Vxa r, [], text, Dba r, ()) := by
          have h200' : (Dba r).length ≤ 200 := by
            simp only [Gyb, Bool.and_eq_true, decide_eq_true_eq] at hmn
            exact hmn.1.2
          refine ⟨fun c hc => ?_, by simp only; omega, by simp, by simp only; omega⟩
          simp only at hc
          rw [Mla mr] at hc
          exact Zva (Ijb mr.b mr.k hc)
        have ls := Iwb lr mr hlp lr.w
        have e3 := Xda _ ls
        have hnn : Dba (Nba r (Vxa r, [], text, Dba r, ()) r.2.2.2.1) = [] := by
          rw [Mla ms]
          exact (Lab mr.k mr.k).2 rfl
        rw [hnn] at e3
        have e4 := Xfa r.2.2.2.1 r.2.2.2.1 lr.w.w
        rw [decide_eq_true rfl] at e4
        have e5 := Vha r (Vxa r, [], text, Dba r, ()) r.2.2.2.1 lr mr ls ms
        have e6 := Eab r r lr
        rw [decide_eq_true rfl] at e6
        have hw1 : IntKind.wrap .i64 ((r.2.1.length : Int) + 1) = ((r.2.1.length + 1 : Nat) : Int) := Fxa (by omega)
        have hw2 : IntKind.wrap .i64 (r.2.2.2.2.1 + 1) = r.2.2.2.2.1 + 1 := Aua (by omega) (by omega)
        have e7 : Mra ((r.1, r.2.1, r.2.2.1, r.2.2.2.1, r.2.2.2.2.1, ()), r, ()) = some (true, ()) := e6
        simp only [Via, e3, Aaa]
        simp only [Nba] at e5 ⊢
        have hb1 : (((r.2.1.length + 1 : Nat) : Int) != ((r.2.1.length + 1 : Nat) : Int)) = false := by simp
        have hb2 : ((r.2.2.2.2.1 + 1 : Int) != (r.2.2.2.2.1 + 1 : Int)) = false := by simp
        simp (disch := omega) only [List.length_nil, e4, Aaa, Aea, Aca, List.length_append, List.length_cons, Nat.zero_add, hw1, hw2, hb1, hb2, Ada, Int.toNat_natCast, Kmb, Cda, e5, e7]
        rfl
      · have hne : ((Ija r text []).2 != 0) = true := by simp [h0]
        simp only [hne, Aca, Hfb r text [] h0, List.length_nil]
        rfl
def Xua (t : Aha) : Prop := ∀ f ∈ t, Foa f.1 = true ∧ ∀ x ∈ f.2.1, Frb x = true
theorem Xua.put {t : Aha} {s : Str} {l : List Str} (h : Xua t) (hs : Foa s = true) (hl : ∀ x ∈ l, Frb x = true) : Xua (Oxa t s l) := by
  intro f hf
  rcases Heb hf with rfl | hf
  · exact ⟨hs, hl⟩
  · exact h f hf
theorem Xua.del {t : Aha} {s : Str} (h : Xua t) : Xua (Zia t s) := fun f hf => h f (Kcb hf)
theorem Xua.get {t : Aha} (h : Xua t) (s : Str) : ∀ x ∈ (Ava t s).getD [], Frb x = true := by
  intro x hx
  cases hg : Ava t s with
  | none => rw [hg] at hx; simp at hx
  | some l =>
    rw [hg, Option.getD_some] at hx
    exact (h _ (Dab hg)).2 x hx
theorem Lqb {l : List Str} (h : Xka l = true) : ∀ x ∈ l, Frb x = true := by
  simp only [Xka, Bool.and_eq_true, List.all_eq_true] at h
  exact h.2
theorem Igb {h : Pca} (hm : Xoa h = true) : ∀ x ∈ h.2.2.1, Frb x = true := by
  simp only [Xoa, Bool.and_eq_true] at hm
  exact Lqb hm.2.2
theorem Izb {p : Bqa} (h : Fna p = true) : Foa p.2.1 = true ∧ (p.1 = 2 → Foa p.2.2.1 = true) := by
  unfold Fna at h
  split at h
  · simp only [Bool.and_eq_true, Cva] at h
    exact ⟨h.1.1, fun e => by omega⟩
  · split at h
    · simp only [Bool.and_eq_true] at h
      exact ⟨h.1.1, fun _ => h.1.2⟩
    · split at h
      · simp only [Bool.and_eq_true, Cva] at h
        exact ⟨h.1.1, fun e => by omega⟩
      · split at h
        · simp only [Bool.and_eq_true, Cva] at h
          exact ⟨h.1.1.1, fun e => by omega⟩
        · cases h
theorem Xua.doP {t u : Aha} {p : Bqa} (h : Xua t) (hm : Fna p = true) (hd : doP t p = some u) : Xua u := by
  obtain ⟨n1, n2⟩ := Izb hm
  unfold LI.doP at hd
  split at hd
  · split at hd
    · cases hd
    · cases hd; exact h.put n1 (by simp)
  · split at hd
    · split at hd
      · cases hd; exact h.del
      · cases hd
    · split at hd
      · split at hd
        · rename_i h2 _
          cases hd; exact h.del.put (n2 h2) (h.get p.2.1)
        · cases hd
      · split at hd
        · rename_i h3
          have hh := Jva hm (.inl h3)
          split at hd
          · cases hd
            refine h.put n1 ?_
            intro x hx
            simp only [Oza, List.mem_append] at hx
            rcases hx with hx | hx | hx
            · exact h.get p.2.1 x (List.mem_of_mem_take hx)
            · exact Igb hh x hx
            · exact h.get p.2.1 x (List.mem_of_mem_drop hx)
          · cases hd
        · rename_i h0 h1 h2 h3
          have hk := Vwa hm
          have hh := Jva hm (.inr (by omega))
          split at hd
          · cases hd; exact h.put n1 (Igb hh)
          · cases hd
def Sdb (x : Msa × Int) : Prop := Jja x.1 ∧ (x.2 = 0 → Jjb x.1)
theorem Sdb.may {x : Msa × Int} (h : Sdb x) : (x.2 != 0) = true ∨ ((x.2 != 0) = false ∧ (x.2 == 0) = true ∧ Nga (x.1, ()) = some (true, ())) := by
  by_cases h0 : x.2 = 0
  · refine .inr ⟨by simp [h0], by simp [h0], ?_⟩
    rw [Nha x.1 h.1, (Mja _).2 (h.2 h0)]
  · exact .inl (by simp [h0])
theorem Nzb {f : FuncId} {ash : List Shp} {F : dens ash Unit → Option (retS (.ty .bool) []).den} (h : nJb Tryz.prog th f ash (.ty .bool) [] F) {x : dens ash Unit} (e : F x = some (true, ())) :
    run Tryz.prog th (.call f (toLs (hEa.encSs [] ash _ x).1)) = some ⟨.normal, .sc (.bool true), default, {}⟩ := h x (true, ()) e
theorem Hgb : Rep Tryz.prog 56 (fun l : List ByteArray => .slice (l.map (eEa .str))) (fun l => (∀ x ∈ l, x.size ≤ reachBytes) ∧ l.length * Tryz.prog.bytesOf 9 ≤ reachBytes) :=
  Rep.slice Tryz.underlying56 (Rep.str Tryz.underlying9)
theorem Ofb : Rep Tryz.prog 98 (eEa (.pair .str (.pair (.list .str) .unit))) (fun f : ByteArray × List ByteArray × Unit => f.1.size ≤ reachBytes ∧ ((∀ x ∈ f.2.1, x.size ≤ reachBytes) ∧ f.2.1.length * Tryz.prog.bytesOf 9 ≤ reachBytes) ∧ True) :=
  Rep.struct Tryz.underlying98 (lGa.cons (Rep.str Tryz.underlying9) (lGa.cons Hgb lGa.nil))
theorem Lgb : Rep Tryz.prog 45 (fun t : List (ByteArray × List ByteArray × Unit) => .slice (t.map (eEa (.pair .str (.pair (.list .str) .unit))))) (fun t => (∀ f ∈ t, f.1.size ≤ reachBytes ∧ ((∀ x ∈ f.2.1, x.size ≤ reachBytes) ∧ f.2.1.length * Tryz.prog.bytesOf 9 ≤ reachBytes) ∧ True) ∧ t.length * Tryz.prog.bytesOf 98 ≤ reachBytes) :=
  Rep.slice Tryz.underlying45 Ofb
theorem Sjb : Tryz.prog.bytesOf 9 = 16 := by kernel_rfl
theorem Sfb : Tryz.prog.bytesOf 98 = 40 := by kernel_rfl
theorem Vea : reachBytes ≤ 140737488355328 := by
  have := reachBytes_lt
  have h2 : (2 : Nat) ^ 47 = 140737488355328 := rfl
  omega
theorem Lbb {l : List ByteArray} (h : (∀ x ∈ l, x.size ≤ reachBytes) ∧ l.length * Tryz.prog.bytesOf 9 ≤ reachBytes) : Urb l ∧ l.length < 4611686018427387903 := by
  have hr := Vea
  rw [Sjb] at h
  exact ⟨fun s hs => by have := h.1 s hs; omega, by omega⟩
theorem Ikb {t : Aha} (h : (∀ f ∈ t, f.1.size ≤ reachBytes ∧ ((∀ x ∈ f.2.1, x.size ≤ reachBytes) ∧ f.2.1.length * Tryz.prog.bytesOf 9 ≤ reachBytes) ∧ True) ∧ t.length * Tryz.prog.bytesOf 98 ≤ reachBytes) : Xga t ∧ t.length < 4611686018427387903 := by
  have hr := Vea
  refine ⟨fun f hf => ?_, ?_⟩
  · obtain ⟨h1, h2, _⟩ := h.1 f hf
    obtain ⟨h3, h4⟩ := Lbb h2
    exact ⟨by omega, h3, h4⟩
  · have := h.2
    rw [Sfb] at this
    omega
theorem Rep.mono {P : Program} {t : TypeId} {α : Type} {enc : α → LV} {ok ok' : α → Prop} (r : Rep P t enc ok) (h : ∀ a, ok a → ok' a) : Rep P t enc ok' where
  get := fun h1 h2 => by
    obtain ⟨a, e, k⟩ := r.get h1 h2
    exact ⟨a, e, h a k⟩
theorem Clb : Rep Tryz.prog 3 (eEa (.int .i64)) (fun _ : Int => True) := Rep.mono (Rep.int Tryz.underlying3) fun _ _ => trivial
theorem Vga : Rep Tryz.prog 9 (eEa .str) (fun s : ByteArray => s.size ≤ reachBytes) := Rep.str Tryz.underlying9
theorem Sob : Rep Tryz.prog 31 (eEa (.pair (.int .i64) (.pair (.int .i64) .unit))) (fun _ : Id => True) :=
  Rep.mono (Rep.struct Tryz.underlying31 (lGa.cons Clb (lGa.cons Clb lGa.nil))) fun _ _ => trivial
theorem Ogb : Rep Tryz.prog 70 (eEa (.pair (.int .i64) (.pair (.list .str) (.pair (.list .str) .unit)))) (fun h : Pca => h.2.1.length < 4611686018427387903 ∧ h.2.2.1.length < 4611686018427387903) :=
  Rep.mono (Rep.struct Tryz.underlying70 (lGa.cons Clb (lGa.cons Hgb (lGa.cons Hgb lGa.nil)))) fun _ h => ⟨(Lbb h.2.1).2, (Lbb h.2.2.1).2⟩
theorem Ohb : Rep Tryz.prog 72 (eEa (.pair (.int .i64) (.pair .str (.pair .str (.pair (.pair (.int .i64) (.pair (.list .str) (.pair (.list .str) .unit))) .unit))))) Akb :=
  Rep.mono (Rep.struct Tryz.underlying72 (lGa.cons Clb (lGa.cons Vga (lGa.cons Vga (lGa.cons Ogb lGa.nil))))) fun _ h => h.2.2.2.1
theorem Sgb : Tryz.prog.bytesOf 31 = 16 := by kernel_rfl
theorem Sib : Tryz.prog.bytesOf 72 = 96 := by kernel_rfl
theorem Shb : Tryz.prog.bytesOf 40 = 80 := by kernel_rfl
theorem Spb : Rep Tryz.prog 37 (eEa (.list (.pair (.int .i64) (.pair (.int .i64) .unit)))) (fun l : List Id => l.length < 4611686018427387903) :=
  Rep.mono (Rep.slice Tryz.underlying37 Sob) fun l h => by
    have hr := Vea
    have := h.2
    rw [Sgb] at this
    omega
theorem Mnb : Rep Tryz.prog 38 (eEa (.list (.pair (.int .i64) (.pair .str (.pair .str (.pair (.pair (.int .i64) (.pair (.list .str) (.pair (.list .str) .unit))) .unit)))))) (fun l : List Bqa => (∀ p ∈ l, Akb p) ∧ l.length < 4611686018427387903) :=
  Rep.mono (Rep.slice Tryz.underlying38 Ohb) fun l h => by
    have hr := Vea
    have := h.2
    rw [Sib] at this
    exact ⟨h.1, by omega⟩
theorem Mmb : Rep Tryz.prog 40 (eEa (.pair (.pair (.int .i64) (.pair (.int .i64) .unit)) (.pair (.list (.pair (.int .i64) (.pair (.int .i64) .unit))) (.pair .str (.pair (.list (.pair (.int .i64) (.pair .str (.pair .str (.pair (.pair (.int .i64) (.pair (.list .str) (.pair (.list .str) .unit))) .unit))))) .unit))))) Alb :=
  Rep.mono (Rep.struct Tryz.underlying40 (lGa.cons Sob (lGa.cons Spb (lGa.cons Vga (lGa.cons Mnb lGa.nil))))) fun _ h => ⟨h.2.2.2.1.2, h.2.2.2.1.1, h.2.1⟩
theorem Lfb : Rep Tryz.prog 22 (eEa (.list (.pair (.pair (.int .i64) (.pair (.int .i64) .unit)) (.pair (.list (.pair (.int .i64) (.pair (.int .i64) .unit))) (.pair .str (.pair (.list (.pair (.int .i64) (.pair .str (.pair .str (.pair (.pair (.int .i64) (.pair (.list .str) (.pair (.list .str) .unit))) .unit))))) .unit)))))) (fun l : List Aka => (∀ p ∈ l, Alb p) ∧ l.length < 4611686018427387903) :=
  Rep.mono (Rep.slice Tryz.underlying22 Mmb) fun l h => by
    have hr := Vea
    have := h.2
    rw [Shb] at this
    exact ⟨h.1, by omega⟩
theorem Oib : Rep Tryz.prog 47 (eEa (.pair (.int .i64) (.pair (.list (.pair (.pair (.int .i64) (.pair (.int .i64) .unit)) (.pair (.list (.pair (.int .i64) (.pair (.int .i64) .unit))) (.pair .str (.pair (.list (.pair (.int .i64) (.pair .str (.pair .str (.pair (.pair (.int .i64) (.pair (.list .str) (.pair (.list .str) .unit))) .unit))))) .unit))))) (.pair (.list (.pair .str (.pair (.list .str) .unit))) (.pair (.list (.pair .str (.pair (.list .str) .unit))) (.pair (.int .i64) .unit)))))) Nrb :=
  Rep.mono (Rep.struct Tryz.underlying47 (lGa.cons Clb (lGa.cons Lfb (lGa.cons Lgb (lGa.cons Lgb (lGa.cons Clb lGa.nil)))))) fun _ h =>
    ⟨h.2.1.2, h.2.1.1, (Ikb h.2.2.1).1, (Ikb h.2.2.1).2, (Ikb h.2.2.2.1).1, (Ikb h.2.2.2.1).2⟩
end Go.Proofs.YtpeaaophmddhnaaGreat.LI
