/-
  Small laws for reading what was carried out: tests, names, numbers, lists. Trees: what the program's functions come to. Lines and names, lists that are the same: what the functions come to. Names and lines that may be: what the functions come to. Trees with a file, and without one: what the functions come to. Trees: the document's Put and Del, the program's Del. The names of the files of two trees: what the functions come to. The document's names of two trees; whether a tree may be; whether it is light. Whether a tree may be, and whether it is light: what the functions come to. Light trees; the example; the two ways to names. The example of the chapter, and the laws of trees. Laws of trees: what is got of a tree with a file and of one without, and that rising trees of the same files are the same. What two lists have in common: what the functions come to. Edits and hunks: what the functions come to. News: what the functions come to. The laws NewsTells and NewsCost hold of what was carried out. Lists of strings, joined, and compared once more. Changes: what the functions come to. Trees that changes change: what the functions come to. What the changes from one tree to another one are like: pairs of equal lines, edits that are apart, changes of which none undoes the one ahead. The changes from one tree to another one change it into that. Changes turned back; the laws NewsTwo and NewsFiles hold of what was carried out. The law NewsGives holds of what was carried out. Patches that pass one another, and repositories: plain definitions. Hunks and changes that pass one another: what the functions come to. Lists of changes, and patches, that pass one another: what the functions come to. Patches that pass one another, and those that stay: what the functions come to. Patches and repositories: what the functions come to. Repositories that are light, and such that are the same: what the functions come to. The law RepoReverts holds of what was carried out. What a repository becomes when it is recorded, a file has another name, and a patch is not recorded any more: what the functions come to. The laws RepoMoves and RepoRecords hold of what was carried out. A patch that is not recorded any more: what the function comes to. The law RepoStays holds of what was carried out. From a law's function to its row: which data its arguments are. Which data patches and repositories are.
-/
import Derived.Test.YtpeaaophmddhnaaGreatURS0
import Derived.Sort.Walk0
import Derived.Test.YtpeaaophmddhnaaGreatRows
import Derived.Test.YtpeaaophmddhnaaGreatChecked
import Derived.ChangeOld
import Derived.ProofKit
import Derived.ShutString
set_option linter.unusedSimpArgs false
set_option linter.unusedVariables false
set_option maxRecDepth 100000
namespace Go.Proofs.YtpeaaophmddhnaaGreat.LI
open Go
open Go Go.RowKit
open KV (toL)
open KV.toL (toLs)
theorem Ada {α : Type} {p : Prop} [Decidable p] (h : p) (x y : Option α) : jKa (decide p) x y = x := by simp [jKa, h]
theorem Aea {α : Type} {p : Prop} [Decidable p] (h : ¬ p) (x y : Option α) : jKa (decide p) x y = y := by simp [jKa, h]
theorem Ala {α : Type} [h : Decidable True] (x y : Option α) : jKa (@decide True h) x y = x := Ada trivial x y
theorem Aba {α : Type} (x y : Option α) : jKa true x y = x := rfl
theorem Aca {α : Type} (x y : Option α) : jKa false x y = y := rfl
theorem Ama {α : Type} (b : Bool) (x y : Option α) : jKa (!b) x y = jKa b y x := by cases b <;> rfl
theorem Aaa {α β : Type} (a : α) (f : α → Option β) : lIa (some a) f = f a := rfl
theorem Fsa {α β γ : Type} (a : α) (f : α → Option γ) (g : β → Option γ) : bFb (.inl a) f g = f a := rfl
theorem Eua {α β γ : Type} (a : β) (f : α → Option γ) (g : β → Option γ) : bFb (.inr a) f g = g a := rfl
theorem Aqa {n : Int} (h : -4611686018427387904 ≤ n) (h' : n < 4611686018427387904) : IntKind.wrap .i64 n = n := by rw [IntKind.wrap_i64]; omega
theorem Jca {i : Nat} (h : i < 4611686018427387903) : IntKind.wrap .i64 ((i : Int) + 1) = ((i + 1 : Nat) : Int) := by rw [IntKind.wrap_i64]; omega
theorem Pob {i : Nat} (h : 0 < i) (h' : i < 4611686018427387903) : IntKind.wrap .i64 ((i : Int) - 1) = ((i - 1 : Nat) : Int) := by rw [IntKind.wrap_i64]; omega
theorem Aha : bBa = 1099511627776 := rfl
theorem Afa {α : Type} {l : List α} {i : Nat} {a : α} {r : List α} (h : l.drop i = a :: r) : i < l.length ∧ (∀ d, l.getD i d = a) ∧ l.drop (i + 1) = r ∧ a ∈ l := by
 have hi : i < l.length := by
  by_cases hi : i < l.length
  ·exact hi
  ·rw [List.drop_eq_nil_of_le (by omega)] at h; cases h
 rw [List.drop_eq_getElem_cons hi] at h
 injection h with h1 h2
 refine ⟨hi, fun d => ?_, h2, h1 ▸ List.getElem_mem hi⟩
 rw [List.getD_eq_getElem?_getD, List.getElem?_eq_getElem hi, Option.getD_some, h1]
theorem Aia {α : Type} {l : List α} {i : Nat} (h : l.drop i = []) (hi : i ≤ l.length) : i = l.length := by
 rw [List.drop_eq_nil_iff] at h
 omega
theorem Xsa (a b : ByteArray) : (ByteArray.toList a == ByteArray.toList b) = decide (a = b) := by
 rw [Bool.eq_iff_iff, beq_iff_eq, decide_eq_true_eq]
 constructor
 ·intro h
  rw [Lib.toList_data, Lib.toList_data] at h
  exact ByteArray.ext (Array.toList_inj.1 h)
 ·rintro rfl; rfl
def ltS (a b : ByteArray) : Prop := a.data.toList < b.data.toList
instance (a b : ByteArray) : Decidable (ltS a b) := inferInstanceAs (Decidable (a.data.toList < b.data.toList))
theorem Qfb (a b : ByteArray) : Op.bytesLess (ByteArray.toList a) (ByteArray.toList b) = decide (ltS a b) := by
 rw [Go.Proofs.bytesLess_eq, Lib.toList_data, Lib.toList_data]; rfl
theorem Jla (a : ByteArray) : ¬ ltS a a := List.lt_irrefl _
theorem Ipa {a b c : ByteArray} (h : ltS a b) (k : ltS b c) : ltS a c := List.lt_trans h k
theorem Bvb {a b : ByteArray} (h : ltS a b) : ¬ ltS b a := fun k => Jla a (Ipa h k)
theorem Nwa (a b : ByteArray) : ltS a b ∨ a = b ∨ ltS b a := by
 by_cases h : ltS a b
 ·exact .inl h
 ·by_cases k : ltS b a
  ·exact .inr (.inr k)
  ·have h1 := List.not_lt.1 h
   have k1 := List.not_lt.1 k
   have := List.le_antisymm k1 h1
   exact .inr (.inl (ByteArray.ext (Array.toList_inj.1 this)))
theorem Wxb (a b : ByteArray) : (decide (ltS a b) || decide (a = b)) = !decide (ltS b a) := by
 rcases Nwa a b with h | h | h
 ·have := Bvb h; simp [h, this]
 ·subst h; simp [Jla]
 ·have h1 := Bvb h
  have h2 : ¬ a = b := fun e => Jla b (e ▸ h)
  simp [h, h1, h2]
theorem PP : (∀ {α : Type} [h : Decidable True] (x y : Option α), jKa (@decide True h) x y = x) ∧
  (∀ {α : Type} {p : Prop} [Decidable p] (_ : p) (x y : Option α), jKa (decide p) x y = x) ∧
  (∀ {α : Type} {p : Prop} [Decidable p] (_ : ¬ p) (x y : Option α), jKa (decide p) x y = y) ∧
  (∀ {α : Type} (x y : Option α), jKa true x y = x) ∧ (∀ {α : Type} (x y : Option α), jKa false x y = y) ∧
  (∀ {α : Type} (b : Bool) (x y : Option α), jKa (!b) x y = jKa b y x) ∧
  (∀ {α β : Type} (a : α) (f : α → Option β), lIa (some a) f = f a) ∧
  (∀ {α β γ : Type} (a : α) (f : α → Option γ) (g : β → Option γ), bFb (.inl a) f g = f a) ∧
  (∀ {α β γ : Type} (a : β) (f : α → Option γ) (g : β → Option γ), bFb (.inr a) f g = g a) ∧
  (∀ n : Nat, Int.toNat (n : Int) = n) ∧
  (∀ {i : Nat} (_ : i < 4611686018427387903), IntKind.wrap .i64 ((i : Int) + 1) = ((i + 1 : Nat) : Int)) ∧
  (∀ {i : Nat} (_ : 0 < i) (_ : i < 4611686018427387903), IntKind.wrap .i64 ((i : Int) - 1) = ((i - 1 : Nat) : Int)) ∧
  (∀ {α β : Type} (a : α) (f : α → Option β), (some a).bind f = f a) ∧ (∀ {α β : Type} (f : α → Option β), (none : Option α).bind f = none) ∧
  (∀ {α β γ : Type} (f : α → γ) (g : β → γ) (a : α), Sum.elim f g (.inl a) = f a) ∧ (∀ {α β γ : Type} (f : α → γ) (g : β → γ) (a : β), Sum.elim f g (.inr a) = g a) ∧
  (∀ {α : Type} (l m : List α), (l ++ m).length = l.length + m.length) ∧ (∀ {α : Type} (a : α) (l : List α), (a :: l).length = l.length + 1) ∧ (∀ {α : Type}, ([] : List α).length = 0) ∧
  (∀ a b : ByteArray, (ByteArray.toList a == ByteArray.toList b) = decide (a = b)) ∧ (∀ a b : ByteArray, Op.bytesLess (ByteArray.toList a) (ByteArray.toList b) = decide (ltS a b)) ∧
  (∀ a b : ByteArray, (decide (ltS a b) || decide (a = b)) = !decide (ltS b a)) ∧ (∀ b : Bool, (!!b) = b) :=
 ⟨Ala, Ada, Aea, Aba, Aca, Ama, Aaa, Fsa, Eua, Int.toNat_natCast, Jca, Pob, fun _ _ => rfl, fun _ => rfl, fun _ _ _ => rfl, fun _ _ _ => rfl,
  fun _ _ => List.length_append, fun _ _ => List.length_cons, List.length_nil, Xsa, Qfb, Wxb, Bool.not_not⟩
mutual
theorem Sta : ∀ (t : Ty) (x : t.den), eqT t x x = true
 | .int _, _ => by simp [eqT]
 | .byte, _ => by simp [eqT]
 | .bool, _ => by simp [eqT]
 | .str, _ => by simp [eqT]
 | .list t, l => by rw [eqT]; exact Mib t l
 | .unit, _ => by simp [eqT]
 | .pair a b, p => by rw [eqT, Sta a, Sta b]; rfl
theorem Mib (t : Ty) : ∀ (l : List t.den), eqT.eqL t l l = true
 | [] => by rw [eqT.eqL]
 | x :: xs => by rw [eqT.eqL, Sta t x, Mib t xs]; rfl
end
abbrev Str := ByteArray
abbrev Dnb := ByteArray × List ByteArray × Unit
abbrev Aka := List Dnb
def Wee (t : Aka) : Prop := t.length ≤ 1000000000 ∧ ∀ f ∈ t, f.2.1.length ≤ 1000000000
theorem Pka (s : Str) (l : List Str) (h : l.length ≤ 1000000000) : Mwa (s, l, ()) = some ((s, l, ()), ()) := by
 have hM := Aha
 rw [Lwb]
 simp (disch := omega) only [Hlb, PP]
theorem Una (t l0 : Aka) (hw : Wee t) : ∀ (r : Aka) (i : Nat) (l1 : Aka), t.drop i = r → i ≤ t.length → l1.length + r.length ≤ 1000000000 →
  Mfa (l0, l1, t, (t.length : Int), (i : Int), ()) = some (l0, l1 ++ r, t, (t.length : Int), (t.length : Int), ())
 | [], i, l1, h, hi, _ => by
  have := Aia h hi
  subst this
  rw [Uma]
  simp (disch := omega) only [Qoa, PP, List.append_nil]
 | f :: r, i, l1, h, hi, hl => by
  obtain ⟨h1, h2, h3, h4⟩ := Afa h
  have hb := hw.1
  have hf := hw.2 f h4
  have hM := Aha
  rw [Uma]
  simp only [List.length_cons] at hl
  simp (disch := omega) only [Qoa, PP, h2, Pka]
  rw [Una t l0 hw r (i + 1) _ h3 (by omega) (by simp; omega)]
  simp
theorem Mga (t : Aka) (hw : Wee t) : Xma (t, ()) = some (t, ()) := by
 rw [Lvb]
 have := Una t [] hw t 0 [] rfl (by omega) (by simpa using hw.1)
 simp only [Int.natCast_zero, List.nil_append] at this
 simp (disch := omega) only [Hkb, PP, this]
def at_ (t : Aka) (s : Str) : Nat := t.findIdx fun f => decide (f.1 = s)
theorem Esb (t : Aka) (s : Str) (hb : t.length < 4611686018427387903) : ∀ (r : Aka) (i : Nat), t.drop i = r → i ≤ t.length →
  ∃ y, Bha (s, t, (t.length : Int), (i : Int), ()) = some y ∧ (match y with
   | .inl z => z.2.2.1 = ((i + r.findIdx (fun f => decide (f.1 = s)) : Nat) : Int) ∧ r.findIdx (fun f => decide (f.1 = s)) < r.length
   | .inr _ => r.findIdx (fun f => decide (f.1 = s)) = r.length)
 | [], i, h, hi => by
  have := Aia h hi
  subst this
  rw [Fla]
  simp (disch := omega) only [Cca, PP]
  exact ⟨_, rfl, rfl⟩
 | f :: r, i, h, hi => by
  obtain ⟨h1, h2, h3, h4⟩ := Afa h
  rw [Fla]
  by_cases hf : f.1 = s
  ·simp (disch := omega) only [Cca, PP, h2, hf, List.findIdx_cons, decide_true, cond_true, Nat.add_zero]
   exact ⟨_, rfl, rfl, by omega⟩
  ·simp (disch := omega) only [Cca, PP, h2, hf, List.findIdx_cons, decide_false, cond_false]
   obtain ⟨y, e, p⟩ := Esb t s hb r (i + 1) h3 (by omega)
   refine ⟨y, e, ?_⟩
   cases y with
   | inl z => simp only at p ⊢; exact ⟨by rw [p.1]; omega, by omega⟩
   | inr z => simp only at p ⊢; omega
theorem Eea (t : Aka) (s : Str) (hb : t.length < 4611686018427387903) : Lka (t, s, ()) = some ((at_ t s : Int), ()) := by
 rw [Gxb]
 obtain ⟨y, e, p⟩ := Esb t s hb t 0 rfl (by omega)
 simp only [Int.natCast_zero] at e
 cases y with
 | inl z =>
  simp only [Nat.zero_add] at p
  simp (disch := omega) only [Ura, e, PP, p.1]
  rfl
 | inr z =>
  simp only at p
  simp only [Ura, e, PP, at_, p]
def Ara (t : Aka) (s : Str) : Option (List Str) := (t.find? fun f => decide (f.1 = s)).map fun f => f.2.1
theorem Bob (t : Aka) (s : Str) : Ara t s = if at_ t s < t.length then some (t.getD (at_ t s) (ByteArray.empty, [], ())).2.1 else none := by
 unfold Ara at_
 induction t with
 | nil => simp
 | cons f t ih =>
  rw [List.find?_cons, List.findIdx_cons]
  by_cases hf : f.1 = s
  ·simp [hf]
  ·simp only [hf, decide_false, cond_false, List.length_cons, Nat.add_lt_add_iff_right, List.getD_cons_succ]
   exact ih
theorem Foa (t : Aka) (s : Str) (hw : Wee t) : Jaa (t, s, ()) = some ((Ara t s).getD [], (Ara t s).isSome, ()) := by
 have hb := hw.1
 have hM := Aha
 rw [Lsb]
 by_cases h : at_ t s < t.length
 ·have hm : t.getD (at_ t s) (ByteArray.empty, [], ()) ∈ t := by
   rw [List.getD_eq_getElem?_getD, List.getElem?_eq_getElem h]; exact List.getElem_mem h
  have := hw.2 _ hm
  simp (disch := omega) only [Aob, Eea, PP, Bob, h, if_true, Option.getD_some, Option.isSome_some]
 ·simp (disch := omega) only [Aob, Eea, PP, Bob, h, if_false, Option.getD_none, Option.isSome_none]
theorem Haa (m : List Str) : ∀ (r : List Str) (l : List Str) (i : Nat), l.drop i = r → i ≤ l.length → l.length = m.length → l.length < 4611686018427387903 →
  ∃ y, Bya (l, m, (l.length : Int), (i : Int), ()) = some y ∧ (match y with
   | .inl _ => l.drop i ≠ m.drop i
   | .inr _ => l.drop i = m.drop i)
 | [], l, i, h, hi, hl, hb => by
  have := Aia h hi
  subst this
  rw [Gza]
  simp (disch := omega) only [Cqa, PP]
  exact ⟨_, rfl, by simp [hl]⟩
 | a :: r, l, i, h, hi, hl, hb => by
  obtain ⟨h1, h2, h3, h4⟩ := Afa h
  obtain ⟨b, s, hm⟩ : ∃ b s, m.drop i = b :: s := ⟨_, _, List.drop_eq_getElem_cons (by omega)⟩
  obtain ⟨m1, m2, m3, m4⟩ := Afa hm
  rw [Gza]
  by_cases hab : a = b
  ·subst hab
   simp (disch := omega) only [Cqa, PP, h2, m2, decide_true, Bool.not_true]
   obtain ⟨y, e, p⟩ := Haa m r l (i + 1) h3 (by omega) hl hb
   refine ⟨y, e, ?_⟩
   rw [h, hm]
   rw [h3, m3] at p
   cases y with
   | inl z => simpa using p
   | inr z => simpa using p
  ·simp (disch := first | omega | assumption) only [Cqa, PP, h2, m2]
   refine ⟨_, rfl, ?_⟩
   rw [h, hm]
   simp [hab]
theorem Ela (l m : List Str) (hb : l.length < 4611686018427387903) : Cya (l, m, ()) = some (decide (l = m), ()) := by
 rw [Qha]
 by_cases hl : l.length = m.length
 ·obtain ⟨y, e, p⟩ := Haa m l l 0 rfl (by omega) hl hb
  simp only [Int.natCast_zero] at e
  have hbn : ((l.length : Int) != (m.length : Int)) = false := by simp [hl]
  simp only [List.drop_zero] at p
  cases y with
  | inl z => simp only at p; simp only [Doa, hbn, e, PP, p, decide_false]
  | inr z => simp only at p; subst p; simp only [Doa, hbn, e, PP, decide_true]
 ·have hbn : ((l.length : Int) != (m.length : Int)) = true := by simp; omega
  have : ¬ l = m := fun e => hl (by rw [e])
  simp only [Doa, hbn, PP, this, decide_false]
theorem Mjb {f g : Dnb} (h : f.1 = g.1) (k : f.2.1 = g.2.1) : f = g := by
 obtain ⟨a, b, ⟨⟩⟩ := f
 obtain ⟨c, d, ⟨⟩⟩ := g
 simp only at h k
 rw [h, k]
theorem Ula (f g : Dnb) (hb : f.2.1.length < 4611686018427387903) : Pia (f, g, ()) = some (decide (f = g), ()) := by
 rw [Dmb]
 by_cases h : f.1 = g.1
 ·by_cases k : f.2.1 = g.2.1
  ·have := Mjb h k
   subst this
   simp (disch := omega) only [Moa, PP, decide_true, Ela]
  ·have : ¬ f = g := fun e => k (by rw [e])
   simp (disch := omega) only [Moa, PP, h, decide_true, Ela, k, decide_false, this]
 ·have : ¬ f = g := fun e => h (by rw [e])
  simp (disch := first | omega | assumption) only [Moa, PP, decide_false, this]
theorem Wee.lt {t : Aka} (h : Wee t) : t.length < 4611686018427387903 := by have := h.1; omega
theorem Fka (m l : Aka) (hw : Wee l) : ∀ (r : Aka) (i : Nat), l.drop i = r → i ≤ l.length → l.length = m.length →
  ∃ y, Bga (m, l, (l.length : Int), (i : Int), ()) = some y ∧ (match y with
   | .inl _ => l.drop i ≠ m.drop i
   | .inr _ => l.drop i = m.drop i)
 | [], i, h, hi, hl => by
  have := Aia h hi
  subst this
  rw [Fja]
  simp (disch := omega) only [Cba, PP]
  exact ⟨_, rfl, by simp [hl]⟩
 | a :: r, i, h, hi, hl => by
  have hb := hw.1
  obtain ⟨h1, h2, h3, h4⟩ := Afa h
  have ha := hw.2 a h4
  obtain ⟨b, s, hm⟩ : ∃ b s, m.drop i = b :: s := ⟨_, _, List.drop_eq_getElem_cons (by omega)⟩
  obtain ⟨m1, m2, m3, m4⟩ := Afa hm
  rw [Fja]
  have e1 : ((a.1, a.2.1, ()) : Dnb) = a := rfl
  have e2 : ((b.1, b.2.1, ()) : Dnb) = b := rfl
  by_cases hab : a = b
  ·subst hab
   simp (disch := omega) only [Cba, PP, h2, m2, e1, Ula, decide_true]
   obtain ⟨y, e, p⟩ := Fka m l hw r (i + 1) h3 (by omega) hl
   refine ⟨y, e, ?_⟩
   rw [h, hm]
   rw [h3, m3] at p
   cases y with
   | inl z => simpa using p
   | inr z => simpa using p
  ·simp (disch := omega) only [Cba, PP, h2, m2, e1, e2, Ula, hab, decide_false]
   refine ⟨_, rfl, ?_⟩
   rw [h, hm]
   simp [hab]
theorem Kcb (l m : Aka) (hw : Wee l) : Sma (l, m, ()) = some (decide (l = m), ()) := by
 rw [Kbb]
 by_cases hl : l.length = m.length
 ·obtain ⟨y, e, p⟩ := Fka m l hw l 0 rfl (by omega) hl
  simp only [Int.natCast_zero] at e
  have hbn : ((l.length : Int) != (m.length : Int)) = false := by simp [hl]
  simp only [List.drop_zero] at p
  cases y with
  | inl z => simp only at p; simp only [Sqa, hbn, e, PP, p, decide_false]
  | inr z => simp only at p; subst p; simp only [Sqa, hbn, e, PP, decide_true]
 ·have hbn : ((l.length : Int) != (m.length : Int)) = true := by simp; omega
  have : ¬ l = m := fun e => hl (by rw [e])
  simp only [Sqa, hbn, PP, this, decide_false]
def Nlb (c : UInt8) : Bool := (decide (97 ≤ c.toNat) && decide (c.toNat ≤ 122)) || (decide (48 ≤ c.toNat) && decide (c.toNat ≤ 57)) || decide (c.toNat = 46)
theorem Zla (c : UInt8) : Xia (c, ()) = some (Nlb c, ()) := by
 rw [Kab]
 have e : (((UInt8.toNat c : Nat) : Int) == 46) = decide (c.toNat = 46) := by
  rw [Bool.eq_iff_iff]; simp; omega
 by_cases h1 : 97 ≤ c.toNat <;> by_cases h2 : c.toNat ≤ 122 <;> by_cases h3 : 48 ≤ c.toNat <;> by_cases h4 : c.toNat ≤ 57 <;>
  first
  | (exfalso; omega)
  | simp (disch := omega) only [Dzb, PP, e, Nlb, h1, h2, h3, h4, decide_true, decide_false, Bool.true_and, Bool.false_and, Bool.true_or, Bool.false_or, Bool.or_false, Bool.or_true, Bool.and_false, Bool.and_true]
theorem Fnb (c : UInt8) : UInt8.ofNat (UInt8.toNat c) = c := by simp
theorem Ocb (c : UInt8) : (decide ((0 : Int) ≤ ((UInt8.toNat c : Nat) : Int)) && decide (((UInt8.toNat c : Nat) : Int) < 256)) = true := by
 have := UInt8.toNat_lt c
 simp; omega
def Eva (s : Str) : Bool := decide (1 ≤ s.size) && decide (s.size ≤ 16) && s.data.toList.all Nlb
theorem Xea (s : Str) : s.data.toList.length = s.size := by simp
theorem Sla (s : Str) (hb : s.size < 4611686018427387903) : ∀ (r : List UInt8) (i : Nat), s.data.toList.drop i = r → i ≤ s.size →
  ∃ y, Kja (s, (s.size : Int), (i : Int), ()) = some y ∧ (match y with
   | .inl _ => r.all Nlb = false
   | .inr z => r.all Nlb = true ∧ z.1 = s)
 | [], i, h, hi => by
  have := Aia h (by rw [Xea]; exact hi)
  rw [Xea] at this
  subst this
  rw [Ska]
  simp (disch := omega) only [Kza, PP]
  exact ⟨_, rfl, rfl, rfl⟩
 | c :: r, i, h, hi => by
  obtain ⟨h1, h2, h3, h4⟩ := Afa h
  rw [Xea] at h1
  rw [Ska]
  cases hc : Nlb c with
  | true =>
   simp (disch := omega) only [Kza, PP, h2, Ocb, Fnb, Zla, hc]
   obtain ⟨y, e, p⟩ := Sla s hb r (i + 1) h3 (by omega)
   refine ⟨y, e, ?_⟩
   cases y with
   | inl z => simpa [hc] using p
   | inr z => simpa [hc] using p
  | false =>
   simp (disch := omega) only [Kza, PP, h2, Ocb, Fnb, Zla, hc]
   exact ⟨_, rfl, by simp [hc]⟩
theorem Jub (s : Str) : s = ByteArray.empty ↔ s.size = 0 := by
 constructor
 ·rintro rfl; rfl
 ·intro h
  apply ByteArray.ext
  apply Array.ext'
  have : s.data.toList = [] := List.eq_nil_of_length_eq_zero (by rw [Xea]; exact h)
  rw [this]; rfl
theorem Dja (s : Str) (hb : s.size < 4611686018427387903) : Mda (s, ()) = some (Eva s, ()) := by
 rw [Jzb]
 obtain ⟨y, e, p⟩ := Sla s hb s.data.toList 0 rfl (by omega)
 simp only [Int.natCast_zero] at e
 cases y with
 | inl z =>
  simp only at p
  simp only [Spa, e, PP, Eva, p, Bool.and_false]
 | inr z =>
  obtain ⟨p, rfl⟩ := p
  have hd : decide (((z.1.size : Nat) : Int) ≤ 16) = decide (z.1.size ≤ 16) := by
   rw [decide_eq_decide]; omega
  by_cases h0 : z.1 = ByteArray.empty
  ·have h1 := (Jub _).1 h0
   have : Eva z.1 = false := by simp [Eva, h1]
   simp only [Spa, e, PP, this]
   simp only [h0, decide_true, PP]
  ·have h1 : 1 ≤ z.1.size := by
    have := mt (Jub z.1).2 h0
    omega
   simp only [Spa, e, PP, h0, decide_false, Eva, h1, decide_true, p, Bool.true_and, Bool.and_true, hd]
def Gyb (s : Str) : Bool := decide (s.size ≤ 80) && s.data.toList.all fun c => decide (c ≠ 10)
theorem Yza : ∀ (l : List UInt8) (c : UInt8), -1 ≤ Lib.indexByte l c
 | [], c => by simp [Lib.indexByte]
 | b :: l, c => by
  have := Yza l c
  simp only [Lib.indexByte]
  split
  ·omega
  ·split
   ·omega
   ·omega
theorem Wba : ∀ (l : List UInt8), decide (Lib.indexByte l 10 < 0) = l.all fun c => decide (c ≠ 10)
 | [] => rfl
 | b :: l => by
  have ih := Wba l
  have hge := Yza l 10
  simp only [Lib.indexByte, List.all_cons, ← ih]
  by_cases hb : b = 10
  ·subst hb; simp
  ·simp only [beq_iff_eq, hb, if_false, ne_eq, not_false_eq_true, decide_true, Bool.true_and]
   split
   ·rename_i h; rw [h]
   ·rename_i h
    rw [Bool.eq_iff_iff, decide_eq_true_eq, decide_eq_true_eq]; omega
theorem Ckb (s : Str) : Tda (s, ()) = some (Gyb s, ()) := by
 have e10 : Nat.toUInt8 (Int.toNat (((UInt8.toNat (UInt8.ofNat (Int.toNat 10))) : Nat) : Int)) = 10 := rfl
 have hi : Fra (s, UInt8.ofNat (Int.toNat 10), ()) = some (Lib.indexByte s.data.toList 10, ()) := by
  rw [Tia]
  simp only [Mna, Ocb, PP, Fnb, Ina, Dra]
  rfl
 rw [Lqb]
 by_cases h : s.size ≤ 80
 ·simp (disch := omega) only [Alb, PP, hi, Wba, Gyb, h, decide_true, Bool.true_and]
 ·simp (disch := omega) only [Alb, PP, Gyb, h, decide_false, Bool.false_and]
theorem Xha (s : Str) : Tca (s, ()) = some (!Gyb s, ()) := by
 rw [Gsb]
 simp only [Akb, Ckb, PP]
def Yna (l : List Str) : Bool := decide (l.length ≤ 200) && l.all Gyb
theorem Eia (l : List Str) (hb : l.length < 4611686018427387903) : ∀ (r : List Str) (i : Nat), l.drop i = r → i ≤ l.length →
  ∃ y, Awa (l, (l.length : Int), (i : Int), ()) = some y ∧ (match y with
   | .inl z => r.all Gyb = false ∧ 0 ≤ z.2.1
   | .inr z => r.all Gyb = true)
 | [], i, h, hi => by
  have := Aia h hi
  subst this
  rw [Eha]
  simp (disch := omega) only [Bna, PP]
  exact ⟨_, rfl, rfl⟩
 | c :: r, i, h, hi => by
  obtain ⟨h1, h2, h3, h4⟩ := Afa h
  rw [Eha]
  cases hc : Gyb c with
  | true =>
   simp (disch := omega) only [Bna, PP, h2, Xha, hc, Bool.not_true]
   obtain ⟨y, e, p⟩ := Eia l hb r (i + 1) h3 (by omega)
   refine ⟨y, e, ?_⟩
   cases y with
   | inl z => simpa [hc] using p
   | inr z => simpa [hc] using p
  | false =>
   simp (disch := omega) only [Bna, PP, h2, Xha, hc, Bool.not_false]
   exact ⟨_, rfl, by simp [hc], by simp only; omega⟩
theorem Joa (l : List Str) : Tba (l, ()) = some (Yna l, ()) := by
 rw [Lpb]
 by_cases h : l.length ≤ 200
 ·obtain ⟨y, e, p⟩ := Eia l (by omega) l 0 rfl (by omega)
  simp only [Int.natCast_zero] at e
  cases y with
  | inl z =>
   simp only at p
   have : decide (z.2.1 ≥ 0) = true := decide_eq_true p.2
   simp (disch := omega) only [Vha, PP, e, Yna, h, p.1, decide_true, Bool.true_and, this, Bool.not_true]
  | inr z =>
   simp only at p
   simp (disch := omega) only [Vha, PP, e, Yna, h, p, decide_true, Bool.true_and]
 ·simp (disch := omega) only [Vha, PP, Yna, h, decide_false, Bool.false_and]
def gt_ (t : Aka) (s : Str) : Nat := t.findIdx fun f => decide (ltS s f.1)
def Mja (t : Aka) (s : Str) (l : List Str) : Aka := if at_ t s < t.length then t.set (at_ t s) (s, l, ()) else t.take (gt_ t s) ++ (s, l, ()) :: t.drop (gt_ t s)
theorem Mkb (t : Aka) (s : Str) (hb : t.length < 4611686018427387903) : ∀ (r : Aka) (i : Nat), t.drop i = r → i ≤ t.length →
  ∃ y, Baa (t, s, (t.length : Int), (i : Int), ()) = some y ∧ (match y with
   | .inl z => z.1 = t ∧ z.2.1 = s ∧ z.2.2.1 = ((i + r.findIdx (fun f => decide (ltS s f.1)) : Nat) : Int) ∧ r.findIdx (fun f => decide (ltS s f.1)) < r.length
   | .inr z => z.1 = t ∧ z.2.1 = s ∧ r.findIdx (fun f => decide (ltS s f.1)) = r.length)
 | [], i, h, hi => by
  have := Aia h hi
  subst this
  rw [Esa]
  simp (disch := omega) only [Bta, PP]
  exact ⟨_, rfl, rfl, rfl, rfl⟩
 | f :: r, i, h, hi => by
  obtain ⟨h1, h2, h3, h4⟩ := Afa h
  rw [Esa]
  by_cases hf : ltS s f.1
  ·simp (disch := omega) only [Bta, PP, h2, hf, List.findIdx_cons, decide_true, cond_true, Nat.add_zero]
   exact ⟨_, rfl, rfl, rfl, rfl, by omega⟩
  ·simp (disch := omega) only [Bta, PP, h2, hf, List.findIdx_cons, decide_false, cond_false]
   obtain ⟨y, e, p⟩ := Mkb t s hb r (i + 1) h3 (by omega)
   refine ⟨y, e, ?_⟩
   cases y with
   | inl z => simp only at p ⊢; exact ⟨p.1, p.2.1, by rw [p.2.2.1]; omega, by omega⟩
   | inr z => simp only at p ⊢; exact ⟨p.1, p.2.1, by omega⟩
theorem Mlb (t : Aka) (n : Nat) (f : Dnb) : oPb t (n : Int) [f] = t.take n ++ f :: t.drop n := by simp [oPb]
theorem Pha (t : Aka) (s : Str) (l : List Str) (hw : Wee t) (hl : l.length ≤ 1000000000) : Pga (t, s, l, ()) = some (Mja t s l, ()) := by
 have hb := hw.1
 have hM := Aha
 rw [Lub]
 by_cases h : at_ t s < t.length
 ·simp (disch := first | omega | assumption) only [Via, PP, Mga, Eea, Pka, List.length_set, Mja, h, if_true]
 ·obtain ⟨y, e, p⟩ := Mkb t s (by omega) t 0 rfl (by omega)
  simp only [Int.natCast_zero] at e
  cases y with
  | inl z =>
   obtain ⟨p1, p2, p3, p4⟩ := p
   simp only [Nat.zero_add] at p3
   rw [show (t.findIdx fun f => decide (ltS s f.1)) = gt_ t s from rfl] at p3 p4
   simp (disch := first | omega | assumption) only [Via, PP, Mga, Eea, e, p1, p2, p3, Sta, Pka, Mlb, Mja, h, if_false]
  | inr z =>
   obtain ⟨p1, p2, p3⟩ := p
   rw [show (t.findIdx fun f => decide (ltS s f.1)) = gt_ t s from rfl] at p3
   simp (disch := first | omega | assumption) only [Via, PP, Mga, Eea, e, p1, p2, Sta, Pka, Mlb, Mja, h, if_false, p3]
def Tpa (t : Aka) (s : Str) : Aka := t.eraseIdx (at_ t s)
theorem Qnb (t : Aka) (n : Nat) (h : n < t.length) : t.take n ++ t.drop (n + 1) = t.eraseIdx n := (List.eraseIdx_eq_take_drop_succ t n).symm
theorem Wra {α : Type} (l : List α) (n : Nat) (ys : List α) (h : n + ys.length ≤ l.length) : (hYb l n ys).length = l.length := by
 simp only [hYb, List.length_append, List.length_take, List.length_drop]; omega
theorem Vca (t : Aka) (s : Str) (hw : Wee t) : Tfa (t, s, ()) = some (Tpa t s, ()) := by
 have hb := hw.1
 have hM := Aha
 rw [Lrb]
 by_cases h : at_ t s < t.length
 ·have hne : (((at_ t s : Nat) : Int) == ((at_ t s + 1 : Nat) : Int)) = false := by simp; omega
  have h1 : (List.take (0 + (t.length - 0) - (0 + (at_ t s + 1))) (List.drop (0 + (at_ t s + 1)) t)) = t.drop (at_ t s + 1) := by
   rw [Nat.zero_add, Nat.zero_add, Nat.sub_zero]
   exact List.take_of_length_le (by simp)
  have hl1 : (t.drop (at_ t s + 1)).length = t.length - (at_ t s + 1) := List.length_drop
  simp (disch := first | omega | assumption) only [Anb, PP, Mga, Eea, hne, h1]
  have hO : (hYb t (at_ t s) (t.drop (at_ t s + 1))).length = t.length := Wra _ _ _ (by omega)
  have hk : at_ t s + (t.drop (at_ t s + 1)).length = t.length - 1 := by omega
  have hO2 : ∀ d : Dnb, (hYb (hYb t (at_ t s) (t.drop (at_ t s + 1))) (t.length - 1) (List.replicate (t.length - (t.length - 1)) d)).length = t.length := fun d => by
   rw [Wra _ _ _ (by rw [List.length_replicate, hO]; omega), hO]
  simp only [Nat.zero_add, Nat.add_zero, Nat.sub_zero, List.drop_zero]
  simp (disch := first | omega | assumption) only [hO, hk, hO2, PP]
  have e1 : hYb t (at_ t s) (t.drop (at_ t s + 1)) = t.take (at_ t s) ++ t.drop (at_ t s + 1) ++ t.drop (at_ t s + (t.drop (at_ t s + 1)).length) := rfl
  have e2 : ∀ (O r : List Dnb), t.length - 1 ≤ O.length → (hYb O (t.length - 1) r).take (t.length - 1) = O.take (t.length - 1) := fun O r ho => by
   simp only [hYb, List.append_assoc]
   rw [List.take_append_of_le_length (by rw [List.length_take]; omega), List.take_take, Nat.min_self]
  rw [e2 _ _ (by omega), e1, List.take_append_of_le_length (by rw [List.length_append, List.length_take, hl1]; omega), List.take_of_length_le (by rw [List.length_append, List.length_take, hl1]; omega), Qnb t _ h]
  rfl
 ·simp (disch := first | omega | assumption) only [Anb, PP, Mga, Eea, Tpa]
  rw [List.eraseIdx_of_length_le (by omega)]
theorem Yda (l0 ts : List Aka) (hb : ts.length < 4611686018427387903) : ∀ (r : List Aka) (i n : Nat), ts.drop i = r → i ≤ ts.length → n + r.flatten.length < 4611686018427387903 →
  Cfa (l0, (n : Int), ts, (ts.length : Int), (i : Int), ()) = some (l0, ((n + r.flatten.length : Nat) : Int), ts, (ts.length : Int), (ts.length : Int), ())
 | [], i, n, h, hi, _ => by
  have := Aia h hi
  subst this
  rw [Hya]
  simp (disch := omega) only [Eka, PP, List.flatten_nil, Nat.add_zero]
 | t :: r, i, n, h, hi, hn => by
  obtain ⟨h1, h2, h3, h4⟩ := Afa h
  simp only [List.flatten_cons, List.length_append] at hn
  have hw : IntKind.wrap .i64 ((n : Int) + (t.length : Int)) = ((n + t.length : Nat) : Int) := by rw [Aqa (by omega) (by omega)]; omega
  rw [Hya]
  simp (disch := omega) only [Eka, PP, h2, hw]
  rw [Yda l0 ts hb r (i + 1) (n + t.length) h3 (by omega) (by omega)]
  simp only [List.flatten_cons, List.length_append, Nat.add_assoc]
theorem Vea (l0 : Aka) (ts : List Aka) (hb : ts.length < 4611686018427387903) : ∀ (r : List Aka) (i n : Nat) (row : Aka), ts.drop i = r → i ≤ ts.length → n + r.flatten.length ≤ row.length →
  ∃ row' : Aka, Bxa (l0, row, 0, n, ts, (ts.length : Int), (i : Int), ()) = some (l0, row', 0, n + r.flatten.length, ts, (ts.length : Int), (ts.length : Int), ()) ∧ row'.length = row.length ∧ row'.take (n + r.flatten.length) = row.take n ++ r.flatten
 | [], i, n, row, h, hi, _ => by
  have := Aia h hi
  subst this
  rw [Gya]
  simp (disch := omega) only [Dya, PP, List.flatten_nil, Nat.add_zero, List.append_nil]
  exact ⟨row, rfl, rfl, rfl⟩
 | t :: r, i, n, row, h, hi, hn => by
  obtain ⟨h1, h2, h3, h4⟩ := Afa h
  simp only [List.flatten_cons, List.length_append] at hn
  have ho := Wra row n t (by omega)
  rw [Gya]
  simp (disch := omega) only [Dya, PP, h2, ho]
  obtain ⟨row', e, e1, e2⟩ := Vea l0 ts hb r (i + 1) (n + t.length) (hYb row n t) h3 (by omega) (by omega)
  refine ⟨row', ?_, by rw [e1, ho], ?_⟩
  ·rw [e]; simp only [List.flatten_cons, List.length_append, Nat.add_assoc]
  ·have e3 : (hYb row n t).take (n + t.length) = row.take n ++ t := by
    have : (row.take n ++ t).length = n + t.length := by rw [List.length_append, List.length_take]; omega
    rw [hYb, ← this]; exact List.take_left
   rw [e3] at e2
   simp only [List.flatten_cons, List.length_append]
   rw [← Nat.add_assoc, e2, List.append_assoc]
theorem Tla (l0 : Aka) (ts : List Aka) (hb : ts.length < 4611686018427387903) : ∀ (r : List Aka) (i : Nat), ts.drop i = r → i ≤ ts.length → r.flatten = [] →
  Bqa (l0, [], ts, (ts.length : Int), (i : Int), ()) = some (l0, [], ts, (ts.length : Int), (ts.length : Int), ())
 | [], i, h, hi, _ => by
  have := Aia h hi
  subst this
  rw [Gda]
  simp (disch := omega) only [Dsa, PP]
 | t :: r, i, h, hi, hn => by
  obtain ⟨h1, h2, h3, h4⟩ := Afa h
  have hM := Aha
  simp only [List.flatten_cons, List.append_eq_nil_iff] at hn
  obtain ⟨rfl, hn⟩ := hn
  rw [Gda]
  simp (disch := omega) only [Dsa, PP, h2, List.append_nil]
  exact Tla l0 ts hb r (i + 1) h3 (by omega) hn
theorem Nnb (ts : List Aka) (hb : ts.length < 1000000000) (hn : ts.flatten.length ≤ 1000000000000) : Dha (ts, ()) = some (ts.flatten, ()) := by
 have hM := Aha
 have e := Yda ts ts (by omega) ts 0 0 rfl (by omega) (by omega)
 simp only [Int.natCast_zero, Nat.zero_add] at e
 rw [Sia]
 have hw0 : IntKind.wrap .i64 ((0 : Int) - ((0 : Nat) : Int)) = 0 := by rw [Aqa (by omega) (by omega)]; rfl
 have hw0' : IntKind.wrap .i64 ((0 : Int) - 0) = 0 := by rw [Aqa (by omega) (by omega)]; rfl
 have hw : IntKind.wrap .i64 (((ts.flatten.length : Nat) : Int) - 0) = ((ts.flatten.length : Nat) : Int) := by rw [Aqa (by omega) (by omega)]; omega
 by_cases h0 : ts.flatten.length = 0
 ·have hf : ts.flatten = [] := List.eq_nil_of_length_eq_zero h0
  have e2 := Tla [] ts (by omega) ts 0 rfl (by omega) hf
  simp only [Int.natCast_zero] at e2
  simp (disch := omega) only [Hha, e, PP, hw0, hw, e2]
  rw [hf]
 ·obtain ⟨row', e2, e3, e4⟩ := Vea [] ts (by omega) ts 0 0 (List.replicate ts.flatten.length (ByteArray.empty, [], ())) rfl (by omega) (by simp)
  simp only [Int.natCast_zero, Nat.zero_add, List.take_zero, List.nil_append] at e2 e4
  simp only [List.length_replicate] at e3
  simp (disch := omega) only [Hha, e, PP, hw0, hw0', hw, List.length_replicate, Nat.sub_zero, Int.natCast_zero, Int.toNat_zero, Nat.add_zero, e2, List.drop_zero, e4]
def Lab (x : Str) (l : List Str) : Bool := l.any fun y => decide (y = x)
theorem Zua (x : Str) (l : List Str) : Lab x l = true ↔ x ∈ l := by simp [Lab]
def Lxb : List Str → List Str → List Str
 | seen, [] => seen
 | seen, x :: xs => bif Lab x seen then Lxb seen xs else Lxb (seen ++ [x]) xs
theorem Sib (a b : Str) : eqK .str a b = decide (b = a) := by
 show (ByteArray.toList a == ByteArray.toList b) = _
 rw [Xsa, decide_eq_decide]
 exact eq_comm
theorem Jlb (s : Str) (p : Str × Bool) (m : List (Str × Bool)) : aLb .str .bool s (p :: m) = if p.1 = s then some 0 else (aLb .str .bool s m).map (· + 1) := by
 unfold aLb
 rw [List.findIdx?_cons, Sib]
 by_cases h : p.1 = s <;> simp [h]
theorem Vsa (s : Str) (p : Str × Bool) (m : List (Str × Bool)) : nMb .str .bool s false (p :: m) = if p.1 = s then p.2 else nMb .str .bool s false m := by
 unfold nMb
 rw [Jlb]
 by_cases h : p.1 = s
 ·simp [h]
 ·simp only [h, if_false]
  cases aLb .str .bool s m <;> simp
theorem Pgb (k : Str) (p : Str × Bool) (m : List (Str × Bool)) : qLb .str .bool k true (p :: m) = if p.1 = k then (k, true) :: m else p :: qLb .str .bool k true m := by
 unfold qLb
 rw [Jlb]
 by_cases h : p.1 = k
 ·simp [h]
 ·simp only [h, if_false]
  cases aLb .str .bool k m <;> simp
theorem Opb (s k : Str) : ∀ (m : List (Str × Bool)), nMb .str .bool s false (qLb .str .bool k true m) = if k = s then true else nMb .str .bool s false m
 | [] => by
  have : qLb .str .bool k true [] = [(k, true)] := rfl
  rw [this, Vsa]
 | p :: m => by
  rw [Pgb, Vsa]
  by_cases h : p.1 = k
  ·subst h
   simp only [if_true]
   rw [Vsa]
   by_cases hs : p.1 = s <;> simp [hs]
  ·simp only [h, if_false]
   rw [Vsa, Opb s k m]
   by_cases hs : p.1 = s
   ·have : ¬ k = s := fun e => h (hs.trans e.symm)
    simp [hs, this]
   ·simp [hs]
theorem Kna (t : Aka) (hb : t.length ≤ 10000000000) : ∀ (r : Aka) (i : Nat) (o : List Str) (m : List (Str × Bool)), t.drop i = r → i ≤ t.length → o.length ≤ i → m.length ≤ i → (∀ s, nMb .str .bool s false m = Lab s o) →
  ∃ m', Jba (o, m, t, (t.length : Int), (i : Int), ()) = some (Lxb o (r.map (·.1)), m', t, (t.length : Int), (t.length : Int), ())
 | [], i, o, m, h, hi, ho, hm, hs => by
  have := Aia h hi
  subst this
  rw [Qda]
  simp (disch := omega) only [Jsa, PP]
  exact ⟨m, rfl⟩
 | f :: r, i, o, m, h, hi, ho, hm, hs => by
  obtain ⟨h1, h2, h3, h4⟩ := Afa h
  have hM := Aha
  rw [Qda]
  cases hf : Lab f.1 o with
  | true =>
   simp (disch := omega) only [Jsa, PP, h2, hs, hf, decide_true, Bool.not_true]
   obtain ⟨m', e⟩ := Kna t hb r (i + 1) o m h3 (by omega) (by omega) (by omega) hs
   refine ⟨m', ?_⟩
   rw [e]
   simp only [List.map_cons, Lxb, hf, cond_true]
  | false =>
   simp (disch := omega) only [Jsa, PP, h2, hs, hf, decide_false, Bool.not_false]
   obtain ⟨m', e⟩ := Kna t hb r (i + 1) (o ++ [f.1]) (qLb .str .bool f.1 true m) h3 (by omega) (by simp; omega) (by
    unfold qLb; split
    ·simp; omega
    ·simp; omega) (fun s => by
    rw [Opb, hs]
    by_cases hsf : f.1 = s
    ·subst hsf; simp [Lab]
    ·simp [Lab, hsf])
   refine ⟨m', ?_⟩
   rw [e]
   simp only [List.map_cons, Lxb, hf, cond_false]
theorem Zya : ∀ (xs o : List Str), (Lxb o xs).length ≤ o.length + xs.length
 | [], o => by simp [Lxb]
 | x :: xs, o => by
  simp only [Lxb]
  cases Lab x o with
  | true => have := Zya xs o; simp; omega
  | false => have := Zya xs (o ++ [x]); simp at this ⊢; omega
theorem Gwb (a b : Aka) (ha : a.length ≤ 1000000000) (hb : b.length ≤ 1000000000) : Tga (a, b, ()) = some (lSa (Lxb [] ((a ++ b).map (·.1))), ()) := by
 have hM := Aha
 have hl : (a ++ b).length ≤ 10000000000 := by rw [List.length_append]; omega
 obtain ⟨m', e⟩ := Kna (a ++ b) hl (a ++ b) 0 [] [] rfl (by omega) (by simp) (by simp) (fun s => rfl)
 simp only [Int.natCast_zero] at e
 have hc : Dha ([a, b], ()) = some (a ++ b, ()) := by
  have := Nnb [a, b] (by simp) (by simp; omega)
  simpa using this
 have hu := Zya ((a ++ b).map (·.1)) []
 simp only [List.length_map, List.length_nil, Nat.zero_add] at hu
 rw [Gvb]
 simp (disch := omega) only [Aqb, hc, Aaa, e, Ala, Ada, List.length_nil, sDa]
def Qtb (l : List Str) (x : Str) : List Str := bif Lab x l then l else l.take (l.findIdx fun y => decide (ltS x y)) ++ x :: l.drop (l.findIdx fun y => decide (ltS x y))
def Zhb (l : List Str) : Prop := ∀ s ∈ l, s.size < 4611686018427387903
def Kzb : Option Str → Aka → Bool
 | _, [] => true
 | q, f :: r => Eva f.1 && (Yna f.2.1 && ((match q with | some q => decide (ltS q f.1) | none => true) && Kzb (some f.1) r))
def Mua (t : Aka) : Bool := Kzb none t && decide (t.length ≤ 30)
def Vga (t : Aka) : Prop := ∀ f ∈ t, f.1.size < 4611686018427387903 ∧ Zhb f.2.1 ∧ f.2.1.length < 4611686018427387903
def Sub (t : Aka) (i : Nat) : Option Str := if i = 0 then none else some (t.getD (i - 1) (ByteArray.empty, [], ())).1
theorem Cfb (t : Aka) : Sub t 0 = none := rfl
theorem Pfb (t : Aka) (i : Nat) {f : Dnb} (h : ∀ d, t.getD i d = f) : Sub t (i + 1) = some f.1 := by
 unfold Sub; rw [if_neg (by omega), Nat.add_sub_cancel, h]
theorem Uka (t : Aka) (hs : Vga t) (hb : t.length < 4611686018427387903) : ∀ (r : Aka) (i : Nat), t.drop i = r → i ≤ t.length →
  ∃ y, Mea (t, t, (t.length : Int), (i : Int), ()) = some y ∧ (match y with
   | .inl _ => Kzb (Sub t i) r = false
   | .inr z => Kzb (Sub t i) r = true ∧ z.1 = t)
 | [], i, h, hi => by
  have := Aia h hi
  subst this
  rw [Uja]
  simp (disch := omega) only [Fba, PP]
  exact ⟨_, rfl, rfl, rfl⟩
 | f :: r, i, h, hi => by
  obtain ⟨h1, h2, h3, h4⟩ := Afa h
  obtain ⟨s1, s2, s3⟩ := hs f h4
  obtain ⟨y, e, p⟩ := Uka t hs hb r (i + 1) h3 (by omega)
  rw [Pfb t i h2] at p
  rw [Uja]
  cases hn : Eva f.1 with
  | false =>
   simp (disch := first | omega | assumption) only [Fba, PP, h2, Dja, hn, Bool.not_false]
   exact ⟨_, rfl, by simp [Kzb, hn]⟩
  | true =>
   cases ha : Yna f.2.1 with
   | false =>
    simp (disch := first | omega | assumption) only [Fba, PP, h2, Dja, hn, Bool.not_true, Joa, ha, Bool.not_false]
    exact ⟨_, rfl, by simp [Kzb, hn, ha]⟩
   | true =>
    by_cases h0 : i = 0
    ·subst h0
     have hb1 : 0 < t.length := h1
     have hw1 : IntKind.wrap .i64 ((0 : Int) + 1) = 1 := by rw [Aqa (by omega) (by omega)]; rfl
     simp only [Int.natCast_zero] at *
     simp (disch := first | omega | assumption) only [Fba, PP, h2, Dja, hn, Bool.not_true, Joa, ha, Int.toNat_zero, hw1]
     refine ⟨y, by simpa using e, ?_⟩
     cases y with
     | inl z => simp only at p; simp [Kzb, hn, ha, Cfb, p]
     | inr z => simp only at p; simp [Kzb, hn, ha, Cfb, p]
    ·have hp : Sub t i = some (t.getD (i - 1) (ByteArray.empty, [], ())).1 := by unfold Sub; rw [if_neg h0]
     rw [hp]
     generalize hq : (t.getD (i - 1) (ByteArray.empty, [], ())).1 = q
     by_cases hlt : ltS q f.1
     ·simp (disch := first | omega | assumption) only [Fba, PP, h2, Dja, hn, Bool.not_true, Joa, ha, hq, hlt, decide_true]
      refine ⟨y, e, ?_⟩
      cases y with
      | inl z => simp only at p; simp [Kzb, hn, ha, hlt, p]
      | inr z => simp only at p; simp [Kzb, hn, ha, hlt, p]
     ·simp (disch := first | omega | assumption) only [Fba, PP, h2, Dja, hn, Bool.not_true, Joa, ha, hq, hlt, decide_false, Bool.not_false]
      exact ⟨_, rfl, by simp [Kzb, hn, ha, hlt]⟩
theorem Eda (t : Aka) (hs : Vga t) (hb : t.length < 4611686018427387903) : Lea (t, ()) = some (Mua t, ()) := by
 rw [Ltb]
 obtain ⟨y, e, p⟩ := Uka t hs hb t 0 rfl (by omega)
 simp only [Int.natCast_zero, Cfb] at e p
 cases y with
 | inl z =>
  simp only at p
  simp only [Apb, e, PP, Mua, p, Bool.false_and]
 | inr z =>
  obtain ⟨p, rfl⟩ := p
  have hd : decide (((z.1.length : Nat) : Int) ≤ 30) = decide (z.1.length ≤ 30) := by
   rw [decide_eq_decide]; omega
  simp only [Apb, e, PP, Mua, p, Bool.true_and, hd]
def Pza (l : List Str) : Bool := l.all fun s => decide (s.size ≤ 200)
theorem Npa (l : List Str) (hb : l.length < 4611686018427387903) : ∀ (r : List Str) (i : Nat), l.drop i = r → i ≤ l.length →
  ∃ y, Gpa (l, (i : Int), ()) = some y ∧ (match y with
   | .inl _ => Pza r = false
   | .inr _ => Pza r = true)
 | [], i, h, hi => by
  have := Aia h hi
  subst this
  rw [Noa]
  simp (disch := omega) only [Iaa, PP]
  exact ⟨_, rfl, rfl⟩
 | c :: r, i, h, hi => by
  obtain ⟨h1, h2, h3, h4⟩ := Afa h
  rw [Noa]
  by_cases hc : c.size ≤ 200
  ·simp (disch := omega) only [Iaa, PP, h2]
   obtain ⟨y, e, p⟩ := Npa l hb r (i + 1) h3 (by omega)
   refine ⟨y, e, ?_⟩
   cases y with
   | inl z => simp only [Pza] at p ⊢; simpa [hc] using p
   | inr z => simp only [Pza] at p ⊢; simpa [hc] using p
  ·simp (disch := omega) only [Iaa, PP, h2]
   exact ⟨_, rfl, by simp [Pza, hc]⟩
theorem Gqa (l : List Str) (hb : l.length < 4611686018427387903) : Hja (l, 300, ()) = some (decide (l.length ≤ 300) && Pza l, ()) := by
 rw [Ctb]
 by_cases h : l.length ≤ 300
 ·obtain ⟨y, e, p⟩ := Npa l hb l 0 rfl (by omega)
  simp only [Int.natCast_zero] at e
  cases y with
  | inl z => simp only at p; simp (disch := omega) only [Mka, PP, e, p, Bool.and_false]
  | inr z => simp only at p; simp (disch := omega) only [Mka, PP, e, p, h, decide_true, Bool.true_and]
 ·simp (disch := omega) only [Mka, PP, h, decide_false, Bool.false_and]
def Rna (t : Aka) : Bool := t.all fun f => (decide (f.2.1.length ≤ 300) && Pza f.2.1) && decide (f.1.size ≤ 100)
theorem Nra (t : Aka) (hs : Vga t) (hb : t.length < 4611686018427387903) : ∀ (r : Aka) (i : Nat), t.drop i = r → i ≤ t.length →
  ∃ y, Gra (t, (i : Int), ()) = some y ∧ (match y with
   | .inl _ => Rna r = false
   | .inr _ => Rna r = true)
 | [], i, h, hi => by
  have := Aia h hi
  subst this
  rw [Nqa]
  simp (disch := omega) only [Exa, PP]
  exact ⟨_, rfl, rfl⟩
 | f :: r, i, h, hi => by
  obtain ⟨h1, h2, h3, h4⟩ := Afa h
  obtain ⟨s1, s2, s3⟩ := hs f h4
  rw [Nqa]
  cases hl : (decide (f.2.1.length ≤ 300) && Pza f.2.1) with
  | false =>
   simp (disch := omega) only [Exa, PP, h2, Gqa, hl, Bool.not_false]
   exact ⟨_, rfl, by simp [Rna, hl]⟩
  | true =>
   by_cases hc : f.1.size ≤ 100
   ·simp (disch := omega) only [Exa, PP, h2, Gqa, hl, Bool.not_true]
    obtain ⟨y, e, p⟩ := Nra t hs hb r (i + 1) h3 (by omega)
    refine ⟨y, e, ?_⟩
    cases y with
    | inl z => simp only [Rna, List.all_cons, hl, hc, decide_true, Bool.true_and] at p ⊢; exact p
    | inr z => simp only [Rna, List.all_cons, hl, hc, decide_true, Bool.true_and] at p ⊢; exact p
   ·simp (disch := omega) only [Exa, PP, h2, Gqa, hl, Bool.not_true]
    exact ⟨_, rfl, by simp [Rna, hc]⟩
theorem Jta (t : Aka) (hs : Vga t) (hb : t.length < 4611686018427387903) : Lva (t, ()) = some (decide (t.length ≤ 40) && Rna t, ()) := by
 rw [Cwb]
 by_cases h : t.length ≤ 40
 ·obtain ⟨y, e, p⟩ := Nra t hs hb t 0 rfl (by omega)
  simp only [Int.natCast_zero] at e
  cases y with
  | inl z => simp only at p; simp (disch := omega) only [Mla, PP, e, p, Bool.and_false]
  | inr z => simp only at p; simp (disch := omega) only [Mla, PP, e, p, h, decide_true, Bool.true_and]
 ·simp (disch := omega) only [Mla, PP, h, decide_false, Bool.false_and]
theorem Oub {t : Aka} (h1 : t.length ≤ 40) (h2 : Rna t = true) : t.length ≤ 40 ∧ Wee t ∧ Vga t := by
 rw [Rna, List.all_eq_true] at h2
 refine ⟨h1, ⟨by omega, fun f hf => ?_⟩, fun f hf => ?_⟩
 ·have := h2 f hf
  simp only [Bool.and_eq_true, decide_eq_true_eq] at this
  omega
 ·have := h2 f hf
  simp only [Bool.and_eq_true, decide_eq_true_eq, Pza, List.all_eq_true] at this
  refine ⟨by omega, fun s hs => ?_, by omega⟩
  have := this.1.2 s hs
  omega
theorem Wee.set {t : Aka} (h : Wee t) (i : Nat) {f : Dnb} (hf : f.2.1.length ≤ 1000000000) : Wee (t.set i f) := by
 refine ⟨by rw [List.length_set]; exact h.1, fun g hg => ?_⟩
 rcases List.mem_or_eq_of_mem_set hg with hg | rfl
 ·exact h.2 g hg
 ·exact hf
theorem Wee.put {t : Aka} (h : Wee t) (ht : t.length < 1000000000) (s : Str) {l : List Str} (hl : l.length ≤ 1000000000) : Wee (Mja t s l) := by
 unfold Mja
 split
 ·exact h.set _ hl
 ·refine ⟨?_, fun g hg => ?_⟩
  ·rw [List.length_append, List.length_cons, List.length_take, List.length_drop]; omega
  ·simp only [List.mem_append, List.mem_cons] at hg
   rcases hg with hg | rfl | hg
   ·exact h.2 g (List.mem_of_mem_take hg)
   ·exact hl
   ·exact h.2 g (List.mem_of_mem_drop hg)
theorem Wee.del {t : Aka} (h : Wee t) (s : Str) : Wee (Tpa t s) := by
 refine ⟨Nat.le_trans (by rw [Tpa, List.length_eraseIdx]; split <;> omega) h.1, fun g hg => h.2 g (List.mem_of_mem_eraseIdx hg)⟩
theorem Svb (t : Aka) (s : Str) (l : List Str) : (Mja t s l).length ≤ t.length + 1 := by
 unfold Mja
 split
 ·rw [List.length_set]; omega
 ·rw [List.length_append, List.length_cons, List.length_take, List.length_drop]; omega
abbrev Vfa (l : List Str) : Prop := l.Pairwise ltS
theorem Qcb {l : List Str} {x y : Str} : y ∈ Qtb l x ↔ y ∈ l ∨ y = x := by
 unfold Qtb
 cases h : Lab x l with
 | true =>
  have := (Zua x l).1 h
  simp only [cond_true]
  constructor
  ·exact .inl
  ·rintro (h | rfl) <;> assumption
 | false =>
  simp only [cond_false, List.mem_append, List.mem_cons]
  have := List.take_append_drop (l.findIdx fun y => decide (ltS x y)) l
  constructor
  ·rintro (h | h | h)
   ·exact .inl (List.mem_of_mem_take h)
   ·exact .inr h
   ·exact .inl (List.mem_of_mem_drop h)
  ·rintro (h | h)
   ·rw [← this, List.mem_append] at h
    rcases h with h | h
    ·exact .inl h
    ·exact .inr (.inr h)
   ·exact .inr (.inl h)
theorem Mcb {x : Str} : ∀ {l : List Str}, Lab x l = false → Vfa l → (∀ y ∈ l.take (l.findIdx fun y => decide (ltS x y)), ltS y x) ∧ ∀ y ∈ l.drop (l.findIdx fun y => decide (ltS x y)), ltS x y
 | [], _, _ => by simp
 | o :: l, hm, hr => by
  simp only [Lab, List.any_cons, Bool.or_eq_false_iff, decide_eq_false_iff_not] at hm
  obtain ⟨hr1, hr2⟩ := List.pairwise_cons.1 hr
  obtain ⟨i1, i2⟩ := Mcb (x := x) (l := l) hm.2 hr2
  rw [List.findIdx_cons]
  by_cases h : ltS x o
  ·simp only [h, decide_true, cond_true, List.take_zero, List.drop_zero]
   refine ⟨by simp, fun y hy => ?_⟩
   rcases List.mem_cons.1 hy with rfl | hy
   ·exact h
   ·exact Ipa h (hr1 y hy)
  ·simp only [h, decide_false, cond_false, List.take_succ_cons, List.drop_succ_cons]
   refine ⟨fun y hy => ?_, i2⟩
   rcases List.mem_cons.1 hy with rfl | hy
   ·rcases Nwa y x with k | k | k
    ·exact k
    ·exact absurd k hm.1
    ·exact absurd k h
   ·exact i1 y hy
theorem Kwb {l : List Str} {x : Str} (h : Vfa l) : Vfa (Qtb l x) := by
 unfold Qtb
 cases hm : Lab x l with
 | true => exact h
 | false =>
  obtain ⟨h1, h2⟩ := Mcb hm h
  simp only [cond_false]
  rw [Vfa, List.pairwise_append]
  refine ⟨h.sublist (List.take_sublist _ _), List.pairwise_cons.2 ⟨h2, h.sublist (List.drop_sublist _ _)⟩, fun a ha b hb => ?_⟩
  rcases List.mem_cons.1 hb with rfl | hb
  ·exact h1 a ha
  ·exact Ipa (h1 a ha) (h2 b hb)
theorem Nma : ∀ (xs l : List Str), Vfa l → Vfa (xs.foldl Qtb l) ∧ ∀ y, y ∈ xs.foldl Qtb l ↔ y ∈ l ∨ y ∈ xs
 | [], l, h => ⟨h, fun y => by simp⟩
 | x :: xs, l, h => by
  obtain ⟨h1, h2⟩ := Nma xs (Qtb l x) (Kwb h)
  refine ⟨h1, fun y => ?_⟩
  rw [List.foldl_cons, h2, Qcb, List.mem_cons]
  constructor
  ·rintro ((h | h) | h)
   ·exact .inl h
   ·exact .inr (.inl h)
   ·exact .inr (.inr h)
  ·rintro (h | h | h)
   ·exact .inl (.inl h)
   ·exact .inl (.inr h)
   ·exact .inr h
theorem Clb : ∀ (xs o : List Str), o.Nodup → (Lxb o xs).Nodup ∧ ∀ y, y ∈ Lxb o xs ↔ y ∈ o ∨ y ∈ xs
 | [], o, h => ⟨h, fun y => by simp [Lxb]⟩
 | x :: xs, o, h => by
  simp only [Lxb]
  cases hm : Lab x o with
  | true =>
   have hx := (Zua x o).1 hm
   obtain ⟨h1, h2⟩ := Clb xs o h
   refine ⟨h1, fun y => ?_⟩
   simp only [cond_true, h2, List.mem_cons]
   constructor
   ·rintro (h | h)
    ·exact .inl h
    ·exact .inr (.inr h)
   ·rintro (h | rfl | h)
    ·exact .inl h
    ·exact .inl hx
    ·exact .inr h
  | false =>
   have hx : ¬ x ∈ o := fun h => by rw [(Zua x o).2 h] at hm; cases hm
   obtain ⟨h1, h2⟩ := Clb xs (o ++ [x]) (by rw [List.nodup_append]; exact ⟨h, by simp, fun a ha b hb => by simp at hb; subst hb; exact fun e => hx (e ▸ ha)⟩)
   refine ⟨h1, fun y => ?_⟩
   simp only [cond_false, h2, List.mem_append, List.mem_cons, List.not_mem_nil, or_false, or_assoc]
theorem Jtb {l : List Str} (h : l.Nodup) : Vfa (lSa l) := by
 have h1 : (lSa l).Pairwise fun a b => decide (a.data.toList ≤ b.data.toList) = true := oXa l
 have h2 : (lSa l).Nodup := (oFa l).nodup_iff.2 h
 refine (h1.and h2).imp fun {a b} hab => ?_
 obtain ⟨k1, k2⟩ := hab
 rw [decide_eq_true_eq] at k1
 rcases Nwa a b with k | k | k
 ·exact k
 ·exact absurd k k2
 ·exact absurd k (List.not_lt.2 k1)
theorem Pkb {l : List Str} {y : Str} : y ∈ lSa l ↔ y ∈ l := (oFa l).mem_iff
theorem Fdb : ∀ {l m : List Str}, Vfa l → Vfa m → (∀ y, y ∈ l ↔ y ∈ m) → l = m
 | [], [], _, _, _ => rfl
 | [], b :: m, _, _, h => by have := (h b).2 List.mem_cons_self; cases this
 | a :: l, [], _, _, h => by have := (h a).1 List.mem_cons_self; cases this
 | a :: l, b :: m, hl, hm, h => by
  obtain ⟨l1, l2⟩ := List.pairwise_cons.1 hl
  obtain ⟨m1, m2⟩ := List.pairwise_cons.1 hm
  have hab : a = b := by
   rcases List.mem_cons.1 ((h a).1 List.mem_cons_self) with e | e
   ·exact e
   ·rcases List.mem_cons.1 ((h b).2 List.mem_cons_self) with e' | e'
    ·exact e'.symm
    ·exact absurd (Ipa (m1 a e) (l1 b e')) (Jla _)
  subst hab
  congr 1
  refine Fdb l2 m2 fun y => ?_
  have hy := h y
  simp only [List.mem_cons] at hy
  constructor
  ·intro k
   rcases hy.1 (.inr k) with rfl | k'
   ·exact absurd (l1 y k) (Jla _)
   ·exact k'
  ·intro k
   rcases hy.2 (.inr k) with rfl | k'
   ·exact absurd (m1 y k) (Jla _)
   ·exact k'
def Nya (a b : Aka) : List Str := lSa (Lxb [] ((a ++ b).map (·.1)))
theorem Byb (a b : Aka) : ((a ++ b).map (·.1)).foldl Qtb [] = Nya a b := by
 obtain ⟨h1, h2⟩ := Nma ((a ++ b).map (·.1)) [] List.Pairwise.nil
 obtain ⟨h3, h4⟩ := Clb ((a ++ b).map (·.1)) [] List.nodup_nil
 refine Fdb h1 (Jtb h3) fun y => ?_
 rw [h2, Nya, Pkb, h4]
theorem Iyb (a b : Aka) : (Nya a b).length ≤ a.length + b.length := by
 rw [Nya, sDa]
 have := Zya ((a ++ b).map (·.1)) []
 simpa using this
abbrev RT (t : Aka) : Prop := t.Pairwise fun f g => ltS f.1 g.1
theorem Fzb (s : Str) : Ara [] s = none := rfl
theorem Boa (f : Dnb) (t : Aka) (s : Str) : Ara (f :: t) s = if f.1 = s then some f.2.1 else Ara t s := by
 unfold Ara
 rw [List.find?_cons]
 by_cases h : f.1 = s <;> simp [h]
theorem Kob (f : Dnb) (t : Aka) (s : Str) : at_ (f :: t) s = if f.1 = s then 0 else at_ t s + 1 := by
 unfold at_
 rw [List.findIdx_cons]
 by_cases h : f.1 = s <;> simp [h]
theorem Oqb (f : Dnb) (t : Aka) (s : Str) : gt_ (f :: t) s = if ltS s f.1 then 0 else gt_ t s + 1 := by
 unfold gt_
 rw [List.findIdx_cons]
 by_cases h : ltS s f.1 <;> simp [h]
theorem Bdb (t : Aka) (s : Str) : at_ t s < t.length ↔ (Ara t s).isSome = true := by
 rw [Bob]
 by_cases h : at_ t s < t.length <;> simp [h]
theorem Gka : ∀ {t : Aka} {s : Str}, (∀ f ∈ t, f.1 ≠ s) → Ara t s = none
 | [], _, _ => rfl
 | f :: t, s, h => by
  rw [Boa, if_neg (h f List.mem_cons_self)]
  exact Gka fun g hg => h g (List.mem_cons_of_mem _ hg)
theorem Fyb : ∀ {t : Aka} {f : Dnb}, f ∈ t → (Ara t f.1).isSome = true
 | g :: t, f, h => by
  rw [Boa]
  split
  ·rfl
  ·rcases List.mem_cons.1 h with rfl | h
   ·rename_i hn; exact absurd rfl hn
   ·exact Fyb h
theorem Fxb : ∀ {t : Aka} {s : Str} {l : List Str}, Ara t s = some l → (s, l, ()) ∈ t
 | f :: t, s, l, h => by
  rw [Boa] at h
  split at h
  ·rename_i e; subst e; cases h; exact List.mem_cons_self
  ·exact List.mem_cons_of_mem _ (Fxb h)
theorem Qaa {a b : Str} (h : ltS a b) : a ≠ b := fun e => Jla b (e ▸ h)
theorem Phb (s : Str) (l : List Str) : Mja [] s l = [(s, l, ())] := by simp [Mja, at_, gt_]
theorem Msb (f : Dnb) (t : Aka) (s : Str) (l : List Str) (h : f.1 = s) : Mja (f :: t) s l = (s, l, ()) :: t := by
 unfold Mja
 rw [Kob, if_pos h, if_pos (by simp)]; rfl
theorem Qvb (f : Dnb) (t : Aka) (s : Str) (l : List Str) (h : ltS f.1 s) : Mja (f :: t) s l = f :: Mja t s l := by
 unfold Mja
 rw [Kob, if_neg (Qaa h), Oqb, if_neg (Bvb h), List.length_cons]
 by_cases k : at_ t s < t.length
 ·rw [if_pos (by omega), if_pos k]; rfl
 ·rw [if_neg (by omega), if_neg k]; rfl
theorem Qub (f : Dnb) (t : Aka) (s : Str) (l : List Str) (hr : RT (f :: t)) (h : ltS s f.1) : Mja (f :: t) s l = (s, l, ()) :: f :: t := by
 have hn : Ara (f :: t) s = none := Gka fun g hg => by
  rcases List.mem_cons.1 hg with rfl | hg
  ·exact (Qaa h).symm
  ·exact (Qaa (Ipa h ((List.pairwise_cons.1 hr).1 g hg))).symm
 have ha : ¬ at_ (f :: t) s < (f :: t).length := by rw [Bdb, hn]; simp
 unfold Mja
 rw [if_neg ha, Oqb, if_pos h]; rfl
theorem Gpb : ∀ {t : Aka} {s : Str} {l : List Str} {g : Dnb}, g ∈ Mja t s l → g = (s, l, ()) ∨ g ∈ t := by
 intro t s l g h
 unfold Mja at h
 split at h
 ·rcases List.mem_or_eq_of_mem_set h with h | h
  ·exact .inr h
  ·exact .inl h
 ·simp only [List.mem_append, List.mem_cons] at h
  rcases h with h | h | h
  ·exact .inr (List.mem_of_mem_take h)
  ·exact .inl h
  ·exact .inr (List.mem_of_mem_drop h)
theorem Cla : ∀ {t : Aka} (s : Str) (l : List Str), RT t → RT (Mja t s l)
 | [], s, l, _ => by rw [Phb]; exact List.pairwise_singleton _ _
 | f :: t, s, l, hr => by
  obtain ⟨h1, h2⟩ := List.pairwise_cons.1 hr
  rcases Nwa f.1 s with h | h | h
  ·rw [Qvb _ _ _ _ h]
   refine List.pairwise_cons.2 ⟨fun g hg => ?_, Cla s l h2⟩
   rcases Gpb hg with rfl | hg
   ·exact h
   ·exact h1 g hg
  ·rw [Msb _ _ _ _ h]
   refine List.pairwise_cons.2 ⟨fun g hg => ?_, h2⟩
   rw [← h]; exact h1 g hg
  ·rw [Qub _ _ _ _ hr h]
   refine List.pairwise_cons.2 ⟨fun g hg => ?_, hr⟩
   rcases List.mem_cons.1 hg with rfl | hg
   ·exact h
   ·exact Ipa h (h1 g hg)
theorem Cja : ∀ {t : Aka} (s : Str) (l : List Str) (x : Str), RT t → Ara (Mja t s l) x = if x = s then some l else Ara t x
 | [], s, l, x, _ => by
  rw [Phb, Boa]
  by_cases h : x = s
  ·rw [if_pos h.symm, if_pos h]
  ·rw [if_neg fun e => h e.symm, if_neg h]
 | f :: t, s, l, x, hr => by
  obtain ⟨h1, h2⟩ := List.pairwise_cons.1 hr
  rcases Nwa f.1 s with h | h | h
  ·rw [Qvb _ _ _ _ h, Boa, Cja s l x h2, Boa]
   by_cases k : f.1 = x
   ·rw [if_pos k, if_pos k, if_neg fun e => Qaa h (k.trans e)]
   ·rw [if_neg k, if_neg k]
  ·rw [Msb _ _ _ _ h, Boa, Boa]
   by_cases k : x = s
   ·rw [if_pos k.symm, if_pos k]
   ·rw [if_neg fun e => k e.symm, if_neg k, if_neg fun e => k (e.symm.trans h)]
  ·rw [Qub _ _ _ _ hr h, Boa]
   by_cases k : x = s
   ·rw [if_pos k.symm, if_pos k]
   ·rw [if_neg fun e => k e.symm, if_neg k]
theorem Qqb (t : Aka) (s : Str) (l : List Str) : (Mja t s l).length = if (Ara t s).isSome then t.length else t.length + 1 := by
 unfold Mja
 by_cases h : at_ t s < t.length
 ·rw [if_pos h, if_pos ((Bdb t s).1 h), List.length_set]
 ·rw [if_neg h, if_neg (fun e => h ((Bdb t s).2 e)), List.length_append, List.length_cons, List.length_take, List.length_drop]; omega
theorem Seb (s : Str) : Tpa [] s = [] := rfl
theorem Ptb (f : Dnb) (t : Aka) (s : Str) : Tpa (f :: t) s = if f.1 = s then t else f :: Tpa t s := by
 unfold Tpa
 rw [Kob]
 by_cases h : f.1 = s
 ·rw [if_pos h, if_pos h]; rfl
 ·rw [if_neg h, if_neg h]; rfl
theorem Kpb {t : Aka} {s : Str} {g : Dnb} (h : g ∈ Tpa t s) : g ∈ t := List.mem_of_mem_eraseIdx h
theorem Eja {t : Aka} (s : Str) (h : RT t) : RT (Tpa t s) := h.sublist (List.eraseIdx_sublist _ _)
theorem Iia : ∀ {t : Aka} (s x : Str), RT t → Ara (Tpa t s) x = if x = s then none else Ara t x
 | [], s, x, _ => by rw [Seb, Fzb]; split <;> rfl
 | f :: t, s, x, hr => by
  obtain ⟨h1, h2⟩ := List.pairwise_cons.1 hr
  rw [Ptb, Boa]
  by_cases h : f.1 = s
  ·rw [if_pos h]
   by_cases k : x = s
   ·rw [if_pos k]
    exact Gka fun g hg e => Qaa (h1 g hg) ((h.trans k.symm).trans e.symm)
   ·rw [if_neg k, if_neg fun e => k (e.symm.trans h)]
  ·rw [if_neg h, Boa, Iia s x h2]
   by_cases k : f.1 = x
   ·rw [if_pos k, if_pos k, if_neg fun e => h (k.trans e)]
   ·rw [if_neg k, if_neg k]
theorem Oeb (t : Aka) (s : Str) : (Tpa t s).length ≤ t.length := by
 rw [Tpa, List.length_eraseIdx]; split <;> omega
theorem Pja : ∀ {t u : Aka}, RT t → RT u → (∀ x, Ara t x = Ara u x) → t = u
 | [], [], _, _, _ => rfl
 | [], g :: u, _, _, h => by
  have := h g.1; rw [Fzb, Boa, if_pos rfl] at this; cases this
 | f :: t, [], _, _, h => by
  have := h f.1; rw [Fzb, Boa, if_pos rfl] at this; cases this
 | f :: t, g :: u, ht, hu, h => by
  obtain ⟨t1, t2⟩ := List.pairwise_cons.1 ht
  obtain ⟨u1, u2⟩ := List.pairwise_cons.1 hu
  have hfg : f.1 = g.1 := by
   rcases Nwa f.1 g.1 with k | k | k
   ·have e : Ara (g :: u) f.1 = none := Gka fun a ha => by
     rcases List.mem_cons.1 ha with rfl | ha
     ·exact (Qaa k).symm
     ·exact (Qaa (Ipa k (u1 a ha))).symm
    have := h f.1
    rw [e, Boa, if_pos rfl] at this; cases this
   ·exact k
   ·have e : Ara (f :: t) g.1 = none := Gka fun a ha => by
     rcases List.mem_cons.1 ha with rfl | ha
     ·exact (Qaa k).symm
     ·exact (Qaa (Ipa k (t1 a ha))).symm
    have := h g.1
    rw [e, Boa, if_pos rfl] at this; cases this
  have hl := h f.1
  rw [Boa, if_pos rfl, Boa, if_pos hfg.symm] at hl
  have e : f = g := Mjb hfg (Option.some.inj hl)
  subst e
  congr 1
  refine Pja t2 u2 fun x => ?_
  have hx := h x
  rw [Boa, Boa] at hx
  by_cases k : f.1 = x
  ·rw [Gka fun a ha e => Qaa (t1 a ha) (k.trans e.symm), Gka fun a ha e => Qaa (u1 a ha) (k.trans e.symm)]
  ·rwa [if_neg k, if_neg k] at hx
theorem Mob : ∀ {t : Aka} {q : Option Str}, Kzb q t = true ↔ (∀ f ∈ t, Eva f.1 = true ∧ Yna f.2.1 = true) ∧ RT t ∧ ∀ a, q = some a → ∀ f ∈ t, ltS a f.1
 | [], q => by simp [Kzb]
 | f :: t, q => by
  have ih := Mob (t := t) (q := some f.1)
  rw [show Kzb q (f :: t) = (Eva f.1 && (Yna f.2.1 && ((match q with | some q => decide (ltS q f.1) | none => true) && Kzb (some f.1) t))) from by cases q <;> rfl, Bool.and_eq_true, Bool.and_eq_true, Bool.and_eq_true, ih, show RT (f :: t) ↔ _ from List.pairwise_cons]
  constructor
  ·rintro ⟨h1, h2, h3, h4, h5, h6⟩
   refine ⟨fun g hg => ?_, ⟨h6 _ rfl, h5⟩, fun a ha g hg => ?_⟩
   ·rcases List.mem_cons.1 hg with rfl | hg
    ·exact ⟨h1, h2⟩
    ·exact h4 g hg
   ·subst ha
    simp only [decide_eq_true_eq] at h3
    rcases List.mem_cons.1 hg with rfl | hg
    ·exact h3
    ·exact Ipa h3 (h6 _ rfl g hg)
  ·rintro ⟨h1, ⟨h2, h3⟩, h4⟩
   refine ⟨(h1 f List.mem_cons_self).1, (h1 f List.mem_cons_self).2, ?_, fun g hg => h1 g (List.mem_cons_of_mem _ hg), h3, fun a ha g hg => ?_⟩
   ·cases q with
    | none => rfl
    | some a => exact decide_eq_true (h4 a rfl f List.mem_cons_self)
   ·cases ha; exact h2 g hg
theorem Laa {t : Aka} : Mua t = true ↔ (∀ f ∈ t, Eva f.1 = true ∧ Yna f.2.1 = true) ∧ RT t ∧ t.length ≤ 30 := by
 rw [Mua, Bool.and_eq_true, Mob, decide_eq_true_eq]
 constructor
 ·rintro ⟨⟨h1, h2, _⟩, h3⟩; exact ⟨h1, h2, h3⟩
 ·rintro ⟨h1, h2, h3⟩; exact ⟨⟨h1, h2, by simp⟩, h3⟩
theorem Smb {t : Aka} (s : Str) (h : Mua t = true) : Mua (Tpa t s) = true := by
 rw [Laa] at *
 obtain ⟨h1, h2, h3⟩ := h
 exact ⟨fun f hf => h1 f (Kpb hf), Eja s h2, Nat.le_trans (Oeb t s) h3⟩
theorem Snb {t : Aka} (s : Str) (l : List Str) (h : Mua t = true) (hs : Eva s = true) (hl : Yna l = true) : Mua (Mja t s l) = ((Ara t s).isSome || decide (t.length < 30)) := by
 rw [Bool.eq_iff_iff, Laa, Qqb]
 rw [Laa] at h
 obtain ⟨h1, h2, h3⟩ := h
 constructor
 ·rintro ⟨_, _, k⟩
  cases hg : (Ara t s).isSome with
  | true => rfl
  | false => rw [hg, if_neg (by simp)] at k; simp; omega
 ·intro k
  refine ⟨fun f hf => ?_, Cla s l h2, ?_⟩
  ·rcases Gpb hf with rfl | hf
   ·exact ⟨hs, hl⟩
   ·exact h1 f hf
  ·cases hg : (Ara t s).isSome with
   | true => simpa using h3
   | false => rw [hg] at k; simp at k; simp; omega
theorem Xxa {t : Aka} (h : Mua t = true) : RT t := (Laa.1 h).2.1
theorem Sfb {t : Aka} (s : Str) (l : List Str) (h : RT t) (hn : Ara t s = none) : Tpa (Mja t s l) s = t := by
 refine Pja (Eja _ (Cla _ _ h)) h fun x => ?_
 rw [Iia _ _ (Cla _ _ h), Cja _ _ _ h]
 by_cases k : x = s
 ·rw [if_pos k, k, hn]
 ·rw [if_neg k, if_neg k]
def Kwa (a b : List Str) (i : Nat) : List Int := (List.range (b.length + 1)).map fun j => ((sRa (a.drop i) (b.drop j) : Nat) : Int)
theorem Ixa (a b : List Str) (i : Nat) : (Kwa a b i).length = b.length + 1 := by simp [Kwa]
theorem Lca (a b : List Str) (i j : Nat) (h : j ≤ b.length) (d : Int) : (Kwa a b i).getD j d = ((sRa (a.drop i) (b.drop j) : Nat) : Int) := by
 rw [Kwa, List.getD_eq_getElem?_getD, List.getElem?_map, List.getElem?_range (by omega)]; rfl
theorem Grb (a b : List Str) : (lIb a b).length = a.length + 1 := by simp [lIb]
theorem Gqb (a b : List Str) (i : Nat) (h : i ≤ a.length) (d : List Int) : (lIb a b).getD i d = Kwa a b i := by
 rw [lIb, List.getD_eq_getElem?_getD, List.getElem?_map, List.getElem?_range (by omega)]; rfl
theorem Chb (a b : List Str) (i : Nat) (h : a.length ≤ i) : Kwa a b i = List.replicate (b.length + 1) 0 := by
 unfold Kwa
 rw [List.drop_eq_nil_of_le h]
 simp only [cIb, Int.natCast_zero]
 apply List.ext_getElem <;> simp
theorem Qab {α : Type} (x y : List α) (k : Nat) (d : α) (h : k < x.length) : (x ++ y).getD k d = x.getD k d := by
 rw [List.getD_eq_getElem?_getD, List.getElem?_append_left h, ← List.getD_eq_getElem?_getD]
theorem Omb {α : Type} (x y : List α) (k : Nat) (d : α) (h : x.length ≤ k) : (x ++ y).getD k d = y.getD (k - x.length) d := by
 rw [List.getD_eq_getElem?_getD, List.getElem?_append_right h, ← List.getD_eq_getElem?_getD]
theorem Onb {α : Type} (x : List α) (i k : Nat) (d : α) : (x.drop i).getD k d = x.getD (i + k) d := by
 rw [List.getD_eq_getElem?_getD, List.getElem?_drop, ← List.getD_eq_getElem?_getD]
theorem Oob {α : Type} (x : List α) (i k : Nat) (d : α) (h : k < i) : (x.take i).getD k d = x.getD k d := by
 rw [List.getD_eq_getElem?_getD, List.getElem?_take, if_pos h, ← List.getD_eq_getElem?_getD]
def Oyb {α : Type} (k : Nat) (x y : List α) : List α := x.take k ++ y.drop k
theorem Zva {α : Type} (k : Nat) (x y : List α) (h : x.length = y.length) : (Oyb k x y).length = x.length := by
 simp only [Oyb, List.length_append, List.length_take, List.length_drop]; omega
theorem Wga {α : Type} (k j : Nat) (x y : List α) (h : x.length = y.length) (hk : k ≤ x.length) (d : α) : (Oyb k x y).getD j d = if j < k then x.getD j d else y.getD j d := by
 unfold Oyb
 split
 ·rename_i hj
  rw [Qab _ _ _ _ (by rw [List.length_take]; omega), Oob _ _ _ _ hj]
 ·rename_i hj
  rw [Omb _ _ _ _ (by rw [List.length_take]; omega), Onb, List.length_take]
  congr 1; omega
theorem Ozb {α : Type} (x y : List α) : Oyb 0 x y = y := by simp [Oyb]
theorem Qgb {α : Type} (k : Nat) (x y : List α) (h : x.length = y.length) (hk : k < x.length) (d : α) : (Oyb (k + 1) x y).set k (y.getD k d) = Oyb k x y := by
 apply List.ext_getElem?
 intro i
 have h1 := Zva (k + 1) x y h
 have h2 := Zva k x y h
 rw [List.getElem?_set, h1]
 split
 ·rename_i he
  subst he
  have := Wga k k x y h (by omega) d
  rw [if_neg (by omega), List.getD_eq_getElem?_getD, List.getElem?_eq_getElem (by omega)] at this
  rw [List.getElem?_eq_getElem (by omega)]
  simpa using this.symm
 ·rename_i he
  by_cases hi : i < x.length
  ·have a1 := Wga (k + 1) i x y h (by omega) d
   have a2 := Wga k i x y h (by omega) d
   rw [List.getD_eq_getElem?_getD, List.getElem?_eq_getElem (by omega)] at a1 a2
   rw [List.getElem?_eq_getElem (by omega), List.getElem?_eq_getElem (by omega)]
   simp only [Option.getD_some] at a1 a2
   rw [a1, a2]
   by_cases hik : i < k
   ·rw [if_pos (by omega), if_pos hik]
   ·rw [if_neg (by omega), if_neg hik]
  ·rw [List.getElem?_eq_none (by omega), List.getElem?_eq_none (by omega)]
theorem Blb {a : List Str} {i : Nat} (h : i < a.length) : a.drop i = a.getD i ByteArray.empty :: a.drop (i + 1) := by
 rw [List.drop_eq_getElem_cons h, List.getD_eq_getElem?_getD, List.getElem?_eq_getElem h]; rfl
theorem Qdb (a b : List Str) (i j : Nat) (hi : i < a.length) (hj : j < b.length) (u v : Int) : (Kwa a b i).getD j u = if a.getD i ByteArray.empty = b.getD j ByteArray.empty then (Kwa a b (i + 1)).getD (j + 1) v + 1 else
  bif decide ((Kwa a b (i + 1)).getD j v < (Kwa a b i).getD (j + 1) v) then (Kwa a b i).getD (j + 1) v else (Kwa a b (i + 1)).getD j v := by
 rw [Lca _ _ _ _ (by omega), Lca _ _ _ _ (by omega), Lca _ _ _ _ (by omega), Lca _ _ _ _ (by omega), Blb hi, Blb hj, xXa]
 split
 ·omega
 ·split
  ·rename_i h; rw [decide_eq_false (by omega)]; rfl
  ·rename_i h; rw [decide_eq_true (by omega)]; rfl
theorem Tbb (a b : List Str) (i j : Nat) (d : Int) (hd : d = 0) (hl : b.length < 1000000000) : 0 ≤ (Kwa a b i).getD j d ∧ (Kwa a b i).getD j d ≤ a.length := by
 by_cases h : j ≤ b.length
 ·rw [Lca _ _ _ _ h]
  have := vWa (a.drop i) (b.drop j)
  rw [List.length_drop] at this
  omega
 ·rw [List.getD_eq_getElem?_getD, List.getElem?_eq_none (by rw [Ixa]; omega)]
  subst hd
  simp
theorem Tza (t : List (List Int)) (z : List Int) (a b : List Str) (ha : a.length ≤ 1000000000) (hb : b.length < 1000000000) (i : Nat) (hi : i < a.length) : ∀ (k : Nat), k ≤ b.length →
  Jka (t, z, Oyb k (Kwa a b (i + 1)) (Kwa a b i), a, b, Kwa a b (i + 1), (i : Int), (k : Int) - 1, ()) = some (t, z, Kwa a b i, a, b, Kwa a b (i + 1), (i : Int), -1, ())
 | 0, hk => by
  rw [Nba, Ozb]
  simp (disch := omega) only [Hma, PP]
  rfl
 | k + 1, hk => by
  have hl1 := Ixa a b (i + 1)
  have hl2 := Ixa a b i
  have hl := Zva (k + 1) (Kwa a b (i + 1)) (Kwa a b i) (by omega)
  have e0 : (((k + 1 : Nat) : Int) - 1) = (k : Int) := by omega
  have hw : IntKind.wrap .i64 ((k : Int) + 1) = ((k + 1 : Nat) : Int) := Jca (by omega)
  have hw2 : IntKind.wrap .i64 ((k : Int) - 1) = (k : Int) - 1 := Aqa (by omega) (by omega)
  have ih := Tza t z a b ha hb i hi k (by omega)
  have hm : ∀ d, (Oyb (k + 1) (Kwa a b (i + 1)) (Kwa a b i)).getD (k + 1) d = (Kwa a b i).getD (k + 1) d := fun d => by rw [Wga _ _ _ _ (by omega) (by omega), if_neg (by omega)]
  have hx : ∀ d, a.getD i d = a.getD i ByteArray.empty := fun d => by
   rw [List.getD_eq_getElem?_getD, List.getD_eq_getElem?_getD, List.getElem?_eq_getElem (by omega)]; rfl
  have hy : ∀ d, b.getD k d = b.getD k ByteArray.empty := fun d => by
   rw [List.getD_eq_getElem?_getD, List.getD_eq_getElem?_getD, List.getElem?_eq_getElem (by omega)]; rfl
  have hs := Qgb k (Kwa a b (i + 1)) (Kwa a b i) (by omega) (by omega) 0
  have hst := Qdb a b i k hi (by omega) 0 0
  have hbd := Tbb a b (i + 1) (k + 1) 0 rfl hb
  have hw3 : IntKind.wrap .i64 ((Kwa a b (i + 1)).getD (k + 1) 0 + 1) = (Kwa a b (i + 1)).getD (k + 1) 0 + 1 := Aqa (by omega) (by omega)
  have hd : ∀ d : Int, (Ty.dfl (Ty.int IntKind.i64) : Int) = 0 := fun _ => rfl
  rw [Nba, e0]
  by_cases heq : a.getD i ByteArray.empty = b.getD k ByteArray.empty
  ·rw [if_pos heq] at hst
   simp (disch := omega) only [Hma, PP, hw, hw2, hm, hl, List.length_set, List.set_set, heq, decide_true, hx, hy]
   simp only [hd 0, hw3]
   simp only [← hst, hs]
   exact ih
  ·rw [if_neg heq] at hst
   simp (disch := omega) only [Hma, PP, hw, hw2, hm, hl, List.length_set, heq, decide_false, hx, hy]
   simp only [hd 0, ← hst, hs]
   exact ih
theorem Jab {α : Type} (x y : List α) (h : x.length = y.length) : hYb x 0 y = y := by
 simp [hYb, h]
theorem Tya (a b : List Str) (ha : a.length ≤ 1000000000) (hb : b.length < 1000000000) : ∀ (k : Nat), k ≤ a.length + 1 → ∀ z : List Int,
  ∃ z' x, Lza (List.replicate k [] ++ (lIb a b).drop k, z, a, b, Kwa a b k, (k : Int) - 1, ()) = some (lIb a b, z', a, b, x, -1, ())
 | 0, hk, z => by
  rw [Txa]
  simp (disch := omega) only [Qma, PP]
  exact ⟨_, _, rfl⟩
 | k + 1, hk, z => by
  have hM := Aha
  have hl := Ixa a b (k + 1)
  have e0 : (((k + 1 : Nat) : Int) - 1) = (k : Int) := by omega
  have hw : IntKind.wrap .i64 ((b.length : Int) + 1) = ((b.length + 1 : Nat) : Int) := Jca (by omega)
  have hw2 : IntKind.wrap .i64 ((k : Int) - 1) = (k : Int) - 1 := Aqa (by omega) (by omega)
  have hw4 : IntKind.wrap .i64 ((b.length : Int) - 1) = (b.length : Int) - 1 := Aqa (by omega) (by omega)
  have ho : ∀ x : List Int, x.length = b.length + 1 → hYb x 0 ((Kwa a b (k + 1)).take (x.length - 0)) = Kwa a b (k + 1) := fun x hx => by
   rw [List.take_of_length_le (by omega), Jab _ _ (by omega)]
  have h9 : ∃ row, row = Kwa a b k ∧ ∃ j, Jka (List.replicate (k + 1) [] ++ (lIb a b).drop (k + 1), z, Kwa a b (k + 1), a, b, Kwa a b (k + 1), (k : Int), (b.length : Int) - 1, ()) = some (List.replicate (k + 1) [] ++ (lIb a b).drop (k + 1), z, row, a, b, Kwa a b (k + 1), (k : Int), j, ()) := by
   by_cases hka : k < a.length
   ·refine ⟨_, rfl, -1, ?_⟩
    have := Tza (List.replicate (k + 1) [] ++ (lIb a b).drop (k + 1)) z a b ha hb k hka b.length (Nat.le_refl _)
    have hmx : Oyb b.length (Kwa a b (k + 1)) (Kwa a b k) = Kwa a b (k + 1) := by
     apply List.ext_getElem?
     intro i
     have l1 := Zva b.length (Kwa a b (k + 1)) (Kwa a b k) (by rw [Ixa, Ixa])
     have l2 := Ixa a b k
     by_cases hi : i < b.length + 1
     ·have q1 := Wga b.length i (Kwa a b (k + 1)) (Kwa a b k) (by rw [Ixa, Ixa]) (by omega) 0
      rw [List.getElem?_eq_getElem (by omega), List.getElem?_eq_getElem (by omega)]
      rw [List.getD_eq_getElem?_getD, List.getElem?_eq_getElem (by omega)] at q1
      simp only [Option.getD_some] at q1
      rw [q1]
      by_cases hib : i < b.length
      ·rw [if_pos hib, List.getD_eq_getElem?_getD, List.getElem?_eq_getElem (by omega)]; rfl
      ·have : i = b.length := by omega
       subst this
       rw [if_neg (by omega), Lca _ _ _ _ (Nat.le_refl _)]
       have q2 := Lca a b (k + 1) b.length (Nat.le_refl _) 0
       rw [List.getD_eq_getElem?_getD, List.getElem?_eq_getElem (by omega)] at q2
       simp only [Option.getD_some] at q2
       rw [q2]
       rw [List.drop_eq_nil_of_le (Nat.le_refl b.length), xYa, xYa]
     ·rw [List.getElem?_eq_none (by omega), List.getElem?_eq_none (by omega)]
    rw [hmx] at this
    exact this
   ·refine ⟨Kwa a b (k + 1), by rw [Chb _ _ _ (by omega), Chb _ _ _ (by omega)], (b.length : Int) - 1, ?_⟩
    rw [Nba]
    by_cases hb0 : b.length = 0
    ·simp (disch := omega) only [Hma, PP]
    ·simp (disch := omega) only [Hma, PP]
  obtain ⟨row, hrow, j, e9⟩ := h9
  subst hrow
  have htl := Grb a b
  have hset : (List.replicate (k + 1) [] ++ (lIb a b).drop (k + 1)).set k (Kwa a b k) = List.replicate k [] ++ (lIb a b).drop k := by
   have e1 : List.replicate (k + 1) ([] : List Int) = List.replicate k [] ++ [[]] := List.replicate_succ'
   have e2 : (lIb a b).drop k = Kwa a b k :: (lIb a b).drop (k + 1) := by
    rw [List.drop_eq_getElem_cons (by omega)]
    have := Gqb a b k (by omega) []
    rw [List.getD_eq_getElem?_getD, List.getElem?_eq_getElem (by omega)] at this
    simp only [Option.getD_some] at this
    rw [this]
   rw [e1, e2, List.append_assoc, List.set_append_right _ _ (by simp), List.length_replicate, Nat.sub_self]
   rfl
  obtain ⟨z', x, ih⟩ := Tya a b ha hb k (by omega) z
  refine ⟨z', x, ?_⟩
  have hll : (List.replicate (k + 1) ([] : List Int) ++ (lIb a b).drop (k + 1)).length = a.length + 1 := by
   rw [List.length_append, List.length_replicate, List.length_drop, htl]; omega
  rw [Txa, e0]
  simp (disch := first | omega | (simp only [List.length_replicate]; omega)) only [Qma, Ala, Ada, Aaa, Int.toNat_natCast, hw, hw2, hw4, List.length_replicate, ho, Nat.sub_zero, hl, e9, hll, List.length_set, hset, Option.bind_some, Sum.elim_inl, List.take_of_length_le, Jab]
  exact ih
theorem Kyb (a b : List Str) (ha : a.length ≤ 1000000000) (hb : b.length < 1000000000) : Zta (a, b, ()) = some (lIb a b, ()) := by
 have hM := Aha
 obtain ⟨z', x, e⟩ := Tya a b ha hb (a.length + 1) (Nat.le_refl _) (List.replicate (b.length + 1) 0)
 rw [Chb _ _ _ (by omega), List.drop_eq_nil_of_le (by rw [Grb]; exact Nat.le_refl _), List.append_nil] at e
 have e0 : (((a.length + 1 : Nat) : Int) - 1) = (a.length : Int) := by omega
 rw [e0] at e
 have hw : IntKind.wrap .i64 ((b.length : Int) + 1) = ((b.length + 1 : Nat) : Int) := Jca (by omega)
 have hw2 : IntKind.wrap .i64 ((a.length : Int) + 1) = ((a.length + 1 : Nat) : Int) := Jca (by omega)
 rw [Kxb]
 simp (disch := first | omega | (simp only [List.length_replicate]; omega)) only [Hdb, Ala, Ada, Aaa, Int.toNat_natCast, hw, hw2, e]
abbrev Klb := Int × Int × Unit
def Eoa : List Str → List Str → Int → Int → List Klb
 | x :: xs, y :: ys, i, j => if x = y then (i, j, ()) :: Eoa xs ys (i + 1) (j + 1) else if sRa (x :: xs) ys ≤ sRa xs (y :: ys) then Eoa xs (y :: ys) (i + 1) j else Eoa (x :: xs) ys i (j + 1)
 | _, _, _, _ => []
termination_by a b => a.length + b.length
theorem Lha (b : List Str) (i j : Int) : Eoa [] b i j = [] := by rw [Eoa]; intros; simp_all
theorem Osa (a : List Str) (i j : Int) : Eoa a [] i j = [] := by cases a <;> (rw [Eoa]; intros; simp_all)
theorem Uwa (x y : Str) (xs ys : List Str) (i j : Int) : Eoa (x :: xs) (y :: ys) i j = if x = y then (i, j, ()) :: Eoa xs ys (i + 1) (j + 1) else if sRa (x :: xs) ys ≤ sRa xs (y :: ys) then Eoa xs (y :: ys) (i + 1) j else Eoa (x :: xs) ys i (j + 1) := by rw [Eoa]
theorem Jbb {a b : List Str} {i j : Nat} (hi : i < a.length) (hj : j < b.length) : Eoa (a.drop i) (b.drop j) i j = if a.getD i ByteArray.empty = b.getD j ByteArray.empty then ((i : Int), (j : Int), ()) :: Eoa (a.drop (i + 1)) (b.drop (j + 1)) ((i + 1 : Nat) : Int) ((j + 1 : Nat) : Int)
  else if (Kwa a b i).getD (j + 1) 0 ≤ (Kwa a b (i + 1)).getD j 0 then Eoa (a.drop (i + 1)) (b.drop j) ((i + 1 : Nat) : Int) j else Eoa (a.drop i) (b.drop (j + 1)) i ((j + 1 : Nat) : Int) := by
 rw [Lca _ _ _ _ (by omega), Lca _ _ _ _ (by omega), Blb hi, Blb hj, Uwa]
 simp only [Int.natCast_add, Int.natCast_one, Int.ofNat_le]
theorem Imb {α : Type} (l : List α) (k : Nat) (h : k < l.length) (d d' : α) : l.getD k d = l.getD k d' := by
 rw [List.getD_eq_getElem?_getD, List.getD_eq_getElem?_getD, List.getElem?_eq_getElem h]; rfl
theorem Iub (a b : List Str) (ha : a.length ≤ 1000000000) (hb : b.length < 1000000000) : ∀ (n i j : Nat) (l : List Klb), (a.length - i) + (b.length - j) ≤ n → i ≤ a.length → j ≤ b.length → l.length ≤ i →
  ∃ x y, Gta (l, a, b, lIb a b, (i : Int), (j : Int), ()) = some (l ++ Eoa (a.drop i) (b.drop j) i j, a, b, lIb a b, x, y, ()) := by
 have hM := Aha
 intro n
 induction n with
 | zero =>
  intro i j l hn hi hj hl
  have e1 : i = a.length := by omega
  subst e1
  rw [Fpa]
  simp (disch := omega) only [Cua, PP]
  rw [List.drop_eq_nil_of_le (Nat.le_refl _), Lha, List.append_nil]
  exact ⟨_, _, rfl⟩
 | succ n ih =>
  intro i j l hn hi hj hl
  by_cases hia : i = a.length
  ·subst hia
   rw [Fpa]
   simp (disch := omega) only [Cua, PP]
   rw [List.drop_eq_nil_of_le (Nat.le_refl _), Lha, List.append_nil]
   exact ⟨_, _, rfl⟩
  ·by_cases hjb : j = b.length
   ·subst hjb
    rw [Fpa]
    simp (disch := omega) only [Cua, PP]
    rw [List.drop_eq_nil_of_le (Nat.le_refl b.length), Osa, List.append_nil]
    exact ⟨_, _, rfl⟩
   ·have hw : IntKind.wrap .i64 ((i : Int) + 1) = ((i + 1 : Nat) : Int) := Jca (by omega)
    have hw2 : IntKind.wrap .i64 ((j : Int) + 1) = ((j + 1 : Nat) : Int) := Jca (by omega)
    have hx := Imb a i (by omega)
    have hy := Imb b j (by omega)
    have ht1 := Gqb a b i (by omega)
    have ht2 := Gqb a b (i + 1) (by omega)
    have hr1 := Ixa a b i
    have hr2 := Ixa a b (i + 1)
    have htl := Grb a b
    rw [Fpa, Jbb (by omega) (by omega)]
    by_cases heq : a.getD i ByteArray.empty = b.getD j ByteArray.empty
    ·obtain ⟨x, y, e⟩ := ih (i + 1) (j + 1) (l ++ [((i : Int), (j : Int), ())]) (by omega) (by omega) (by omega) (by simp; omega)
     refine ⟨x, y, ?_⟩
     simp (disch := omega) only [Cua, PP, hw, hw2, heq, decide_true, e, if_true]
     rw [List.append_assoc]; rfl
    ·rw [if_neg heq]
     by_cases hc : (Kwa a b i).getD (j + 1) 0 ≤ (Kwa a b (i + 1)).getD j 0
     ·obtain ⟨x, y, e⟩ := ih (i + 1) j l (by omega) (by omega) (by omega) (by omega)
      refine ⟨x, y, ?_⟩
      rw [if_pos hc]
      simp (disch := omega) only [Cua, PP, hw, hw2, heq, decide_false, ht1, ht2, e]
     ·obtain ⟨x, y, e⟩ := ih i (j + 1) l (by omega) (by omega) (by omega) (by omega)
      refine ⟨x, y, ?_⟩
      rw [if_neg hc]
      simp (disch := omega) only [Cua, PP, hw, hw2, heq, decide_false, ht1, ht2, e]
theorem Rma (a b : List Str) (ha : a.length ≤ 1000000000) (hb : b.length < 1000000000) : Wea (a, b, ()) = some (Eoa a b 0 0, ()) := by
 obtain ⟨x, y, e⟩ := Iub a b ha hb _ 0 0 [] (Nat.le_refl _) (by omega) (by omega) (by simp)
 simp only [Int.natCast_zero, List.drop_zero, List.nil_append] at e
 rw [Itb]
 simp (disch := omega) only [Drb, PP, Kyb a b ha hb, e]
abbrev Nob := Int × Int × List Str × Unit
abbrev Jwa := Int × List Str × List Str × Unit
abbrev Ana := Int × Str × Str × Jwa × Unit
def Fca (b : List Str) : List Klb → Int → Int → List Nob
 | [], _, _ => []
 | p :: ps, i, j => (if p.1 > i ∨ p.2.1 > j then [(i, p.1 - i, (b.drop j.toNat).take (p.2.1.toNat - j.toNat), ())] else []) ++ Fca b ps (p.1 + 1) (p.2.1 + 1)
def OkE (n m : Nat) : List Klb → Int → Int → Prop
 | [], _, _ => True
 | p :: ps, i, j => i ≤ p.1 ∧ p.1 ≤ n ∧ j ≤ p.2.1 ∧ p.2.1 ≤ m ∧ OkE n m ps (p.1 + 1) (p.2.1 + 1)
theorem Oba (n m : Nat) : ∀ (a b : List Str) (i j : Int), i + a.length ≤ n → j + b.length ≤ m → OkE n m (Eoa a b i j ++ [((n : Int), (m : Int), ())]) i j
 | [], b, i, j, h1, h2 => by rw [Lha]; simp only [List.length_nil, List.nil_append, OkE] at *; exact ⟨by omega, by omega, by omega, by omega, trivial⟩
 | x :: xs, [], i, j, h1, h2 => by rw [Osa]; simp only [List.length_nil, List.nil_append, OkE] at *; exact ⟨by omega, by omega, by omega, by omega, trivial⟩
 | x :: xs, y :: ys, i, j, h1, h2 => by
  rw [Uwa]
  simp only [List.length_cons] at h1 h2
  split
  ·rw [List.cons_append]
   exact ⟨by simp, by simp; omega, by simp, by simp; omega, Oba n m xs ys (i + 1) (j + 1) (by omega) (by omega)⟩
  ·have pNb : ∀ (ps : List Klb) (i j i' j' : Int), i' ≤ i → j' ≤ j → OkE n m ps i j → OkE n m ps i' j' := fun ps i j i' j' hi hj h => by
    cases ps with
    | nil => trivial
    | cons p ps => exact ⟨by have := h.1; omega, h.2.1, by have := h.2.2.1; omega, h.2.2.2⟩
   split
   ·exact pNb _ _ _ _ _ (by omega) (by omega) (Oba n m xs (y :: ys) (i + 1) j (by omega) (by simp only [List.length_cons]; omega))
   ·exact pNb _ _ _ _ _ (by omega) (by omega) (Oba n m (x :: xs) ys i (j + 1) (by simp only [List.length_cons]; omega) (by omega))
termination_by a b => a.length + b.length
theorem Oaa : ∀ (a b : List Str) (i j : Int), (Eoa a b i j).length ≤ a.length
 | [], b, i, j => by rw [Lha]; simp
 | x :: xs, [], i, j => by rw [Osa]; simp
 | x :: xs, y :: ys, i, j => by
  have h1 := Oaa xs ys (i + 1) (j + 1)
  have h2 := Oaa xs (y :: ys) (i + 1) j
  have h3 := Oaa (x :: xs) ys i (j + 1)
  rw [Uwa]
  simp only [List.length_cons] at *
  split
  ·simp only [List.length_cons]; omega
  ·split <;> omega
termination_by a b => a.length + b.length
def Bmb (a b : List Str) : List Nob := Fca b (Eoa a b 0 0 ++ [((a.length : Int), (b.length : Int), ())]) 0 0
theorem Kla (n : Nat) (ps : List Klb) (a b : List Str) (q : Klb) (hn : n ≤ 1000000000) (hb : b.length ≤ 1000000000) (hp : ps.length ≤ 2000000000) : ∀ (r : List Klb) (k : Nat) (l : List Nob) (i j : Int), ps.drop k = r → k ≤ ps.length → l.length ≤ k → 0 ≤ i → 0 ≤ j → OkE n b.length (r ++ [q]) i j →
  ∃ l' x y, Iga (l, b, i, j, a, ps, (ps.length : Int), (k : Int), ()) = some (l', b, x, y, a, ps, (ps.length : Int), (ps.length : Int), ()) ∧ l' ++ Fca b [q] x y = l ++ Fca b (r ++ [q]) i j ∧ OkE n b.length [q] x y ∧ 0 ≤ x ∧ 0 ≤ y ∧ l'.length ≤ ps.length
 | [], k, l, i, j, h, hk, hl, hi, hj, ho => by
  have := Aia h hk
  subst this
  rw [Pua]
  simp (disch := omega) only [Gja, PP]
  exact ⟨_, _, _, rfl, rfl, ho, hi, hj, hl⟩
 | p :: r, k, l, i, j, h, hk, hl, hi, hj, ho => by
  obtain ⟨h1, h2, h3, h4⟩ := Afa h
  obtain ⟨o1, o2, o3, o4, o5⟩ := ho
  have hM := Aha
  have hw1 : IntKind.wrap .i64 (p.1 + 1) = p.1 + 1 := Aqa (by omega) (by omega)
  have hw2 : IntKind.wrap .i64 (p.2.1 + 1) = p.2.1 + 1 := Aqa (by omega) (by omega)
  have hw3 : IntKind.wrap .i64 (p.1 - i) = p.1 - i := Aqa (by omega) (by omega)
  have ht : ((b.drop j.toNat).take (p.2.1.toNat - j.toNat)).length ≤ 1000000000 := by rw [List.length_take, List.length_drop]; omega
  rw [Pua, List.cons_append, Fca]
  by_cases hc : p.1 > i ∨ p.2.1 > j
  ·obtain ⟨l', x, y, e, e2, e3⟩ := Kla n ps a b q hn hb hp r (k + 1) (l ++ [(i, p.1 - i, (b.drop j.toNat).take (p.2.1.toNat - j.toNat), ())]) (p.1 + 1) (p.2.1 + 1) h3 (by omega) (by simp; omega) (by omega) (by omega) o5
   refine ⟨l', x, y, ?_, by rw [e2, if_pos hc, List.append_assoc], e3⟩
   by_cases hc1 : p.1 > i
   ·simp (disch := omega) only [Gja, PP, h2, hw1, hw2, hw3, e]
   ·simp (disch := omega) only [Gja, PP, h2, hw1, hw2, hw3, e]
  ·obtain ⟨l', x, y, e, e2, e3⟩ := Kla n ps a b q hn hb hp r (k + 1) l (p.1 + 1) (p.2.1 + 1) h3 (by omega) (by omega) (by omega) (by omega) o5
   refine ⟨l', x, y, ?_, by rw [e2, if_neg hc, List.nil_append], e3⟩
   simp (disch := omega) only [Gja, PP, h2, hw1, hw2, hw3, e]
theorem Fqb (a b : List Str) (ha : a.length ≤ 1000000000) (hb : b.length < 1000000000) : Ssa (a, b, ()) = some (Bmb a b, ()) := by
 have hM := Aha
 have hpl := Oaa a b 0 0
 obtain ⟨l', x, y, e, e2, e3, e4, e5, e6⟩ := Kla a.length (Eoa a b 0 0) a b ((a.length : Int), (b.length : Int), ()) ha (by omega) (by omega) _ 0 [] 0 0 rfl (by omega) (by simp) (by omega) (by omega) (Oba a.length b.length a b 0 0 (by omega) (by omega))
 simp only [Int.natCast_zero, List.nil_append] at e e2
 obtain ⟨o1, o2, o3, o4, _⟩ := e3
 simp only at o1 o3
 have hw3 : IntKind.wrap .i64 ((a.length : Int) - x) = (a.length : Int) - x := Aqa (by omega) (by omega)
 have ht : ((b.drop y.toNat).take (b.length - y.toNat)).length ≤ 1000000000 := by rw [List.length_take, List.length_drop]; omega
 have he : Bmb a b = l' ++ Fca b [((a.length : Int), (b.length : Int), ())] x y := by rw [e2]; rfl
 rw [Fpb, he, Fca]
 by_cases hc1 : (a.length : Int) > x
 ·rw [if_pos (.inl hc1)]
  simp (disch := omega) only [Oia, PP, Rma a b ha hb, e, hw3, Fca]
  rfl
 ·by_cases hc2 : (b.length : Int) > y
  ·rw [if_pos (.inr hc2)]
   simp (disch := omega) only [Oia, PP, Rma a b ha hb, e, hw3, Fca]
   rfl
  ·rw [if_neg (by simp only; omega)]
   simp (disch := omega) only [Oia, PP, Rma a b ha hb, e, hw3, Fca]
   simp
def Lta (a : List Str) : List Nob → Int → List Jwa
 | [], _ => []
 | e :: es, by_ => (e.1 + by_, (a.drop e.1.toNat).take ((e.1 + e.2.1).toNat - e.1.toNat), e.2.2.1, ()) :: Lta a es (by_ + e.2.2.1.length - e.2.1)
def Yub (a : List Str) (e : Nob) : Prop := 0 ≤ e.1 ∧ 0 ≤ e.2.1 ∧ e.1 + e.2.1 ≤ a.length ∧ e.2.2.1.length ≤ 1000000000
theorem Gcb (a : List Str) (es : List Nob) (ha : a.length ≤ 1000000000) (he : ∀ e ∈ es, Yub a e) (hs : es.length ≤ 1000000001) : ∀ (r : List Nob) (k : Nat) (l : List Jwa) (by_ : Int), es.drop k = r → k ≤ es.length → l.length ≤ k → -(k * 1000000000 : Int) ≤ by_ → by_ ≤ k * 1000000000 →
  ∃ x y, Nna (l, a, by_, es, (es.length : Int), (k : Int), ()) = some (l ++ Lta a r by_, a, x, es, (es.length : Int), y, ()) := by
 intro r
 induction r with
 | nil =>
  intro k l by_ h hk hl hb1 hb2
  have := Aia h hk
  subst this
  rw [Vza]
  simp (disch := omega) only [Uqa, PP, Lta, List.append_nil]
  exact ⟨_, _, rfl⟩
 | cons e r ih =>
  intro k l by_ h hk hl hb1 hb2
  obtain ⟨h1, h2, h3, h4⟩ := Afa h
  obtain ⟨o1, o2, o3, o4⟩ := he e h4
  have hM := Aha
  have hw1 : IntKind.wrap .i64 (e.1 + e.2.1) = e.1 + e.2.1 := Aqa (by omega) (by omega)
  have hw2 : IntKind.wrap .i64 (e.1 + by_) = e.1 + by_ := Aqa (by omega) (by omega)
  have hw3 : IntKind.wrap .i64 ((e.2.2.1.length : Int) - e.2.1) = (e.2.2.1.length : Int) - e.2.1 := Aqa (by omega) (by omega)
  have hw4 : IntKind.wrap .i64 (by_ + ((e.2.2.1.length : Int) - e.2.1)) = by_ + e.2.2.1.length - e.2.1 := by rw [Aqa (by omega) (by omega)]; omega
  have ht : ((a.drop e.1.toNat).take ((e.1 + e.2.1).toNat - e.1.toNat)).length ≤ 1000000000 := by rw [List.length_take, List.length_drop]; omega
  obtain ⟨x, y, e9⟩ := ih (k + 1) (l ++ [(e.1 + by_, (a.drop e.1.toNat).take ((e.1 + e.2.1).toNat - e.1.toNat), e.2.2.1, ())]) (by_ + e.2.2.1.length - e.2.1) h3 (by omega) (by simp; omega) (by omega) (by omega)
  refine ⟨x, y, ?_⟩
  rw [Vza, Lta]
  simp (disch := omega) only [Uqa, PP, h2, hw1, hw2, hw3, hw4, e9]
  rw [List.append_assoc]; rfl
theorem Ihb (n : Nat) (a b : List Str) (ha : n ≤ a.length) (hb : b.length ≤ 1000000000) : ∀ (ps : List Klb) (i j : Int), 0 ≤ i → 0 ≤ j → OkE n b.length ps i j → ∀ e ∈ Fca b ps i j, Yub a e
 | [], i, j, hi, hj, ho, e, he => by simp [Fca] at he
 | p :: ps, i, j, hi, hj, ho, e, he => by
  obtain ⟨o1, o2, o3, o4, o5⟩ := ho
  rw [Fca, List.mem_append] at he
  rcases he with he | he
  ·split at he
   ·simp only [List.mem_singleton] at he
    subst he
    refine ⟨hi, by simp only; omega, by simp only; omega, ?_⟩
    simp only [List.length_take, List.length_drop]; omega
   ·simp at he
  ·exact Ihb n a b ha hb ps _ _ (by omega) (by omega) o5 e he
theorem Eqb (b : List Str) : ∀ (ps : List Klb) (i j : Int), (Fca b ps i j).length ≤ ps.length
 | [], i, j => by simp [Fca]
 | p :: ps, i, j => by
  have := Eqb b ps (p.1 + 1) (p.2.1 + 1)
  rw [Fca, List.length_append, List.length_cons]
  split <;> simp <;> omega
theorem Ogb (a b : List Str) (hb : b.length ≤ 1000000000) : ∀ e ∈ Bmb a b, Yub a e := Ihb a.length a b (Nat.le_refl _) hb _ 0 0 (by omega) (by omega) (Oba a.length b.length a b 0 0 (by omega) (by omega))
theorem Erb (a b : List Str) : (Bmb a b).length ≤ a.length + 1 := by
 have h1 := Eqb b (Eoa a b 0 0 ++ [((a.length : Int), (b.length : Int), ())]) 0 0
 have h2 := Oaa a b 0 0
 rw [List.length_append] at h1
 simp only [Bmb, List.length_cons, List.length_nil] at *
 omega
def Twa (a b : List Str) : List Jwa := Lta a (Bmb a b) 0
theorem Nbb (a b : List Str) (ha : a.length ≤ 1000000000) (hb : b.length < 1000000000) : Brb (a, b, ()) = some (Twa a b, ()) := by
 have hel := Erb a b
 obtain ⟨x, y, e⟩ := Gcb a (Bmb a b) ha (Ogb a b (by omega)) (by omega) _ 0 [] 0 rfl (by omega) (by simp) (by simp) (by simp)
 simp only [Int.natCast_zero, List.nil_append] at e
 rw [Nab]
 simp (disch := omega) only [Mab, PP, Fqb a b ha hb, e]
 rfl
theorem Eub (a : List Str) : ∀ (es : List Nob) (x : Int), (Lta a es x).length = es.length
 | [], _ => rfl
 | e :: es, x => by rw [Lta, List.length_cons, List.length_cons, Eub a es]
def Mid (t : Aka) : Prop := t.length ≤ 1000 ∧ ∀ f ∈ t, f.2.1.length ≤ 1000
theorem Mid.wee {t : Aka} (h : Mid t) : Wee t := ⟨by have := h.1; omega, fun f hf => by have := h.2 f hf; omega⟩
theorem Mid.get {t : Aka} (h : Mid t) (s : Str) : ((Ara t s).getD []).length ≤ 1000 := by
 rw [Bob]
 split
 ·rename_i hlt
  simp only [Option.getD_some]
  have := h.2 (t.getD (at_ t s) (ByteArray.empty, [], ())) (by rw [List.getD_eq_getElem?_getD, List.getElem?_eq_getElem hlt]; exact List.getElem_mem _)
  exact this
 ·simp
abbrev noH : Jwa := (0, [], [], ())
def Jua (s : Str) (hs : List Jwa) : List Ana := hs.map fun h => (3, s, ByteArray.empty, h, ())
def Mya (a b : Aka) (s : Str) : List Ana := (if (Ara a s).isSome then [] else [(0, s, ByteArray.empty, noH, ())]) ++ (Jua s (Twa ((Ara a s).getD []) ((Ara b s).getD [])) ++
 (if (Ara b s).isSome then [] else [(1, s, ByteArray.empty, noH, ())]))
theorem Rra (s : Str) (b : Bool) (hs : List Jwa) (hl : hs.length ≤ 1000000000) : ∀ (r : List Jwa) (k : Nat) (l : List Ana), hs.drop k = r → k ≤ hs.length → l.length ≤ 10000000000 + k →
  Hsa (l, s, b, hs, (hs.length : Int), (k : Int), ()) = some (l ++ Jua s r, s, b, hs, (hs.length : Int), (hs.length : Int), ())
 | [], k, l, h, hk, hb => by
  have := Aia h hk
  subst this
  rw [Rqa]
  simp (disch := omega) only [Oja, PP, Jua, List.map_nil, List.append_nil]
 | x :: r, k, l, h, hk, hb => by
  obtain ⟨h1, h2, h3, h4⟩ := Afa h
  have hM := Aha
  have ih := Rra s b hs hl r (k + 1) (l ++ [(3, s, ByteArray.empty, x, ())]) h3 (by omega) (by simp; omega)
  rw [Rqa]
  simp (disch := omega) only [Oja, PP, h2]
  refine ih.trans ?_
  rw [List.append_assoc]; rfl
theorem Xta (a b : List Str) : (Twa a b).length ≤ a.length + 1 := by
 rw [Twa, Eub]; exact Erb a b
theorem Ohb (a b : Aka) (ha : Mid a) (s : Str) : (Mya a b s).length ≤ 1003 := by
 have h1 := Xta ((Ara a s).getD []) ((Ara b s).getD [])
 have h2 := ha.get s
 simp only [Mya, List.length_append, Jua, List.length_map]
 split <;> split <;> simp <;> omega
theorem Wja (a b : Aka) (ha : Mid a) (hb : Mid b) (ns : List Str) (hn : ns.length ≤ 1000000) : ∀ (r : List Str) (k : Nat) (l : List Ana), ns.drop k = r → k ≤ ns.length → l.length ≤ k * 1003 →
  Lga (l, a, b, ns, (ns.length : Int), (k : Int), ()) = some (l ++ r.flatMap (Mya a b), a, b, ns, (ns.length : Int), (ns.length : Int), ())
 | [], k, l, h, hk, hl => by
  have := Aia h hk
  subst this
  rw [Wia]
  simp (disch := omega) only [Jha, PP, List.flatMap_nil, List.append_nil]
 | s :: r, k, l, h, hk, hl => by
  obtain ⟨h1, h2, h3, h4⟩ := Afa h
  have hM := Aha
  have g1 := ha.get s
  have g2 := hb.get s
  have hfl := Ohb a b ha s
  have hhl := Xta ((Ara a s).getD []) ((Ara b s).getD [])
  have ih := Wja a b ha hb ns hn r (k + 1) (l ++ Mya a b s) h3 (by omega) (by rw [List.length_append]; omega)
  have eA := Foa a s ha.wee
  have eB := Foa b s hb.wee
  have eH := Nbb ((Ara a s).getD []) ((Ara b s).getD []) (by omega) (by omega)
  have eL := fun b2 l (hl : l.length ≤ 10000000000) => Rra s b2 (Twa ((Ara a s).getD []) ((Ara b s).getD [])) (by omega) _ 0 l rfl (by omega) (by omega)
  simp only [Int.natCast_zero, List.drop_zero] at eL
  have hpl : (Jua s (Twa ((Ara a s).getD []) ((Ara b s).getD []))).length ≤ 1001 := by rw [Jua, List.length_map]; omega
  have fin : ∀ l', l' = l ++ Mya a b s → Lga (l', a, b, ns, (ns.length : Int), ((k + 1 : Nat) : Int), ()) = some (l ++ (s :: r).flatMap (Mya a b), a, b, ns, (ns.length : Int), (ns.length : Int), ()) := fun l' hl' => by
   rw [hl', ih, List.flatMap_cons, List.append_assoc]
  rw [Wia]
  cases hA : (Ara a s).isSome with
  | true =>
   cases hB : (Ara b s).isSome with
   | true =>
    simp (disch := first | omega | (simp only [List.length_append, List.length_cons, List.length_nil]; omega)) only [Jha, PP, h2, eA, eB, eH, eL, hA, hB]
    refine fin _ ?_; simp [Mya, hA, hB]
   | false =>
    simp (disch := first | omega | (simp only [List.length_append, List.length_cons, List.length_nil]; omega)) only [Jha, PP, h2, eA, eB, eH, eL, hA, hB]
    refine fin _ ?_; simp [Mya, hA, hB]
  | false =>
   cases hB : (Ara b s).isSome with
   | true =>
    simp (disch := first | omega | (simp only [List.length_append, List.length_cons, List.length_nil]; omega)) only [Jha, PP, h2, eA, eB, eH, eL, hA, hB]
    refine fin _ ?_; simp [Mya, hA, hB]
   | false =>
    simp (disch := first | omega | (simp only [List.length_append, List.length_cons, List.length_nil]; omega)) only [Jha, PP, h2, eA, eB, eH, eL, hA, hB]
    refine fin _ ?_; simp [Mya, hA, hB]
def Izb (a b : Aka) : List Ana := (Nya a b).flatMap (Mya a b)
theorem Nhb (a b : Aka) (ha : Mid a) (hb : Mid b) (sa : Vga a) (sb : Vga b) : Gfb (a, b, ()) = some (if Mua a && Mua b then Izb a b else [], if Mua a && Mua b then 0 else 1, ()) := by
 have hl := Iyb a b
 have h1 := ha.1
 have h2 := hb.1
 have eN := Gwb a b (by omega) (by omega)
 have eL := Wja a b ha hb (Nya a b) (by omega) _ 0 [] rfl (by omega) (by simp)
 simp only [Int.natCast_zero, List.nil_append, List.drop_zero] at eL
 rw [Ngb]
 cases hA : Mua a with
 | false =>
  simp (disch := omega) only [Zra, PP, Eda a sa (by omega), hA]
  rfl
 | true =>
  cases hB : Mua b with
  | false =>
   simp (disch := omega) only [Zra, PP, Eda a sa (by omega), Eda b sb (by omega), hA, hB]
   rfl
  | true =>
   rw [show lSa (Lxb [] ((a ++ b).map (·.1))) = Nya a b from rfl] at eN
   simp (disch := omega) only [Zra, PP, Eda a sa (by omega), Eda b sb (by omega), hA, hB, eN, eL]
   rfl
def Kmb (p : Ana) : Prop := p.2.2.2.1.2.1.length < 4611686018427387903 ∧ p.2.2.2.1.2.2.1.length < 4611686018427387903
theorem Eaa {α : Type} [DecidableEq α] (a b : α) : (a == b) = decide (a = b) := by by_cases h : a = b <;> simp [h]
instance decPrim1 : DecidableEq (Jwa × Unit) := inferInstance
instance decPrim2 : DecidableEq (Str × Jwa × Unit) := inferInstance
instance decPrim3 : DecidableEq (Str × Str × Jwa × Unit) := inferInstance
instance decPrim : DecidableEq Ana := inferInstanceAs (DecidableEq (Int × Str × Str × Jwa × Unit))
theorem Usa {α β : Type} (f : α → List β) (c : Nat) : ∀ (l : List α), (∀ x ∈ l, (f x).length ≤ c) → (l.flatMap f).length ≤ l.length * c
 | [], _ => by simp
 | x :: l, h => by
  have h1 := Usa f c l fun y hy => h y (List.mem_cons_of_mem _ hy)
  have h2 := h x List.mem_cons_self
  rw [List.flatMap_cons, List.length_append, List.length_cons, Nat.add_mul]
  omega
theorem Vda (l0 ts : List (List Str)) (hb : ts.length < 4611686018427387903) : ∀ (r : List (List Str)) (i n : Nat), ts.drop i = r → i ≤ ts.length → n + r.flatten.length < 4611686018427387903 →
  Bra (l0, (n : Int), ts, (ts.length : Int), (i : Int), ()) = some (l0, ((n + r.flatten.length : Nat) : Int), ts, (ts.length : Int), (ts.length : Int), ())
 | [], i, n, h, hi, _ => by
  have := Aia h hi
  subst this
  rw [Gea]
  simp (disch := omega) only [Dta, PP, List.flatten_nil, Nat.add_zero]
 | t :: r, i, n, h, hi, hn => by
  obtain ⟨h1, h2, h3, h4⟩ := Afa h
  simp only [List.flatten_cons, List.length_append] at hn
  have hw : IntKind.wrap .i64 ((n : Int) + (t.length : Int)) = ((n + t.length : Nat) : Int) := by rw [Aqa (by omega) (by omega)]; omega
  rw [Gea]
  simp (disch := omega) only [Dta, PP, h2, hw]
  rw [Vda l0 ts hb r (i + 1) (n + t.length) h3 (by omega) (by omega)]
  simp only [List.flatten_cons, List.length_append, Nat.add_assoc]
theorem Tka (l0 : List Str) (ts : List (List Str)) (hb : ts.length < 4611686018427387903) : ∀ (r : List (List Str)) (i n : Nat) (row : List Str), ts.drop i = r → i ≤ ts.length → n + r.flatten.length ≤ row.length →
  ∃ row' : List Str, Bea (l0, row, 0, n, ts, (ts.length : Int), (i : Int), ()) = some (l0, row', 0, n + r.flatten.length, ts, (ts.length : Int), (ts.length : Int), ()) ∧ row'.length = row.length ∧ row'.take (n + r.flatten.length) = row.take n ++ r.flatten
 | [], i, n, row, h, hi, _ => by
  have := Aia h hi
  subst this
  rw [Fia]
  simp (disch := omega) only [Dka, PP, List.flatten_nil, Nat.add_zero, List.append_nil]
  exact ⟨row, rfl, rfl, rfl⟩
 | t :: r, i, n, row, h, hi, hn => by
  obtain ⟨h1, h2, h3, h4⟩ := Afa h
  simp only [List.flatten_cons, List.length_append] at hn
  have ho := Wra row n t (by omega)
  rw [Fia]
  simp (disch := omega) only [Dka, PP, h2, ho]
  obtain ⟨row', e, e1, e2⟩ := Tka l0 ts hb r (i + 1) (n + t.length) (hYb row n t) h3 (by omega) (by omega)
  refine ⟨row', ?_, by rw [e1, ho], ?_⟩
  ·rw [e]; simp only [List.flatten_cons, List.length_append, Nat.add_assoc]
  ·have e3 : (hYb row n t).take (n + t.length) = row.take n ++ t := by
    have : (row.take n ++ t).length = n + t.length := by rw [List.length_append, List.length_take]; omega
    rw [hYb, ← this]; exact List.take_left
   rw [e3] at e2
   simp only [List.flatten_cons, List.length_append]
   rw [← Nat.add_assoc, e2, List.append_assoc]
theorem Qja (l0 : List Str) (ts : List (List Str)) (hb : ts.length < 4611686018427387903) : ∀ (r : List (List Str)) (i : Nat), ts.drop i = r → i ≤ ts.length → r.flatten = [] →
  Aza (l0, [], ts, (ts.length : Int), (i : Int), ()) = some (l0, [], ts, (ts.length : Int), (ts.length : Int), ())
 | [], i, h, hi, _ => by
  have := Aia h hi
  subst this
  rw [Era]
  simp (disch := omega) only [Dca, PP]
 | t :: r, i, h, hi, hn => by
  obtain ⟨h1, h2, h3, h4⟩ := Afa h
  have hM := Aha
  simp only [List.flatten_cons, List.append_eq_nil_iff] at hn
  obtain ⟨rfl, hn⟩ := hn
  rw [Era]
  simp (disch := omega) only [Dca, PP, h2, List.append_nil]
  exact Qja l0 ts hb r (i + 1) h3 (by omega) hn
theorem Mwb (ts : List (List Str)) (hb : ts.length < 1000000000) (hn : ts.flatten.length ≤ 1000000000000) : Dpa (ts, ()) = some (ts.flatten, ()) := by
 have hM := Aha
 have e := Vda ts ts (by omega) ts 0 0 rfl (by omega) (by omega)
 simp only [Int.natCast_zero, Nat.zero_add] at e
 rw [Pca]
 have hw0 : IntKind.wrap .i64 ((0 : Int) - ((0 : Nat) : Int)) = 0 := by rw [Aqa (by omega) (by omega)]; rfl
 have hw0' : IntKind.wrap .i64 ((0 : Int) - 0) = 0 := by rw [Aqa (by omega) (by omega)]; rfl
 have hw : IntKind.wrap .i64 (((ts.flatten.length : Nat) : Int) - 0) = ((ts.flatten.length : Nat) : Int) := by rw [Aqa (by omega) (by omega)]; omega
 by_cases h0 : ts.flatten.length = 0
 ·have hf : ts.flatten = [] := List.eq_nil_of_length_eq_zero h0
  have e2 := Qja [] ts (by omega) ts 0 rfl (by omega) hf
  simp only [Int.natCast_zero] at e2
  simp (disch := omega) only [Faa, e, PP, hw0, hw, e2]
  rw [hf]
 ·obtain ⟨row', e2, e3, e4⟩ := Tka [] ts (by omega) ts 0 0 (List.replicate ts.flatten.length ByteArray.empty) rfl (by omega) (by simp)
  simp only [Int.natCast_zero, Nat.zero_add, List.take_zero, List.nil_append] at e2 e4
  simp only [List.length_replicate] at e3
  simp (disch := omega) only [Faa, e, PP, hw0, hw0', hw, List.length_replicate, Nat.sub_zero, Int.natCast_zero, Int.toNat_zero, Nat.add_zero, e2, List.drop_zero, e4]
theorem Gga (m : List Str) : ∀ (r : List Str) (l : List Str) (i : Nat), l.drop i = r → i ≤ l.length → l.length = m.length → l.length < 4611686018427387903 →
  ∃ y, Bsa (l, m, (l.length : Int), (i : Int), ()) = some y ∧ (match y with
   | .inl _ => l.drop i ≠ m.drop i
   | .inr _ => l.drop i = m.drop i)
 | [], l, i, h, hi, hl, hb => by
  have := Aia h hi
  subst this
  rw [Gfa]
  simp (disch := omega) only [Cga, PP]
  exact ⟨_, rfl, by simp [hl]⟩
 | a :: r, l, i, h, hi, hl, hb => by
  obtain ⟨h1, h2, h3, h4⟩ := Afa h
  obtain ⟨b, s, hm⟩ : ∃ b s, m.drop i = b :: s := ⟨_, _, List.drop_eq_getElem_cons (by omega)⟩
  obtain ⟨m1, m2, m3, m4⟩ := Afa hm
  rw [Gfa]
  by_cases hab : a = b
  ·subst hab
   simp (disch := omega) only [Cga, PP, h2, m2, decide_true, Bool.not_true]
   obtain ⟨y, e, p⟩ := Gga m r l (i + 1) h3 (by omega) hl hb
   refine ⟨y, e, ?_⟩
   rw [h, hm]
   rw [h3, m3] at p
   cases y with
   | inl z => simpa using p
   | inr z => simpa using p
  ·simp (disch := first | omega | assumption) only [Cga, PP, h2, m2]
   refine ⟨_, rfl, ?_⟩
   rw [h, hm]
   simp [hab]
theorem Pea (l m : List Str) (hb : l.length < 4611686018427387903) : Dqa (l, m, ()) = some (decide (l = m), ()) := by
 rw [Pda]
 by_cases hl : l.length = m.length
 ·obtain ⟨y, e, p⟩ := Gga m l l 0 rfl (by omega) hl hb
  simp only [Int.natCast_zero] at e
  have hbn : ((l.length : Int) != (m.length : Int)) = false := by simp [hl]
  simp only [List.drop_zero] at p
  cases y with
  | inl z => simp only at p; simp only [Dea, hbn, e, PP, p, decide_false]
  | inr z => simp only at p; subst p; simp only [Dea, hbn, e, PP, decide_true]
 ·have hbn : ((l.length : Int) != (m.length : Int)) = true := by simp; omega
  have : ¬ l = m := fun e => hl (by rw [e])
  simp only [Dea, hbn, PP, this, decide_false]
theorem Cka (p : Ana) : ((p.1, p.2.1, p.2.2.1, (p.2.2.2.1.1, p.2.2.2.1.2.1, p.2.2.2.1.2.2.1, ()), ()) : Ana) = p := rfl
theorem Opa (h : Jwa) : ((h.1, h.2.1, h.2.2.1, ()) : Jwa) = h := rfl
def Yca (h : Jwa) : Jwa := (h.1, h.2.2.1, h.2.1, ())
def Jqa (p : Ana) : Ana :=
 if p.1 = 0 then (1, p.2.1, p.2.2.1, p.2.2.2.1, ()) else if p.1 = 1 then (0, p.2.1, p.2.2.1, p.2.2.2.1, ()) else if p.1 = 2 then (p.1, p.2.2.1, p.2.1, p.2.2.2.1, ()) else (p.1, p.2.1, p.2.2.1, Yca p.2.2.2.1, ())
theorem Fhb (p : Ana) : Jqa (Jqa p) = p := by
 obtain ⟨k, n, t, h, u⟩ := p
 unfold Jqa
 by_cases h0 : k = 0
 ·subst h0; simp
 ·by_cases h1 : k = 1
  ·subst h1; simp
  ·by_cases h2 : k = 2
   ·subst h2; simp
   ·simp [h0, h1, h2, Yca]
def Teb (h : Jwa) : Prop := h.2.1.length ≤ 1000000000000 ∧ h.2.2.1.length ≤ 1000000000000
theorem Iob (h : Jwa) (hb : Teb h) : Waa (h, ()) = some (Yca h, ()) := by
 have hM := Aha
 obtain ⟨h1, h2⟩ := hb
 rw [Inb]
 simp (disch := omega) only [Dqb, Ala, Ada]
 rfl
abbrev Cqb (p : Ana) : Prop := Teb p.2.2.2.1
theorem Sea (p : Ana) (hb : Cqb p) : Ofa (p, ()) = some (Jqa p, ()) := by
 obtain ⟨k, n, t, h, u⟩ := p
 rw [Jmb]
 unfold Jqa
 by_cases h0 : k = 0
 ·simp only [Nfa, Eaa, h0, decide_true, Aba, if_true]
 ·by_cases h1 : k = 1
  ·subst h1
   simp only [Nfa, Eaa, decide_true, Aba, if_true]
   rfl
  ·by_cases h2 : k = 2
   ·subst h2
    simp only [Nfa, Eaa, decide_true, Aba, if_true]
    rfl
   ·simp only [Nfa, Eaa, h0, h1, h2, decide_true, decide_false, Aba, Aca, if_true, if_false, Opa, Iob h hb, Aaa]
def Tja (l : List Ana) : List Ana := l.reverse.map Jqa
theorem Fgb (l : List Ana) : Tja (Tja l) = l := by
 simp only [Tja, ← List.map_reverse, List.reverse_reverse, List.map_map]
 have : Jqa ∘ Jqa = id := funext Fhb
 rw [this, List.map_id]
theorem Kub {α : Type} (l : List α) (k : Nat) (h : k < l.length) : ∃ x, (∀ d, l.getD k d = x) ∧ l.take (k + 1) = l.take k ++ [x] ∧ x ∈ l := by
 refine ⟨l[k], fun d => by rw [List.getD_eq_getElem?_getD, List.getElem?_eq_getElem h]; rfl, ?_, List.getElem_mem h⟩
 rw [List.take_add_one, List.getElem?_eq_getElem h]; rfl
theorem Raa (l : List Ana) (hl : l.length ≤ 1000000000) (hb : ∀ p ∈ l, Cqb p) : ∀ (k : Nat) (acc : List Ana), k ≤ l.length → acc.length + k ≤ 1000000000 →
  Aya (acc, l, (k : Int) - 1, ()) = some (acc ++ Tja (l.take k), l, -1, ())
 | 0, acc, hk, ha => by
  rw [Eqa]
  simp (disch := omega) only [Dba, PP, List.take_zero, Tja, List.reverse_nil, List.map_nil, List.append_nil]
  rfl
 | k + 1, acc, hk, ha => by
  have hM := Aha
  have e0 : (((k + 1 : Nat) : Int) - 1) = (k : Int) := by omega
  have hw : IntKind.wrap .i64 ((k : Int) - 1) = (k : Int) - 1 := Aqa (by omega) (by omega)
  obtain ⟨x, hx', ht, hmem⟩ := Kub l k (by omega)
  have ih := Raa l hl hb k (acc ++ [Jqa x]) (by omega) (by simp; omega)
  have hT := Sea x (hb x hmem)
  rw [Eqa, e0]
  simp (disch := omega) only [Dba, PP, hw, hx', Cka, hT]
  refine Eq.trans ih ?_
  rw [ht, Tja, Tja, List.reverse_append, List.map_append, List.append_assoc]; rfl
theorem Msa (l : List Ana) (hl : l.length ≤ 1000000000) (hb : ∀ p ∈ l, Cqb p) : Qza (l, ()) = some (Tja l, ()) := by
 have e := Raa l hl hb l.length [] (Nat.le_refl _) (by simp; omega)
 rw [List.take_length, List.nil_append] at e
 have hw : IntKind.wrap .i64 ((l.length : Int) - 1) = (l.length : Int) - 1 := Aqa (by omega) (by omega)
 rw [Ilb]
 simp (disch := omega) only [Dpb, PP, hw, e]
def Nxa (h : Jwa) : Bool := (decide (0 ≤ h.1) && decide (h.1 ≤ 1048576)) && (Yna h.2.1 && Yna h.2.2.1)
def Bjb (p : Ana) : Bool := decide (p.2.2.2.1.1 = 0) && decide (p.2.2.2.1.2.1.length + p.2.2.2.1.2.2.1.length = 0)
def Caa (p : Ana) : Bool := Eva p.2.1 && decide (p.2.2.1 = ByteArray.empty)
def Bwa (p : Ana) : Bool :=
 if p.1 = 0 ∨ p.1 = 1 then Caa p && Bjb p
 else if p.1 = 2 then (Eva p.2.1 && Eva p.2.2.1) && (decide (p.2.1 ≠ p.2.2.1) && Bjb p)
 else if p.1 = 3 then Caa p && Nxa p.2.2.2.1
 else if p.1 = 4 then (Caa p && Nxa p.2.2.2.1) && decide (p.2.2.2.1.1 = 0)
 else false
structure Mha (p : Ana) : Prop where
 n : p.2.1.size < 4611686018427387903
 t : p.2.2.1.size < 4611686018427387903
 o : p.2.2.2.1.2.1.length ≤ 1000000000000
 w : p.2.2.2.1.2.2.1.length ≤ 1000000000000
theorem Mha.s {p : Ana} (h : Mha p) : Kmb p := ⟨by have := h.o; omega, by have := h.w; omega⟩
theorem Mha.b {p : Ana} (h : Mha p) : Cqb p := ⟨h.o, h.w⟩
theorem Ooa (h : Jwa) : Ona (h, ()) = some (Nxa h, ()) := by
 rw [Kvb]
 by_cases h0 : 0 ≤ h.1
 ·by_cases h1 : h.1 ≤ 1048576
  ·cases h2 : Yna h.2.1 with
   | true =>
    simp (disch := omega) only [Qla, Ada, Joa, Aaa, Aba, h2, Nxa, h0, h1, decide_true, Bool.true_and]
   | false =>
    simp (disch := omega) only [Qla, Ada, Joa, Aaa, Aca, h2, Nxa, Bool.false_and, Bool.and_false]
  ·simp (disch := omega) only [Qla, Ada, Aea, Aca, Nxa, h1, decide_false, Bool.and_false, Bool.false_and]
 ·simp (disch := omega) only [Qla, Ada, Aea, Aca, Nxa, h0, decide_false, Bool.false_and]
theorem Jsb (p : Ana) (h : Mha p) : Dga (p, ()) = some (Caa p, ()) := by
 rw [Sga]
 have := h.n
 cases hn : Eva p.2.1 with
 | true => simp (disch := omega) only [Hga, Dja, Aaa, hn, Aba, Xsa, Caa, Bool.true_and]
 | false => simp (disch := omega) only [Hga, Dja, Aaa, hn, Aca, Xsa, Caa, Bool.false_and]
theorem Oab (p : Ana) (h : Mha p) : Ega (p, ()) = some (Bjb p, ()) := by
 rw [Uxa]
 have h1 := h.o
 have h2 := h.w
 have hw : IntKind.wrap .i64 ((p.2.2.2.1.2.1.length : Int) + (p.2.2.2.1.2.2.1.length : Int)) = ((p.2.2.2.1.2.1.length + p.2.2.2.1.2.2.1.length : Nat) : Int) := by rw [Aqa (by omega) (by omega)]; omega
 have hd : decide (((p.2.2.2.1.2.1.length + p.2.2.2.1.2.2.1.length : Nat) : Int) = 0) = decide (p.2.2.2.1.2.1.length + p.2.2.2.1.2.2.1.length = 0) := decide_eq_decide.2 (by omega)
 by_cases h0 : p.2.2.2.1.1 = 0
 ·simp only [Jia, Eaa, h0, decide_true, Aba, hw, hd, Bjb, Bool.true_and]
 ·simp only [Jia, Eaa, h0, decide_false, Aca, Bjb, Bool.false_and]
theorem Ncb (p : Ana) (h : Mha p) : Cwa (p, ()) = some (Caa p && Bjb p, ()) := by
 rw [Qfa]
 have e1 := Jsb p h
 have e2 := Oab p h
 unfold Koa
 rw [Cka, e1, e2]
 cases Caa p <;> rfl
theorem Bwb (p : Ana) (h : Mha p) : Cpa (p, ()) = some (Caa p && Nxa p.2.2.2.1, ()) := by
 rw [Owa]
 have e1 := Jsb p h
 have e2 := Ooa p.2.2.2.1
 unfold Jya
 rw [Cka, Opa, e1, e2]
 cases Caa p <;> rfl
theorem Oxb (p : Ana) (h : Mha p) : Epa (p, ()) = some ((Caa p && Nxa p.2.2.2.1) && decide (p.2.2.2.1.1 = 0), ()) := by
 rw [Sfa]
 have e1 := Bwb p h
 unfold Lla
 rw [Cka, e1]
 simp only [Eaa]
 cases (Caa p && Nxa p.2.2.2.1) <;> rfl
theorem Ndb (p : Ana) (h : Mha p) : Eba (p, ()) = some ((Eva p.2.1 && Eva p.2.2.1) && (decide (p.2.1 ≠ p.2.2.1) && Bjb p), ()) := by
 rw [Qga]
 have h1 := h.n
 have h2 := h.t
 have e2 := Oab p h
 unfold Kpa
 rw [Cka, Dja _ (by omega), Dja _ (by omega), e2, Xsa]
 by_cases hd : p.2.1 = p.2.2.1
 ·cases Eva p.2.1 <;> cases Eva p.2.2.1 <;> simp [Aaa, jKa, hd]
 ·cases Eva p.2.1 <;> cases Eva p.2.2.1 <;> simp [Aaa, jKa, hd]
theorem Ova (p : Ana) (h : Mha p) : Oua (p, ()) = some (Bwa p, ()) := by
 rw [Lfb]
 unfold Hgb
 simp only [Cka, Ncb p h, Ndb p h, Bwb p h, Oxb p h, Aaa]
 unfold Bwa
 by_cases k0 : p.1 = 0
 ·simp (disch := omega) only [Ada, k0, true_or, if_true]
 ·by_cases k1 : p.1 = 1
  ·simp (disch := omega) only [Ada, Aea, k1, or_true, if_true]
  ·by_cases k2 : p.1 = 2
   ·rw [if_neg (by omega), if_pos k2]
    simp (disch := omega) only [Ada, Aea]
   ·by_cases k3 : p.1 = 3
    ·rw [if_neg (by omega), if_neg k2, if_pos k3]
     simp (disch := omega) only [Ada, Aea]
    ·by_cases k4 : p.1 = 4
     ·rw [if_neg (by omega), if_neg k2, if_neg k3, if_pos k4]
      simp (disch := omega) only [Ada, Aea]
     ·rw [if_neg (by omega), if_neg k2, if_neg k3, if_neg k4]
      by_cases kn : 0 ≤ p.1
      ·simp (disch := omega) only [Ada, Aea]
      ·simp (disch := omega) only [Ada, Aea]
def isAt (l : List Str) (at0 : Int) (old : List Str) : Bool := decide (0 ≤ at0) && decide ((l.drop at0.toNat).take old.length = old) && decide (at0 ≤ l.length)
def Hza (l : List Str) (h : Jwa) : List Str := l.take h.1.toNat ++ (h.2.2.1 ++ l.drop (h.1.toNat + h.2.1.length))
theorem Dlb (l : List Str) (at0 : Int) (old : List Str) (h1 : l.length ≤ 1000000000000) (h2 : at0 ≤ 1048576) (h3 : old.length < 1000000000000000000) : Paa (l, at0, old, ()) = some (isAt l at0 old, ()) := by
 rw [Dkb]
 unfold isAt
 by_cases c1 : 0 ≤ at0
 ·by_cases c2 : at0 ≤ l.length
  ·have hw1 : IntKind.wrap .i64 ((l.length : Int) - at0) = (l.length : Int) - at0 := Aqa (by omega) (by omega)
   have hw2 : IntKind.wrap .i64 (at0 + (old.length : Int)) = at0 + (old.length : Int) := Aqa (by omega) (by omega)
   by_cases c3 : (old.length : Int) ≤ (l.length : Int) - at0
   ·have e : (at0 + (old.length : Int)).toNat - at0.toNat = old.length := by omega
    have hb : ((l.drop at0.toNat).take old.length).length < 4611686018427387903 := by rw [List.length_take]; omega
    simp (disch := omega) only [Jza, Ala, Ada, hw1, hw2, Aaa, e, Pea _ _ hb]
    simp [c1, c2]
   ·have hne : ¬ ((l.drop at0.toNat).take old.length = old) := fun he => by
     have := congrArg List.length he
     rw [List.length_take, List.length_drop] at this
     omega
    simp (disch := omega) only [Jza, Ala, Ada, Aea, hw1]
    simp [hne]
  ·simp (disch := omega) only [Jza, Ala, Ada, Aea]
   simp [c2]
 ·simp (disch := omega) only [Jza, Ala, Ada, Aea]
  simp [c1]
theorem Jrb (l : List Str) (at0 : Int) (old : List Str) (h1 : l.length ≤ 1000000000000) (h2 : at0 ≤ 1048576) (h3 : old.length < 1000000000000000000) : Mtb (l, at0, old, ()) = some (isAt l at0 old, ()) := by
 rw [Pjb]
 simp only [Nyb, Dlb l at0 old h1 h2 h3, Aaa]
theorem Lnb (l : List Str) (h : Jwa) (h1 : l.length ≤ 100000000000) (h2 : h.1 ≤ 1048576) (h3 : h.2.1.length < 1000000000000000000) (h4 : h.2.2.1.length ≤ 100000000000) :
  Zxa (l, h.1, h.2.1, h.2.2.1, ()) = some (if isAt l h.1 h.2.1 = true then Hza l h else [], isAt l h.1 h.2.1, ()) := by
 rw [Lmb]
 cases hc : isAt l h.1 h.2.1 with
 | false =>
  simp (disch := omega) only [Ajb, Jrb l h.1 h.2.1 (by omega) h2 h3, Aaa, hc, Ama, Aca, Bool.false_eq_true, if_false]
 | true =>
  have hc' := hc
  simp only [isAt, Bool.and_eq_true, decide_eq_true_eq] at hc'
  obtain ⟨⟨c1, c2⟩, c3⟩ := hc'
  have hl : h.1 + h.2.1.length ≤ l.length := by
   have := congrArg List.length c2
   rw [List.length_take, List.length_drop] at this
   omega
  have hw : IntKind.wrap .i64 (h.1 + (h.2.1.length : Int)) = h.1 + (h.2.1.length : Int) := Aqa (by omega) (by omega)
  have hn : (h.1 + (h.2.1.length : Int)).toNat = h.1.toNat + h.2.1.length := by omega
  have ht : (l.drop (h.1.toNat + h.2.1.length)).take (l.length - (h.1.toNat + h.2.1.length)) = l.drop (h.1.toNat + h.2.1.length) := List.take_of_length_le (by rw [List.length_drop]; omega)
  have eC := Mwb [l.take h.1.toNat, h.2.2.1, l.drop (h.1.toNat + h.2.1.length)] (by simp) (by simp; omega)
  simp (disch := omega) only [Ajb, Jrb l h.1 h.2.1 (by omega) h2 h3, Aaa, hc, Ama, Aba, Ala, Ada, if_true, hw, hn, ht, Nat.sub_zero, List.drop_zero, eC]
  simp [Hza]
theorem Nca {h : Jwa} (hm : Nxa h = true) : 0 ≤ h.1 ∧ h.1 ≤ 1048576 ∧ h.2.1.length ≤ 200 ∧ h.2.2.1.length ≤ 200 := by
 simp only [Nxa, Yna, Bool.and_eq_true, decide_eq_true_eq] at hm
 exact ⟨hm.1.1, hm.1.2, hm.2.1.1, hm.2.2.1⟩
theorem Gbb (l : List Str) (h : Jwa) (h1 : l.length ≤ 100000000000) : Swa (l, h, ()) = some (if Nxa h = true ∧ isAt l h.1 h.2.1 = true then Hza l h else [], if Nxa h = true then (if isAt l h.1 h.2.1 = true then 0 else 5) else 1, ()) := by
 rw [Gab]
 unfold Acb
 rw [Opa, Ooa]
 cases hm : Nxa h with
 | false => simp only [Aaa, Ama, Aca]; simp
 | true =>
  obtain ⟨a1, a2, a3, a4⟩ := Nca hm
  have eS := Lnb l h h1 a2 (by omega) (by omega)
  rw [eS]
  cases hc : isAt l h.1 h.2.1 with
  | false => simp only [Aaa, Ama, Aca, Aba]; simp
  | true => simp only [Aaa, Ama, Aca, Aba]; simp
def doP (t : Aka) (p : Ana) : Option Aka :=
 if p.1 = 0 then (if (Ara t p.2.1).isSome then none else some (Mja t p.2.1 []))
 else if p.1 = 1 then (if Ara t p.2.1 = some [] then some (Tpa t p.2.1) else none)
 else if p.1 = 2 then (if (Ara t p.2.1).isSome = true ∧ (Ara t p.2.2.1).isSome = false then some (Mja (Tpa t p.2.1) p.2.2.1 ((Ara t p.2.1).getD [])) else none)
 else if p.1 = 3 then (if (Ara t p.2.1).isSome = true ∧ isAt ((Ara t p.2.1).getD []) p.2.2.2.1.1 p.2.2.2.1.2.1 = true then some (Mja t p.2.1 (Hza ((Ara t p.2.1).getD []) p.2.2.2.1)) else none)
 else (if Ara t p.2.1 = some p.2.2.2.1.2.1 then some (Mja t p.2.1 p.2.2.2.1.2.2.1) else none)
def Bva (t : Aka) (p : Ana) : Aka × Int := if Bwa p = true then (match doP t p with
 | some u => (u, 0)
 | none => ([], 5)) else ([], 1)
def Fit (n m : Nat) (t : Aka) : Prop := t.length ≤ n ∧ ∀ f ∈ t, f.2.1.length ≤ m
theorem Fit.wee {n m : Nat} {t : Aka} (h : Fit n m t) (hn : n ≤ 1000000000) (hm : m ≤ 1000000000) : Wee t := ⟨Nat.le_trans h.1 hn, fun f hf => Nat.le_trans (h.2 f hf) hm⟩
theorem Fit.get {n m : Nat} {t : Aka} (h : Fit n m t) (s : Str) : ((Ara t s).getD []).length ≤ m := by
 rw [Bob]
 split
 ·rename_i hlt
  simp only [Option.getD_some]
  exact h.2 (t.getD (at_ t s) (ByteArray.empty, [], ())) (by rw [List.getD_eq_getElem?_getD, List.getElem?_eq_getElem hlt]; exact List.getElem_mem _)
 ·simp
theorem Fit.put {n m : Nat} {t : Aka} (h : Fit n m t) (s : Str) {l : List Str} (hl : l.length ≤ m) : Fit (n + 1) m (Mja t s l) := by
 refine ⟨Nat.le_trans (Svb t s l) (by have := h.1; omega), fun f hf => ?_⟩
 rcases Gpb hf with rfl | hf
 ·exact hl
 ·exact h.2 f hf
theorem Fit.del {n m : Nat} {t : Aka} (h : Fit n m t) (s : Str) : Fit n m (Tpa t s) := ⟨Nat.le_trans (Oeb t s) h.1, fun f hf => h.2 f (Kpb hf)⟩
theorem Fit.mono {n m n' m' : Nat} {t : Aka} (h : Fit n m t) (hn : n ≤ n') (hm : m ≤ m') : Fit n' m' t := ⟨Nat.le_trans h.1 hn, fun f hf => Nat.le_trans (h.2 f hf) hm⟩
theorem Jvb (l : List Str) (h : Jwa) : (Hza l h).length ≤ l.length + h.2.2.1.length := by
 simp only [Hza, List.length_append, List.length_take, List.length_drop]; omega
theorem Lfa {p : Ana} (h : Bwa p = true) (h3 : p.1 = 3 ∨ p.1 = 4) : Nxa p.2.2.2.1 = true := by
 unfold Bwa at h
 rw [if_neg (by omega), if_neg (by omega)] at h
 split at h
 ·simp only [Bool.and_eq_true] at h; exact h.2
 ·split at h
  ·simp only [Bool.and_eq_true] at h; exact h.1.2
  ·cases h
theorem Sxa {p : Ana} (h : Bwa p = true) : 0 ≤ p.1 ∧ p.1 < 5 := by
 unfold Bwa at h
 split at h
 ·omega
 ·split at h
  ·omega
  ·split at h
   ·omega
   ·split at h
    ·omega
    ·cases h
theorem Shb {n m : Nat} {t u : Aka} {p : Ana} (h : Fit n m t) (hm : Bwa p = true) (hd : doP t p = some u) : Fit (n + 1) (m + 200) u := by
 unfold doP at hd
 split at hd
 ·split at hd
  ·cases hd
  ·cases hd; exact (h.mono (Nat.le_refl _) (by omega)).put _ (by simp)
 ·split at hd
  ·split at hd
   ·cases hd; exact (h.del _).mono (by omega) (by omega)
   ·cases hd
  ·split at hd
   ·split at hd
    ·cases hd; exact ((h.del _).mono (Nat.le_refl _) (by omega)).put _ (by have := h.get p.2.1; omega)
    ·cases hd
   ·split at hd
    ·rename_i h3
     have hh := Nca (Lfa hm (.inl h3))
     split at hd
     ·cases hd; exact (h.mono (Nat.le_refl _) (by omega)).put _ (by have := Jvb ((Ara t p.2.1).getD []) p.2.2.2.1; have := h.get p.2.1; omega)
     ·cases hd
    ·rename_i h0 h1 h2 h3
     have hk := Sxa hm
     have hh := Nca (Lfa hm (.inr (by omega)))
     split at hd
     ·cases hd; exact (h.mono (Nat.le_refl _) (by omega)).put _ (by omega)
     ·cases hd
def Cpb (o : Option Aka) : Aka × Int := match o with
 | some u => (u, 0)
 | none => ([], 5)
theorem Pub {t : Aka} {p : Ana} (h : p.1 = 0) : doP t p = if (Ara t p.2.1).isSome then none else some (Mja t p.2.1 []) := by unfold doP; rw [if_pos h]
theorem Pvb {t : Aka} {p : Ana} (h : p.1 = 1) : doP t p = if Ara t p.2.1 = some [] then some (Tpa t p.2.1) else none := by unfold doP; rw [if_neg (by omega), if_pos h]
theorem Pwb {t : Aka} {p : Ana} (h : p.1 = 2) : doP t p = if (Ara t p.2.1).isSome = true ∧ (Ara t p.2.2.1).isSome = false then some (Mja (Tpa t p.2.1) p.2.2.1 ((Ara t p.2.1).getD [])) else none := by unfold doP; rw [if_neg (by omega), if_neg (by omega), if_pos h]
theorem Pxb {t : Aka} {p : Ana} (h : p.1 = 3) : doP t p = if (Ara t p.2.1).isSome = true ∧ isAt ((Ara t p.2.1).getD []) p.2.2.2.1.1 p.2.2.2.1.2.1 = true then some (Mja t p.2.1 (Hza ((Ara t p.2.1).getD []) p.2.2.2.1)) else none := by unfold doP; rw [if_neg (by omega), if_neg (by omega), if_neg (by omega), if_pos h]
theorem Sgb {t : Aka} {p : Ana} (h : 4 ≤ p.1) : doP t p = if Ara t p.2.1 = some p.2.2.2.1.2.1 then some (Mja t p.2.1 p.2.2.2.1.2.2.1) else none := by unfold doP; rw [if_neg (by omega), if_neg (by omega), if_neg (by omega), if_neg (by omega)]
theorem Wrb (t : Aka) (p : Ana) (hw : Wee t) (k0 : p.1 = 0) : Iva (p, t, ()) = some ((Cpb (doP t p)).1, (Cpb (doP t p)).2, ()) := by
 rw [Xaa, Pub k0]
 simp only [Pma, Foa t p.2.1 hw, Aaa, Pha t p.2.1 [] hw (by simp)]
 cases (Ara t p.2.1).isSome <;> rfl
theorem Zfb (t : Aka) (p : Ana) (hw : Wee t) (k1 : p.1 = 1) : Jva (p, t, ()) = some ((Cpb (doP t p)).1, (Cpb (doP t p)).2, ()) := by
 rw [Yba, Pvb k1]
 simp only [Qna, Foa t p.2.1 hw, Aaa, Vca t p.2.1 hw]
 cases hg : Ara t p.2.1 with
 | none => simp [jKa, Cpb]
 | some l =>
  cases l with
  | nil => simp [jKa, Cpb]
  | cons x l =>
   have h1 : ((((x :: l).length : Nat) : Int)) > 0 := by simp only [List.length_cons]; omega
   simp only [Option.getD_some, Option.isSome_some, Ama, Aba]
   rw [Ada h1]
   simp [Cpb]
theorem Sob (t : Aka) (p : Ana) (hw : Wee t) (hl : ((Ara t p.2.1).getD []).length ≤ 1000000000) (k2 : p.1 = 2) : Hfa (p, t, ()) = some ((Cpb (doP t p)).1, (Cpb (doP t p)).2, ()) := by
 rw [Uya, Pwb k2]
 simp only [Nga, Foa t p.2.1 hw, Foa t p.2.2.1 hw, Aaa, Vca t p.2.1 hw, Pha (Tpa t p.2.1) p.2.2.1 ((Ara t p.2.1).getD []) (hw.del _) hl]
 cases (Ara t p.2.1).isSome <;> cases (Ara t p.2.2.1).isSome <;> simp [jKa, Cpb]
theorem Qpb (t : Aka) (p : Ana) (hw : Wee t) (hl : ((Ara t p.2.1).getD []).length ≤ 100000000) (k3 : p.1 = 3) (hm : Nxa p.2.2.2.1 = true) : Fqa (p, t, ()) = some ((Cpb (doP t p)).1, (Cpb (doP t p)).2, ()) := by
 have hs := Jvb ((Ara t p.2.1).getD []) p.2.2.2.1
 have ha := Nca hm
 have eH := Gbb ((Ara t p.2.1).getD []) p.2.2.2.1 (by omega)
 have eP := Pha t p.2.1 (Hza ((Ara t p.2.1).getD []) p.2.2.2.1) hw (by omega)
 rw [Tha, Pxb k3]
 simp only [Mma, Opa, Foa t p.2.1 hw, Aaa, eH, hm, true_and, if_true]
 cases hg : (Ara t p.2.1).isSome with
 | false => simp [jKa, Cpb]
 | true =>
  cases hc : isAt ((Ara t p.2.1).getD []) p.2.2.2.1.1 p.2.2.2.1.2.1 with
  | false => simp [jKa, Cpb]
  | true => simp [jKa, Cpb, Aaa, eP]
theorem Xcb (t : Aka) (p : Ana) (hw : Wee t) (hl : ((Ara t p.2.1).getD []).length ≤ 100000000) (k4 : 4 ≤ p.1) (hm : p.2.2.2.1.2.2.1.length ≤ 1000000000) : Iwa (p, t, ()) = some ((Cpb (doP t p)).1, (Cpb (doP t p)).2, ()) := by
 rw [Xba, Sgb k4]
 simp only [Pna, Foa t p.2.1 hw, Aaa, Ela ((Ara t p.2.1).getD []) p.2.2.2.1.2.1 (by omega), Pha t p.2.1 p.2.2.2.1.2.2.1 hw hm]
 cases hg : Ara t p.2.1 with
 | none => simp [jKa, Cpb]
 | some l =>
  by_cases he : l = p.2.2.2.1.2.1
  ·subst he; simp [jKa, Cpb, Aaa]
  ·simp [jKa, Cpb, he]
theorem Sjb {α : Type} (t : Ty) (u : t.den) (x y : Option α) : jKa (eqT t u u) x y = x := by rw [Sta]; rfl
theorem Xra {t : Aka} {p : Ana} (h : Bwa p = true) : Bva t p = Cpb (doP t p) := by
 unfold Bva Cpb
 rw [if_pos h]
theorem Wza (t : Aka) (p : Ana) (ht : Fit 1000000 100000000 t) (hp : Mha p) : Lja (t, p, ()) = some ((Bva t p).1, (Bva t p).2, ()) := by
 have hw := ht.wee (by omega) (by omega)
 have g := ht.get p.2.1
 rw [Gob]
 unfold Aib
 simp only [Cka, Ova p hp, Aaa, Sjb, Ala]
 cases hm : Bwa p with
 | false => simp [jKa, Bva, hm]
 | true =>
  have hk := Sxa hm
  rw [Xra hm]
  simp only [Ama, Aba]
  by_cases k0 : p.1 = 0
  ·rw [Ada (by omega), Wrb t p hw k0]; rfl
  ·by_cases k1 : p.1 = 1
   ·rw [Aea (by omega), Ada (by omega), Zfb t p hw k1]; rfl
   ·by_cases k2 : p.1 = 2
    ·rw [Aea (by omega), Aea (by omega), Ada (by omega), Sob t p hw (by omega) k2]; rfl
    ·by_cases k3 : p.1 = 3
     ·rw [Aea (by omega), Aea (by omega), Aea (by omega), Ada (by omega), Qpb t p hw g k3 (Lfa hm (.inl k3))]; rfl
     ·have ha := Nca (Lfa hm (.inr (by omega)))
      rw [Aea (by omega), Aea (by omega), Aea (by omega), Aea (by omega), Ada (by omega), Xcb t p hw g (by omega) (by omega)]; rfl
def Dva : Aka → List Ana → Aka × Int
 | t, [] => (t, 0)
 | t, p :: l => if (Bva t p).2 = 0 then Dva (Bva t p).1 l else ([], (Bva t p).2)
theorem Bbb {t u : Aka} {p : Ana} (h : Bva t p = (u, 0)) : Bwa p = true ∧ doP t p = some u := by
 unfold Bva at h
 split at h
 ·rename_i hm
  split at h
  ·rename_i v hv
   have := (Prod.mk.inj h).1
   subst this
   exact ⟨hm, hv⟩
  ·have := (Prod.mk.inj h).2
   simp at this
 ·have := (Prod.mk.inj h).2
  simp at this
theorem Xqa {n m : Nat} {t : Aka} {p : Ana} (h : Fit n m t) (h0 : (Bva t p).2 = 0) : Fit (n + 1) (m + 200) (Bva t p).1 := by
 obtain ⟨h1, h2⟩ := Bbb (t := t) (p := p) (u := (Bva t p).1) (by rw [← h0])
 exact Shb h h1 h2
theorem Pwa (l : List Ana) (hl : l.length ≤ 100000) (hp : ∀ p ∈ l, Mha p) : ∀ (r : List Ana) (i : Nat) (t : Aka), l.drop i = r → i ≤ l.length → Fit (100000 + i) (10000000 + i * 200) t →
  ∃ y, Iha (t, l, (l.length : Int), (i : Int), ()) = some y ∧ (match y with
   | .inl z => Dva t r = ([], z.2.2.2.2.2.2.2.1) ∧ z.2.2.2.2.2.2.2.1 ≠ 0
   | .inr z => Dva t r = (z.1, 0))
 | [], i, t, h, hi, hf => by
  have := Aia h hi
  subst this
  rw [Pva]
  simp (disch := omega) only [Jra, Ada, Aea]
  exact ⟨_, rfl, rfl⟩
 | p :: r, i, t, h, hi, hf => by
  obtain ⟨h1, h2, h3, h4⟩ := Afa h
  have eA := Wza t p (hf.mono (by omega) (by omega)) (hp p h4)
  rw [Pva]
  by_cases h0 : (Bva t p).2 = 0
  ·have hf2 := Xqa hf h0
   obtain ⟨y, e, q⟩ := Pwa l hl hp r (i + 1) (Bva t p).1 h3 (by omega) (hf2.mono (by omega) (by omega))
   refine ⟨y, ?_, ?_⟩
   ·have hne : ((Bva t p).2 != 0) = false := by simp [h0]
    simp (disch := omega) only [Jra, Ada, Ala, Int.toNat_natCast, h2, Cka, eA, Aaa, hne, Aca, Jca, Option.bind_some, Sum.elim_inl, e]
   ·cases y with
    | inl z => simp only [Dva, if_pos h0]; exact q
    | inr z => simp only [Dva, if_pos h0]; exact q
  ·have hne : ((Bva t p).2 != 0) = true := by simp [h0]
   simp (disch := omega) only [Jra, Ada, Ala, Int.toNat_natCast, h2, Cka, eA, Aaa, hne, Aba, Option.bind_some, Sum.elim_inr]
   refine ⟨_, rfl, ?_⟩
   exact ⟨by simp only [Dva, if_neg h0], h0⟩
theorem Fub (t : Aka) (l : List Ana) (ht : Fit 100000 10000000 t) (hl : l.length ≤ 100000) (hp : ∀ p ∈ l, Mha p) : Sua (t, l, ()) = some ((Dva t l).1, (Dva t l).2, ()) := by
 obtain ⟨y, e, q⟩ := Pwa l hl hp l 0 t rfl (by omega) (ht.mono (by omega) (by omega))
 simp only [Int.natCast_zero] at e
 rw [Ftb]
 cases y with
 | inl z => simp only at q; simp only [Upa, e, Aaa, Fsa, q.1]
 | inr z => simp only at q; simp only [Upa, e, Aaa, Eua, q]
abbrev eS : Str := ByteArray.empty
def AlP (a b : List Str) : List Klb → Nat → Nat → Prop
 | [], i, j => i < a.length → j < b.length → a.getD i eS ≠ b.getD j eS
 | p :: ps, i, j => ∃ k q : Nat, p = ((k : Int), (q : Int), ()) ∧ i ≤ k ∧ k < a.length ∧ j ≤ q ∧ q < b.length ∧ a.getD k eS = b.getD q eS ∧ (k ≠ i ∨ q ≠ j → a.getD i eS ≠ b.getD j eS) ∧ AlP a b ps (k + 1) (q + 1)
theorem AlP.left {a b : List Str} {ps : List Klb} {i j : Nat} (h : AlP a b ps (i + 1) j) (hn : a.getD i eS ≠ b.getD j eS) : AlP a b ps i j := by
 cases ps with
 | nil => exact fun _ _ => hn
 | cons p ps =>
  obtain ⟨k, q, h1, h2, h3, h4, h5, h6, _, h8⟩ := h
  exact ⟨k, q, h1, by omega, h3, h4, h5, h6, fun _ => hn, h8⟩
theorem AlP.right {a b : List Str} {ps : List Klb} {i j : Nat} (h : AlP a b ps i (j + 1)) (hn : a.getD i eS ≠ b.getD j eS) : AlP a b ps i j := by
 cases ps with
 | nil => exact fun _ _ => hn
 | cons p ps =>
  obtain ⟨k, q, h1, h2, h3, h4, h5, h6, _, h8⟩ := h
  exact ⟨k, q, h1, h2, h3, by omega, h5, h6, fun _ => hn, h8⟩
theorem Qob (a b : List Str) : ∀ (n i j : Nat), (a.length - i) + (b.length - j) ≤ n → AlP a b (Eoa (a.drop i) (b.drop j) i j) i j := by
 intro n
 induction n with
 | zero =>
  intro i j h
  rw [List.drop_eq_nil_of_le (by omega), Lha]
  intro h1 h2
  omega
 | succ n ih =>
  intro i j h
  by_cases hi : i < a.length
  ·by_cases hj : j < b.length
   ·rw [Jbb hi hj]
    split
    ·rename_i he
     exact ⟨i, j, rfl, Nat.le_refl _, hi, Nat.le_refl _, hj, he, fun h => by omega, ih (i + 1) (j + 1) (by omega)⟩
    ·rename_i he
     split
     ·exact (ih (i + 1) j (by omega)).left he
     ·exact (ih i (j + 1) (by omega)).right he
   ·rw [show b.drop j = [] from List.drop_eq_nil_of_le (by omega), Osa]
    intro h1 h2; omega
  ·rw [List.drop_eq_nil_of_le (by omega), Lha]
   intro h1 h2; omega
def Ytb : List Nob → Prop
 | e :: e' :: l => e.1 + e.2.1 < e'.1 ∧ Ytb (e' :: l)
 | _ => True
theorem Ytb.cons {e : Nob} {l : List Nob} (h : Ytb l) (h1 : ∀ e' ∈ l, e.1 + e.2.1 < e'.1) : Ytb (e :: l) := by
 cases l with
 | nil => trivial
 | cons e' l => exact ⟨h1 e' List.mem_cons_self, h⟩
def Dob : List Ana → Prop
 | p :: q :: l => q ≠ Jqa p ∧ Dob (q :: l)
 | _ => True
theorem Dob.app : ∀ {l m : List Ana}, Dob l → Dob m → (∀ p q, l.getLast? = some p → m.head? = some q → q ≠ Jqa p) → Dob (l ++ m)
 | [], m, _, h, _ => h
 | [p], [], _, _, _ => trivial
 | [p], q :: m, _, h, hh => ⟨hh p q rfl rfl, h⟩
 | p :: p' :: l, m, h1, h2, h3 => ⟨h1.1, Dob.app (l := p' :: l) h1.2 h2 fun a b ha hb => h3 a b (by rw [List.getLast?_cons_cons]; exact ha) hb⟩
theorem Ixb {a b : Aka} {s : Str} (h : s ∈ Nya a b) : ((Ara a s).isSome || (Ara b s).isSome) = true := by
 have : s ∈ (a ++ b).map (·.1) := by
  rw [← Byb] at h
  have := (Nma ((a ++ b).map (·.1)) [] List.Pairwise.nil).2 s
  rw [this] at h
  simpa using h
 obtain ⟨f, hf, rfl⟩ := List.mem_map.1 this
 rcases List.mem_append.1 hf with hf | hf
 ·rw [Fyb hf]; rfl
 ·rw [Fyb hf, Bool.or_true]
theorem Lbb (a b : Aka) : (Nya a b).Nodup := by
 rw [← Byb]
 have h := (Nma ((a ++ b).map (·.1)) [] List.Pairwise.nil).1
 exact List.Pairwise.imp (fun {x y} hxy => Qaa hxy) h
def Bsb : List Str → List Jwa → List Str → Prop
 | l, [], m => l = m
 | l, h :: hs, m => isAt l h.1 h.2.1 = true ∧ Bsb (Hza l h) hs m
theorem Jyb {b : List Str} {q : Nat} (h : q < b.length) : b.take (q + 1) = b.take q ++ [b.getD q eS] := by
 rw [List.take_add_one, List.getElem?_eq_getElem h, List.getD_eq_getElem?_getD, List.getElem?_eq_getElem h]; rfl
theorem Ofb (a b : List Str) (i j k q : Nat) (hi : i ≤ k) (hk : k ≤ a.length) (hj : j ≤ q) (hq : q ≤ b.length) :
  isAt (b.take j ++ a.drop i) (j : Int) ((a.drop i).take (k - i)) = true ∧ Hza (b.take j ++ a.drop i) ((j : Int), (a.drop i).take (k - i), (b.drop j).take (q - j), ()) = b.take q ++ a.drop k := by
 have hl : (b.take j).length = j := by rw [List.length_take]; omega
 have hl2 : ((a.drop i).take (k - i)).length = k - i := by rw [List.length_take, List.length_drop]; omega
 constructor
 ·simp only [isAt, Bool.and_eq_true, decide_eq_true_eq]
  refine ⟨⟨by omega, ?_⟩, ?_⟩
  ·rw [Int.toNat_natCast, List.drop_left' hl, hl2]
  ·rw [List.length_append, hl]; omega
 ·simp only [Hza, Int.toNat_natCast, hl2]
  have e1 : (b.take j ++ a.drop i).take j = b.take j := by
   rw [List.take_append_of_le_length (by omega), List.take_of_length_le (by omega)]
  have e2 : (b.take j ++ a.drop i).drop (j + (k - i)) = a.drop k := by
   rw [List.drop_append, hl, List.drop_eq_nil_of_le (by omega), List.nil_append, List.drop_drop]
   congr 1; omega
  have e3 : b.take j ++ (b.drop j).take (q - j) = b.take q := by
   have := List.take_append_drop j (b.take q)
   rw [List.take_take, Nat.min_eq_left hj, List.drop_take] at this
   exact this
  rw [e1, e2, ← List.append_assoc, e3]
theorem Mhb (a b : List Str) : ∀ (ps : List Klb) (i j : Nat), i ≤ a.length → j ≤ b.length → AlP a b ps i j →
  Bsb (b.take j ++ a.drop i) (Lta a (Fca b (ps ++ [((a.length : Int), (b.length : Int), ())]) i j) ((j : Int) - i)) b
 | [], i, j, hi, hj, h => by
  rw [List.nil_append, Fca, Fca, List.append_nil]
  have hE := Ofb a b i j a.length b.length hi (Nat.le_refl _) hj (Nat.le_refl _)
  split
  ·rw [Lta, Lta]
   simp only at hE ⊢
   have e1 : ((i : Int) + ((j : Int) - (i : Int))) = (j : Int) := by omega
   have e2 : ((i : Int) + ((a.length : Int) - (i : Int))).toNat - (i : Int).toNat = a.length - i := by omega
   have e3 : (b.length : Int).toNat - (j : Int).toNat = b.length - j := by omega
   rw [e1, e2, e3, Int.toNat_natCast, Int.toNat_natCast]
   refine ⟨hE.1, ?_⟩
   rw [hE.2]
   simp [Bsb]
  ·rename_i hc
   simp only at hc
   rw [Lta]
   show b.take j ++ a.drop i = b
   rw [List.take_of_length_le (by omega), List.drop_eq_nil_of_le (by omega), List.append_nil]
 | p :: ps, i, j, hi, hj, h => by
  obtain ⟨k, q, rfl, h2, h3, h4, h5, h6, h7, h8⟩ := h
  have ih := Mhb a b ps (k + 1) (q + 1) (by omega) (by omega) h8
  have hE := Ofb a b i j k q h2 (by omega) h4 (by omega)
  have hsame : b.take q ++ a.drop k = b.take (q + 1) ++ a.drop (k + 1) := by
   rw [Jyb h5, Blb h3, h6, List.append_assoc]; rfl
  simp only [Int.natCast_add, Int.natCast_one] at ih
  rw [List.cons_append, Fca]
  split
  ·rw [List.singleton_append, Lta]
   simp only at hE ⊢
   have e1 : ((i : Int) + ((j : Int) - (i : Int))) = (j : Int) := by omega
   have e2 : ((i : Int) + ((k : Int) - (i : Int))).toNat - (i : Int).toNat = k - i := by omega
   have e3 : (q : Int).toNat - (j : Int).toNat = q - j := by omega
   have e4 : ((b.drop j).take (q - j)).length = q - j := by rw [List.length_take, List.length_drop]; omega
   have e5 : ((j : Int) - (i : Int) + ((q - j : Nat) : Int) - ((k : Int) - (i : Int))) = ((q : Int) + 1 - ((k : Int) + 1)) := by omega
   rw [e1, e2, e3, Int.toNat_natCast, Int.toNat_natCast, e4, e5]
   refine ⟨hE.1, ?_⟩
   rw [hE.2, hsame]
   exact ih
  ·rename_i hc
   simp only at hc
   have hk : k = i := by omega
   have hq : q = j := by omega
   subst hk; subst hq
   rw [List.nil_append]
   have e5 : ((q : Int) - (k : Int)) = ((q : Int) + 1 - ((k : Int) + 1)) := by omega
   rw [e5, hsame]
   exact ih
theorem Qbb (a b : List Str) : Bsb a (Twa a b) b := by
 have hal := Qob a b _ 0 0 (Nat.le_refl _)
 simp only [List.drop_zero, Int.natCast_zero] at hal
 have := Mhb a b _ 0 0 (by omega) (by omega) hal
 simp only [List.take_zero, List.drop_zero, List.nil_append, Int.natCast_zero, Int.sub_self] at this
 exact this
theorem Meb {l m : List Str} (h : Yna l = true) (hs : ∀ x ∈ m, x ∈ l) (hl : m.length ≤ l.length) : Yna m = true := by
 simp only [Yna, Bool.and_eq_true, decide_eq_true_eq, List.all_eq_true] at h ⊢
 exact ⟨by omega, fun x hx => h.2 x (hs x hx)⟩
theorem Uta {n m : Nat} {a b : List Str} (hb : b.length = m) : ∀ {ps : List Klb} {i j : Int} {x : Int}, 0 ≤ i → 0 ≤ j → x = j - i → OkE n m ps i j → ∀ h ∈ Lta a (Fca b ps i j) x, 0 ≤ h.1 ∧ h.1 ≤ m ∧ (∀ s ∈ h.2.1, s ∈ a) ∧ (∀ s ∈ h.2.2.1, s ∈ b) ∧ h.2.2.1.length ≤ b.length ∧ h.2.1.length ≤ a.length
 | [], _, _, _, _, _, _, _, h, hm => by simp [Fca, Lta] at hm
 | p :: ps, i, j, x, hi, hj, hx, ho, h, hm => by
  obtain ⟨o1, o2, o3, o4, o5⟩ := ho
  rw [Fca] at hm
  split at hm
  ·rw [List.singleton_append, Lta] at hm
   rcases List.mem_cons.1 hm with rfl | hm
   ·refine ⟨by simp only; omega, by simp only; omega, fun s hs => List.mem_of_mem_drop (List.mem_of_mem_take hs), fun s hs => List.mem_of_mem_drop (List.mem_of_mem_take hs), ?_, ?_⟩
    ·simp only [List.length_take, List.length_drop]; omega
    ·simp only [List.length_take, List.length_drop]; omega
   ·refine Uta hb (by omega) (by omega) ?_ o5 h hm
    simp only [List.length_take, List.length_drop]
    omega
  ·rename_i hc
   rw [List.nil_append] at hm
   exact Uta hb (by omega) (by omega) (by omega) o5 h hm
theorem Evb {a b : List Str} (ha : Yna a = true) (hb : Yna b = true) {h : Jwa} (hm : h ∈ Twa a b) : Nxa h = true := by
 obtain ⟨h1, h2, h3, h4, h5, h6⟩ := Uta (n := a.length) rfl (Int.le_refl 0) (Int.le_refl 0) rfl (Oba a.length b.length a b 0 0 (by omega) (by omega)) h hm
 have hb' := hb
 simp only [Yna, Bool.and_eq_true, decide_eq_true_eq] at hb'
 simp only [Nxa, Bool.and_eq_true, decide_eq_true_eq]
 exact ⟨⟨h1, by omega⟩, Meb ha h3 h6, Meb hb h4 h5⟩
theorem Vka {t : Aka} (h : Mua t = true) (s : Str) : Yna ((Ara t s).getD []) = true := by
 cases hg : Ara t s with
 | none => rfl
 | some l => exact ((Laa.1 h).1 _ (Fxb hg)).2
theorem Zwa {t : Aka} (h : Mua t = true) {s : Str} (hs : (Ara t s).isSome = true) : Eva s = true := by
 cases hg : Ara t s with
 | none => rw [hg] at hs; cases hs
 | some l => exact ((Laa.1 h).1 _ (Fxb hg)).1
theorem Fsb {t u : Aka} {p : Ana} {l : List Ana} (hm : Bwa p = true) (hd : doP t p = some u) : Dva t (p :: l) = Dva u l := by
 have : Bva t p = (u, 0) := by rw [Xra hm, hd]; rfl
 simp only [Dva, this, if_true]
theorem Fbb (s : Str) (hs : Eva s = true) : ∀ (hks : List Jwa) (t : Aka) (l m : List Str) (rest : List Ana), (∀ h ∈ hks, Nxa h = true) → RT t → Ara t s = some l → Bsb l hks m →
  ∃ u, Dva t (Jua s hks ++ rest) = Dva u rest ∧ RT u ∧ Ara u s = some m ∧ ∀ x, x ≠ s → Ara u x = Ara t x
 | [], t, l, m, rest, _, hr, hg, ho => ⟨t, rfl, hr, by rw [hg]; exact congrArg some ho, fun _ _ => rfl⟩
 | h :: hks, t, l, m, rest, hm, hr, hg, ho => by
  obtain ⟨o1, o2⟩ := ho
  have hp : Bwa (3, s, ByteArray.empty, h, ()) = true := by
   simp [Bwa, Caa, hs, hm h List.mem_cons_self]
  have hd : doP t (3, s, ByteArray.empty, h, ()) = some (Mja t s (Hza l h)) := by
   rw [Pxb rfl]
   simp only [hg, Option.isSome_some, Option.getD_some, o1, and_self, if_true]
  have hr2 := Cla s (Hza l h) hr
  have hg2 : Ara (Mja t s (Hza l h)) s = some (Hza l h) := by rw [Cja _ _ _ hr, if_pos rfl]
  obtain ⟨u, e1, e2, e3, e4⟩ := Fbb s hs hks (Mja t s (Hza l h)) (Hza l h) m rest (fun h' hh => hm h' (List.mem_cons_of_mem _ hh)) hr2 hg2 o2
  refine ⟨u, ?_, e2, e3, fun x hx => by rw [e4 x hx, Cja _ _ _ hr, if_neg hx]⟩
  show Dva t ((3, s, ByteArray.empty, h, ()) :: (Jua s hks ++ rest)) = _
  rw [Fsb hp hd, e1]
theorem Zsa {k : Int} {s : Str} (hk : k = 0 ∨ k = 1) (hs : Eva s = true) : Bwa (k, s, ByteArray.empty, noH, ()) = true := by
 rcases hk with rfl | rfl <;> simp [Bwa, Caa, Bjb, hs]
theorem Skb {a b : Aka} (ma : Mua a = true) (mb : Mua b = true) {s : Str} (hs : ((Ara a s).isSome || (Ara b s).isSome) = true) (t : Aka) (rest : List Ana) (hr : RT t) (hg : Ara t s = Ara a s) :
  ∃ u, Dva t (Mya a b s ++ rest) = Dva u rest ∧ RT u ∧ Ara u s = Ara b s ∧ ∀ x, x ≠ s → Ara u x = Ara t x := by
 have hn : Eva s = true := by
  cases hA : (Ara a s).isSome with
  | true => exact Zwa ma hA
  | false => rw [hA, Bool.false_or] at hs; exact Zwa mb hs
 have hmay : ∀ h ∈ Twa ((Ara a s).getD []) ((Ara b s).getD []), Nxa h = true := fun h hh => Evb (Vka ma s) (Vka mb s) hh
 have h1 : ∃ t1, Dva t (Mya a b s ++ rest) = Dva t1 (Jua s (Twa ((Ara a s).getD []) ((Ara b s).getD [])) ++ ((if (Ara b s).isSome then [] else [(1, s, ByteArray.empty, noH, ())]) ++ rest)) ∧ RT t1 ∧ Ara t1 s = some ((Ara a s).getD []) ∧ ∀ x, x ≠ s → Ara t1 x = Ara t x := by
  unfold Mya
  cases hA : Ara a s with
  | some l =>
   refine ⟨t, ?_, hr, by rw [hg, hA]; rfl, fun _ _ => rfl⟩
   simp only [Option.isSome_some, if_true, List.nil_append, List.append_assoc]
  | none =>
   refine ⟨Mja t s [], ?_, Cla s [] hr, by rw [Cja _ _ _ hr, if_pos rfl]; rfl, fun x hx => by rw [Cja _ _ _ hr, if_neg hx]⟩
   have hd : doP t (0, s, ByteArray.empty, noH, ()) = some (Mja t s []) := by
    rw [Pub rfl]
    simp only [hg, hA, Option.isSome_none, Bool.false_eq_true, if_false]
   have hf := fun l => Fsb (l := l) (Zsa (.inl rfl) hn) hd
   simp only [Option.isSome_none, Bool.false_eq_true, if_false, List.append_assoc, List.singleton_append]
   exact (hf _).trans (congrArg (Dva (Mja t s [])) (List.append_assoc _ _ _))
 obtain ⟨t1, e1, r1, g1, x1⟩ := h1
 obtain ⟨t2, e2, r2, g2, x2⟩ := Fbb s hn _ t1 _ _ ((if (Ara b s).isSome then [] else [(1, s, ByteArray.empty, noH, ())]) ++ rest) hmay r1 g1 (Qbb ((Ara a s).getD []) ((Ara b s).getD []))
 cases hB : Ara b s with
 | some l =>
  refine ⟨t2, ?_, r2, by rw [g2, hB]; rfl, fun x hx => by rw [x2 x hx, x1 x hx]⟩
  rw [e1, e2, hB]
  rfl
 | none =>
  rw [hB] at g2
  refine ⟨Tpa t2 s, ?_, Eja s r2, by rw [Iia _ _ r2, if_pos rfl], fun x hx => by rw [Iia _ _ r2, if_neg hx, x2 x hx, x1 x hx]⟩
  rw [e1, e2, hB]
  simp only [Option.isSome_none, Bool.false_eq_true, if_false, List.singleton_append]
  refine Fsb (Zsa (.inr rfl) hn) ?_
  rw [Pvb rfl]
  simp only [g2, Option.getD_none, if_true]
theorem Mpb {a b : Aka} (ma : Mua a = true) (mb : Mua b = true) : ∀ (ns : List Str) (t : Aka) (rest : List Ana), ns.Nodup → (∀ s ∈ ns, ((Ara a s).isSome || (Ara b s).isSome) = true) → RT t → (∀ s ∈ ns, Ara t s = Ara a s) →
  ∃ u, Dva t (ns.flatMap (Mya a b) ++ rest) = Dva u rest ∧ RT u ∧ (∀ s ∈ ns, Ara u s = Ara b s) ∧ ∀ x, x ∉ ns → Ara u x = Ara t x
 | [], t, rest, _, _, hr, _ => ⟨t, rfl, hr, fun s hs => by simp at hs, fun _ _ => rfl⟩
 | s :: ns, t, rest, hn, hs, hr, hg => by
  obtain ⟨n1, n2⟩ := List.nodup_cons.1 hn
  obtain ⟨t1, e1, r1, g1, x1⟩ := Skb ma mb (hs s List.mem_cons_self) t (ns.flatMap (Mya a b) ++ rest) hr (hg s List.mem_cons_self)
  obtain ⟨t2, e2, r2, g2, x2⟩ := Mpb ma mb ns t1 rest n2 (fun x hx => hs x (List.mem_cons_of_mem _ hx)) r1 (fun x hx => by
   rw [x1 x (fun he => n1 (he ▸ hx))]; exact hg x (List.mem_cons_of_mem _ hx))
  refine ⟨t2, by rw [List.flatMap_cons, List.append_assoc, e1, e2], r2, fun x hx => ?_, fun x hx => ?_⟩
  ·rcases List.mem_cons.1 hx with rfl | hx
   ·rw [x2 x n1, g1]
   ·exact g2 x hx
  ·rw [x2 x (fun h => hx (List.mem_cons_of_mem _ h)), x1 x (fun h => hx (h ▸ List.mem_cons_self))]
theorem Iwb {a b : Aka} {s : Str} (h : s ∉ Nya a b) : Ara a s = none ∧ Ara b s = none := by
 have hm : ∀ f, f ∈ a ∨ f ∈ b → f.1 ≠ s := fun f hf he => by
  apply h
  rw [← Byb, (Nma ((a ++ b).map (·.1)) [] List.Pairwise.nil).2 s]
  exact .inr (List.mem_map.2 ⟨f, List.mem_append.2 hf, he⟩)
 exact ⟨Gka fun f hf => hm f (.inl hf), Gka fun f hf => hm f (.inr hf)⟩
theorem Spb {a b : Aka} (ma : Mua a = true) (mb : Mua b = true) (rest : List Ana) : Dva a (Izb a b ++ rest) = Dva b rest := by
 obtain ⟨u, e, r, g, x⟩ := Mpb ma mb (Nya a b) a rest (Lbb a b) (fun s hs => Ixb hs) (Xxa ma) fun _ _ => rfl
 have : u = b := Pja r (Xxa mb) fun s => by
  by_cases h : s ∈ Nya a b
  ·exact g s h
  ·rw [x s h, (Iwb h).1, (Iwb h).2]
 rw [Izb, e, this]
theorem Okb (t : Aka) : Dva t [] = (t, 0) := rfl
theorem Plb {l : List Str} {h : Jwa} (ha : isAt l h.1 h.2.1 = true) : isAt (Hza l h) h.1 h.2.2.1 = true ∧ Hza (Hza l h) (Yca h) = l := by
 simp only [isAt, Bool.and_eq_true, decide_eq_true_eq] at ha
 obtain ⟨⟨h1, h2⟩, h3⟩ := ha
 have hl : (l.take h.1.toNat).length = h.1.toNat := by rw [List.length_take]; omega
 constructor
 ·have p1 : ((Hza l h).drop h.1.toNat).take h.2.2.1.length = h.2.2.1 := by
   unfold Hza
   rw [List.drop_left' hl, List.take_left']
   rfl
  have p2 : h.1 ≤ (Hza l h).length := by
   unfold Hza
   rw [List.length_append, hl]; omega
  simp only [isAt, Bool.and_eq_true, decide_eq_true_eq]
  exact ⟨⟨h1, p1⟩, p2⟩
 ·simp only [Hza, Yca]
  rw [List.take_left' hl]
  have e1 : (l.take h.1.toNat ++ (h.2.2.1 ++ l.drop (h.1.toNat + h.2.1.length))).drop (h.1.toNat + h.2.2.1.length) = l.drop (h.1.toNat + h.2.1.length) := by
   rw [← List.append_assoc, List.drop_left']
   rw [List.length_append, hl]
  rw [e1]
  have e2 : h.2.1 ++ l.drop (h.1.toNat + h.2.1.length) = l.drop h.1.toNat := by
   have := List.take_append_drop h.2.1.length (l.drop h.1.toNat)
   rw [h2, List.drop_drop] at this
   exact this
  rw [e2, List.take_append_drop]
theorem Pyb {t u : Aka} {p : Ana} (hm : Bwa p = true) (hr : RT t) (hd : doP t p = some u) : Bwa (Jqa p) = true ∧ RT u ∧ doP u (Jqa p) = some t := by
 have hk := Sxa hm
 by_cases k0 : p.1 = 0
 ·rw [Pub k0] at hd
  split at hd
  ·cases hd
  ·rename_i hn
   cases hd
   have hn' : Ara t p.2.1 = none := by cases hg : Ara t p.2.1 with
    | none => rfl
    | some l => rw [hg] at hn; simp at hn
   have e : Jqa p = (1, p.2.1, p.2.2.1, p.2.2.2.1, ()) := by unfold Jqa; rw [if_pos k0]
   refine ⟨?_, Cla _ _ hr, ?_⟩
   ·rw [e]
    unfold Bwa at hm ⊢
    rw [if_pos (.inl k0)] at hm
    rw [if_pos (.inr rfl)]
    exact hm
   ·rw [e, Pvb rfl]
    simp only
    rw [Cja _ _ _ hr, if_pos rfl, if_pos rfl, Sfb _ _ hr hn']
 ·by_cases k1 : p.1 = 1
  ·rw [Pvb k1] at hd
   split at hd
   ·rename_i hn
    cases hd
    have e : Jqa p = (0, p.2.1, p.2.2.1, p.2.2.2.1, ()) := by unfold Jqa; rw [if_neg k0, if_pos k1]
    refine ⟨?_, Eja _ hr, ?_⟩
    ·rw [e]
     unfold Bwa at hm ⊢
     rw [if_pos (.inr k1)] at hm
     rw [if_pos (.inl rfl)]
     exact hm
    ·rw [e, Pub rfl]
     simp only
     rw [Iia _ _ hr, if_pos rfl]
     simp only [Option.isSome_none, Bool.false_eq_true, if_false, Option.some.injEq]
     refine Pja (Cla _ _ (Eja _ hr)) hr fun x => ?_
     rw [Cja _ _ _ (Eja _ hr), Iia _ _ hr]
     by_cases hx : x = p.2.1
     ·rw [if_pos hx, hx, hn]
     ·rw [if_neg hx, if_neg hx]
   ·cases hd
  ·by_cases k2 : p.1 = 2
   ·rw [Pwb k2] at hd
    split at hd
    ·rename_i hn
     cases hd
     obtain ⟨hn1, hn2⟩ := hn
     obtain ⟨l, hl⟩ := Option.isSome_iff_exists.1 hn1
     have hto : Ara t p.2.2.1 = none := by cases hg : Ara t p.2.2.1 with
      | none => rfl
      | some l => rw [hg] at hn2; simp at hn2
     have hne : p.2.1 ≠ p.2.2.1 := fun he => by rw [he, hto] at hl; cases hl
     have e : Jqa p = (p.1, p.2.2.1, p.2.1, p.2.2.2.1, ()) := by unfold Jqa; rw [if_neg k0, if_neg k1, if_pos k2]
     have r1 := Eja p.2.1 hr
     have r2 := Cla p.2.2.1 ((Ara t p.2.1).getD []) r1
     refine ⟨?_, r2, ?_⟩
     ·rw [e]
      unfold Bwa at hm ⊢
      rw [if_neg (by omega), if_pos k2] at hm
      rw [if_neg (by simp only; omega), if_pos k2]
      simp only [Bool.and_eq_true, decide_eq_true_eq] at hm ⊢
      exact ⟨⟨hm.1.2, hm.1.1⟩, Ne.symm hm.2.1, hm.2.2⟩
     ·rw [e, Pwb (show ((p.1, p.2.2.1, p.2.1, p.2.2.2.1, ()) : Ana).1 = 2 from k2)]
      simp only
      have g1 : Ara (Mja (Tpa t p.2.1) p.2.2.1 ((Ara t p.2.1).getD [])) p.2.2.1 = some l := by rw [Cja _ _ _ r1, if_pos rfl, hl]; rfl
      have g2 : Ara (Mja (Tpa t p.2.1) p.2.2.1 ((Ara t p.2.1).getD [])) p.2.1 = none := by rw [Cja _ _ _ r1, if_neg hne, Iia _ _ hr, if_pos rfl]
      rw [g1, g2]
      simp only [Option.isSome_some, Option.isSome_none, and_self, if_true, Option.getD_some, Option.some.injEq]
      refine Pja (Cla _ _ (Eja _ r2)) hr fun x => ?_
      rw [Cja _ _ _ (Eja _ r2), Iia _ _ r2, Cja _ _ _ r1, Iia _ _ hr]
      by_cases hx : x = p.2.1
      ·rw [if_pos hx, hx, hl]
      ·by_cases hx2 : x = p.2.2.1
       ·rw [if_neg hx, if_pos hx2, hx2, hto]
       ·rw [if_neg hx, if_neg hx2, if_neg hx2, if_neg hx]
    ·cases hd
   ·have e : Jqa p = (p.1, p.2.1, p.2.2.1, Yca p.2.2.2.1, ()) := by unfold Jqa; rw [if_neg k0, if_neg k1, if_neg k2]
    by_cases k3 : p.1 = 3
    ·rw [Pxb k3] at hd
     split at hd
     ·rename_i hn
      cases hd
      obtain ⟨hn1, hn2⟩ := hn
      obtain ⟨l, hl⟩ := Option.isSome_iff_exists.1 hn1
      simp only [hl, Option.getD_some] at hn2 ⊢
      obtain ⟨b1, b2⟩ := Plb hn2
      have r2 := Cla p.2.1 (Hza l p.2.2.2.1) hr
      refine ⟨?_, r2, ?_⟩
      ·rw [e]
       unfold Bwa at hm ⊢
       rw [if_neg (by omega), if_neg k2, if_pos k3] at hm
       rw [if_neg (by simp only; omega), if_neg k2, if_pos k3]
       simp only [Bool.and_eq_true, Nxa, Caa, Yca] at hm ⊢
       exact ⟨hm.1, hm.2.1, hm.2.2.2, hm.2.2.1⟩
      ·rw [e, Pxb (show ((p.1, p.2.1, p.2.2.1, Yca p.2.2.2.1, ()) : Ana).1 = 3 from k3)]
       simp only
       have g1 : Ara (Mja t p.2.1 (Hza l p.2.2.2.1)) p.2.1 = some (Hza l p.2.2.2.1) := by rw [Cja _ _ _ hr, if_pos rfl]
       rw [g1]
       simp only [Option.isSome_some, Option.getD_some, true_and]
       rw [if_pos (show isAt (Hza l p.2.2.2.1) (Yca p.2.2.2.1).1 (Yca p.2.2.2.1).2.1 = true from b1), b2]
       refine congrArg some (Pja (Cla _ _ r2) hr fun x => ?_)
       rw [Cja _ _ _ r2, Cja _ _ _ hr]
       by_cases hx : x = p.2.1
       ·rw [if_pos hx, hx, hl]
       ·rw [if_neg hx, if_neg hx]
     ·cases hd
    ·have k4 : p.1 = 4 := by omega
     rw [Sgb (by omega)] at hd
     split at hd
     ·rename_i hl
      cases hd
      have r2 := Cla p.2.1 p.2.2.2.1.2.2.1 hr
      refine ⟨?_, r2, ?_⟩
      ·rw [e]
       unfold Bwa at hm ⊢
       rw [if_neg (by omega), if_neg k2, if_neg k3, if_pos k4] at hm
       rw [if_neg (by simp only; omega), if_neg k2, if_neg k3, if_pos k4]
       simp only [Bool.and_eq_true, Nxa, Caa, Yca] at hm ⊢
       exact ⟨⟨hm.1.1, hm.1.2.1, hm.1.2.2.2, hm.1.2.2.1⟩, hm.2⟩
      ·rw [e, Sgb (show 4 ≤ ((p.1, p.2.1, p.2.2.1, Yca p.2.2.2.1, ()) : Ana).1 from by simp only; omega)]
       simp only
       rw [Cja _ _ _ hr, if_pos rfl, if_pos (show some p.2.2.2.1.2.2.1 = some (Yca p.2.2.2.1).2.1 from rfl)]
       refine congrArg some (Pja (Cla _ _ r2) hr fun x => ?_)
       rw [Cja _ _ _ r2, Cja _ _ _ hr]
       by_cases hx : x = p.2.1
       ·rw [if_pos hx, hx, hl]; rfl
       ·rw [if_neg hx, if_neg hx]
     ·cases hd
theorem Ojb {l m : List Ana} : ∀ {t u : Aka}, Dva t l = (u, 0) → Dva t (l ++ m) = Dva u m := by
 induction l with
 | nil => intro t u h; rw [Dva] at h; cases h; rfl
 | cons p l ih =>
  intro t u h
  simp only [List.cons_append, Dva] at h ⊢
  split at h
  ·rename_i h0; rw [if_pos h0]; exact ih h
  ·rename_i h0; exact absurd (Prod.mk.inj h).2 h0
theorem Mzb {n m : Nat} {a : Aka} (b : Aka) (ha : Fit n m a) (s : Str) : (Mya a b s).length ≤ m + 3 := by
 have h1 := Xta ((Ara a s).getD []) ((Ara b s).getD [])
 have h2 := ha.get s
 simp only [Mya, List.length_append, Jua, List.length_map]
 split <;> split <;> simp <;> omega
theorem Nfb {n m : Nat} {a b : Aka} (ha : Fit n m a) (hb : b.length ≤ n) : (Izb a b).length ≤ (n + n) * (m + 3) := by
 have h1 := Usa (Mya a b) (m + 3) (Nya a b) fun s _ => Mzb b ha s
 have h2 := Iyb a b
 have h3 := ha.1
 exact Nat.le_trans h1 (Nat.mul_le_mul_right _ (by omega))
theorem Rpa {s : Str} (h : Eva s = true) : s.size ≤ 16 := by
 simp only [Eva, Bool.and_eq_true, decide_eq_true_eq] at h
 exact h.1.2
theorem Oib {a b : Aka} (ma : Mua a = true) (mb : Mua b = true) {s : Str} (hs : ((Ara a s).isSome || (Ara b s).isSome) = true) {p : Ana} (h : p ∈ Mya a b s) : Bwa p = true := by
 have hn : Eva s = true := by
  cases hA : (Ara a s).isSome with
  | true => exact Zwa ma hA
  | false => rw [hA, Bool.false_or] at hs; exact Zwa mb hs
 simp only [Mya, List.mem_append] at h
 rcases h with h | h | h
 ·split at h
  ·simp at h
  ·simp only [List.mem_singleton] at h; subst h; exact Zsa (.inl rfl) hn
 ·obtain ⟨x, hx, rfl⟩ := List.mem_map.1 h
  have := Evb (Vka ma s) (Vka mb s) hx
  simp [Bwa, Caa, hn, this]
 ·split at h
  ·simp at h
  ·simp only [List.mem_singleton] at h; subst h; exact Zsa (.inr rfl) hn
theorem Mrb {a b : Aka} (ma : Mua a = true) (mb : Mua b = true) {p : Ana} (h : p ∈ Izb a b) : Bwa p = true := by
 obtain ⟨s, h1, h2⟩ := List.mem_flatMap.1 h
 exact Oib ma mb (Ixb h1) h2
theorem Fwb (p : Ana) (h : Mha p) : Sva (p, ()) = some (!Bwa p, ()) := by
 rw [Fvb]
 simp only [Abb, Cka, Ova p h, Aaa]
theorem Fna (l : List Ana) (hb : l.length < 4611686018427387903) (hw : ∀ p ∈ l, Mha p) : ∀ (r : List Ana) (i : Nat), l.drop i = r → i ≤ l.length →
  ∃ y, Bia (l, (l.length : Int), (i : Int), ()) = some y ∧ (match y with
   | .inl z => r.all Bwa = false ∧ 0 ≤ z.2.1
   | .inr _ => r.all Bwa = true)
 | [], i, h, hi => by
  have := Aia h hi
  subst this
  rw [Fma]
  simp (disch := omega) only [Cda, PP]
  exact ⟨_, rfl, rfl⟩
 | p :: r, i, h, hi => by
  obtain ⟨h1, h2, h3, h4⟩ := Afa h
  have e := Fwb p (hw p h4)
  rw [Fma]
  cases hm : Bwa p with
  | false =>
   rw [hm] at e
   simp (disch := omega) only [Cda, PP, h2, Cka, e, Bool.not_false]
   refine ⟨_, rfl, ?_⟩
   exact ⟨by rw [List.all_cons, hm, Bool.false_and], by simp only; omega⟩
  | true =>
   rw [hm] at e
   simp (disch := omega) only [Cda, PP, h2, Cka, e, Bool.not_true]
   obtain ⟨y, e', q⟩ := Fna l hb hw r (i + 1) h3 (by omega)
   refine ⟨y, e', ?_⟩
   cases y with
   | inl z => simp only [List.all_cons, hm, Bool.true_and] at q ⊢; exact q
   | inr z => simp only [List.all_cons, hm, Bool.true_and] at q ⊢; exact q
theorem Ksb (l : List Ana) (hb : l.length < 4611686018427387903) (hw : ∀ p ∈ l, Mha p) : Voa (l, ()) = some (l.all Bwa, ()) := by
 obtain ⟨y, e, q⟩ := Fna l hb hw l 0 rfl (by omega)
 simp only [Int.natCast_zero] at e
 rw [Krb]
 cases y with
 | inl z =>
  simp only at q
  simp (disch := omega) only [Aab, PP, e, q.1]
  rw [decide_eq_true q.2]; rfl
 | inr z =>
  simp only at q
  simp (disch := omega) only [Aab, PP, e, q]
theorem Xdb {p : Ana} (h : Mha p) : Mha (Jqa p) := by
 unfold Jqa
 split
 ·exact ⟨h.n, h.t, h.o, h.w⟩
 ·split
  ·exact ⟨h.n, h.t, h.o, h.w⟩
  ·split
   ·exact ⟨h.t, h.n, h.o, h.w⟩
   ·exact ⟨h.n, h.t, h.w, h.o⟩
theorem Pmb {l : List Ana} (h : ∀ p ∈ l, Mha p) : ∀ p ∈ Tja l, Mha p := fun p hp => by
 simp only [Tja, List.mem_map, List.mem_reverse] at hp
 obtain ⟨q, hq, rfl⟩ := hp
 exact Xdb (h q hq)
theorem Kdb (l : List Ana) : (Tja l).length = l.length := by simp [Tja]
abbrev Id := Int × Int × Unit
abbrev Aga := Id × List Id × Str × List Ana × Unit
abbrev Jga := Int × List Aga × Aka × Aka × Int × Unit
instance (s : Str) (l : List Str) : Decidable (s ∈ l) := decidable_of_iff (Lab s l = true) (Zua s l)
inductive Kkb {α : Type} (R : α → α → Prop) : List α → List α → Prop
 | nil : Kkb R [] []
 | cons {x y : α} {l m : List α} : R x y → Kkb R l m → Kkb R (x :: l) (y :: m)
def byH (h : Jwa) : Int := (h.2.2.1.length : Int) - (h.2.1.length : Int)
def Zna (h : Jwa) (n : Int) : Jwa := (h.1 + n, h.2.1, h.2.2.1, ())
def Jeb (p q : Jwa) : Option (Jwa × Jwa) :=
 if Nxa p = true ∧ Nxa q = true then
  if p.1 + p.2.2.1.length < q.1 then (if q.1 - byH p ≤ 1048576 then some (Zna q (-byH p), p) else none)
  else if q.1 + q.2.1.length < p.1 then (if p.1 + byH q ≤ 1048576 then some (q, Zna p (byH q)) else none)
  else none
 else none
def Lyb (p : Ana) (h : Jwa) : Ana := (p.1, p.2.1, p.2.2.1, h, ())
def Cnb (p : Ana) (s : Str) : Ana := (p.1, s, p.2.2.1, p.2.2.2.1, ())
def Wha (p : Ana) : List Str := if p.1 = 2 then [p.2.1, p.2.2.1] else [p.2.1]
def Hrb (p q : Ana) : Bool := (Wha q).all fun s => decide (s ∉ Wha p)
def Nva (p : Ana) : Bool := decide (p.1 = 3) || decide (p.1 = 4)
def Yaa (p q : Ana) : Option (Ana × Ana) :=
 if Bwa p = true ∧ Bwa q = true then
  if Hrb p q = true then some (q, p)
  else if p.1 = 3 ∧ q.1 = 3 then (Jeb p.2.2.2.1 q.2.2.2.1).map fun x => (Lyb q x.1, Lyb p x.2)
  else if p.1 = 2 ∧ Nva q = true ∧ q.2.1 = p.2.2.1 then some (Cnb q p.2.1, p)
  else if q.1 = 2 ∧ Nva p = true ∧ p.2.1 = q.2.1 then some (q, Cnb p q.2.2.1)
  else none
 else none
def Uva {α : Type} (pass : α → α → Option (α × α)) : List α → α → Option (α × List α)
 | [], q => some (q, [])
 | p :: a, q => (Uva pass a q).bind fun x => (pass p x.1).map fun y => (y.1, y.2 :: x.2)
def Ggb {α : Type} (pass : α → α → Option (α × α)) : List α → List α → Option (List α × List α)
 | a, [] => some ([], a)
 | a, q :: b => (Uva pass a q).bind fun x => (Ggb pass x.2 b).map fun y => (x.1 :: y.1, y.2)
def stepG {α : Type} (pass : α → α → Option (α × α)) (is : α → Bool) (x : List α × List α) (p : α) : List α × List α :=
 match Uva pass x.2 p with
 | some y => if is p = true then (x.1, x.2 ++ [p]) else (x.1 ++ [y.1], y.2)
 | none => (x.1, x.2 ++ [p])
def Xab {α : Type} (pass : α → α → Option (α × α)) (is : α → Bool) (l : List α) : List α × List α := l.foldl (stepG pass is) ([], [])
abbrev Nib := Ggb Yaa
def Pnb (p : Aga) (l : List Ana) : Aga := (p.1, p.2.1, p.2.2.1, l, ())
def Jda (p q : Aga) : Option (Aga × Aga) :=
 if p.1 ∈ q.2.1 then none else (Nib p.2.2.2.1 q.2.2.2.1).map fun x => (Pnb q x.1, Pnb p x.2)
abbrev Pdb := Uva Jda
def Jma (ids : List Id) (l : List Aga) : List Aga × List Aga := Xab Jda (fun p => decide (p.1 ∈ ids)) l
theorem Wna {α : Type} {pass : α → α → Option (α × α)} : ∀ {a : List α} {q : α} {x : α × List α}, Uva pass a q = some x → x.2.length = a.length
 | [], q, x, h => by simp only [Uva, Option.some.injEq] at h; subst h; rfl
 | p :: a, q, x, h => by
  simp only [Uva] at h
  cases e : Uva pass a q with
  | none => rw [e] at h; simp at h
  | some y =>
   rw [e] at h
   simp only [Option.bind_some, Option.map_eq_some_iff] at h
   obtain ⟨z, hz, rfl⟩ := h
   simp [Wna e]
def Qeb (a b : Id) : Bool := decide (a.1 < b.1) || (decide (a.1 = b.1) && decide (a.2.1 < b.2.1))
def Ovb (x : Id) : Bool := decide (0 ≤ x.1) && decide (x.1 < 8) && decide (1 ≤ x.2.1) && decide (x.2.1 ≤ 1048576)
def Zga : List Id → Bool
 | a :: b :: l => Qeb a b && Zga (b :: l)
 | _ => true
def Kjb (p : Aga) : Bool :=
 Ovb p.1 && decide (p.2.1.length ≤ 60) && p.2.1.all (fun x => Ovb x && decide (x ≠ p.1)) && Zga p.2.1 && Gyb p.2.2.1 && decide (p.2.2.2.1.length ≤ 200) && p.2.2.2.1.all Bwa
def Mxb (l : List Aga) : List Ana := l.flatMap fun p => p.2.2.2.1
def Fua (t : Aka) (l : List Aga) : Aka × Int := Dva t (Mxb l)
def Mza (l : List Aga) (id : Id) : Option Nat := l.findIdx? fun p => decide (p.1 = id)
def Keb : List Id → List Aga → Int → Int → Bool
 | _, [], _, _ => true
 | ids, p :: l, who, made => Kjb p && decide (p.1 ∉ ids) && !(decide (p.1.1 = who) && decide (made < p.1.2.1)) && Keb (ids ++ [p.1]) l who made
def Roa (r : Jga) : Bool :=
 decide (0 ≤ r.1) && decide (r.1 < 8) && decide (r.2.1.length ≤ 60) && decide (0 ≤ r.2.2.2.2.1) && decide (r.2.2.2.2.1 ≤ 1048576) && Keb [] r.2.1 r.1 r.2.2.2.2.1
  && decide ((Fua [] r.2.1).2 = 0) && decide ((Fua [] r.2.1).1 = r.2.2.1) && Mua r.2.2.1 && Mua r.2.2.2.1
def Dna (r : Jga) : List Ana := if Roa r = true then Izb r.2.2.1 r.2.2.2.1 else []
theorem Sya {α : Type} {pass : α → α → Option (α × α)} {R : α → α → Prop} (hr : ∀ x, R x x) (ht : ∀ {x y z}, R x y → R y z → R x z) (hp : ∀ {p q : α} {x : α × α}, pass p q = some x → R q x.1 ∧ R p x.2) :
  ∀ {a : List α} {q : α} {x : α × List α}, Uva pass a q = some x → R q x.1 ∧ Kkb R a x.2
 | [], q, x, h => by simp only [Uva, Option.some.injEq] at h; subst h; exact ⟨hr q, .nil⟩
 | p :: a, q, x, h => by
  simp only [Uva] at h
  cases e : Uva pass a q with
  | none => rw [e] at h; simp at h
  | some y =>
   rw [e] at h
   simp only [Option.bind_some, Option.map_eq_some_iff] at h
   obtain ⟨z, hz, rfl⟩ := h
   have ⟨h1, h2⟩ := Sya hr ht hp e
   have ⟨h3, h4⟩ := hp hz
   exact ⟨ht h1 h3, .cons h4 h2⟩
theorem Jdb {α : Type} {pass : α → α → Option (α × α)} {R : α → α → Prop} (hr : ∀ x, R x x) (ht : ∀ {x y z}, R x y → R y z → R x z) (hp : ∀ {p q : α} {x : α × α}, pass p q = some x → R q x.1 ∧ R p x.2) :
  ∀ {b a : List α} {x : List α × List α}, Ggb pass a b = some x → Kkb R b x.1 ∧ Kkb R a x.2
 | [], a, x, h => by
  simp only [Ggb, Option.some.injEq] at h; subst h
  exact ⟨.nil, by induction a with
   | nil => exact .nil
   | cons p a ih => exact .cons (hr p) ih⟩
 | q :: b, a, x, h => by
  simp only [Ggb] at h
  cases e : Uva pass a q with
  | none => rw [e] at h; simp at h
  | some y =>
   rw [e] at h
   simp only [Option.bind_some, Option.map_eq_some_iff] at h
   obtain ⟨z, hz, rfl⟩ := h
   have ⟨h1, h2⟩ := Sya hr ht hp e
   have ⟨h3, h4⟩ := Jdb hr ht hp hz
   refine ⟨.cons h1 h3, ?_⟩
   clear hz h3 e h1
   generalize y.2 = m at h2 h4
   generalize z.2 = n at h4
   clear y z
   induction h2 generalizing n with
   | nil => cases h4; exact .nil
   | cons a1 a2 ih => cases h4 with | cons b1 b2 => exact .cons (ht a1 b1) (ih _ b2)
theorem Vja {α : Type} {R : α → α → Prop} {l m : List α} (h : Kkb R l m) : ∀ {y}, y ∈ m → ∃ x ∈ l, R x y := by
 induction h with
 | nil => intro y hy; cases hy
 | cons a1 a2 ih =>
  intro y hy
  rcases List.mem_cons.1 hy with rfl | hy
  ·exact ⟨_, List.mem_cons_self, a1⟩
  ·obtain ⟨x, hx, hr⟩ := ih hy; exact ⟨x, List.mem_cons_of_mem _ hx, hr⟩
theorem Prb {α : Type} {R : α → α → Prop} {β : Type} {f : α → β} (hf : ∀ {x y}, R x y → f x = f y) {l m : List α} (h : Kkb R l m) : l.map f = m.map f := by
 induction h with
 | nil => rfl
 | cons a1 a2 ih => rw [List.map_cons, List.map_cons, ih, hf a1]
theorem Wsa {α : Type} {pass : α → α → Option (α × α)} {R : α → α → Prop} (hr : ∀ x, R x x) (ht : ∀ {x y z}, R x y → R y z → R x z) (hp : ∀ {p q : α} {x : α × α}, pass p q = some x → R q x.1 ∧ R p x.2) (is : α → Bool) :
  ∀ (l s a : List α) (Q : List α), (∀ y ∈ s, ∃ x ∈ Q, R x y) → (∀ y ∈ a, ∃ x ∈ Q, R x y) → (∀ y ∈ l, y ∈ Q) →
   (∀ y ∈ (l.foldl (stepG pass is) (s, a)).1, ∃ x ∈ Q, R x y) ∧ ∀ y ∈ (l.foldl (stepG pass is) (s, a)).2, ∃ x ∈ Q, R x y
 | [], s, a, Q, h1, h2, h3 => ⟨h1, h2⟩
 | p :: l, s, a, Q, h1, h2, h3 => by
  have hp0 : ∃ x ∈ Q, R x p := ⟨p, h3 p List.mem_cons_self, hr p⟩
  have app : ∀ {m : List α} {x : α}, (∀ y ∈ m, ∃ x ∈ Q, R x y) → (∃ z ∈ Q, R z x) → ∀ y ∈ m ++ [x], ∃ x ∈ Q, R x y := by
   intro m x hm hx y hy
   rcases List.mem_append.1 hy with hy | hy
   ·exact hm y hy
   ·rw [List.mem_singleton.1 hy]; exact hx
  rw [List.foldl_cons]
  have hl : ∀ y ∈ l, y ∈ Q := fun y hy => h3 y (List.mem_cons_of_mem _ hy)
  cases hy : Uva pass a p with
  | none =>
   rw [show stepG pass is (s, a) p = (s, a ++ [p]) from by simp [stepG, hy]]
   exact Wsa hr ht hp is l _ _ Q h1 (app h2 hp0) hl
  | some y =>
   obtain ⟨k1, k2⟩ := Sya hr ht hp hy
   cases hi : is p with
   | true =>
    rw [show stepG pass is (s, a) p = (s, a ++ [p]) from by simp [stepG, hy, hi]]
    exact Wsa hr ht hp is l _ _ Q h1 (app h2 hp0) hl
   | false =>
    rw [show stepG pass is (s, a) p = (s ++ [y.1], y.2) from by simp [stepG, hy, hi]]
    refine Wsa hr ht hp is l _ _ Q (app h1 ?_) ?_ hl
    ·obtain ⟨z, hz, hzr⟩ := hp0; exact ⟨z, hz, ht hzr k1⟩
    ·intro w hw
     obtain ⟨v, hv, hvr⟩ := Vja k2 hw
     obtain ⟨u, hu, hur⟩ := h2 v hv
     exact ⟨u, hu, ht hur hvr⟩
theorem Xza {α : Type} {pass : α → α → Option (α × α)} {β : Type} {f : α → β} (hp : ∀ {p q : α} {x : α × α}, pass p q = some x → f q = f x.1 ∧ f p = f x.2) (is : α → Bool) :
  ∀ (l s a : List α), ((l.foldl (stepG pass is) (s, a)).1.map f).Sublist (s.map f ++ l.map f) ∧
   ((l.foldl (stepG pass is) (s, a)).1.map f ++ (l.foldl (stepG pass is) (s, a)).2.map f).Perm (s.map f ++ a.map f ++ l.map f)
 | [], s, a => by simp
 | p :: l, s, a => by
  rw [List.foldl_cons]
  have hR : ∀ {a : List α} {q : α} {x : α × List α}, Uva pass a q = some x → f q = f x.1 ∧ Kkb (fun x y => f x = f y) a x.2 :=
   Sya (R := fun x y => f x = f y) (fun _ => rfl) (fun h k => h.trans k) hp
  have far : ∀ {s a : List α}, ((l.foldl (stepG pass is) (s, a ++ [p])).1.map f).Sublist (s.map f ++ (p :: l).map f) ∧
    ((l.foldl (stepG pass is) (s, a ++ [p])).1.map f ++ (l.foldl (stepG pass is) (s, a ++ [p])).2.map f).Perm (s.map f ++ a.map f ++ (p :: l).map f) := by
   intro s a
   obtain ⟨k1, k2⟩ := Xza (pass := pass) (f := f) hp is l s (a ++ [p])
   refine ⟨k1.trans (List.Sublist.append (List.Sublist.refl _) (by simp)), k2.trans (by simp)⟩
  cases hy : Uva pass a p with
  | none =>
   rw [show stepG pass is (s, a) p = (s, a ++ [p]) from by simp [stepG, hy]]
   exact far
  | some y =>
   obtain ⟨e1, e2⟩ := hR hy
   cases hi : is p with
   | true =>
    rw [show stepG pass is (s, a) p = (s, a ++ [p]) from by simp [stepG, hy, hi]]
    exact far
   | false =>
    rw [show stepG pass is (s, a) p = (s ++ [y.1], y.2) from by simp [stepG, hy, hi]]
    obtain ⟨k1, k2⟩ := Xza (pass := pass) (f := f) hp is l (s ++ [y.1]) y.2
    have e3 : a.map f = y.2.map f := Prb (R := fun x y => f x = f y) (fun h => h) e2
    refine ⟨?_, ?_⟩
    ·rw [List.map_append, List.map_cons, List.map_nil, ← e1] at k1
     simpa using k1
    ·rw [List.map_append, List.map_cons, List.map_nil, ← e1, ← e3] at k2
     refine k2.trans ?_
     simp only [List.map_cons, List.append_assoc]
     exact List.Perm.append_left _ (by rw [← List.append_assoc]; exact (List.perm_middle (l₁ := a.map f)).symm)
structure Coa (p : Ana) : Prop where
 n : p.2.1.size ≤ 100
 t : p.2.2.1.size ≤ 100
 o : p.2.2.2.1.2.1.length ≤ 300
 w : p.2.2.2.1.2.2.1.length ≤ 300
theorem Coa.w' {p : Ana} (h : Coa p) : Mha p := ⟨by have := h.n; omega, by have := h.t; omega, by have := h.o; omega, by have := h.w; omega⟩
theorem Jfb {p q : Jwa} {x : Jwa × Jwa} (h : Jeb p q = some x) : Nxa p = true ∧ Nxa q = true ∧ Nxa x.1 = true ∧ Nxa x.2 = true ∧ x.1.2 = q.2 ∧ x.2.2 = p.2 := by
 unfold Jeb at h
 split at h
 ·rename_i hm
  obtain ⟨h1, h2⟩ := hm
  obtain ⟨a1, a2, a3, a4⟩ := Nca h1
  obtain ⟨b1, b2, b3, b4⟩ := Nca h2
  refine ⟨h1, h2, ?_⟩
  unfold Nxa at h1 h2
  simp only [Bool.and_eq_true, decide_eq_true_eq] at h1 h2
  split at h
  ·split at h
   ·simp only [Option.some.injEq] at h; subst h
    refine ⟨?_, ?_, rfl, rfl⟩
    ·simp only [Nxa, Zna, Bool.and_eq_true, decide_eq_true_eq]
     refine ⟨⟨?_, ?_⟩, h2.2⟩
     ·refine decide_eq_true ?_; show 0 ≤ q.1 + -byH p; unfold byH at *; omega
     ·refine decide_eq_true ?_; show q.1 + -byH p ≤ 1048576; unfold byH at *; omega
    ·simp only [Nxa, Bool.and_eq_true, decide_eq_true_eq]; exact h1
   ·cases h
  ·split at h
   ·split at h
    ·simp only [Option.some.injEq] at h; subst h
     refine ⟨?_, ?_, rfl, rfl⟩
     ·simp only [Nxa, Bool.and_eq_true, decide_eq_true_eq]; exact h2
     ·simp only [Nxa, Zna, Bool.and_eq_true, decide_eq_true_eq]
      refine ⟨⟨?_, ?_⟩, h1.2⟩
      ·refine decide_eq_true ?_; show 0 ≤ p.1 + byH q; unfold byH at *; omega
      ·refine decide_eq_true ?_; show p.1 + byH q ≤ 1048576; unfold byH at *; omega
    ·cases h
   ·cases h
 ·cases h
theorem Xwa {p : Ana} (h : p.1 = 3) : Bwa p = (Caa p && Nxa p.2.2.2.1) := by unfold Bwa; rw [if_neg (by omega), if_neg (by omega), if_pos h]
theorem Owb {p : Ana} (h : p.1 = 4) : Bwa p = ((Caa p && Nxa p.2.2.2.1) && decide (p.2.2.2.1.1 = 0)) := by unfold Bwa; rw [if_neg (by omega), if_neg (by omega), if_neg (by omega), if_pos h]
theorem Gdb {p : Ana} (h : p.1 = 2) : Bwa p = ((Eva p.2.1 && Eva p.2.2.1) && (decide (p.2.1 ≠ p.2.2.1) && Bjb p)) := by unfold Bwa; rw [if_neg (by omega), if_pos h]
theorem Kib {p : Ana} {s : Str} (h : Bwa p = true) (hl : Nva p = true) (hs : Eva s = true) : Bwa (Cnb p s) = true := by
 simp only [Nva, Bool.or_eq_true, decide_eq_true_eq] at hl
 rcases hl with hk | hk
 ·rw [Xwa hk] at h
  rw [Xwa (p := Cnb p s) hk]
  simp only [Caa, Bool.and_eq_true, Cnb] at h ⊢
  exact ⟨⟨hs, h.1.2⟩, h.2⟩
 ·rw [Owb hk] at h
  rw [Owb (p := Cnb p s) hk]
  simp only [Caa, Bool.and_eq_true, Cnb] at h ⊢
  exact ⟨⟨⟨hs, h.1.1.2⟩, h.1.2⟩, h.2⟩
theorem Peb {p q : Ana} {x : Ana × Ana} (h : Yaa p q = some x) : Bwa p = true ∧ Bwa q = true ∧ Bwa x.1 = true ∧ Bwa x.2 = true ∧ x.1.1 = q.1 ∧ x.2.1 = p.1 := by
 unfold Yaa at h
 split at h
 ·rename_i hm
  obtain ⟨h1, h2⟩ := hm
  refine ⟨h1, h2, ?_⟩
  split at h
  ·simp only [Option.some.injEq] at h; subst h; exact ⟨h2, h1, rfl, rfl⟩
  ·split at h
   ·rename_i hk
    simp only [Option.map_eq_some_iff] at h
    obtain ⟨y, hy, rfl⟩ := h
    obtain ⟨_, _, k1, k2, _, _⟩ := Jfb hy
    rw [Xwa hk.1] at h1
    rw [Xwa hk.2] at h2
    rw [Xwa (p := Lyb q y.1) hk.2, Xwa (p := Lyb p y.2) hk.1]
    simp only [Bool.and_eq_true, Caa, Lyb] at h1 h2 ⊢
    exact ⟨⟨h2.1, k1⟩, ⟨h1.1, k2⟩, trivial, trivial⟩
   ·split at h
    ·rename_i hk
     simp only [Option.some.injEq] at h; subst h
     rw [Gdb hk.1] at h1
     simp only [Bool.and_eq_true] at h1
     exact ⟨Kib h2 hk.2.1 h1.1.1, by rw [Gdb hk.1]; simp only [Bool.and_eq_true]; exact h1, rfl, rfl⟩
    ·split at h
     ·rename_i hk
      simp only [Option.some.injEq] at h; subst h
      have h2' := h2
      rw [Gdb hk.1] at h2
      simp only [Bool.and_eq_true] at h2
      exact ⟨h2', Kib h1 hk.2.1 h2.1.2, rfl, rfl⟩
     ·cases h
 ·cases h
theorem Cob {p : Ana} {s : Str} (h : Coa p) (hs : s.size ≤ 100) : Coa (Cnb p s) := ⟨hs, h.t, h.o, h.w⟩
theorem Cmb {p : Ana} {h : Jwa} (k : Coa p) (h1 : h.2.1.length ≤ 300) (h2 : h.2.2.1.length ≤ 300) : Coa (Lyb p h) := ⟨k.n, k.t, h1, h2⟩
theorem Lcb {p q : Ana} {x : Ana × Ana} (h : Yaa p q = some x) (hp : Coa p) (hq : Coa q) : Coa x.1 ∧ Coa x.2 := by
 unfold Yaa at h
 split at h
 ·split at h
  ·simp only [Option.some.injEq] at h; subst h; exact ⟨hq, hp⟩
  ·split at h
   ·simp only [Option.map_eq_some_iff] at h
    obtain ⟨y, hy, rfl⟩ := h
    obtain ⟨_, _, _, _, e1, e2⟩ := Jfb hy
    exact ⟨Cmb hq (by rw [e1]; exact hq.o) (by rw [e1]; exact hq.w), Cmb hp (by rw [e2]; exact hp.o) (by rw [e2]; exact hp.w)⟩
   ·split at h
    ·simp only [Option.some.injEq] at h; subst h; exact ⟨Cob hq hp.n, hp⟩
    ·split at h
     ·simp only [Option.some.injEq] at h; subst h; exact ⟨hq, Cob hp hq.t⟩
     ·cases h
 ·cases h
theorem Exb {h : Jwa} (k : Nxa h = true) : h.2.1.length ≤ 300 ∧ h.2.2.1.length ≤ 300 := by
 obtain ⟨_, _, a, b⟩ := Nca k; omega
theorem Bkb {p : Ana} (h : Bjb p = true) : p.2.2.2.1.2.1.length ≤ 300 ∧ p.2.2.2.1.2.2.1.length ≤ 300 := by
 simp only [Bjb, Bool.and_eq_true, decide_eq_true_eq] at h; omega
theorem Pba {p : Ana} (h : Caa p = true) : p.2.1.size ≤ 100 ∧ p.2.2.1.size ≤ 100 := by
 simp only [Caa, Bool.and_eq_true, decide_eq_true_eq] at h
 have := Rpa h.1
 rw [h.2]
 exact ⟨by omega, by simp⟩
theorem Oqa {p : Ana} (h : Bwa p = true) : Coa p := by
 unfold Bwa at h
 split at h
 ·simp only [Bool.and_eq_true] at h
  have a := Pba h.1
  have b := Bkb h.2
  exact ⟨a.1, a.2, b.1, b.2⟩
 ·split at h
  ·simp only [Bool.and_eq_true] at h
   have a := Rpa h.1.1
   have a' := Rpa h.1.2
   have b := Bkb h.2.2
   exact ⟨by omega, by omega, b.1, b.2⟩
  ·split at h
   ·simp only [Bool.and_eq_true] at h
    have a := Pba h.1
    have b := Exb h.2
    exact ⟨a.1, a.2, b.1, b.2⟩
   ·split at h
    ·simp only [Bool.and_eq_true] at h
     have a := Pba h.1.1
     have b := Exb h.1.2
     exact ⟨a.1, a.2, b.1, b.2⟩
    ·cases h
theorem Njb {p q : Aga} {x : Aga × Aga} (h : Jda p q = some x) : x.1.1 = q.1 ∧ x.2.1 = p.1 ∧ x.1.2.1 = q.2.1 ∧ x.2.2.1 = p.2.1 ∧ x.1.2.2.1 = q.2.2.1 ∧ x.2.2.2.1 = p.2.2.1 ∧ Nib p.2.2.2.1 q.2.2.2.1 = some (x.1.2.2.2.1, x.2.2.2.2.1) := by
 unfold Jda at h
 split at h
 ·cases h
 ·simp only [Option.map_eq_some_iff] at h
  obtain ⟨y, hy, rfl⟩ := h
  exact ⟨rfl, rfl, rfl, rfl, rfl, rfl, hy⟩
structure Lzb (p q : Ana) : Prop where
 k : p.1 = q.1
 m : Bwa p = true → Bwa q = true
 l : Coa p → Coa q
theorem Fab {p q : Ana} {x : Ana × Ana} (h : Yaa p q = some x) : Lzb q x.1 ∧ Lzb p x.2 := by
 obtain ⟨h1, h2, h3, h4, h5, h6⟩ := Peb h
 exact ⟨⟨h5.symm, fun _ => h3, fun _ => Oqa h3⟩, ⟨h6.symm, fun _ => h4, fun _ => Oqa h4⟩⟩
theorem Lzb.refl (p : Ana) : Lzb p p := ⟨rfl, id, id⟩
theorem Lzb.trans {p q r : Ana} (h : Lzb p q) (k : Lzb q r) : Lzb p r := ⟨h.k.trans k.k, k.m ∘ h.m, k.l ∘ h.l⟩
structure Kin (p q : Aga) : Prop where
 id : p.1 = q.1
 deps : p.2.1 = q.2.1
 text : p.2.2.1 = q.2.2.1
 l : Kkb Lzb p.2.2.2.1 q.2.2.2.1
theorem Hqb {α : Type} {R : α → α → Prop} (hr : ∀ x, R x x) : ∀ l : List α, Kkb R l l
 | [] => .nil
 | x :: l => .cons (hr x) (Hqb hr l)
theorem Eeb {α : Type} {R : α → α → Prop} (ht : ∀ {x y z}, R x y → R y z → R x z) : ∀ {a b c : List α}, Kkb R a b → Kkb R b c → Kkb R a c
 | _, _, _, .nil, .nil => .nil
 | _, _, _, .cons a b, .cons c d => .cons (ht a c) (Eeb (R := R) (fun h k => ht h k) b d)
theorem Fkb {α : Type} {R : α → α → Prop} : ∀ {a b : List α}, Kkb R a b → a.length = b.length
 | _, _, .nil => rfl
 | _, _, .cons _ b => by simp [Fkb b]
theorem Kin.refl (p : Aga) : Kin p p := ⟨rfl, rfl, rfl, Hqb Lzb.refl _⟩
theorem Kin.trans {p q r : Aga} (h : Kin p q) (k : Kin q r) : Kin p r := ⟨h.id.trans k.id, h.deps.trans k.deps, h.text.trans k.text, Eeb (fun a b => a.trans b) h.l k.l⟩
theorem Rza {p q : Aga} {x : Aga × Aga} (h : Jda p q = some x) : Kin q x.1 ∧ Kin p x.2 := by
 obtain ⟨h1, h2, h3, h4, h5, h6, h7⟩ := Njb h
 obtain ⟨k1, k2⟩ := Jdb Lzb.refl Lzb.trans Fab h7
 exact ⟨⟨h1.symm, h3.symm, h5.symm, k1⟩, ⟨h2.symm, h4.symm, h6.symm, k2⟩⟩
theorem Ccb (ids : List Id) (l : List Aga) : (∀ q ∈ (Jma ids l).1, ∃ p ∈ l, Kin p q) ∧ ∀ q ∈ (Jma ids l).2, ∃ p ∈ l, Kin p q :=
 Wsa Kin.refl Kin.trans Rza _ l [] [] l (by simp) (by simp) fun _ h => h
theorem Jcb (ids : List Id) (l : List Aga) : ((Jma ids l).1.map (·.1)).Sublist (l.map (·.1)) ∧ ((Jma ids l).1.map (·.1) ++ (Jma ids l).2.map (·.1)).Perm (l.map (·.1)) := by
 have := Xza (pass := Jda) (f := fun p : Aga => p.1) (fun h => ⟨(Rza h).1.id, (Rza h).2.id⟩) (fun p => decide (p.1 ∈ ids)) l [] []
 simpa [Jma, Xab] using this
theorem Kin.may {p q : Aga} (h : Kin p q) (k : Kjb p = true) : Kjb q = true := by
 unfold Kjb at k ⊢
 rw [← h.id, ← h.deps, ← h.text, ← Fkb h.l]
 simp only [Bool.and_eq_true] at k ⊢
 refine ⟨k.1, ?_⟩
 have := k.2
 rw [List.all_eq_true] at this ⊢
 intro y hy
 obtain ⟨x, hx, hr⟩ := Vja h.l hy
 exact hr.m (this x hx)
theorem Kfb (who made : Int) : ∀ (l : List Aga) (ids : List Id), Keb ids l who made = true ↔ (∀ p ∈ l, Kjb p = true ∧ (p.1.1 = who → p.1.2.1 ≤ made)) ∧ (l.map (·.1)).Nodup ∧ ∀ p ∈ l, p.1 ∉ ids
 | [], ids => by simp [Keb]
 | p :: l, ids => by
  have ih := Kfb who made l (ids ++ [p.1])
  unfold Keb
  rw [Bool.and_eq_true, ih]
  simp only [Bool.and_eq_true, decide_eq_true_eq, Bool.not_eq_true', Bool.and_eq_false_iff, decide_eq_false_iff_not, List.mem_cons, forall_eq_or_imp, List.map_cons, List.nodup_cons, List.mem_append, List.mem_map, not_or, List.not_mem_nil, not_false_eq_true, and_true, List.mem_singleton]
  constructor
  ·rintro ⟨⟨⟨a, b⟩, c⟩, d, e, f⟩
   refine ⟨⟨⟨a, fun h => ?_⟩, d⟩, ⟨?_, e⟩, b, fun q hq => (f q hq).1⟩
   ·rcases c with c | c
    ·exact absurd h c
    ·omega
   ·rintro ⟨q, hq, h⟩; exact (f q hq).2 h
  ·rintro ⟨⟨⟨a, b⟩, c⟩, ⟨d, e⟩, f, g⟩
   refine ⟨⟨⟨a, f⟩, ?_⟩, c, e, fun q hq => ⟨g q hq, fun h => d ⟨q, hq, h⟩⟩⟩
   by_cases h : p.1.1 = who
   ·right; have := b h; omega
   ·left; exact h
structure Hbb (r : Jga) : Prop where
 w0 : 0 ≤ r.1
 w1 : r.1 < 8
 n : r.2.1.length ≤ 60
 m0 : 0 ≤ r.2.2.2.2.1
 m1 : r.2.2.2.2.1 ≤ 1048576
 p : ∀ p ∈ r.2.1, Kjb p = true ∧ (p.1.1 = r.1 → p.1.2.1 ≤ r.2.2.2.2.1)
 u : (r.2.1.map (·.1)).Nodup
 a : Fua [] r.2.1 = (r.2.2.1, 0)
 b : Mua r.2.2.1 = true
 k : Mua r.2.2.2.1 = true
theorem Efa (r : Jga) : Roa r = true ↔ Hbb r := by
 unfold Roa
 simp only [Bool.and_eq_true, decide_eq_true_eq, Kfb]
 constructor
 ·rintro ⟨⟨⟨⟨⟨⟨⟨⟨⟨a, b⟩, c⟩, d⟩, e⟩, f, g, _⟩, h⟩, i⟩, j⟩, k⟩
  exact ⟨a, b, c, d, e, f, g, Prod.ext i h, j, k⟩
 ·rintro ⟨a, b, c, d, e, f, g, h, i, j⟩
  exact ⟨⟨⟨⟨⟨⟨⟨⟨⟨a, b⟩, c⟩, d⟩, e⟩, f, g, by simp⟩, by rw [h]⟩, by rw [h]⟩, i⟩, j⟩
abbrev noR : Jga := (0, [], [], [], 0, ())
def Cib (r : Jga) (t : Aka) : Jga := (r.1, r.2.1, r.2.2.1, t, r.2.2.2.2.1, ())
def Kqb (r : Jga) (t : Aka) : Jga × Int := if Roa r = true ∧ Mua t = true then (Cib r t, 0) else (noR, 1)
def Oza (r : Jga) : Jga × Int := if Roa r = true then (Cib r r.2.2.1, 0) else (noR, 1)
def Ora (r : Jga) : Id := (r.1, r.2.2.2.2.1 + 1, ())
def Mia (r : Jga) : Prop := 60 ≤ r.2.1.length ∨ 1048576 ≤ r.2.2.2.2.1
instance (r : Jga) : Decidable (Mia r) := inferInstanceAs (Decidable (_ ∨ _))
def Wfa (r : Jga) (p : Aga) (t : Aka) : Jga := (r.1, r.2.1 ++ [p], t, t, r.2.2.2.2.1 + 1, ())
def Kma (r : Jga) (text : Str) (deps : List Id) : Jga × Int :=
 if Roa r = false then (noR, 1)
 else if Dna r = [] then (noR, 3)
 else if Mia r ∨ 200 < (Dna r).length then (noR, 8)
 else if Kjb (Ora r, deps, text, Dna r, ()) = false then (noR, 1)
 else if deps.any (fun d => (Mza r.2.1 d).isNone) = true then (noR, 3)
 else (Wfa r (Ora r, deps, text, Dna r, ()) r.2.2.2.1, 0)
def Qea (r : Jga) (id : Id) : Jga × Int :=
 if Roa r = false then (noR, 1)
 else if Mza r.2.1 id = none then (noR, 3)
 else if 1 < (Jma [id] r.2.1).2.length then (noR, 6)
 else if (Fua [] (Jma [id] r.2.1).1).2 ≠ 0 then (noR, (Fua [] (Jma [id] r.2.1).1).2)
 else if Mua (Fua [] (Jma [id] r.2.1).1).1 = false then (noR, 8)
 else ((r.1, (Jma [id] r.2.1).1, (Fua [] (Jma [id] r.2.1).1).1, r.2.2.2.1, r.2.2.2.2.1, ()), 0)
def Iqa (name to : Str) : Ana := (2, name, to, (0, [], [], ()), ())
def Bxb : Str := ⟨#[109, 111, 118, 101]⟩
def Zoa (r : Jga) (name to : Str) : Jga × Int :=
 if Roa r = false then (noR, 1)
 else if Dna r ≠ [] then (noR, 9)
 else if Mia r then (noR, 8)
 else if (Bva r.2.2.1 (Iqa name to)).2 ≠ 0 then (noR, (Bva r.2.2.1 (Iqa name to)).2)
 else (Wfa r (Ora r, [], Bxb, [Iqa name to], ()) (Bva r.2.2.1 (Iqa name to)).1, 0)
theorem Nza {r : Jga} (h : Hbb r) : Dna r = Izb r.2.2.1 r.2.2.2.1 := by rw [Dna, if_pos ((Efa r).2 h)]
theorem Mvb {r : Jga} (h : Hbb r) {t : Aka} (ht : Mua t = true) : Hbb (Cib r t) := ⟨h.w0, h.w1, h.n, h.m0, h.m1, h.p, h.u, h.a, h.b, ht⟩
theorem Olb {l m : List Ana} {t u : Aka} (h : Dva t l = (u, 0)) : Dva t (l ++ m) = Dva u m := Ojb h
theorem Mmb {r : Jga} (h : Hbb r) (hf : ¬ Mia r) {p : Aga} {t : Aka} (hi : p.1 = Ora r) (hp : Kjb p = true) (ha : Dva r.2.2.1 p.2.2.2.1 = (t, 0)) (ht : Mua t = true) : Hbb (Wfa r p t) := by
 unfold Mia at hf
 refine ⟨h.w0, h.w1, ?_, ?_, ?_, ?_, ?_, ?_, ht, ht⟩
 ·simp only [Wfa, List.length_append, List.length_singleton]; omega
 ·simp only [Wfa]; have := h.m0; omega
 ·simp only [Wfa]; omega
 ·intro q hq
  simp only [Wfa] at hq ⊢
  rcases List.mem_append.1 hq with hq | hq
  ·obtain ⟨a, b⟩ := h.p q hq
   exact ⟨a, fun e => by have := b e; omega⟩
  ·rw [List.mem_singleton.1 hq, hi]
   refine ⟨hp, fun _ => ?_⟩
   simp [Ora]
 ·simp only [Wfa, List.map_append, List.map_cons, List.map_nil]
  rw [List.nodup_append]
  refine ⟨h.u, by simp, ?_⟩
  intro a ha' b hb e
  rw [List.mem_singleton] at hb
  subst hb
  obtain ⟨q, hq, rfl⟩ := List.mem_map.1 ha'
  have := (h.p q hq).2
  rw [e, hi] at this
  simp only [Ora] at this
  have := this trivial
  omega
 ·simp only [Wfa, Fua, Mxb, List.flatMap_append]
  have ha' := h.a
  unfold Fua at ha'
  rw [show List.flatMap (fun p : Aga => p.2.2.2.1) r.2.1 = Mxb r.2.1 from rfl, Olb ha']
  simpa using ha
theorem Nkb {r : Jga} {text : Str} {deps : List Id} (h : (Kma r text deps).2 = 0) : Hbb r ∧ Hbb (Kma r text deps).1 ∧ (Kma r text deps).1 = Wfa r (Ora r, deps, text, Dna r, ()) r.2.2.2.1 ∧ ¬ Mia r ∧ Kjb (Ora r, deps, text, Dna r, ()) = true := by
 unfold Kma at h ⊢
 split at h
 ·simp at h
 ·rename_i h1
  split at h
  ·simp at h
  ·rename_i h2
   split at h
   ·simp at h
   ·rename_i h3
    split at h
    ·simp at h
    ·rename_i h4
     split at h
     ·simp at h
     ·rename_i h5
      rw [if_neg h1, if_neg h2, if_neg h3, if_neg h4, if_neg h5]
      have hm : Hbb r := (Efa r).1 (by simpa using h1)
      have hf : ¬ Mia r := fun k => h3 (.inl k)
      refine ⟨hm, Mmb hm hf rfl (by simpa using h4) ?_ hm.k, rfl, hf, by simpa using h4⟩
      have := Spb hm.b hm.k []
      rw [List.append_nil, Okb] at this
      rw [Nza hm]
      exact this
theorem Khb {r : Jga} {id : Id} (h : (Qea r id).2 = 0) : Hbb (Qea r id).1 := by
 unfold Qea at h ⊢
 split at h
 ·simp at h
 ·rename_i h1
  split at h
  ·simp at h
  ·rename_i h2
   split at h
   ·simp at h
   ·rename_i h3
    split at h
    ·rename_i h4; exact absurd h h4
    ·rename_i h4
     split at h
     ·simp at h
     ·rename_i h5
      rw [if_neg h1, if_neg h2, if_neg h3, if_neg h4, if_neg h5]
      have hm : Hbb r := (Efa r).1 (by simpa using h1)
      have hi := (Jcb [id] r.2.1).1
      refine ⟨hm.w0, hm.w1, ?_, hm.m0, hm.m1, ?_, hm.u.sublist hi, ?_, by simpa using h5, hm.k⟩
      ·have := hi.length_le
       simp only [List.length_map] at this
       exact Nat.le_trans this hm.n
      ·intro q hq
       obtain ⟨p, hp, hk⟩ := (Ccb [id] r.2.1).1 q hq
       obtain ⟨a, b⟩ := hm.p p hp
       refine ⟨hk.may a, fun e => ?_⟩
       simp only [← hk.id] at e ⊢
       exact b e
      ·exact Prod.ext rfl (by simpa using h4)
theorem W0 {n : Int} (h : -4611686018427387904 ≤ n ∧ n < 4611686018427387904) : IntKind.wrap .i64 n = n := Aqa h.1 h.2
def Hab (h : Jwa) : Prop := h.2.1.length ≤ 300 ∧ h.2.2.1.length ≤ 300
theorem Coa.h {p : Ana} (h : Coa p) : Hab p.2.2.2.1 := ⟨h.o, h.w⟩
theorem Ffb (h : Jwa) (hl : Hab h) : Vaa (h, ()) = some (byH h, ()) := by
 obtain ⟨h1, h2⟩ := hl
 rw [Nmb]
 unfold Mbb
 rw [W0 ⟨by omega, by omega⟩]
 rfl
theorem Pfa (h : Jwa) (n : Int) (hl : Hab h) (hn : -1000000000000 ≤ h.1 + n ∧ h.1 + n ≤ 1000000000000) : Iza (h, n, ()) = some (Zna h n, ()) := by
 obtain ⟨h1, h2⟩ := hl
 have hM := Aha
 rw [Lob]
 have hw := W0 (n := h.1 + n) ⟨by omega, by omega⟩
 simp (disch := omega) only [Hjb, PP, hw]
 rfl
def Wyb (o : Option (Jwa × Jwa)) : Jwa × Jwa × Bool × Unit := match o with
 | some x => (x.1, x.2, true, ())
 | none => (noH, noH, false, ())
theorem Jxb (p q : Jwa) (hp : Hab p) (hq : Hab q) : Xga (p, q, ()) = some (Wyb (Jeb p q)) := by
 rw [Jwb]
 have e1 := Ooa p
 have e2 := Ooa q
 have e3 := Ffb p hp
 have e4 := Ffb q hq
 have hp' := hp
 have hq' := hq
 obtain ⟨a1, a2⟩ := hp
 obtain ⟨b1, b2⟩ := hq
 unfold Dyb
 simp only [Opa, e1, e2, e3, e4, Aaa, Ama]
 cases hm : Nxa p with
 | false => simp only [Aca, Jeb, hm, Bool.false_eq_true, false_and, if_false, Wyb]
 | true =>
  cases hm2 : Nxa q with
  | false => simp only [Aca, Aba, Jeb, hm, hm2, Bool.false_eq_true, and_false, if_false, Wyb]
  | true =>
   obtain ⟨p1, p2, _, _⟩ := Nca hm
   obtain ⟨q1, q2, _, _⟩ := Nca hm2
   have w1 := W0 (n := q.1 + (q.2.1.length : Int)) ⟨by omega, by omega⟩
   have w2 := W0 (n := p.1 + (p.2.2.1.length : Int)) ⟨by omega, by omega⟩
   have w3 := W0 (n := p.1 + 0) ⟨by omega, by omega⟩
   have w4 := W0 (n := q.1 + 0) ⟨by omega, by omega⟩
   have hb1 : -300 ≤ byH p ∧ byH p ≤ 300 := by unfold byH; omega
   have hb2 : -300 ≤ byH q ∧ byH q ≤ 300 := by unfold byH; omega
   have w5 := W0 (n := 0 - byH p) ⟨by omega, by omega⟩
   have w6 := W0 (n := q.1 + (0 - byH p)) ⟨by omega, by omega⟩
   have w7 := W0 (n := p.1 + byH q) ⟨by omega, by omega⟩
   have o1 := Pfa q (0 - byH p) hq' ⟨by omega, by omega⟩
   have o2 := Pfa p 0 hp' ⟨by omega, by omega⟩
   have o3 := Pfa q 0 hq' ⟨by omega, by omega⟩
   have o4 := Pfa p (byH q) hp' ⟨by omega, by omega⟩
   have z1 : Zna p 0 = p := by simp [Zna]
   have z2 : Zna q 0 = q := by simp [Zna]
   have z3 : Zna q (0 - byH p) = Zna q (-byH p) := by simp [Zna]
   simp only [w1, w2, w3, w4, w5, w6, w7, Aba, Aca, o1, o2, o3, o4, Aaa, z1, z2, z3]
   unfold Jeb
   rw [if_pos ⟨hm, hm2⟩]
   by_cases c1 : p.1 + (p.2.2.1.length : Int) < q.1
   ·rw [if_pos c1]
    by_cases c2 : q.1 - byH p ≤ 1048576
    ·rw [if_pos c2]
     simp (disch := omega) only [Ada, Aea]
     rfl
    ·rw [if_neg c2]
     simp (disch := omega) only [Ada, Aea]
     rfl
   ·rw [if_neg c1]
    by_cases c3 : q.1 + (q.2.1.length : Int) < p.1
    ·rw [if_pos c3]
     by_cases c2 : p.1 + byH q ≤ 1048576
     ·rw [if_pos c2]
      simp (disch := omega) only [Ada, Aea]
      rfl
     ·rw [if_neg c2]
      simp (disch := omega) only [Ada, Aea]
      rfl
    ·rw [if_neg c3]
     simp (disch := omega) only [Ada, Aea]
     rfl
theorem Cdb (p : Ana) (hp : Coa p) : Wwa (p, ()) = some (p, ()) := by
 have h1 := hp.o
 have h2 := hp.w
 have hM := Aha
 rw [Ldb]
 simp (disch := omega) only [Heb, PP]
theorem Wva (p : Ana) : Oca (p, ()) = some (Wha p, ()) := by
 rw [Gkb]
 unfold Afb Wha
 by_cases h : p.1 = 2
 ·simp only [Eaa, Ada h, if_pos h]
 ·simp only [Eaa, Aea h, if_neg h]
theorem Wua (p : Ana) : Dwa (p, ()) = some (Nva p, ()) := by
 rw [Gjb]
 unfold Aeb Nva
 by_cases h : p.1 = 3
 ·simp only [Eaa, Ada h]; simp [h]
 ·simp only [Eaa, Aea h]; simp [h]
theorem Hda (l : List Str) (s : Str) (hb : l.length < 4611686018427387903) : ∀ (r : List Str) (i : Nat), l.drop i = r → i ≤ l.length →
  ∃ y, Bza (l, s, (l.length : Int), (i : Int), ()) = some y ∧ (match y with
   | .inl z => 0 ≤ z.2.2.1 ∧ s ∈ r
   | .inr _ => s ∉ r)
 | [], i, h, hi => by
  have := Aia h hi
  subst this
  rw [Hca]
  simp (disch := omega) only [Cra, PP]
  exact ⟨_, rfl, by simp⟩
 | f :: r, i, h, hi => by
  obtain ⟨h1, h2, h3, h4⟩ := Afa h
  rw [Hca]
  by_cases hf : s = f
  ·simp (disch := omega) only [Cra, PP, h2]
   exact ⟨_, rfl, by simp only; omega, by simp [hf]⟩
  ·simp (disch := omega) only [Cra, PP, h2]
   obtain ⟨y, e, p⟩ := Hda l s hb r (i + 1) h3 (by omega)
   refine ⟨y, e, ?_⟩
   cases y with
   | inl z => simp only at p ⊢; exact ⟨p.1, List.mem_cons_of_mem _ p.2⟩
   | inr z => simp only [List.mem_cons, not_or] at p ⊢; exact ⟨hf, p⟩
theorem Nea (l : List Str) (s : Str) (hb : l.length < 4611686018427387903) : Daa (l, s, ()) = some (decide (s ∈ l), ()) := by
 obtain ⟨y, e, p⟩ := Hda l s hb l 0 rfl (by omega)
 simp only [Int.natCast_zero] at e
 have e2 : ∃ n : Int, Eca (l, s, ()) = some (n, ()) ∧ (0 ≤ n ↔ s ∈ l) := by
  rw [Qia]
  unfold Kqa
  simp only [e, Aaa]
  cases y with
  | inl z => simp only at p; simp only [Fsa]; exact ⟨_, rfl, ⟨fun _ => p.2, fun _ => p.1⟩⟩
  | inr z => simp only at p; simp only [Eua]; exact ⟨_, rfl, ⟨fun h => by omega, fun h => absurd h p⟩⟩
 obtain ⟨n, e2, hn⟩ := e2
 rw [Nda]
 unfold Ida
 simp only [e2, Aaa]
 exact congrArg (fun b => some (b, ())) (decide_eq_decide.2 hn)
theorem Eyb (p : Ana) : (Wha p).length ≤ 2 := by unfold Wha; split <;> simp
theorem Saa (p q : Ana) (l m : List Str) (hl : l.length ≤ 100) (hm : m.length ≤ 100) : ∀ (r : List Str) (i : Nat), m.drop i = r → i ≤ m.length →
  ∃ y, Ata ([], p.1, p.2.1, p.2.2.1, p.2.2.2.1.1, p.2.2.2.1.2.1, p.2.2.2.1.2.2.1, q.1, q.2.1, q.2.2.1, q.2.2.2.1.1, q.2.2.2.1.2.1, q.2.2.2.1.2.2.1, l, m, (m.length : Int), (i : Int), ()) = some y ∧ (match y with
   | .inl z => 0 ≤ z.2.2.2.2.2.2.2.2.2.2.2.2.2.2.2.1 ∧ (r.all fun s => decide (s ∉ l)) = false
   | .inr _ => (r.all fun s => decide (s ∉ l)) = true)
 | [], i, h, hi => by
  have := Aia h hi
  subst this
  rw [Dxa]
  simp (disch := omega) only [Bja, PP]
  exact ⟨_, rfl, rfl⟩
 | f :: r, i, h, hi => by
  obtain ⟨h1, h2, h3, h4⟩ := Afa h
  have eC := Nea l f (by omega)
  rw [Dxa]
  by_cases hf : f ∈ l
  ·rw [decide_eq_true hf] at eC
   simp (disch := omega) only [Bja, PP, h2, eC]
   exact ⟨_, rfl, by simp only; omega, by simp [hf]⟩
  ·rw [decide_eq_false hf] at eC
   simp (disch := omega) only [Bja, PP, h2, eC]
   obtain ⟨y, e, k⟩ := Saa p q l m hl hm r (i + 1) h3 (by omega)
   refine ⟨y, e, ?_⟩
   cases y with
   | inl z => simp only [List.all_cons, hf, not_false_eq_true, decide_true, Bool.true_and] at k ⊢; exact k
   | inr z => simp only [List.all_cons, hf, not_false_eq_true, decide_true, Bool.true_and] at k ⊢; exact k
theorem Gib (p q : Ana) : Sza (p, q, ()) = some (Hrb p q, ()) := by
 have e1 := Wva p
 have e2 := Wva q
 have l1 := Eyb p
 have l2 := Eyb q
 obtain ⟨y, e, k⟩ := Saa p q (Wha p) (Wha q) (by omega) (by omega) (Wha q) 0 rfl (by omega)
 simp only [Int.natCast_zero] at e
 rw [Ghb]
 unfold Adb
 simp only [Cka, e1, e2, Aaa, e]
 cases y with
 | inl z =>
  simp only at k
  simp only [Fsa]
  unfold Hrb; rw [k.2]
  simpa using k.1
 | inr z => simp only at k; simp only [Eua]; unfold Hrb; rw [k]
abbrev noP : Ana := (0, ByteArray.empty, ByteArray.empty, noH, ())
def Gzb (o : Option (Ana × Ana)) : Ana × Ana × Bool × Unit := match o with
 | some x => (x.1, x.2, true, ())
 | none => (noP, noP, false, ())
theorem Jhb (p q : Ana) (hp : Coa p) (hq : Coa q) : Wta (p, q, ()) = some (Gzb (Yaa p q)) := by
 have e1 := Ova p hp.w'
 have e2 := Ova q hq.w'
 have e3 := Cdb p hp
 have e4 := Cdb q hq
 have e5 := Gib p q
 have e6 := Wua p
 have e7 := Wua q
 have e8 := Jxb p.2.2.2.1 q.2.2.2.1 hp.h hq.h
 rw [Jgb]
 unfold Dsb
 simp only [Cka, Opa, e1, e2, e3, e4, e5, e6, e7, e8, Aaa, Ama, Eaa, Xsa]
 unfold Yaa
 cases hm : Bwa p with
 | false => simp only [Aca, Bool.false_eq_true, false_and, if_false, Gzb]
 | true =>
  cases hm2 : Bwa q with
  | false => simp only [Aca, Aba, Bool.false_eq_true, and_false, if_false, Gzb]
  | true =>
   simp only [Aba, and_self, if_true]
   cases ha : Hrb p q with
   | true => simp only [Aba, if_true, Gzb]
   | false =>
    simp only [Aca, Bool.false_eq_true, if_false]
    have dT : ∀ {a b : Int}, a = b → decide (a = b) = true := fun h => decide_eq_true h
    have dF : ∀ {a b : Int}, ¬ a = b → decide (a = b) = false := fun h => decide_eq_false h
    have sT : ∀ {a b : Str}, a = b → decide (a = b) = true := fun h => decide_eq_true h
    have sF : ∀ {a b : Str}, ¬ a = b → decide (a = b) = false := fun h => decide_eq_false h
    by_cases p3 : p.1 = 3
    ·have p2 : ¬ p.1 = 2 := by omega
     have lp : Nva p = true := by simp [Nva, p3]
     simp only [dT p3, dF p2, Aba, Aca, lp]
     by_cases q3 : q.1 = 3
     ·have q2 : ¬ q.1 = 2 := by omega
      simp only [dT q3, Aba]
      rw [if_pos ⟨p3, q3⟩]
      cases hs : Jeb p.2.2.2.1 q.2.2.2.1 with
      | none => simp only [Wyb, Aca, Option.map_none, Gzb]
      | some x => simp only [Wyb, Aba, Option.map_some, Gzb, Lyb]
     ·simp only [dF q3, Aca]
      rw [if_neg (fun h => q3 h.2), if_neg (fun h => p2 h.1)]
      by_cases q2 : q.1 = 2
      ·simp only [dT q2, Aba]
       by_cases hn : p.2.1 = q.2.1
       ·simp only [sT hn, Aba]
        rw [if_pos ⟨q2, trivial, hn⟩]
        simp only [Gzb, Cnb]
       ·simp only [sF hn, Aca]
        rw [if_neg (fun h => hn h.2.2)]
        simp only [Gzb]
      ·simp only [dF q2, Aca]
       rw [if_neg (fun h => q2 h.1)]
       simp only [Gzb]
    ·simp only [dF p3, Aca]
     rw [if_neg (fun h => p3 h.1)]
     by_cases p2 : p.1 = 2
     ·have lp : Nva p = false := by simp [Nva, p2]
      simp only [dT p2, Aba, lp, Aca]
      cases lq : Nva q with
      | true =>
       have q2 : ¬ q.1 = 2 := by intro h; simp [Nva, h] at lq
       simp only [dF q2, Aca, Aba]
       by_cases hn : q.2.1 = p.2.2.1
       ·simp only [sT hn, Aba]
        rw [if_pos ⟨p2, trivial, hn⟩]
        simp only [Gzb, Cnb]
       ·simp only [sF hn, Aca]
        rw [if_neg (fun h => hn h.2.2), if_neg (fun h => q2 h.1)]
        simp only [Gzb]
      | false =>
       rw [if_neg (fun h => Bool.false_ne_true h.2.1), if_neg (fun h => Bool.false_ne_true h.2.1)]
       simp only [Aca, Gzb]
       by_cases q2 : q.1 = 2
       ·simp only [dT q2, Aba]
       ·simp only [dF q2, Aca]
     ·simp only [dF p2, Aca]
      rw [if_neg (fun h => p2 h.1)]
      by_cases q2 : q.1 = 2
      ·simp only [dT q2, Aba]
       cases lp : Nva p with
       | true =>
        simp only [Aba]
        by_cases hn : p.2.1 = q.2.1
        ·simp only [sT hn, Aba]
         rw [if_pos ⟨q2, trivial, hn⟩]
         simp only [Gzb, Cnb]
        ·simp only [sF hn, Aca]
         rw [if_neg (fun h => hn h.2.2)]
         simp only [Gzb]
       | false =>
        rw [if_neg (fun h => Bool.false_ne_true h.2.1)]
        simp only [Aca, Gzb]
      ·simp only [dF q2, Aca]
       rw [if_neg (fun h => q2 h.1)]
       simp only [Gzb]
theorem Rxa {α : Type} (pass : α → α → Option (α × α)) (p : α) : ∀ (a : List α) (q : α), Uva pass (a ++ [p]) q = (pass p q).bind fun z => (Uva pass a z.1).map fun w => (w.1, w.2 ++ [z.2])
 | [], q => by
  simp only [List.nil_append, Uva, Option.bind_some]
  cases pass p q <;> rfl
 | b :: a, q => by
  simp only [List.cons_append, Uva, Rxa pass p a q]
  cases pass p q with
  | none => rfl
  | some z =>
   simp only [Option.bind_some]
   cases Uva pass a z.1 with
   | none => rfl
   | some w =>
    simp only [Option.map_some, Option.bind_some]
    cases pass b w.1 <;> rfl
theorem Tra (l : List Ana) (hl : l.length ≤ 1000000000) (hb : ∀ p ∈ l, Cqb p) : ∀ (r : List Ana) (i : Nat) (acc : List Ana), l.drop i = r → i ≤ l.length → acc.length + r.length ≤ 1000000000 →
  Lra (acc, l, (l.length : Int), (i : Int), ()) = some (acc ++ r, l, (l.length : Int), (l.length : Int), ())
 | [], i, acc, h, hi, ha => by
  have := Aia h hi
  subst this
  rw [Tqa]
  simp (disch := omega) only [Qka, PP, List.append_nil]
 | p :: r, i, acc, h, hi, ha => by
  obtain ⟨h1, h2, h3, h4⟩ := Afa h
  have hM := Aha
  have e1 := Sea p (hb p h4)
  have hb2 : Cqb (Jqa p) := by
   have := hb p h4
   unfold Jqa
   split
   ·exact this
   ·split
    ·exact this
    ·split
     ·exact this
     ·exact ⟨this.2, this.1⟩
  have e2 := Sea (Jqa p) hb2
  rw [Fhb] at e2
  simp only [List.length_cons] at ha
  rw [Tqa]
  simp (disch := omega) only [Qka, PP, h2, Cka, e1, e2]
  rw [Tra l hl hb r (i + 1) _ h3 (by omega) (by simp; omega)]
  simp
theorem Bnb (l : List Ana) (hl : l.length ≤ 1000000000) (hb : ∀ p ∈ l, Cqb p) : Vqa (l, ()) = some (l, ()) := by
 have e := Tra l hl hb l 0 [] rfl (by omega) (by simp; omega)
 simp only [Int.natCast_zero, List.nil_append] at e
 rw [Ktb]
 simp (disch := omega) only [Hcb, PP, e]
theorem Vra (l0 : List Ana) (m : List Ana) (n1 n2 : Int) : ∀ (k : Nat) (L : List Ana) (q c : Ana) (far : Int), k ≤ L.length → L.length ≤ 1000000000 → (∀ p ∈ L, Coa p) → Coa q → (0 < k → 0 < far) →
  ∃ y, Fda (l0, L, c.1, c.2.1, c.2.2.1, c.2.2.2.1.1, c.2.2.2.1.2.1, c.2.2.2.1.2.2.1, far, q.1, q.2.1, q.2.2.1, q.2.2.2.1.1, q.2.2.2.1.2.1, q.2.2.2.1.2.2.1, m, n1, n2, (k : Int) - 1, ()) = some y ∧ (match y with
   | .inl z => Uva Yaa (L.take k) q = none ∧ z.1 = l0 ∧ z.2.1.length = L.length ∧ 0 < z.2.2.2.2.2.2.2.2.1
   | .inr z => ∃ x, Uva Yaa (L.take k) q = some x ∧ z.1 = l0 ∧ z.2.1 = x.2 ++ L.drop k ∧ (z.2.2.1, z.2.2.2.1, z.2.2.2.2.1, (z.2.2.2.2.2.1, z.2.2.2.2.2.2.1, z.2.2.2.2.2.2.2.1, ()), ()) = (if k = 0 then c else x.1) ∧ z.2.2.2.2.2.2.2.2.1 = if k = 0 then far else 0)
 | 0, L, q, c, far, hk, hL, hw, hq, hf => by
  rw [Mta]
  simp (disch := omega) only [Hea, PP]
  exact ⟨_, rfl, (q, []), by simp [Uva], rfl, by simp, rfl, rfl⟩
 | k + 1, L, q, c, far, hk, hL, hw, hq, hf => by
  have e0 : (((k + 1 : Nat) : Int) - 1) = (k : Int) := by omega
  have hw1 : IntKind.wrap .i64 ((k : Int) - 1) = (k : Int) - 1 := Aqa (by omega) (by omega)
  obtain ⟨p, hx', ht, hmem⟩ := Kub L k (by omega)
  have hp := hw p hmem
  have eP := Jhb p q hp hq
  rw [Mta, e0]
  cases hs : Yaa p q with
  | none =>
   rw [hs] at eP
   simp (disch := omega) only [Hea, PP, hx', Cka, eP, Gzb]
   refine ⟨_, rfl, ?_, rfl, rfl, by simpa using hf (by omega)⟩
   rw [ht, Rxa, hs]; rfl
  | some x =>
   rw [hs] at eP
   obtain ⟨l1, l2⟩ := Lcb hs hp hq
   simp (disch := omega) only [Hea, PP, hx', Cka, eP, Gzb, List.length_set, hw1]
   have hset : ∀ y ∈ L.set k x.2, Coa y := by
    intro y hy
    rcases List.mem_or_eq_of_mem_set hy with hy | rfl
    ·exact hw y hy
    ·exact l2
   obtain ⟨y, e, r⟩ := Vra l0 m n1 n2 k (L.set k x.2) x.1 x.1 (k : Int) (by simp; omega) (by simpa using hL) hset l1 (by omega)
   refine ⟨y, e, ?_⟩
   have t1 : (L.set k x.2).take k = L.take k := List.take_set_of_le (Nat.le_refl k)
   have t2 : (L.set k x.2).drop k = x.2 :: L.drop (k + 1) := by
    rw [List.drop_eq_getElem_cons (by simp; omega)]
    simp only [List.getElem_set_self]
    rw [List.drop_set_of_lt (by omega)]
   rw [ht, Rxa, hs]
   simp only [Option.bind_some]
   rw [t1] at r
   cases y with
   | inl z =>
    simp only at r ⊢
    obtain ⟨r1, r2, r3, r4⟩ := r
    exact ⟨by rw [r1]; rfl, r2, by simpa using r3, r4⟩
   | inr z =>
    simp only at r ⊢
    obtain ⟨w, r1, r2, r3, r4, r5⟩ := r
    refine ⟨(w.1, w.2 ++ [x.2]), by rw [r1]; rfl, r2, by rw [r3, t2]; simp, ?_, ?_⟩
    ·rw [r4, if_neg (show ¬ k + 1 = 0 by omega)]
     split
     ·rename_i h0
      subst h0
      simp only [List.take_zero, Uva, Option.some.injEq] at r1
      rw [← r1]
     ·rfl
    ·rw [r5, if_neg (show ¬ k + 1 = 0 by omega)]
     split
     ·omega
     ·rfl
theorem Qya (b : List Ana) (hb : b.length ≤ 1000000000) (hw : ∀ p ∈ b, Coa p) : ∀ (r : List Ana) (i : Nat) (front left : List Ana), b.drop i = r → i ≤ b.length → front.length + r.length ≤ 1000000000 → left.length ≤ 1000000000 → (∀ p ∈ left, Coa p) →
  ∃ y, Kda (front, left, b, (b.length : Int), (i : Int), ()) = some y ∧ (match y with
   | .inl z => Ggb Yaa left r = none
   | .inr z => ∃ x, Ggb Yaa left r = some x ∧ z.1 = front ++ x.1 ∧ z.2.1 = x.2)
 | [], i, front, left, h, hi, hf, hl, hlw => by
  have := Aia h hi
  subst this
  rw [Qxa]
  simp (disch := omega) only [Kxa, PP]
  exact ⟨_, rfl, ([], left), rfl, by simp, rfl⟩
 | q :: r, i, front, left, h, hi, hf, hl, hlw => by
  obtain ⟨h1, h2, h3, h4⟩ := Afa h
  have hM := Aha
  simp only [List.length_cons] at hf
  have hw1 : IntKind.wrap .i64 ((left.length : Int) - 1) = (left.length : Int) - 1 := Aqa (by omega) (by omega)
  obtain ⟨y, e, k⟩ := Vra front b (b.length : Int) (i : Int) left.length left q q (left.length : Int) (Nat.le_refl _) hl hlw (hw q h4) (by omega)
  rw [List.take_length] at k
  rw [Qxa]
  cases y with
  | inl z =>
   simp only at k
   obtain ⟨k1, k2, k3, k4⟩ := k
   simp (disch := omega) only [Kxa, PP, h2, hw1, e, k2, k3]
   refine ⟨_, rfl, ?_⟩
   simp only [Ggb, k1, Option.bind_none]
  | inr z =>
   simp only at k
   obtain ⟨x, k1, k2, k3, k4, k5⟩ := k
   rw [List.drop_length, List.append_nil] at k3
   have hx := Wna k1
   have kq : (z.2.2.1, z.2.2.2.1, z.2.2.2.2.1, (z.2.2.2.2.2.1, z.2.2.2.2.2.2.1, z.2.2.2.2.2.2.2.1, ()), ()) = x.1 := by
    rw [k4]
    split
    ·rename_i h0
     have : left = [] := List.eq_nil_of_length_eq_zero h0
     subst this
     simp only [Uva, Option.some.injEq] at k1
     rw [← k1]
    ·rfl
   have k5' : z.2.2.2.2.2.2.2.2.1 = 0 := by
    rw [k5]
    split
    ·omega
    ·rfl
   have lt : ¬ z.2.2.2.2.2.2.2.2.1 > 0 := by omega
   simp (disch := first | omega | exact lt) only [Kxa, PP, h2, hw1, e, k2, k3, kq, hx]
   obtain ⟨hL1, hL2⟩ := Sya Lzb.refl Lzb.trans Fab k1
   have hx2 : ∀ p ∈ x.2, Coa p := fun p hp => by
    obtain ⟨w, hwm, hk⟩ := Vja hL2 hp
    exact hk.l (hlw w hwm)
   obtain ⟨y, e', r'⟩ := Qya b hb hw r (i + 1) (front ++ [x.1]) x.2 h3 (by omega) (by simp; omega) (by omega) hx2
   refine ⟨y, e', ?_⟩
   simp only [Ggb, k1, Option.bind_some]
   cases y with
   | inl z => simp only at r' ⊢; rw [r']; rfl
   | inr z =>
    simp only at r' ⊢
    obtain ⟨w, w1, w2, w3⟩ := r'
    exact ⟨(x.1 :: w.1, w.2), by rw [w1]; rfl, by rw [w2]; simp, w3⟩
def Tdb (o : Option (List Ana × List Ana)) : List Ana × List Ana × Bool × Unit := match o with
 | some x => (x.1, x.2, true, ())
 | none => ([], [], false, ())
theorem Ikb (a b : List Ana) (ha : a.length ≤ 1000000) (hb : b.length ≤ 1000000) (haw : ∀ p ∈ a, Coa p) (hbw : ∀ p ∈ b, Coa p) : Vpa (a, b, ()) = some (Tdb (Nib a b)) := by
 have e1 := Bnb a (by omega) (fun p hp => (haw p hp).w'.b)
 have e2 := Bnb b (by omega) (fun p hp => (hbw p hp).w'.b)
 obtain ⟨y, e, k⟩ := Qya b (by omega) hbw b 0 [] a rfl (by omega) (by simp; omega) (by omega) haw
 simp only [Int.natCast_zero] at e
 rw [Ijb]
 cases y with
 | inl z =>
  simp only at k
  simp (disch := omega) only [Xna, PP, e1, e2, e, Nib, k, Tdb]
 | inr z =>
  simp only at k
  obtain ⟨x, k1, k2, k3⟩ := k
  simp (disch := omega) only [Xna, PP, e1, e2, e, Nib, k1, Tdb, k2, k3, List.nil_append]
theorem Bpa (x : Id) : ((x.1, x.2.1, ()) : Id) = x := rfl
theorem Aoa (x : Aga) : (((x.1.1, x.1.2.1, ()), x.2.1, x.2.2.1, x.2.2.2.1, ()) : Aga) = x := rfl
theorem Bda (x : Aga) : ((x.1, x.2.1, x.2.2.1, x.2.2.2.1, ()) : Aga) = x := rfl
theorem Obb (a b c d : Int) : (a == c && (b == d && true)) = decide (((a, b, ()) : Id) = (c, d, ())) := by
 simp only [Bool.and_true, Eaa, Prod.mk.injEq, and_true, Bool.decide_and]
theorem Kia (l : List Id) (s : Id) (hb : l.length < 4611686018427387903) : ∀ (r : List Id) (i : Nat), l.drop i = r → i ≤ l.length →
  ∃ y, Dia (s.1, s.2.1, l, (l.length : Int), (i : Int), ()) = some y ∧ (match y with
   | .inl z => 0 ≤ z.2.2.2.1 ∧ s ∈ r
   | .inr _ => s ∉ r)
 | [], i, h, hi => by
  have := Aia h hi
  subst this
  rw [Kha]
  simp (disch := omega) only [Dza, PP]
  exact ⟨_, rfl, by simp⟩
 | f :: r, i, h, hi => by
  obtain ⟨h1, h2, h3, h4⟩ := Afa h
  rw [Kha]
  by_cases hf : s = f
  ·simp (disch := first | omega | exact hf) only [Dza, PP, h2, Obb, Bpa]
   exact ⟨_, rfl, by simp only; omega, by simp [hf]⟩
  ·simp (disch := first | omega | exact hf) only [Dza, PP, h2, Obb, Bpa]
   obtain ⟨y, e, p⟩ := Kia l s hb r (i + 1) h3 (by omega)
   refine ⟨y, e, ?_⟩
   cases y with
   | inl z => simp only at p ⊢; exact ⟨p.1, List.mem_cons_of_mem _ p.2⟩
   | inr z => simp only [List.mem_cons, not_or] at p ⊢; exact ⟨hf, p⟩
theorem Bfa (l : List Id) (s : Id) (hb : l.length < 4611686018427387903) : Cma (l, s, ()) = some (decide (s ∈ l), ()) := by
 obtain ⟨y, e, p⟩ := Kia l s hb l 0 rfl (by omega)
 simp only [Int.natCast_zero] at e
 have e2 : ∃ n : Int, Iya (l, s, ()) = some (n, ()) ∧ (0 ≤ n ↔ s ∈ l) := by
  rw [Xfa]
  unfold Poa
  simp only [e, Aaa]
  cases y with
  | inl z => simp only at p; simp only [Fsa]; exact ⟨_, rfl, ⟨fun _ => p.2, fun _ => p.1⟩⟩
  | inr z => simp only at p; simp only [Eua]; exact ⟨_, rfl, ⟨fun h => by omega, fun h => absurd h p⟩⟩
 obtain ⟨n, e2, hn⟩ := e2
 rw [Sja]
 unfold Lma
 simp only [Bpa, e2, Aaa]
 exact congrArg (fun b => some (b, ())) (decide_eq_decide.2 hn)
structure Bla (p : Aga) : Prop where
 l : ∀ c ∈ p.2.2.2.1, Coa c
 n : p.2.2.2.1.length ≤ 1000
 d : p.2.1.length ≤ 1000
 t : p.2.2.1.size ≤ 1000
theorem Kin.light {p q : Aga} (h : Kin p q) (k : Bla p) : Bla q := by
 refine ⟨fun c hc => ?_, by rw [← Fkb h.l]; exact k.n, by rw [← h.deps]; exact k.d, by rw [← h.text]; exact k.t⟩
 obtain ⟨x, hx, hr⟩ := Vja h.l hc
 exact hr.l (k.l x hx)
theorem Bla.b {p : Aga} (h : Bla p) : ∀ c ∈ p.2.2.2.1, Cqb c := fun c hc => (h.l c hc).w'.b
theorem Lda (p : Aga) (l : List Ana) (h : p.2.1.length ≤ 1000) : Dda (p, l, ()) = some (Pnb p l, ()) := by
 have hM := Aha
 rw [Vba]
 simp (disch := omega) only [Nia, PP, Bpa]
 rfl
abbrev noN : Aga := ((0, 0, ()), [], ByteArray.empty, [], ())
def Wzb (o : Option (Aga × Aga)) : Aga × Aga × Bool × Unit := match o with
 | some x => (x.1, x.2, true, ())
 | none => (noN, noN, false, ())
theorem Gub (p q : Aga) (hp : Bla p) (hq : Bla q) : Tea (p, q, ()) = some (Wzb (Jda p q)) := by
 have e1 := Ikb p.2.2.2.1 q.2.2.2.1 (by have := hp.n; omega) (by have := hq.n; omega) hp.l hq.l
 have e2 := Bfa q.2.1 p.1 (by have := hq.d; omega)
 rw [Gtb]
 unfold Amb
 simp only [Aoa, Bpa, e1, e2, Aaa]
 unfold Jda
 cases hs : Nib p.2.2.2.1 q.2.2.2.1 with
 | none =>
  simp only [Tdb, Ama, Aca, Option.map_none, ite_self]
  rfl
 | some x =>
  have e3 := Lda q x.1 hq.d
  have e4 := Lda p x.2 hp.d
  by_cases hc : p.1 ∈ q.2.1
  ·simp only [Tdb, Ama, Aba, Aca, hc, decide_true, if_true, Wzb]
  ·simp only [Tdb, Ama, Aba, Aca, hc, decide_false, if_false, e3, e4, Aaa, Option.map_some, Wzb, Aoa]
def Stb (o : Option (Aga × List Aga)) : List Aga × Aga × Bool × Unit := match o with
 | some x => (x.2, x.1, true, ())
 | none => ([], noN, false, ())
theorem Xja (l : List Aga) (hl : l.length ≤ 1000000) (hw : ∀ p ∈ l, Bla p) : ∀ (k : Nat) (acc : List Aga) (q : Aga), k ≤ l.length → acc.length + k ≤ 1000000 → Bla q →
  ∃ y, Apa ([], acc, q.1.1, q.1.2.1, q.2.1, q.2.2.1, q.2.2.2.1, l, (k : Int) - 1, ()) = some y ∧ (match y with
   | .inl z => Uva Jda (l.take k) q = none
   | .inr z => ∃ x, Uva Jda (l.take k) q = some x ∧ z.1 = [] ∧ z.2.1 = acc ++ x.2.reverse ∧ ((z.2.2.1, z.2.2.2.1, ()), z.2.2.2.2.1, z.2.2.2.2.2.1, z.2.2.2.2.2.2.1, ()) = x.1)
 | 0, acc, q, hk, ha, hq => by
  rw [Cna]
  simp (disch := omega) only [Asa, PP]
  exact ⟨_, rfl, (q, []), by simp [Uva], rfl, by simp, rfl⟩
 | k + 1, acc, q, hk, ha, hq => by
  have hM := Aha
  have e0 : (((k + 1 : Nat) : Int) - 1) = (k : Int) := by omega
  have hw1 : IntKind.wrap .i64 ((k : Int) - 1) = (k : Int) - 1 := Aqa (by omega) (by omega)
  obtain ⟨p, hx', ht, hmem⟩ := Kub l k (by omega)
  have hp := hw p hmem
  have eP := Gub p q hp hq
  rw [Cna, e0]
  cases hs : Jda p q with
  | none =>
   rw [hs] at eP
   simp (disch := omega) only [Asa, PP, hx', Aoa, Bda, Bpa, eP, Wzb]
   refine ⟨_, rfl, ?_⟩
   simp only
   rw [ht, Rxa, hs]; rfl
  | some x =>
   rw [hs] at eP
   obtain ⟨k1, k2⟩ := Rza hs
   simp (disch := omega) only [Asa, PP, hx', Aoa, Bda, Bpa, eP, Wzb, hw1]
   obtain ⟨y, e, r⟩ := Xja l hl hw k (acc ++ [x.2]) x.1 (by omega) (by simp; omega) (k1.light hq)
   refine ⟨y, e, ?_⟩
   rw [ht, Rxa, hs]
   simp only [Option.bind_some]
   cases y with
   | inl z => simp only at r ⊢; rw [r]; rfl
   | inr z =>
    simp only at r ⊢
    obtain ⟨w, r1, r2, r3, r4⟩ := r
    exact ⟨(w.1, w.2 ++ [x.2]), by rw [r1]; rfl, r2, by rw [r3]; simp, r4⟩
def Fib {α : Type} (l c : List α) (i : Nat) : Prop := c.length = l.length ∧ ∀ x, c[x]? = if x < i ∨ l.length ≤ x + i then l.reverse[x]? else l[x]?
theorem Fib.zero {α : Type} (l : List α) : Fib l l 0 := by
 refine ⟨rfl, fun x => ?_⟩
 split
 ·rename_i h
  rw [List.getElem?_eq_none (by omega), List.getElem?_eq_none (by simp; omega)]
 ·rfl
theorem Fib.end {α : Type} {l c : List α} {i : Nat} (h : Fib l c i) (hi : l.length ≤ 2 * i + 1) : c = l.reverse := by
 apply List.ext_getElem?
 intro x
 rw [h.2 x]
 split
 ·rfl
 ·rename_i hx
  have : x < l.length := by omega
  rw [List.getElem?_reverse this]
  congr 1
  omega
theorem Fib.step {α : Type} {l c : List α} {i j : Nat} (h : Fib l c i) (hj : j + i + 1 = l.length) (hi : i < j) (d d' : α) : Fib l ((c.set i (c.getD j d)).set j (c.getD i d')) (i + 1) := by
 have hl := h.1
 refine ⟨by simp [hl], fun x => ?_⟩
 have gi : c.getD i d' = l[i] := by rw [List.getD_eq_getElem?_getD, h.2 i, if_neg (by omega), List.getElem?_eq_getElem (by omega)]; rfl
 have gj : c.getD j d = l[j] := by rw [List.getD_eq_getElem?_getD, h.2 j, if_neg (by omega), List.getElem?_eq_getElem (by omega)]; rfl
 rw [gi, gj, List.getElem?_set, List.getElem?_set]
 by_cases hx : j = x
 ·subst hx
  rw [if_pos rfl, if_pos (by simp [hl]; omega), if_pos (by omega), List.getElem?_reverse (by omega), ← List.getElem?_eq_getElem]
  congr 1; omega
 ·rw [if_neg hx]
  by_cases hx2 : i = x
  ·subst hx2
   rw [if_pos rfl, if_pos (by omega), if_pos (by omega), List.getElem?_reverse (by omega), ← List.getElem?_eq_getElem]
   congr 1; omega
  ·rw [if_neg hx2, h.2 x]
   by_cases hc : x < i ∨ l.length ≤ x + i
   ·rw [if_pos hc, if_pos (by omega)]
   ·rw [if_neg hc, if_neg (by omega)]
theorem Zma (l7 : List Aga) (l : List Aga) (q : Aga) (hl : l.length ≤ 1000000) : ∀ (n i : Nat) (c : List Aga), l.length - 2 * i ≤ n → i ≤ l.length → Fib l c i →
  ∃ z, Ava ([], c, q.1.1, q.1.2.1, q.2.1, q.2.2.1, q.2.2.2.1, l7, (i : Int), (l.length : Int) - 1 - (i : Int), ()) = some z ∧ z.2.1 = l.reverse ∧ ((z.2.2.1, z.2.2.2.1, ()), z.2.2.2.2.1, z.2.2.2.2.2.1, z.2.2.2.2.2.2.1, ()) = q
 | n, i, c, hn, hi, hr => by
  have hlen := hr.1
  rw [Gia]
  by_cases h : (i : Int) < (l.length : Int) - 1 - (i : Int)
  ·obtain ⟨j, hj⟩ : ∃ j : Nat, (l.length : Int) - 1 - (i : Int) = (j : Int) := ⟨l.length - 1 - i, by omega⟩
   rw [hj] at h ⊢
   have hw1 : IntKind.wrap .i64 ((j : Int) - 1) = (l.length : Int) - 1 - ((i + 1 : Nat) : Int) := by rw [Aqa (by omega) (by omega)]; omega
   simp (disch := first | omega | (simp only [List.length_set]; omega)) only [Cia, PP, Aoa, Bda, Bpa, hw1, List.length_set]
   cases n with
   | zero => omega
   | succ n => exact Zma l7 l q hl n (i + 1) _ (by omega) (by omega) (hr.step (by omega) (by omega) _ _)
  ·simp (disch := omega) only [Cia, PP]
   exact ⟨_, rfl, hr.end (by omega), rfl⟩
theorem Xla (l : List Aga) (q : Aga) (hl : l.length ≤ 1000000) (hw : ∀ p ∈ l, Bla p) (hq : Bla q) : Jpa (l, q, ()) = some (Stb (Pdb l q)) := by
 have e1 := Msa q.2.2.2.1 (by have := hq.n; omega) hq.b
 have hb2 : ∀ c ∈ Tja q.2.2.2.1, Cqb c := fun c hc => (Pmb (fun p hp => (hq.l p hp).w') c hc).b
 have e2 := Msa (Tja q.2.2.2.1) (by rw [Kdb]; have := hq.n; omega) hb2
 rw [Fgb] at e2
 have e3 := Lda q q.2.2.2.1 hq.d
 rw [show Pnb q q.2.2.2.1 = q from rfl] at e3
 have hw1 : IntKind.wrap .i64 ((l.length : Int) - 1) = (l.length : Int) - 1 := Aqa (by omega) (by omega)
 obtain ⟨y, e, r⟩ := Xja l hl hw l.length [] q (Nat.le_refl _) (by simp; omega) hq
 rw [List.take_length] at r
 rw [Xka]
 cases y with
 | inl z =>
  simp only at r
  simp (disch := omega) only [Ola, PP, Aoa, Bda, Bpa, e1, e2, e3, hw1, e]
  rw [show Pdb l q = none from r]; rfl
 | inr z =>
  simp only at r
  obtain ⟨x, r1, r2, r3, r4⟩ := r
  have hx := Wna r1
  rw [List.nil_append] at r3
  have hw2 : IntKind.wrap .i64 ((x.2.reverse.length : Int) - 1) = (x.2.reverse.length : Int) - 1 - ((0 : Nat) : Int) := by rw [Aqa (by simp; omega) (by simp; omega)]; omega
  obtain ⟨u, e4, u1, u2⟩ := Zma z.2.2.2.2.2.2.2.1 x.2.reverse x.1 (by simp; omega) x.2.reverse.length 0 x.2.reverse (by omega) (by omega) (Fib.zero _)
  rw [← r4] at e4
  simp only [Int.natCast_zero] at e4 hw2
  simp (disch := omega) only [Ola, PP, Aoa, Bda, Bpa, e1, e2, e3, hw1, e, r2, r3, hw2, e4, u1, u2, List.reverse_reverse]
  rw [show Pdb l q = some x from r1]; rfl
theorem Fta (q : Aga) (hq : Bla q) : Jpa ([], q, ()) = some ([], q, true, ()) := by
 have e1 := Msa q.2.2.2.1 (by have := hq.n; omega) hq.b
 have hb2 : ∀ c ∈ Tja q.2.2.2.1, Cqb c := fun c hc => (Pmb (fun p hp => (hq.l p hp).w') c hc).b
 have e2 := Msa (Tja q.2.2.2.1) (by rw [Kdb]; have := hq.n; omega) hb2
 rw [Fgb] at e2
 have e3 := Lda q q.2.2.2.1 hq.d
 rw [show Pnb q q.2.2.2.1 = q from rfl] at e3
 have hw1 : IntKind.wrap .i64 (((([] : List Aga).length : Nat) : Int) - 1) = -1 := by rw [Aqa (by simp) (by simp)]; rfl
 have e4 : Apa ([], [], q.1.1, q.1.2.1, q.2.1, q.2.2.1, q.2.2.2.1, [], -1, ()) = some (.inr ([], [], q.1.1, q.1.2.1, q.2.1, q.2.2.1, q.2.2.2.1, [], -1, ())) := by
  rw [Cna]
  simp (disch := omega) only [Asa, PP]
 have e5 : Ava ([], [], q.1.1, q.1.2.1, q.2.1, q.2.2.1, q.2.2.2.1, [], 0, -1, ()) = some ([], [], q.1.1, q.1.2.1, q.2.1, q.2.2.1, q.2.2.2.1, [], 0, -1, ()) := by
  rw [Gia]
  simp (disch := omega) only [Cia, PP]
 rw [Xka]
 unfold Ola
 simp only [hw1]
 simp (disch := simp) only [Ala, Ada, Aoa, Bda, Bpa, e1, e2, e3, e4, e5, hw1, Aaa, Eua]
theorem Oma (ids : List Id) (l s a : List Aga) (hl : l.length ≤ 100000) : Cva (s, a, ids, l, (l.length : Int), (l.length : Int), ()) = some (s, a, ids, l, (l.length : Int), (l.length : Int), ()) := by
 rw [Dfa]
 simp (disch := omega) only [Bca, PP]
theorem Qwa (ids : List Id) (hi0 : ids.length ≤ 1000000) (l : List Aga) (hl : l.length ≤ 100000) (hw : ∀ p ∈ l, Bla p) (b : List Aga) (hb : b = [] ∨ ∃ p, b = [p] ∧ p.1 ∈ ids) : ∀ (r : List Aga) (i : Nat) (s : List Aga), l.drop i = r ++ b → i ≤ l.length → s.length + r.length ≤ 100000 → (∀ p ∈ r, p.1 ∉ ids) →
  Cva (s, [], ids, l, (l.length : Int), (i : Int), ()) = some (s ++ r, b, ids, l, (l.length : Int), (l.length : Int), ())
 | [], i, s, h, hi, hn, hr => by
  rw [List.append_nil]
  rcases hb with rfl | ⟨p, rfl, hp⟩
  ·have := Aia h hi
   subst this
   exact Oma ids l s [] hl
  ·obtain ⟨h1, h2, h3, h4⟩ := Afa h
   have hM := Aha
   have e1 := Bfa ids p.1 (by omega)
   rw [decide_eq_true hp] at e1
   have e2 := Fta p (hw p h4)
   have hil := Aia h3 (by omega)
   rw [Dfa]
   simp (disch := omega) only [Bca, PP, h2, Aoa, Bda, Bpa, e1, e2]
   rw [hil]
   exact Oma ids l s [p] hl
 | p :: r, i, s, h, hi, hn, hr => by
  obtain ⟨h1, h2, h3, h4⟩ := Afa h
  have hM := Aha
  have e1 := Bfa ids p.1 (by omega)
  rw [decide_eq_false (hr p List.mem_cons_self)] at e1
  have e2 := Fta p (hw p h4)
  simp only [List.length_cons] at hn
  have ih := Qwa ids hi0 l hl hw b hb r (i + 1) (s ++ [p]) h3 (by omega) (by simp; omega) (fun q hq => hr q (List.mem_cons_of_mem _ hq))
  rw [Dfa]
  simp (disch := omega) only [Bca, PP, h2, Aoa, Bda, Bpa, e1, e2, ih, List.nil_append]
  simp
theorem Pta (l : List Aga) (hl : l.length ≤ 1000000) (hw : ∀ p ∈ l, Bla p) : ∀ (r : List Aga) (i : Nat) (acc : List Aga), l.drop i = r → i ≤ l.length → acc.length + r.length ≤ 1000000 →
  Ifa (acc, l, (l.length : Int), (i : Int), ()) = some (acc ++ r, l, (l.length : Int), (l.length : Int), ())
 | [], i, acc, h, hi, ha => by
  have := Aia h hi
  subst this
  rw [Psa]
  simp (disch := omega) only [Mxa, PP, List.append_nil]
 | p :: r, i, acc, h, hi, ha => by
  obtain ⟨h1, h2, h3, h4⟩ := Afa h
  have hM := Aha
  have e1 := Fta p (hw p h4)
  simp only [List.length_cons] at ha
  rw [Psa]
  simp (disch := omega) only [Mxa, PP, h2, Aoa, Bda, Bpa, e1]
  rw [Pta l hl hw r (i + 1) _ h3 (by omega) (by simp; omega)]
  simp
theorem Vma (l : List Aga) (hl : l.length ≤ 1000000) (hw : ∀ p ∈ l, Bla p) : Sra (l, ()) = some (l, ()) := by
 have e := Pta l hl hw l 0 [] rfl (by omega) (by simp; omega)
 simp only [Int.natCast_zero, List.nil_append] at e
 rw [Fmb]
 simp (disch := omega) only [Zza, PP, e]
def Csb (ids : List Id) (p : Aga) : Bool := decide (p.1 ∈ ids)
theorem Mub {ids : List Id} {s a : List Aga} (p : Aga) : (stepG Jda (Csb ids) (s, a) p).1.length + (stepG Jda (Csb ids) (s, a) p).2.length = s.length + a.length + 1 := by
 unfold stepG
 simp only
 split
 ·rename_i y hy
  have := Wna hy
  split
  ·simp; omega
  ·simp; omega
 ·simp; omega
theorem Feb {ids : List Id} {s a : List Aga} {p : Aga} (hp : Bla p) (hs : ∀ q ∈ s, Bla q) (ha : ∀ q ∈ a, Bla q) : (∀ q ∈ (stepG Jda (Csb ids) (s, a) p).1, Bla q) ∧ ∀ q ∈ (stepG Jda (Csb ids) (s, a) p).2, Bla q := by
 have app : ∀ {m : List Aga} {x : Aga}, (∀ q ∈ m, Bla q) → Bla x → ∀ q ∈ m ++ [x], Bla q := by
  intro m x hm hx q hq
  rcases List.mem_append.1 hq with hq | hq
  ·exact hm q hq
  ·rw [List.mem_singleton.1 hq]; exact hx
 unfold stepG
 simp only
 split
 ·rename_i y hy
  obtain ⟨k1, k2⟩ := Sya Kin.refl Kin.trans Rza hy
  split
  ·exact ⟨hs, app ha hp⟩
  ·refine ⟨app hs (k1.light hp), fun q hq => ?_⟩
   obtain ⟨w, hw, hk⟩ := Vja k2 hq
   exact hk.light (ha w hw)
 ·exact ⟨hs, app ha hp⟩
theorem Mra (ids : List Id) (hi0 : ids.length ≤ 1000000) (l : List Aga) (hl : l.length ≤ 100000) (hw : ∀ p ∈ l, Bla p) : ∀ (r : List Aga) (i : Nat) (s a : List Aga), l.drop i = r → i ≤ l.length → s.length + a.length + r.length ≤ 100000 → (∀ p ∈ s, Bla p) → (∀ p ∈ a, Bla p) →
  Cva (s, a, ids, l, (l.length : Int), (i : Int), ()) = some ((r.foldl (stepG Jda (Csb ids)) (s, a)).1, (r.foldl (stepG Jda (Csb ids)) (s, a)).2, ids, l, (l.length : Int), (l.length : Int), ())
 | [], i, s, a, h, hi, hn, hs, ha => by
  have := Aia h hi
  subst this
  rw [Dfa]
  simp (disch := omega) only [Bca, PP, List.foldl_nil]
 | p :: r, i, s, a, h, hi, hn, hs, ha => by
  obtain ⟨h1, h2, h3, h4⟩ := Afa h
  have hM := Aha
  simp only [List.length_cons] at hn
  have e1 := Bfa ids p.1 (by omega)
  have e2 := Xla a p (by omega) ha (hw p h4)
  have ih := fun s a => Mra ids hi0 l hl hw r (i + 1) s a h3 (by omega)
  have hlen := Mub (ids := ids) (s := s) (a := a) p
  obtain ⟨g1, g2⟩ := Feb (ids := ids) (hw p h4) hs ha
  rw [Dfa, List.foldl_cons]
  have ih2 := ih (stepG Jda (Csb ids) (s, a) p).1 (stepG Jda (Csb ids) (s, a) p).2 (by omega) g1 g2
  cases ho : Pdb a p with
  | none =>
   rw [ho] at e2
   have hst : stepG Jda (Csb ids) (s, a) p = (s, a ++ [p]) := by unfold stepG; simp only [ho]
   rw [hst] at ih2 ⊢
   by_cases hc : p.1 ∈ ids
   ·rw [decide_eq_true hc] at e1
    simp (disch := omega) only [Bca, PP, h2, Aoa, Bda, Bpa, e1, e2, Stb, ih2]
   ·rw [decide_eq_false hc] at e1
    simp (disch := omega) only [Bca, PP, h2, Aoa, Bda, Bpa, e1, e2, Stb, ih2]
  | some x =>
   rw [ho] at e2
   have hx := Wna ho
   by_cases hc : p.1 ∈ ids
   ·have hst : stepG Jda (Csb ids) (s, a) p = (s, a ++ [p]) := by unfold stepG; simp only [ho, Csb, hc, decide_true, if_true]
    rw [hst] at ih2 ⊢
    rw [decide_eq_true hc] at e1
    simp (disch := omega) only [Bca, PP, h2, Aoa, Bda, Bpa, e1, e2, Stb, ih2]
   ·have hst : stepG Jda (Csb ids) (s, a) p = (s ++ [x.1], x.2) := by unfold stepG; simp only [ho, Csb, hc, decide_false, Bool.false_eq_true, if_false]
    rw [hst] at ih2 ⊢
    rw [decide_eq_false hc] at e1
    simp (disch := omega) only [Bca, PP, h2, Aoa, Bda, Bpa, e1, e2, Stb, ih2]
theorem Crb (ids : List Id) (hi0 : ids.length ≤ 1000000) (l : List Aga) (hl : l.length ≤ 100000) (hw : ∀ p ∈ l, Bla p) : Dla (l, ids, ()) = some ((Jma ids l).1, (Jma ids l).2, ()) := by
 have e0 := Vma l (by omega) hw
 have hM := Aha
 rw [Toa]
 cases l with
 | nil =>
  have e1 : Bka ([], [], ids, [], ((([] : List Aga).length : Nat) : Int), ()) = some (.inr ([], [], ids, [], 0, ())) := by
   rw [Csa]
   simp (disch := simp) only [Cta, PP]
   rfl
  simp only [List.length_nil, Int.natCast_zero] at e1
  simp (disch := omega) only [Ewa, PP, e0, Int.natCast_zero, e1]
  rfl
 | cons p r =>
  have hp := hw p List.mem_cons_self
  have e1 := Bfa ids p.1 (by omega)
  have e2 := Xla [] p (by simp) (by simp) hp
  rw [show Pdb [] p = some (p, []) from rfl] at e2
  have g0 : ∀ d, (p :: r).getD 0 d = p := fun d => rfl
  obtain ⟨g1, g2⟩ := Feb (ids := ids) (s := []) (a := []) hp (by simp) (by simp)
  have hlen := Mub (ids := ids) (s := []) (a := []) p
  simp only [List.length_cons] at hl
  have ih := Mra ids hi0 (p :: r) (by simp only [List.length_cons]; omega) hw r 1 (stepG Jda (Csb ids) ([], []) p).1 (stepG Jda (Csb ids) ([], []) p).2 rfl (by simp) (by simp at hlen; omega) g1 g2
  have hgoal : Jma ids (p :: r) = r.foldl (stepG Jda (Csb ids)) (stepG Jda (Csb ids) ([], []) p) := rfl
  by_cases hc : p.1 ∈ ids
  ·have hst : stepG Jda (Csb ids) ([], []) p = ([], [p]) := by unfold stepG; simp only [Uva, Csb, hc, decide_true, if_true, List.nil_append]
   rw [hst] at ih hgoal
   rw [decide_eq_true hc] at e1
   have e3 : Bka ([], [], ids, p :: r, (((p :: r).length : Nat) : Int), ()) = some (.inl ([], [p], ids, p :: r, (((p :: r).length : Nat) : Int), ())) := by
    rw [Csa]
    simp (disch := first | omega | (simp only [List.length_cons]; omega)) only [Cta, Ala, Ada, Aea, Aba, Aca, Ama, Aaa, Int.toNat_zero, g0, Aoa, Bda, Bpa, e1, e2, Stb, Option.bind_some, Sum.elim_inr, List.nil_append, List.length_cons, List.length_nil]
   rw [hgoal]
   simp only [Int.natCast_one] at ih
   simp (disch := omega) only [Ewa, PP, e0]
   simp only [List.length_cons] at e3 ih
   simp (disch := omega) only [PP, e3, ih]
  ·have hst : stepG Jda (Csb ids) ([], []) p = ([p], []) := by unfold stepG; simp only [Uva, Csb, hc, decide_false, Bool.false_eq_true, if_false, List.nil_append]
   rw [hst] at ih hgoal
   rw [decide_eq_false hc] at e1
   have e3 : Bka ([], [], ids, p :: r, (((p :: r).length : Nat) : Int), ()) = some (.inl ([p], [], ids, p :: r, (((p :: r).length : Nat) : Int), ())) := by
    rw [Csa]
    simp (disch := first | omega | (simp only [List.length_cons]; omega)) only [Cta, Ala, Ada, Aea, Aba, Aca, Ama, Aaa, Int.toNat_zero, g0, Aoa, Bda, Bpa, e1, e2, Stb, Option.bind_some, Sum.elim_inr, List.nil_append, List.length_cons, List.length_nil]
   rw [hgoal]
   simp only [Int.natCast_one] at ih
   simp (disch := omega) only [Ewa, PP, e0]
   simp only [List.length_cons] at e3 ih
   simp (disch := omega) only [PP, e3, ih]
theorem Kva (ids : List Id) (hi0 : ids.length ≤ 1000000) (a b : List Aga) (hl : (a ++ b).length ≤ 100000) (hw : ∀ p ∈ a ++ b, Bla p) (hb : b = [] ∨ ∃ p, b = [p] ∧ p.1 ∈ ids) (ha : ∀ p ∈ a, p.1 ∉ ids) : Dla (a ++ b, ids, ()) = some (a, b, ()) := by
 have e0 := Vma (a ++ b) (by omega) hw
 have hM := Aha
 rw [Toa]
 match hab : a ++ b with
 | [] =>
  rw [hab] at e0
  obtain ⟨rfl, rfl⟩ := List.append_eq_nil_iff.1 hab
  have e1 : Bka ([], [], ids, [], ((([] : List Aga).length : Nat) : Int), ()) = some (.inr ([], [], ids, [], 0, ())) := by
   rw [Csa]
   simp (disch := simp) only [Cta, PP]
   rfl
  simp only [List.length_nil, Int.natCast_zero] at e1
  simp (disch := omega) only [Ewa, PP, e0, Int.natCast_zero, e1]
 | p :: r =>
  rw [hab] at e0 hl hw
  have hp := hw p List.mem_cons_self
  have e1 := Bfa ids p.1 (by omega)
  have e2 := Fta p hp
  have g0 : ∀ d, (p :: r).getD 0 d = p := fun d => rfl
  simp only [List.length_cons] at hl
  by_cases hc : p.1 ∈ ids
  ·rw [decide_eq_true hc] at e1
   have e3 : Bka ([], [], ids, p :: r, (((p :: r).length : Nat) : Int), ()) = some (.inl ([], [p], ids, p :: r, (((p :: r).length : Nat) : Int), ())) := by
    rw [Csa]
    simp (disch := first | omega | (simp only [List.length_cons]; omega)) only [Cta, Ala, Ada, Aea, Aba, Aca, Ama, Aaa, Int.toNat_zero, g0, Aoa, Bda, Bpa, e1, e2, Option.bind_some, Sum.elim_inr, List.nil_append, List.length_cons, List.length_nil]
   cases a with
   | cons x a => rw [List.cons_append] at hab; exact absurd hc ((List.cons.inj hab).1 ▸ ha x List.mem_cons_self)
   | nil =>
    rcases hb with rfl | ⟨q, rfl, hq⟩
    ·simp at hab
    ·rw [List.nil_append] at hab
     obtain ⟨rfl, rfl⟩ := List.cons.inj hab
     have ih := Oma ids [q] [] [q] (by simp)
     simp only [List.length_cons, List.length_nil, Nat.zero_add, Int.natCast_one] at ih e3
     simp (disch := omega) only [Ewa, PP, e0]
     simp (disch := omega) only [Nat.zero_add, Int.natCast_one, PP, e3, ih]
  ·rw [decide_eq_false hc] at e1
   have e3 : Bka ([], [], ids, p :: r, (((p :: r).length : Nat) : Int), ()) = some (.inl ([p], [], ids, p :: r, (((p :: r).length : Nat) : Int), ())) := by
    rw [Csa]
    simp (disch := first | omega | (simp only [List.length_cons]; omega)) only [Cta, Ala, Ada, Aea, Aba, Aca, Ama, Aaa, Int.toNat_zero, g0, Aoa, Bda, Bpa, e1, e2, Option.bind_some, Sum.elim_inr, List.nil_append, List.length_cons, List.length_nil]
   cases a with
   | nil =>
    rcases hb with rfl | ⟨q, rfl, hq⟩
    ·simp at hab
    ·rw [List.nil_append] at hab
     exact absurd hq ((List.cons.inj hab).1 ▸ hc)
   | cons x a =>
    rw [List.cons_append] at hab
    obtain ⟨rfl, rfl⟩ := List.cons.inj hab
    have ih := Qwa ids hi0 (x :: (a ++ b)) (by simp only [List.length_cons]; omega) hw b hb a 1 [x] rfl (by simp) (by simp at hl ⊢; omega) (fun q hq => ha q (List.mem_cons_of_mem _ hq))
    simp only [Int.natCast_one] at ih
    simp (disch := omega) only [Ewa, PP, e0]
    simp only [List.length_cons, List.length_append] at e3 ih
    simp (disch := omega) only [PP, e3, ih, List.singleton_append]
theorem Ceb (x : Id) : Wya (x, ()) = some (Ovb x, ()) := by
 rw [Leb]
 unfold Hfb Ovb
 by_cases h1 : 0 ≤ x.1
 ·by_cases h2 : x.1 < 8
  ·by_cases h3 : 1 ≤ x.2.1
   ·simp only [ge_iff_le, h1, h2, h3, decide_true, Aba, Bool.true_and]
   ·simp only [ge_iff_le, h1, h2, h3, decide_true, decide_false, Aba, Aca, Bool.true_and, Bool.false_and]
  ·simp only [ge_iff_le, h1, h2, decide_true, decide_false, Aba, Aca, Bool.true_and, Bool.false_and]
 ·simp only [ge_iff_le, h1, decide_false, Aca, Bool.false_and]
theorem Gnb (a b : Id) : Taa (a, b, ()) = some (Qeb a b, ()) := by
 rw [Gmb]
 unfold Ahb Qeb
 by_cases h1 : a.1 < b.1
 ·simp only [h1, decide_true, Aba, Bool.true_or]
 ·by_cases h2 : a.1 = b.1
  ·simp only [Eaa, h1, h2, decide_true, decide_false, Aba, Aca, Bool.false_or, Bool.true_and, Int.lt_irrefl]
  ·simp only [Eaa, h1, h2, decide_true, decide_false, Aba, Aca, Bool.false_or, Bool.false_and]
def Tcb (x0 x : Id) : Bool := Ovb x && decide (x ≠ x0)
theorem Vla (a b : Id) : (a.1 == b.1 && (a.2.1 == b.2.1 && true)) = decide (a = b) := by
 rw [Obb]
theorem Zia (p : Aga) (l : List Id) (hb : l.length < 4611686018427387903) : ∀ (r : List Id) (i : Nat), l.drop i = r → i ≤ l.length →
  (r.all (Tcb p.1) = true ∧ Axa (p.1.1, p.1.2.1, p.2.1, p.2.2.1, p.2.2.2.1, l, (l.length : Int), (i : Int), ()) = some (.inr (p.1.1, p.1.2.1, p.2.1, p.2.2.1, p.2.2.2.1, l, (l.length : Int), (l.length : Int), ()))) ∨
  (r.all (Tcb p.1) = false ∧ ∃ z, Axa (p.1.1, p.1.2.1, p.2.1, p.2.2.1, p.2.2.2.1, l, (l.length : Int), (i : Int), ()) = some (.inl z) ∧ 0 ≤ z.2.2.2.2.2.2.1)
 | [], i, h, hi => by
  have := Aia h hi
  subst this
  rw [Hba]
  simp (disch := omega) only [Bma, PP]
  exact .inl ⟨by rfl, trivial⟩
 | f :: r, i, h, hi => by
  obtain ⟨h1, h2, h3, h4⟩ := Afa h
  have e1 := Ceb f
  rw [Hba]
  cases hm : Ovb f with
  | false =>
   rw [hm] at e1
   simp (disch := omega) only [Bma, PP, h2, Bpa, e1]
   exact .inr ⟨by simp [Tcb, hm], _, rfl, by simp only; omega⟩
  | true =>
   rw [hm] at e1
   by_cases hf : f = p.1
   ·simp (disch := first | omega | exact hf) only [Bma, PP, h2, Bpa, e1, Vla]
    exact .inr ⟨by simp [Tcb, hf], _, rfl, by simp only; omega⟩
   ·simp (disch := first | omega | exact hf) only [Bma, PP, h2, Bpa, e1, Vla]
    have ih := Zia p l hb r (i + 1) h3 (by omega)
    have ho : Tcb p.1 f = true := by simp [Tcb, hm, hf]
    rcases ih with ⟨a, b⟩ | ⟨a, b⟩
    ·exact .inl ⟨by rw [List.all_cons, ho, a]; rfl, b⟩
    ·exact .inr ⟨by rw [List.all_cons, ho, a]; rfl, b⟩
theorem Ufa (p : Aga) (l : List Id) (hb : l.length < 4611686018427387903) : ∀ (r : List Id) (i : Nat), l.drop i = r → i ≤ l.length →
  (Zga (l.drop (i - 1)) = true ∧ Dma (p.1.1, p.1.2.1, p.2.1, p.2.2.1, p.2.2.2.1, l, (l.length : Int), (i : Int), ()) = some (.inr (p.1.1, p.1.2.1, p.2.1, p.2.2.1, p.2.2.2.1, l, (l.length : Int), (l.length : Int), ()))) ∨
  (Zga (l.drop (i - 1)) = false ∧ ∃ z, Dma (p.1.1, p.1.2.1, p.2.1, p.2.2.1, p.2.2.2.1, l, (l.length : Int), (i : Int), ()) = some (.inl z))
 | [], i, h, hi => by
  have := Aia h hi
  subst this
  rw [Oea]
  simp (disch := omega) only [Eya, PP]
  refine .inl ⟨?_, trivial⟩
  have hl : (l.drop (l.length - 1)).length ≤ 1 := by simp; omega
  match hd : l.drop (l.length - 1) with
  | [] => rfl
  | [x] => rfl
  | x :: y :: t => rw [hd] at hl; simp at hl
 | f :: r, i, h, hi => by
  obtain ⟨h1, h2, h3, h4⟩ := Afa h
  rw [Oea]
  have ih := Ufa p l hb r (i + 1) h3 (by omega)
  rw [Nat.add_sub_cancel, h] at ih
  by_cases h0 : i = 0
  ·subst h0
   simp (disch := omega) only [Eya, PP]
   rw [Nat.zero_sub, h]
   exact ih
  ·obtain ⟨j, rfl⟩ : ∃ j, i = j + 1 := ⟨i - 1, by omega⟩
   have hg : l.drop j = l.getD j (0, 0, ()) :: f :: r := by
    rw [List.drop_eq_getElem_cons (by omega), h, List.getD_eq_getElem?_getD, List.getElem?_eq_getElem (by omega)]
    rfl
   have hg' : ∀ d, l.getD j d = l.getD j (0, 0, ()) := fun d => by rw [List.getD_eq_getElem?_getD, List.getD_eq_getElem?_getD, List.getElem?_eq_getElem (by omega)]; rfl
   have e0 : (((j + 1 : Nat) : Int) - 1) = (j : Int) := by omega
   have hw1 : IntKind.wrap .i64 (((j + 1 : Nat) : Int) - 1) = (j : Int) := by rw [Aqa (by omega) (by omega)]; omega
   have e1 := Gnb (l.getD j (0, 0, ())) f
   rw [Nat.add_sub_cancel, hg]
   cases hl : Qeb (l.getD j (0, 0, ())) f with
   | false =>
    rw [hl] at e1
    simp (disch := omega) only [Eya, Ala, Ada, Aea, Aba, Aca, Ama, Aaa, hw1, Int.toNat_natCast, h2, Bpa, e1, Option.bind_some, Sum.elim_inr]
    exact .inr ⟨by rw [Zga, hl]; rfl, _, rfl⟩
   | true =>
    rw [hl] at e1
    simp (disch := omega) only [Eya, Ala, Ada, Aea, Aba, Aca, Ama, Aaa, hw1, Jca, Int.toNat_natCast, h2, Bpa, e1, Option.bind_some, Sum.elim_inl]
    rcases ih with ⟨a, b⟩ | ⟨a, b⟩
    ·exact .inl ⟨by rw [Zga, hl, a]; rfl, b⟩
    ·exact .inr ⟨by rw [Zga, hl, a]; rfl, b⟩
theorem Zha (p : Aga) (hp : Bla p) : Oda (p, ()) = some (Kjb p, ()) := by
 have e1 := Ceb p.1
 have e4 := Ckb p.2.2.1
 have hd := hp.d
 have hn := hp.n
 have e5 := Ksb p.2.2.2.1 (by omega) (fun c hc => (hp.l c hc).w')
 rw [Jkb]
 unfold Dub Kjb
 simp only [Bpa, e1, Aaa]
 cases h1 : Ovb p.1 with
 | false => simp only [Aca, Bool.false_and]
 | true =>
  by_cases h2 : p.2.1.length ≤ 60
  ·rcases Zia p p.2.1 (by omega) p.2.1 0 rfl (by omega) with ⟨a, b⟩ | ⟨a, z, b, hz⟩
   ·simp only [Int.natCast_zero] at b
    have a' : (p.2.1.all fun x => Ovb x && decide (x ≠ p.1)) = true := a
    rcases Ufa p p.2.1 (by omega) p.2.1 0 rfl (by omega) with ⟨c, d⟩ | ⟨c, z, d⟩
    ·simp only [Int.natCast_zero, Nat.zero_sub, List.drop_zero] at c d
     cases h3 : Gyb p.2.2.1 with
     | false =>
      rw [h3] at e4
      simp (disch := omega) only [Aba, Aca, Ada, Aea, b, d, e4, Aaa, Fsa, Eua, Bool.and_false, Bool.false_and, c, h2, a', decide_true, Bool.true_and]
     | true =>
      rw [h3] at e4
      by_cases h4 : p.2.2.2.1.length ≤ 200
      ·simp (disch := omega) only [Aba, Aca, Ada, Aea, b, d, e4, e5, Aaa, Fsa, Eua, c, h2, a', h4, decide_true, Bool.true_and]
      ·simp (disch := omega) only [Aba, Aca, Ada, Aea, b, d, e4, e5, Aaa, Fsa, Eua, c, h2, a', h4, decide_true, decide_false, Bool.true_and, Bool.false_and]
    ·simp only [Int.natCast_zero, Nat.zero_sub, List.drop_zero] at c d
     simp (disch := omega) only [Aba, Aca, Ada, Aea, b, d, Aaa, Fsa, Eua, Bool.and_false, Bool.false_and, c, h2, a', decide_true, Bool.true_and]
   ·simp only [Int.natCast_zero] at b
    have a' : (p.2.1.all fun x => Ovb x && decide (x ≠ p.1)) = false := a
    have hz' : decide (z.2.2.2.2.2.2.1 ≥ 0) = true := by simpa using hz
    simp (disch := omega) only [Aba, Aca, Ada, Ama, hz', b, Aaa, Fsa, Eua, Bool.and_false, Bool.false_and, a']
  ·simp (disch := omega) only [Aba, Aca, Ada, Aea, h2, decide_false, Bool.and_false, Bool.false_and]
def Frb (l : List Aga) (id : Id) : Int := match Mza l id with
 | some n => n
 | none => -1
theorem Sda (l : List Aga) (s : Id) (hb : l.length < 4611686018427387903) : ∀ (r : List Aga) (i : Nat), l.drop i = r → i ≤ l.length →
  ∃ y, Bba (s.1, s.2.1, l, (l.length : Int), (i : Int), ()) = some y ∧ (match y with
   | .inl z => ∃ n, Mza r s = some n ∧ z.2.2.2.1 = ((i + n : Nat) : Int)
   | .inr _ => Mza r s = none)
 | [], i, h, hi => by
  have := Aia h hi
  subst this
  rw [Eta]
  simp (disch := omega) only [Bua, PP]
  exact ⟨_, rfl, rfl⟩
 | f :: r, i, h, hi => by
  obtain ⟨h1, h2, h3, h4⟩ := Afa h
  rw [Eta]
  by_cases hf : f.1 = s
  ·simp (disch := first | omega | exact hf) only [Bua, PP, h2, Vla]
   exact ⟨_, rfl, 0, by simp [Mza, List.findIdx?_cons, hf], by simp⟩
  ·simp (disch := first | omega | exact hf) only [Bua, PP, h2, Vla]
   obtain ⟨y, e, p⟩ := Sda l s hb r (i + 1) h3 (by omega)
   refine ⟨y, e, ?_⟩
   have hc : Mza (f :: r) s = (Mza r s).map (· + 1) := by simp [Mza, List.findIdx?_cons, hf]
   cases y with
   | inl z =>
    simp only at p ⊢
    obtain ⟨n, p1, p2⟩ := p
    exact ⟨n + 1, by rw [hc, p1]; rfl, by rw [p2]; omega⟩
   | inr z => simp only at p ⊢; rw [hc, p]; rfl
theorem Ota (l : List Aga) (s : Id) (hb : l.length < 4611686018427387903) : Lia (l, s, ()) = some (Frb l s, ()) := by
 obtain ⟨y, e, p⟩ := Sda l s hb l 0 rfl (by omega)
 simp only [Int.natCast_zero] at e
 rw [Glb]
 unfold Agb Frb
 simp only [e, Aaa]
 cases y with
 | inl z =>
  simp only at p
  obtain ⟨n, p1, p2⟩ := p
  simp only [Fsa, p1, p2, Nat.zero_add]
 | inr z => simp only at p; simp only [Eua, p]
theorem Vna (l : List Aga) (id : Id) : Frb l id < 0 ↔ Mza l id = none := by
 unfold Frb
 cases Mza l id with
 | none => simp
 | some n => simp <;> omega
theorem Pzb (l : List Aga) (i : Nat) (p : Aga) (h : l.drop i = p :: l.drop (i + 1)) (hi : i < l.length) : Frb l p.1 < (i : Int) ↔ p.1 ∈ (l.take i).map (·.1) := by
 have hs : Mza l p.1 = (Mza (l.take i) p.1).or (some i) := by
  conv => lhs; rw [← List.take_append_drop i l, h]
  unfold Mza
  rw [List.findIdx?_append, List.findIdx?_cons, if_pos (by simp)]
  simp only [Option.map_some, Nat.zero_add, List.length_take, Nat.min_eq_left (Nat.le_of_lt hi)]
 unfold Frb
 rw [hs]
 cases ht : Mza (l.take i) p.1 with
 | none =>
  simp only [Option.none_or, Int.lt_irrefl, false_iff]
  unfold Mza at ht
  rw [List.findIdx?_eq_none_iff] at ht
  rw [List.mem_map]
  rintro ⟨x, hx, e⟩
  have := ht x hx
  simp [e] at this
 | some n =>
  simp only [Option.some_or]
  unfold Mza at ht
  rw [List.findIdx?_eq_some_iff_getElem] at ht
  obtain ⟨hn, he, _⟩ := ht
  have hlt : n < i := by simp at hn; omega
  constructor
  ·intro _
   rw [List.mem_map]
   exact ⟨_, List.getElem_mem hn, by simpa using he⟩
  ·intro _; omega
theorem Sca (l : List Aga) (hl : l.length ≤ 1000000) (hw : ∀ p ∈ l, p.2.2.2.1.length ≤ 1000) : ∀ (r : List Aga) (i : Nat) (acc : List Ana), l.drop i = r → i ≤ l.length → acc.length + r.length * 1000 ≤ 1000000000 →
  Kga (acc, l, (l.length : Int), (i : Int), ()) = some (acc ++ Mxb r, l, (l.length : Int), (l.length : Int), ())
 | [], i, acc, h, hi, ha => by
  have := Aia h hi
  subst this
  rw [Sba]
  simp (disch := omega) only [Oka, PP, Mxb, List.flatMap_nil, List.append_nil]
 | p :: r, i, acc, h, hi, ha => by
  obtain ⟨h1, h2, h3, h4⟩ := Afa h
  have hM := Aha
  have hp := hw p h4
  simp only [List.length_cons] at ha
  rw [Sba]
  simp (disch := omega) only [Oka, PP, h2]
  rw [Sca l hl hw r (i + 1) _ h3 (by omega) (by simp; omega)]
  simp [Mxb]
theorem Jjb (l : List Aga) (hl : l.length ≤ 1000000) (hw : ∀ p ∈ l, p.2.2.2.1.length ≤ 1000) : Wxa (l, ()) = some (Mxb l, ()) := by
 have e := Sca l hl hw l 0 [] rfl (by omega) (by simp; omega)
 simp only [Int.natCast_zero, List.nil_append] at e
 rw [Jib]
 simp (disch := omega) only [Dtb, PP, e]
theorem Flb (l : List Aga) (hw : ∀ p ∈ l, p.2.2.2.1.length ≤ 1000) : (Mxb l).length ≤ l.length * 1000 := Usa _ 1000 l hw
theorem Myb {l : List Aga} (hw : ∀ p ∈ l, Bla p) : ∀ c ∈ Mxb l, Coa c := by
 intro c hc
 obtain ⟨p, hp, h⟩ := List.mem_flatMap.1 hc
 exact (hw p hp).l c h
theorem Uea (t : Aka) (l : List Aga) (ht : Fit 100000 10000000 t) (hl : l.length ≤ 100) (hw : ∀ p ∈ l, Bla p) : Mba (t, l, ()) = some ((Fua t l).1, (Fua t l).2, ()) := by
 have hn : ∀ p ∈ l, p.2.2.2.1.length ≤ 1000 := fun p hp => (hw p hp).n
 have e1 := Jjb l (by omega) hn
 have hlen := Flb l hn
 have e2 := Fub t (Mxb l) ht (by omega) (fun c hc => (Myb hw c hc).w')
 rw [Dfb]
 simp only [Yia, e1, e2, Aaa]
 rfl
theorem Ivb {s : Str} (h : Gyb s = true) : s.size ≤ 80 := by
 simp only [Gyb, Bool.and_eq_true, decide_eq_true_eq] at h; exact h.1
structure Nha (t : Aka) : Prop where
 m : Mid t
 s : Vga t
theorem Nha.w {t : Aka} (h : Nha t) : Wee t := ⟨by have := h.m.1; omega, fun f hf => by have := h.m.2 f hf; omega⟩
theorem Nha.n {t : Aka} (h : Nha t) : t.length < 4611686018427387903 := by have := h.m.1; omega
theorem Nha.may {t : Aka} (h : Mua t = true) : Nha t := by
 obtain ⟨h1, h2, h3⟩ := Laa.1 h
 refine ⟨⟨by omega, fun f hf => ?_⟩, fun f hf => ?_⟩
 ·have := (h1 f hf).2
  simp only [Yna, Bool.and_eq_true, decide_eq_true_eq] at this
  omega
 ·obtain ⟨a, b⟩ := h1 f hf
  have a' := Rpa a
  simp only [Yna, Bool.and_eq_true, decide_eq_true_eq, List.all_eq_true] at b
  exact ⟨by omega, fun s hs => by have := Ivb (b.2 s hs); omega, by omega⟩
structure Hla (r : Jga) : Prop where
 l : ∀ p ∈ r.2.1, Bla p
 n : r.2.1.length ≤ 1000
 b : Nha r.2.2.1
 w : Nha r.2.2.2.1
theorem Mva (r : Jga) : ((r.1, r.2.1, r.2.2.1, r.2.2.2.1, r.2.2.2.2.1, ()) : Jga) = r := rfl
theorem Uia (r : Jga) (hr : Hla r) : ∀ (m : List Aga) (i : Nat), r.2.1.drop i = m → i ≤ r.2.1.length →
  (Keb ((r.2.1.take i).map (·.1)) m r.1 r.2.2.2.2.1 = true ∧ Jna (r.1, r.2.1, r.2.2.1, r.2.2.2.1, r.2.2.2.2.1, r.2.1, (r.2.1.length : Int), (i : Int), ()) = some (.inr (r.1, r.2.1, r.2.2.1, r.2.2.2.1, r.2.2.2.2.1, r.2.1, (r.2.1.length : Int), (r.2.1.length : Int), ()))) ∨
  (Keb ((r.2.1.take i).map (·.1)) m r.1 r.2.2.2.2.1 = false ∧ ∃ z, Jna (r.1, r.2.1, r.2.2.1, r.2.2.2.1, r.2.2.2.2.1, r.2.1, (r.2.1.length : Int), (i : Int), ()) = some (.inl z))
 | [], i, h, hi => by
  have := Aia h hi
  have hn := hr.n
  subst this
  rw [Uha]
  simp (disch := omega) only [Eza, PP]
  exact .inl ⟨by rfl, trivial⟩
 | p :: m, i, h, hi => by
  obtain ⟨h1, h2, h3, h4⟩ := Afa h
  have hn := hr.n
  have e1 := Zha p (hr.l p h4)
  have e2 := Ota r.2.1 p.1 (by omega)
  have hlt := Pzb r.2.1 i p (by rw [h, h3]) h1
  have ih := Uia r hr m (i + 1) h3 (by omega)
  have ht : (r.2.1.take (i + 1)).map (·.1) = (r.2.1.take i).map (·.1) ++ [p.1] := by
   have hg : r.2.1[i]? = some p := by
    have := congrArg (·[0]?) h
    simpa using this
   rw [List.take_add_one, hg]; simp
  rw [ht] at ih
  rw [Uha, Keb]
  cases hm : Kjb p with
  | false =>
   rw [hm] at e1
   simp (disch := omega) only [Eza, PP, h2, Aoa, Bpa, e1]
   exact .inr ⟨rfl, _, rfl⟩
  | true =>
   rw [hm] at e1
   by_cases hf : Frb r.2.1 p.1 < (i : Int)
   ·simp (disch := omega) only [Eza, PP, h2, Aoa, Bpa, e1, e2]
    have : p.1 ∈ (r.2.1.take i).map (·.1) := hlt.1 hf
    exact .inr ⟨by simp only [this, not_true_eq_false, decide_false, Bool.and_false, Bool.false_and], _, rfl⟩
   ·have hno : p.1 ∉ (r.2.1.take i).map (·.1) := fun k => hf (hlt.2 k)
    by_cases hw : p.1.1 = r.1
    ·by_cases hmd : r.2.2.2.2.1 < p.1.2.1
     ·simp (disch := first | omega | exact hw) only [Eza, PP, h2, Aoa, Bpa, e1, e2, Eaa]
      exact .inr ⟨by simp [hw, hmd], _, rfl⟩
     ·simp (disch := first | omega | exact hw) only [Eza, PP, h2, Aoa, Bpa, e1, e2, Eaa]
      simp only [hno, hmd, not_false_eq_true, decide_true, decide_false, Bool.and_false, Bool.not_false, Bool.true_and]
      exact ih
    ·simp (disch := first | omega | exact hw) only [Eza, PP, h2, Aoa, Bpa, e1, e2, Eaa]
     simp only [hno, hw, not_false_eq_true, decide_true, decide_false, Bool.false_and, Bool.not_false, Bool.true_and]
     exact ih
theorem Hka (r : Jga) (hr : Hla r) : Aja (r, ()) = some (Roa r, ()) := by
 have hn := hr.n
 rw [Lkb]
 unfold Hhb Roa
 by_cases h0 : 0 ≤ r.1
 ·by_cases h1 : r.1 < 8
  ·by_cases h2 : r.2.1.length ≤ 60
   ·by_cases h3 : 0 ≤ r.2.2.2.2.1
    ·by_cases h4 : r.2.2.2.2.1 ≤ 1048576
     ·have hA := Uea [] r.2.1 ⟨by simp, by simp⟩ (by omega) hr.l
      have hB := Eda r.2.2.1 hr.b.s hr.b.n
      have hW := Eda r.2.2.2.1 hr.w.s hr.w.n
      rcases Uia r hr r.2.1 0 rfl (by omega) with ⟨a, b⟩ | ⟨a, z, b⟩
      ·simp only [Int.natCast_zero, List.take_zero, List.map_nil] at a b
       simp (disch := omega) only [Ada, Aea, b, Aaa, Eua, hA, a, h0, h1, h2, h3, h4, decide_true, Bool.true_and, Eaa]
       by_cases h5 : (Fua [] r.2.1).2 = 0
       ·have eS : Sma ((Fua [] r.2.1).1, r.2.2.1, ()) = some (decide ((Fua [] r.2.1).1 = r.2.2.1), ()) := by
         have ht : Wee (Fua [] r.2.1).1 := by
          have hal := Flb r.2.1 (fun p hp => (hr.l p hp).n)
          have fit : ∀ (l : List Ana) (t : Aka) (n m : Nat), Fit n m t → Fit (n + l.length) (m + l.length * 200) (Dva t l).1 := by
           intro l
           induction l with
           | nil => intro t n m h; exact h.mono (by simp) (by simp)
           | cons p l ih =>
            intro t n m h
            unfold Dva
            split
            ·rename_i h0
             exact (ih _ _ _ (Xqa h h0)).mono (by simp; omega) (by simp; omega)
            ·exact ⟨by simp, by simp⟩
          have := fit (Mxb r.2.1) [] 0 0 ⟨by simp, by simp⟩
          exact this.wee (by omega) (by omega)
         exact Kcb _ _ ht
        simp only [h5, decide_true, Aba, eS, Aaa, Bool.true_and]
        by_cases h6 : (Fua [] r.2.1).1 = r.2.2.1
        ·simp only [h6, decide_true, Aba, hB, Aaa, Bool.true_and]
         cases h7 : Mua r.2.2.1 with
         | false => simp only [Aca, Bool.false_and]
         | true => simp only [Aba, hW, Aaa, Bool.true_and]
        ·simp only [h6, decide_false, Aca, Bool.false_and]
       ·simp only [h5, decide_false, Aca, Bool.false_and]
      ·simp only [Int.natCast_zero, List.take_zero, List.map_nil] at a b
       simp (disch := omega) only [Ada, Aea, b, Aaa, Fsa, a, Bool.and_false, Bool.false_and]
     ·simp (disch := omega) only [Ada, Aea, h4, decide_false, Bool.and_false, Bool.false_and]
    ·simp (disch := omega) only [Ada, Aea, h3, decide_false, Bool.and_false, Bool.false_and]
   ·simp (disch := omega) only [Ada, Aea, h2, decide_false, Bool.and_false, Bool.false_and]
  ·simp (disch := omega) only [Ada, Aea, h1, decide_false, Bool.and_false, Bool.false_and]
 ·simp (disch := omega) only [Ada, Aea, h0, decide_false, Bool.and_false, Bool.false_and]
theorem Odb {t : Aka} (h : Mua t = true) : Tpa t ByteArray.empty = t := by
 have hn : Ara t ByteArray.empty = none := Gka fun f hf e => by
  have := ((Laa.1 h).1 f hf).1
  rw [e] at this
  simp [Eva] at this
 have : ¬ at_ t ByteArray.empty < t.length := by
  rw [Bdb, hn]; simp
 unfold Tpa
 exact List.eraseIdx_of_length_le (by omega)
theorem Cxa {t : Aka} (h : Mua t = true) : Cza (t, ()) = some (t, ()) := by
 have e := Vca t ByteArray.empty (Nha.may h).w
 rw [Odb h] at e
 rw [Llb]
 simp only [Hib, e, Aaa]
theorem Zka (r : Jga) (hr : Hla r) : Oha (r, ()) = some (Dna r, ()) := by
 have e1 := Hka r hr
 have e2 := Nhb r.2.2.1 r.2.2.2.1 hr.b.m hr.w.m hr.b.s hr.w.s
 rw [Jqb]
 unfold Dxb Dna
 simp only [Mva, e1, Aaa, Ama]
 cases h : Roa r with
 | false => simp only [Aca, Bool.false_eq_true, if_false]
 | true =>
  have hm := (Efa r).1 h
  rw [hm.b, hm.k] at e2
  simp only [Bool.and_self, if_true] at e2
  simp only [Aba, e2, Aaa, if_true]
theorem Zja (r : Jga) (t : Aka) (hr : Hla r) (ht : Nha t) : Sha (r, t, ()) = some ((Kqb r t).1, (Kqb r t).2, ()) := by
 have e1 := Hka r hr
 have e2 := Eda t ht.s ht.n
 have e3 := Kva [] (by simp) r.2.1 [] (by have := hr.n; simp; omega) (by simpa using hr.l) (.inl rfl) (by simp)
 rw [List.append_nil] at e3
 rw [Jnb]
 unfold Dvb Kqb
 simp only [Mva, e1, Aaa, Ama]
 cases h : Roa r with
 | false => simp only [Aca, Bool.false_eq_true, false_and, if_false]
 | true =>
  cases h2 : Mua t with
  | false => simp only [Aca, Aba, e2, h2, Aaa, Bool.false_eq_true, and_false, if_false]
  | true =>
   have hm := (Efa r).1 h
   simp only [Aba, e2, h2, e3, Aaa, Cxa hm.b, Cxa hm.k, Cxa h2, Ala, and_self, if_true]
   rfl
theorem Djb (r : Jga) (hr : Hla r) : Oya (r, ()) = some ((Oza r).1, (Oza r).2, ()) := by
 have e := Zja r r.2.2.1 hr hr.b
 have h : Kqb r r.2.2.1 = Oza r := by
  unfold Kqb Oza
  by_cases h : Roa r = true
  ·rw [if_pos ⟨h, ((Efa r).1 h).b⟩, if_pos h]
  ·rw [if_neg (fun k => h k.1), if_neg h]
 rw [h] at e
 rw [Dib]
 simp only [Yka, Mva, e, Aaa]
def Bub (h : Jwa) : Bool := (decide (h.2.1.length ≤ 300) && Pza h.2.1) && (decide (h.2.2.1.length ≤ 300) && Pza h.2.2.1)
def Xva (p : Ana) : Bool := Bub p.2.2.2.1 && (decide (p.2.1.size ≤ 100) && decide (p.2.2.1.size ≤ 100))
def Pqb (l : List Ana) : Bool := l.all fun p => Xva p && decide (p.2.2.2.1.1 ≤ 524288)
def Xua (p : Aga) : Bool := (decide (p.2.2.2.1.length ≤ 10) && Pqb p.2.2.2.1) && (decide (p.2.1.length ≤ 100) && decide (p.2.2.1.size ≤ 200))
def Ppb (l : List Aga) : Bool := l.all Xua
structure Knb (p : Aga) : Prop where
 n : p.2.2.2.1.length < 4611686018427387903
 l : ∀ c ∈ p.2.2.2.1, Kmb c
 d : p.2.1.length < 4611686018427387903
structure Sdb (r : Jga) : Prop where
 n : r.2.1.length < 4611686018427387903
 l : ∀ p ∈ r.2.1, Knb p
 b : Vga r.2.2.1
 bn : r.2.2.1.length < 4611686018427387903
 w : Vga r.2.2.2.1
 wn : r.2.2.2.1.length < 4611686018427387903
theorem Cvb (h : Jwa) (h1 : h.2.1.length < 4611686018427387903) (h2 : h.2.2.1.length < 4611686018427387903) : Lua (h, ()) = some (Bub h, ()) := by
 rw [Cub]
 have e1 := Gqa h.2.1 h1
 have e2 := Gqa h.2.2.1 h2
 simp only [Yea, e1, e2, Aaa, Bub]
 cases (decide (h.2.1.length ≤ 300) && Pza h.2.1) <;> rfl
theorem Fob (a b : Nat) : decide ((a : Int) ≤ (b : Int)) = decide (a ≤ b) := by rw [decide_eq_decide]; omega
theorem Cyb (p : Ana) (h : Kmb p) : Lwa (p, ()) = some (Xva p, ()) := by
 rw [Cxb]
 have e1 := Cvb p.2.2.2.1 h.1 h.2
 have e2 : decide ((p.2.2.1.size : Int) ≤ 100) = decide (p.2.2.1.size ≤ 100) := Fob p.2.2.1.size 100
 have e3 : decide ((p.2.1.size : Int) ≤ 100) = decide (p.2.1.size ≤ 100) := Fob p.2.1.size 100
 unfold Yfa Xva
 simp only [Opa, e1, e2, e3, Aaa]
 cases Bub p.2.2.2.1 with
 | false => simp only [Aca, Bool.false_and]
 | true =>
  by_cases hn : p.2.1.size ≤ 100
  ·simp only [Aba, hn, decide_true, Bool.true_and]
  ·simp only [Aba, Aca, hn, decide_false, Bool.true_and, Bool.false_and]
theorem Rja (l : List Ana) (hs : ∀ p ∈ l, Kmb p) (hb : l.length < 4611686018427387903) : ∀ (r : List Ana) (i : Nat), l.drop i = r → i ≤ l.length →
  ∃ y, Kea (l, (i : Int), ()) = some y ∧ (match y with
   | .inl _ => Pqb r = false
   | .inr _ => Pqb r = true)
 | [], i, h, hi => by
  have := Aia h hi
  subst this
  rw [Ria]
  simp (disch := omega) only [Iba, PP]
  exact ⟨_, rfl, rfl⟩
 | f :: r, i, h, hi => by
  obtain ⟨h1, h2, h3, h4⟩ := Afa h
  have e1 := Cyb f (hs f h4)
  rw [Ria]
  cases hl : Xva f with
  | false =>
   rw [hl] at e1
   simp (disch := omega) only [Iba, PP, h2, Cka, e1]
   exact ⟨_, rfl, by simp [Pqb, hl]⟩
  | true =>
   rw [hl] at e1
   by_cases hc : f.2.2.2.1.1 ≤ 524288
   ·simp (disch := omega) only [Iba, PP, h2, Cka, e1]
    obtain ⟨y, e, p⟩ := Rja l hs hb r (i + 1) h3 (by omega)
    refine ⟨y, e, ?_⟩
    cases y with
    | inl z => simp only [Pqb, List.all_cons, hl, hc, decide_true, Bool.true_and] at p ⊢; exact p
    | inr z => simp only [Pqb, List.all_cons, hl, hc, decide_true, Bool.true_and] at p ⊢; exact p
   ·simp (disch := omega) only [Iba, PP, h2, Cka, e1]
    exact ⟨_, rfl, by simp [Pqb, hc]⟩
theorem Iqb (l : List Ana) (hs : ∀ p ∈ l, Kmb p) (hb : l.length < 4611686018427387903) : Rha (l, 10, ()) = some (decide (l.length ≤ 10) && Pqb l, ()) := by
 rw [Ipb]
 by_cases h : l.length ≤ 10
 ·obtain ⟨y, e, p⟩ := Rja l hs hb l 0 rfl (by omega)
  simp only [Int.natCast_zero] at e
  cases y with
  | inl z => simp only at p; simp (disch := omega) only [Sna, PP, e, p, Bool.and_false]
  | inr z => simp only at p; simp (disch := omega) only [Sna, PP, e, p, h, decide_true, Bool.true_and]
 ·simp (disch := omega) only [Sna, PP, h, decide_false, Bool.false_and]
theorem Dab (p : Aga) (h : Knb p) : Lxa (p, 10, ()) = some (Xua p, ()) := by
 rw [Czb]
 have e1 := Iqb p.2.2.2.1 h.l h.n
 have e2 : decide ((p.2.2.1.size : Int) ≤ 200) = decide (p.2.2.1.size ≤ 200) := Fob p.2.2.1.size 200
 have e3 : decide ((p.2.1.length : Int) ≤ 100) = decide (p.2.1.length ≤ 100) := Fob p.2.1.length 100
 unfold Yga Xua
 simp only [e1, e2, e3, Aaa]
 cases (decide (p.2.2.2.1.length ≤ 10) && Pqb p.2.2.2.1) with
 | false => simp only [Aca, Bool.false_and]
 | true =>
  by_cases hn : p.2.1.length ≤ 100
  ·simp only [Aba, hn, decide_true, Bool.true_and]
  ·simp only [Aba, Aca, hn, decide_false, Bool.true_and, Bool.false_and]
theorem Rla (l : List Aga) (hs : ∀ p ∈ l, Knb p) (hb : l.length < 4611686018427387903) : ∀ (r : List Aga) (i : Nat), l.drop i = r → i ≤ l.length →
  ∃ y, Kfa (l, (i : Int), ()) = some y ∧ (match y with
   | .inl _ => Ppb r = false
   | .inr _ => Ppb r = true)
 | [], i, h, hi => by
  have := Aia h hi
  subst this
  rw [Rka]
  simp (disch := omega) only [Kya, PP]
  exact ⟨_, rfl, rfl⟩
 | f :: r, i, h, hi => by
  obtain ⟨h1, h2, h3, h4⟩ := Afa h
  have e1 := Dab f (hs f h4)
  rw [Rka]
  cases hl : Xua f with
  | false =>
   rw [hl] at e1
   simp (disch := omega) only [Kya, PP, h2, Aoa, Bpa, e1]
   exact ⟨_, rfl, by simp [Ppb, hl]⟩
  | true =>
   rw [hl] at e1
   simp (disch := omega) only [Kya, PP, h2, Aoa, Bpa, e1]
   obtain ⟨y, e, p⟩ := Rla l hs hb r (i + 1) h3 (by omega)
   refine ⟨y, e, ?_⟩
   cases y with
   | inl z => simp only [Ppb, List.all_cons, hl, Bool.true_and] at p ⊢; exact p
   | inr z => simp only [Ppb, List.all_cons, hl, Bool.true_and] at p ⊢; exact p
theorem Isb (l : List Aga) (n : Nat) (hn : n ≤ 1000) (hs : ∀ p ∈ l, Knb p) (hb : l.length < 4611686018427387903) : Nsa (l, (n : Int), ()) = some (decide (l.length ≤ n) && Ppb l, ()) := by
 rw [Irb]
 by_cases h : l.length ≤ n
 ·obtain ⟨y, e, p⟩ := Rla l hs hb l 0 rfl (by omega)
  simp only [Int.natCast_zero] at e
  cases y with
  | inl z => simp only at p; simp (disch := omega) only [Soa, PP, e, p, Bool.and_false]
  | inr z => simp only at p; simp (disch := omega) only [Soa, PP, e, p, h, decide_true, Bool.true_and]
 ·simp (disch := omega) only [Soa, PP, h, decide_false, Bool.false_and]
theorem Otb {p : Ana} (h : Xva p = true) : Coa p := by
 simp only [Xva, Bub, Bool.and_eq_true, decide_eq_true_eq] at h
 exact ⟨h.2.1, h.2.2, h.1.1.1, h.1.2.1⟩
theorem Osb {p : Aga} (h : Xua p = true) : Bla p ∧ p.2.2.2.1.length ≤ 10 := by
 simp only [Xua, Pqb, Bool.and_eq_true, decide_eq_true_eq, List.all_eq_true] at h
 exact ⟨⟨fun c hc => Otb (h.1.2 c hc).1, by omega, by omega, by omega⟩, h.1.1⟩
def Uza (t : Aka) : Bool := t.all fun f => decide (f.2.1.length ≤ 40)
theorem Nua (t : Aka) (hb : t.length < 4611686018427387903) : ∀ (r : Aka) (i : Nat), t.drop i = r → i ≤ t.length →
  ∃ y, Gsa (t, (i : Int), ()) = some y ∧ (match y with
   | .inl _ => Uza r = false
   | .inr _ => Uza r = true)
 | [], i, h, hi => by
  have := Aia h hi
  subst this
  rw [Nta]
  simp (disch := omega) only [Ica, PP]
  exact ⟨_, rfl, rfl⟩
 | f :: r, i, h, hi => by
  obtain ⟨h1, h2, h3, h4⟩ := Afa h
  rw [Nta]
  by_cases hc : f.2.1.length ≤ 40
  ·simp (disch := omega) only [Ica, PP, h2]
   obtain ⟨y, e, p⟩ := Nua t hb r (i + 1) h3 (by omega)
   refine ⟨y, e, ?_⟩
   cases y with
   | inl z => simp only [Uza, List.all_cons, hc, decide_true, Bool.true_and] at p ⊢; exact p
   | inr z => simp only [Uza, List.all_cons, hc, decide_true, Bool.true_and] at p ⊢; exact p
  ·simp (disch := omega) only [Ica, PP, h2]
   exact ⟨_, rfl, by simp [Uza, hc]⟩
def Mca (t : Aka) : Bool := (decide (t.length ≤ 40) && Rna t) && (decide (t.length ≤ 6) && Uza t)
theorem Naa (t : Aka) (hs : Vga t) (hb : t.length < 4611686018427387903) : Jja (t, ()) = some (Mca t, ()) := by
 rw [Deb]
 cases hl : (decide (t.length ≤ 40) && Rna t) with
 | false => simp (disch := first | omega | assumption) only [Jxa, PP, Jta, hl, Bool.not_false, Mca, Bool.false_and]
 | true =>
  by_cases h6 : t.length ≤ 6
  ·obtain ⟨y, e, p⟩ := Nua t hb t 0 rfl (by omega)
   simp only [Int.natCast_zero] at e
   cases y with
   | inl z => simp only at p; simp (disch := first | omega | assumption) only [Jxa, PP, Jta, hl, Bool.not_true, Mca, e, p, Bool.true_and, Bool.and_false]
   | inr z => simp only at p; simp (disch := first | omega | assumption) only [Jxa, PP, Jta, hl, Bool.not_true, Mca, e, p, h6, decide_true, Bool.true_and]
  ·simp (disch := first | omega | assumption) only [Jxa, PP, Jta, hl, Bool.not_true, Mca, h6, decide_false, Bool.true_and, Bool.false_and]
theorem Cjb {t : Aka} (h : Mca t = true) : Nha t ∧ t.length ≤ 6 ∧ ∀ f ∈ t, f.2.1.length ≤ 40 := by
 simp only [Mca, Uza, Bool.and_eq_true, decide_eq_true_eq, List.all_eq_true] at h
 obtain ⟨h1, h2, h3⟩ := Oub h.1.1 h.1.2
 exact ⟨⟨⟨by omega, fun f hf => by have := h.2.2 f hf; omega⟩, h3⟩, h.2.1, h.2.2⟩
def Btb (r : Jga) : Bool := (decide (r.2.1.length ≤ 10) && Ppb r.2.1) && (Mca r.2.2.1 && Mca r.2.2.2.1)
theorem Dcb (r : Jga) (h : Sdb r) : Lya (r, ()) = some (Btb r, ()) := by
 rw [Dbb]
 have e1 : Nsa (r.2.1, 10, ()) = some (decide (r.2.1.length ≤ 10) && Ppb r.2.1, ()) := Isb r.2.1 10 (by omega) h.l h.n
 have e2 := Naa r.2.2.1 h.b h.bn
 have e3 := Naa r.2.2.2.1 h.w h.wn
 simp only [Yha, e1, e2, e3, Aaa, Btb]
 cases (decide (r.2.1.length ≤ 10) && Ppb r.2.1) <;> cases Mca r.2.2.1 <;> rfl
theorem Orb {r : Jga} (h : Btb r = true) : Hla r ∧ r.2.1.length ≤ 10 := by
 simp only [Btb, Ppb, Bool.and_eq_true, decide_eq_true_eq, List.all_eq_true] at h
 exact ⟨⟨fun p hp => (Osb (h.1.2 p hp)).1, by omega, (Cjb h.2.1).1, (Cjb h.2.2).1⟩, h.1.1⟩
instance : DecidableEq Ana := instDecidableEqProd
instance : DecidableEq Aga := instDecidableEqProd
instance : DecidableEq (List Aga) := inferInstance
instance : DecidableEq (Aka × Aka × Int × Unit) := instDecidableEqProd
instance : DecidableEq (List Aga × Aka × Aka × Int × Unit) := instDecidableEqProd
instance : DecidableEq Jga := instDecidableEqProd
theorem Bla.s {p : Aga} (h : Bla p) : Knb p := ⟨by have := h.n; omega, fun c hc => (h.l c hc).w'.s, by have := h.d; omega⟩
theorem Hla.set {r : Jga} (h : Hla r) {t : Aka} (ht : Nha t) : Hla (Cib r t) := ⟨h.l, h.n, h.b, ht⟩
theorem Hia (r : Jga) (hr : Hla r) : Dla (r.2.1, [], ()) = some (r.2.1, [], ()) := by
 have e3 := Kva [] (by simp) r.2.1 [] (by have := hr.n; simp; omega) (by simpa using hr.l) (.inl rfl) (by simp)
 rwa [List.append_nil] at e3
theorem Nha.fit {t : Aka} (h : Nha t) : Fit 1000 1000 t := ⟨h.m.1, h.m.2⟩
theorem Mqb {a b : Aka} (ha : Nha a) (hb : Nha b) : (Izb a b).length ≤ 10000000 := by
 have := Nfb ha.fit hb.m.1
 omega
theorem Geb {t u : Aka} {s1 s2 : Str} (hm : Mua t = true) (h : Bva t (Iqa s1 s2) = (u, 0)) : Mua u = true ∧ Bwa (Iqa s1 s2) = true ∧ Ara t s1 ≠ none ∧ Ara u s1 = none ∧ Ara u s2 = Ara t s1 ∧ Bva u (Iqa s2 s1) = (t, 0) := by
 obtain ⟨h1, h2⟩ := Bbb h
 have hr := Xxa hm
 obtain ⟨b1, b2, b3⟩ := Pyb h1 hr h2
 have h1' := h1
 rw [Gdb rfl] at h1'
 simp only [Iqa, Bool.and_eq_true, decide_eq_true_eq] at h1'
 obtain ⟨⟨n1, n2⟩, hne, _⟩ := h1'
 have hne : s1 ≠ s2 := of_decide_eq_true hne
 have h2' : (if (Ara t s1).isSome = true ∧ (Ara t s2).isSome = false then some (Mja (Tpa t s1) s2 ((Ara t s1).getD [])) else none) = some u := by
  have := h2
  rw [Pwb rfl] at this
  exact this
 by_cases hc : (Ara t s1).isSome = true ∧ (Ara t s2).isSome = false
 ·rw [if_pos hc] at h2'
  obtain ⟨c1, c2⟩ := hc
  simp only [Option.some.injEq] at h2'
  subst h2'
  have hrd : RT (Tpa t s1) := Eja s1 hr
  obtain ⟨l, hl⟩ := Option.isSome_iff_exists.1 c1
  rw [hl, Option.getD_some]
  have hal : Yna l = true := by
   have := Vka hm s1
   rwa [hl, Option.getD_some] at this
  have hd := Smb s1 hm
  have hn : Ara (Tpa t s1) s2 = none := by
   rw [Iia s1 s2 hr, if_neg (fun e => hne e.symm)]
   cases hg : Ara t s2 with
   | none => rfl
   | some x => rw [hg] at c2; simp at c2
  have hp := Snb s2 l hd n2 hal
  have hlen : (Tpa t s1).length < 30 := by
   have h30 : t.length ≤ 30 := (Laa.1 hm).2.2
   have : at_ t s1 < t.length := (Bdb t s1).2 c1
   unfold Tpa
   rw [List.length_eraseIdx_of_lt this]
   omega
  refine ⟨?_, h1, by simp, ?_, ?_, ?_⟩
  ·rw [hp, decide_eq_true hlen, Bool.or_true]
  ·rw [Cja s2 l s1 hrd, if_neg hne, Iia s1 s1 hr, if_pos rfl]
  ·rw [Cja s2 l s2 hrd, if_pos rfl]
  ·rw [hl, Option.getD_some] at b3
   have : Jqa (Iqa s1 s2) = Iqa s2 s1 := rfl
   rw [this] at b3 b1
   rw [Xra b1, b3]; rfl
 ·rw [if_neg hc] at h2'; cases h2'
theorem Coa.move {s1 s2 : Str} (h1 : s1.size ≤ 100) (h2 : s2.size ≤ 100) : Coa (Iqa s1 s2) := ⟨h1, h2, by simp [Iqa], by simp [Iqa]⟩
theorem Jpb (r : Jga) (s1 s2 : Str) (hr : Hla r) (h1 : s1.size ≤ 100) (h2 : s2.size ≤ 100) : Xda (r, s1, s2, ()) = some ((Zoa r s1 s2).1, (Zoa r s1 s2).2, ()) := by
 have e1 := Hka r hr
 have e2 := Hia r hr
 have e3 := Zka r hr
 have hn := hr.n
 have hM := Aha
 rw [Job]
 unfold Dwb Zoa
 simp only [Mva, e1, Aaa, Ama]
 cases h : Roa r with
 | false => simp only [Aca, if_true]
 | true =>
  have hm := (Efa r).1 h
  have hn60 := hm.n
  have hm1 := hm.m1
  have hm0 := hm.m0
  rw [if_neg (by simp)]
  simp only [Aba, e2, Aaa, Cxa hm.b, Cxa hm.k, Ala, e3]
  have hnl := Mqb hr.b hr.w
  rw [← Nza hm] at hnl
  have hw1 : IntKind.wrap .i64 (r.2.2.2.2.1 + 1) = r.2.2.2.2.1 + 1 := Aqa (by omega) (by omega)
  by_cases hz : Dna r = []
  ·have hz' : ¬ ((Dna r).length : Int) > 0 := by rw [hz]; simp
   by_cases hf : r.2.1.length < 60
   ·by_cases hf2 : r.2.2.2.2.1 < 1048576
    ·have eA := Wza r.2.2.1 (Iqa s1 s2) (hr.b.fit.mono (by omega) (by omega)) (Coa.move h1 h2).w'
     have eA' : Lja (r.2.2.1, (2, s1, s2, (0, [], [], ()), ()), ()) = some ((Bva r.2.2.1 (Iqa s1 s2)).1, (Bva r.2.2.1 (Iqa s1 s2)).2, ()) := eA
     have hfull : ¬ Mia r := by unfold Mia; omega
     rw [if_neg (by simp [hz]), if_neg hfull]
     by_cases h0 : (Bva r.2.2.1 (Iqa s1 s2)).2 = 0
     ·have hne : ((Bva r.2.2.1 (Iqa s1 s2)).2 != 0) = false := by simp [h0]
      obtain ⟨mu, _⟩ := Geb hm.b (u := (Bva r.2.2.1 (Iqa s1 s2)).1) (by rw [← h0])
      rw [if_neg (by simp [h0])]
      simp (disch := first | omega | exact hz') only [Ada, Aea, Aba, Aca, eA', Aaa, hne, Cxa mu, hw1, List.length_append, List.length_cons, List.length_nil]
      rfl
     ·have hne : ((Bva r.2.2.1 (Iqa s1 s2)).2 != 0) = true := by simp [h0]
      rw [if_pos h0]
      simp (disch := first | omega | exact hz') only [Ada, Aea, Aba, Aca, eA', Aaa, hne]
    ·have hfull : Mia r := by unfold Mia; omega
     rw [if_neg (by simp [hz]), if_pos hfull]
     simp (disch := first | omega | exact hz') only [Ada, Aea, Aba, Aca, Aaa]
   ·have hfull : Mia r := by unfold Mia; omega
    rw [if_neg (by simp [hz]), if_pos hfull]
    simp (disch := first | omega | exact hz') only [Ada, Aea, Aba, Aca, Aaa]
  ·have hz' : ((Dna r).length : Int) > 0 := by
    have : (Dna r).length ≠ 0 := fun e => hz (List.eq_nil_of_length_eq_zero e)
    omega
   rw [if_pos hz]
   by_cases hf : r.2.1.length < 60
   ·simp (disch := first | omega | exact hz') only [Ada, Aea, Aba, Aca, Aaa]
   ·simp (disch := first | omega | exact hz') only [Ada, Aea, Aba, Aca, Aaa]
theorem Sqb (r : Jga) (h : Hbb r) (hf : ¬ Mia r) : Ovb (Ora r) = true := by
 unfold Mia at hf
 have h0 := h.w0
 have h1 := h.w1
 have h2 := h.m0
 have h3 := h.m1
 unfold Ovb
 rw [decide_eq_true (show 0 ≤ (Ora r).1 from h0), decide_eq_true (show (Ora r).1 < 8 from h1), decide_eq_true (show 1 ≤ (Ora r).2.1 by show 1 ≤ r.2.2.2.2.1 + 1; omega), decide_eq_true (show (Ora r).2.1 ≤ 1048576 by show r.2.2.2.2.1 + 1 ≤ 1048576; omega)]
 rfl
theorem Pbb {r : Jga} {s1 s2 : Str} (h : (Zoa r s1 s2).2 = 0) : Hbb r ∧ Dna r = [] ∧ ¬ Mia r ∧ (Bva r.2.2.1 (Iqa s1 s2)).2 = 0 ∧ (Zoa r s1 s2).1 = Wfa r (Ora r, [], Bxb, [Iqa s1 s2], ()) (Bva r.2.2.1 (Iqa s1 s2)).1 ∧ Hbb (Zoa r s1 s2).1 := by
 unfold Zoa at h ⊢
 split at h
 ·simp at h
 ·rename_i h1
  split at h
  ·simp at h
  ·rename_i h2
   split at h
   ·simp at h
   ·rename_i h3
    split at h
    ·rename_i h4; exact absurd h h4
    ·rename_i h4
     rw [if_neg h1, if_neg h2, if_neg h3, if_neg h4]
     have hm : Hbb r := (Efa r).1 (by simpa using h1)
     have h4' : (Bva r.2.2.1 (Iqa s1 s2)).2 = 0 := by simpa using h4
     have ha : Bva r.2.2.1 (Iqa s1 s2) = ((Bva r.2.2.1 (Iqa s1 s2)).1, 0) := by rw [← h4']
     obtain ⟨mu, mp, _⟩ := Geb hm.b ha
     refine ⟨hm, by simpa using h2, h3, h4', rfl, Mmb hm h3 rfl ?_ ?_ mu⟩
     ·simp only [Kjb, Sqb r hm h3, List.length_nil, List.all_nil, Zga, List.length_singleton, List.all_cons, mp, Bool.and_true, Bool.and_eq_true, decide_eq_true_eq]
      refine ⟨⟨⟨?_, ?_⟩, ?_⟩, ?_⟩
      all_goals first | trivial | decide | simp [Bxb, Gyb]
     ·simp only [Dva, h4', if_true]
theorem Ewb {r : Jga} {p : Aga} {t : Aka} (h : Hla r) (hm : Hbb r) (hp : Bla p) (ht : Nha t) : Hla (Wfa r p t) := by
 have := hm.n
 refine ⟨fun q hq => ?_, by simp only [Wfa, List.length_append, List.length_singleton]; omega, ht, ht⟩
 simp only [Wfa] at hq
 rcases List.mem_append.1 hq with hq | hq
 ·exact h.l q hq
 ·rw [List.mem_singleton.1 hq]; exact hp
theorem Uga (r : Jga) (hr : Hla r) (text : Str) (news : List Ana) (n : Int) (l : List Id) (hb : l.length < 4611686018427387903) : ∀ (m : List Id) (i : Nat), l.drop i = m → i ≤ l.length →
  ((m.any fun d => (Mza r.2.1 d).isNone) = false ∧ Aua (r.2.1, r.1, r.2.1, r.2.2.1, r.2.2.2.1, r.2.2.2.2.1, r.1, r.2.2.1, r.2.2.2.1, r.2.2.2.2.1, r.1, r.2.2.1, r.2.2.2.1, r.2.2.2.2.1, r.1, n, r.1, n, l, text, news, l, (l.length : Int), (i : Int), ()) =
   some (.inr (r.2.1, r.1, r.2.1, r.2.2.1, r.2.2.2.1, r.2.2.2.2.1, r.1, r.2.2.1, r.2.2.2.1, r.2.2.2.2.1, r.1, r.2.2.1, r.2.2.2.1, r.2.2.2.2.1, r.1, n, r.1, n, l, text, news, l, (l.length : Int), (l.length : Int), ()))) ∨
  ((m.any fun d => (Mza r.2.1 d).isNone) = true ∧ ∃ z, Aua (r.2.1, r.1, r.2.1, r.2.2.1, r.2.2.2.1, r.2.2.2.2.1, r.1, r.2.2.1, r.2.2.2.1, r.2.2.2.2.1, r.1, r.2.2.1, r.2.2.2.1, r.2.2.2.2.1, r.1, n, r.1, n, l, text, news, l, (l.length : Int), (i : Int), ()) =
   some (.inl z) ∧ z.2.2.2.2.2.2.2.2.2.2.2.2.2.2.2.2.2.2.2.2.2.2.1 ≥ 0)
 | [], i, h, hi => by
  have := Aia h hi
  subst this
  rw [Gha]
  simp (disch := omega) only [Cha, PP]
  exact .inl ⟨by rfl, trivial⟩
 | d :: m, i, h, hi => by
  obtain ⟨h1, h2, h3, h4⟩ := Afa h
  have hn := hr.n
  have e1 := Ota r.2.1 d (by omega)
  have ih := Uga r hr text news n l hb m (i + 1) h3 (by omega)
  rw [Gha]
  cases hf : Mza r.2.1 d with
  | none =>
   have hlt := (Vna r.2.1 d).2 hf
   simp (disch := first | omega | exact hlt) only [Cha, PP, h2, Bpa, e1]
   exact .inr ⟨by simp [hf], _, rfl, by simp only; omega⟩
  | some k =>
   have hlt : ¬ Frb r.2.1 d < 0 := fun h => by rw [Vna, hf] at h; cases h
   simp (disch := first | omega | exact hlt) only [Cha, PP, h2, Bpa, e1]
   simpa [hf] using ih
theorem Dhb (r : Jga) (text : Str) (deps : List Id) (hr : Hla r) (ht : text.size ≤ 1000) (hd : deps.length ≤ 1000) : Oxa (r, text, deps, ()) = some ((Kma r text deps).1, (Kma r text deps).2, ()) := by
 have e1 := Hka r hr
 have e2 := Hia r hr
 have e3 := Zka r hr
 have hn := hr.n
 have hM := Aha
 rw [Dgb]
 unfold Yja Kma
 simp only [Mva, e1, Aaa, Ama]
 cases h : Roa r with
 | false => simp only [Aca, if_true]
 | true =>
  have hm := (Efa r).1 h
  have hn60 := hm.n
  have hm1 := hm.m1
  have hm0 := hm.m0
  rw [if_neg (by simp)]
  simp only [Aba, e2, Aaa, Cxa hm.b, Cxa hm.k, Ala, Sjb, e3]
  have hnl := Mqb hr.b hr.w
  rw [← Nza hm] at hnl
  have hw1 : IntKind.wrap .i64 (r.2.2.2.2.1 + 1) = r.2.2.2.2.1 + 1 := Aqa (by omega) (by omega)
  by_cases hz : Dna r = []
  ·have hz' : ((((Dna r).length : Nat) : Int) == 0) = true := by simp [hz]
   rw [if_pos hz]
   by_cases hf : r.2.1.length < 60
   ·simp (disch := omega) only [Ada, Aea, Aba, Aca, Aaa, hz']
   ·simp (disch := omega) only [Ada, Aea, Aba, Aca, Aaa, hz']
  ·have hz0 : (Dna r).length ≠ 0 := fun e => hz (List.eq_nil_of_length_eq_zero e)
   have hz' : ((((Dna r).length : Nat) : Int) == 0) = false := by simp [hz]
   rw [if_neg hz]
   by_cases hf : r.2.1.length < 60
   ·by_cases hf2 : r.2.2.2.2.1 < 1048576
    ·have hfull : ¬ Mia r := by unfold Mia; omega
     by_cases h200 : 200 < (Dna r).length
     ·rw [if_pos (.inr h200)]
      simp (disch := omega) only [Ada, Aea, Aba, Aca, Aaa, hz']
     ·rw [if_neg (fun k => k.elim hfull h200)]
      have hlp : Bla (Ora r, deps, text, Dna r, ()) := by
       refine ⟨fun c hc => ?_, by simp only; omega, hd, ht⟩
       simp only at hc
       rw [Nza hm] at hc
       exact Oqa (Mrb hm.b hm.k hc)
      have e4 := Zha _ hlp
      have e4' : Oda (((r.1, r.2.2.2.2.1 + 1, ()), deps, text, Dna r, ()), ()) = some (Kjb (Ora r, deps, text, Dna r, ()), ()) := e4
      cases hp : Kjb (Ora r, deps, text, Dna r, ()) with
      | false =>
       rw [hp] at e4'
       simp (disch := omega) only [Ada, Aea, Aba, Aca, Aaa, hz', hw1, e4', if_true]
      | true =>
       rw [hp] at e4'
       rw [if_neg (by simp)]
       rcases Uga r hr text (Dna r) (r.2.2.2.2.1 + 1) deps (by omega) deps 0 rfl (by omega) with ⟨a, b⟩ | ⟨a, z, b, hz2⟩
       ·simp only [Int.natCast_zero] at b
        rw [if_neg (by rw [a]; simp)]
        simp (disch := first | omega | (simp only [List.length_append, List.length_cons, List.length_nil]; omega)) only [Ala, Ada, Aea, Aba, Aca, Aaa, hz', hw1, e4', b, Eua, Cxa hm.k]
        rfl
       ·simp only [Int.natCast_zero] at b
        rw [if_pos a]
        simp (disch := first | omega | exact hz2) only [Ala, Ada, Aea, Aba, Aca, Aaa, hz', hw1, e4', b, Fsa]
    ·have hfull : Mia r := by unfold Mia; omega
     rw [if_pos (.inl hfull)]
     simp (disch := omega) only [Ada, Aea, Aba, Aca, Aaa, hz']
   ·have hfull : Mia r := by unfold Mia; omega
    rw [if_pos (.inl hfull)]
    simp (disch := omega) only [Ada, Aea, Aba, Aca, Aaa, hz']
theorem Pab (r : Jga) (s1 s2 : Str) (h : (Zoa r s1 s2).2 ≠ 0) : (Zoa r s1 s2).1 = noR := by
 unfold Zoa at h ⊢
 split
 ·rfl
 ·split
  ·rfl
  ·split
   ·rfl
   ·split
    ·rfl
    ·simp_all
theorem Lgb (r : Jga) (t : Str) (d : List Id) (h : (Kma r t d).2 ≠ 0) : (Kma r t d).1 = noR := by
 unfold Kma at h ⊢
 split
 ·rfl
 ·split
  ·rfl
  ·split
   ·rfl
   ·split
    ·rfl
    ·split
     ·rfl
     ·simp_all
def Uoa (t : Aka) : Prop := ∀ f ∈ t, Eva f.1 = true ∧ ∀ x ∈ f.2.1, Gyb x = true
theorem Uoa.put {t : Aka} {s : Str} {l : List Str} (h : Uoa t) (hs : Eva s = true) (hl : ∀ x ∈ l, Gyb x = true) : Uoa (Mja t s l) := by
 intro f hf
 rcases Gpb hf with rfl | hf
 ·exact ⟨hs, hl⟩
 ·exact h f hf
theorem Uoa.del {t : Aka} {s : Str} (h : Uoa t) : Uoa (Tpa t s) := fun f hf => h f (Kpb hf)
theorem Uoa.get {t : Aka} (h : Uoa t) (s : Str) : ∀ x ∈ (Ara t s).getD [], Gyb x = true := by
 intro x hx
 cases hg : Ara t s with
 | none => rw [hg] at hx; simp at hx
 | some l =>
  rw [hg, Option.getD_some] at hx
  exact (h _ (Fxb hg)).2 x hx
theorem Psb {l : List Str} (h : Yna l = true) : ∀ x ∈ l, Gyb x = true := by
 simp only [Yna, Bool.and_eq_true, List.all_eq_true] at h
 exact h.2
theorem Mnb {h : Jwa} (hm : Nxa h = true) : ∀ x ∈ h.2.2.1, Gyb x = true := by
 simp only [Nxa, Bool.and_eq_true] at hm
 exact Psb hm.2.2
theorem Neb {p : Ana} (h : Bwa p = true) : Eva p.2.1 = true ∧ (p.1 = 2 → Eva p.2.2.1 = true) := by
 unfold Bwa at h
 split at h
 ·simp only [Bool.and_eq_true, Caa] at h
  exact ⟨h.1.1, fun e => by omega⟩
 ·split at h
  ·simp only [Bool.and_eq_true] at h
   exact ⟨h.1.1, fun _ => h.1.2⟩
  ·split at h
   ·simp only [Bool.and_eq_true, Caa] at h
    exact ⟨h.1.1, fun e => by omega⟩
   ·split at h
    ·simp only [Bool.and_eq_true, Caa] at h
     exact ⟨h.1.1.1, fun e => by omega⟩
    ·cases h
theorem Uoa.doP {t u : Aka} {p : Ana} (h : Uoa t) (hm : Bwa p = true) (hd : doP t p = some u) : Uoa u := by
 obtain ⟨n1, n2⟩ := Neb hm
 unfold LI.doP at hd
 split at hd
 ·split at hd
  ·cases hd
  ·cases hd; exact h.put n1 (by simp)
 ·split at hd
  ·split at hd
   ·cases hd; exact h.del
   ·cases hd
  ·split at hd
   ·split at hd
    ·rename_i h2 _
     cases hd; exact h.del.put (n2 h2) (h.get p.2.1)
    ·cases hd
   ·split at hd
    ·rename_i h3
     have hh := Lfa hm (.inl h3)
     split at hd
     ·cases hd
      refine h.put n1 ?_
      intro x hx
      simp only [Hza, List.mem_append] at hx
      rcases hx with hx | hx | hx
      ·exact h.get p.2.1 x (List.mem_of_mem_take hx)
      ·exact Mnb hh x hx
      ·exact h.get p.2.1 x (List.mem_of_mem_drop hx)
     ·cases hd
    ·rename_i h0 h1 h2 h3
     have hk := Sxa hm
     have hh := Lfa hm (.inr (by omega))
     split at hd
     ·cases hd; exact h.put n1 (Mnb hh)
     ·cases hd
theorem Etb : ∀ (l : List Ana) {t : Aka}, Uoa t → Uoa (Dva t l).1
 | [], t, h => h
 | p :: l, t, h => by
  unfold Dva
  split
  ·rename_i h0
   obtain ⟨h1, h2⟩ := Bbb (t := t) (p := p) (u := (Bva t p).1) (by rw [← h0])
   exact Etb l (h.doP h1 h2)
  ·intro f hf; simp at hf
theorem Iib : ∀ (l : List Ana) {t : Aka} {n m : Nat}, Fit n m t → Fit (n + l.length) (m + l.length * 200) (Dva t l).1
 | [], t, n, m, h => h.mono (by simp) (by simp)
 | p :: l, t, n, m, h => by
  unfold Dva
  split
  ·rename_i h0
   exact (Iib l (Xqa h h0)).mono (by simp; omega) (by simp; omega)
  ·exact ⟨by simp, by simp⟩
theorem Uoa.slim {t : Aka} {n m : Nat} (h : Uoa t) (hf : Fit n m t) (hm : m < 4611686018427387903) : Vga t := by
 intro f hff
 obtain ⟨a, b⟩ := h f hff
 have a' := Rpa a
 have := hf.2 f hff
 exact ⟨by omega, fun s hs => by have := Ivb (b s hs); omega, by omega⟩
theorem Zqa (r : Jga) (id : Id) (hr : Hla r) : Lba (r, id, ()) = some ((Qea r id).1, (Qea r id).2, ()) := by
 have e1 := Hka r hr
 have e2 := Hia r hr
 have hn := hr.n
 have e3 := Crb [id] (by simp) r.2.1 (by omega) hr.l
 have e4 := Ota r.2.1 id (by omega)
 rw [Zpa]
 unfold Tma Qea
 simp only [Mva, Bpa, e1, Aaa, Ama]
 cases h : Roa r with
 | false => simp only [Aca, if_true]
 | true =>
  have hm := (Efa r).1 h
  rw [if_neg (by simp)]
  simp only [Aba, e4, Aaa]
  by_cases hf : Mza r.2.1 id = none
  ·have hlt := (Vna r.2.1 id).2 hf
   rw [if_pos hf]
   simp (disch := exact hlt) only [Ada]
  ·have hlt : ¬ Frb r.2.1 id < 0 := fun k => hf ((Vna r.2.1 id).1 k)
   rw [if_neg hf]
   have hst : ∀ q ∈ (Jma [id] r.2.1).1, Bla q := fun q hq => by
    obtain ⟨p, hp, hk⟩ := (Ccb [id] r.2.1).1 q hq
    exact hk.light (hr.l p hp)
   have hsl : (Jma [id] r.2.1).1.length ≤ 60 := by
    have := (Jcb [id] r.2.1).1.length_le
    simp only [List.length_map] at this
    exact Nat.le_trans this hm.n
   have e5 := Uea [] (Jma [id] r.2.1).1 ⟨by simp, by simp⟩ (by omega) hst
   have hal := Flb (Jma [id] r.2.1).1 (fun p hp => (hst p hp).n)
   have hfit := Iib (Mxb (Jma [id] r.2.1).1) (t := []) (n := 0) (m := 0) ⟨by simp, by simp⟩
   have hgood := Etb (Mxb (Jma [id] r.2.1).1) (t := []) (by intro f hf; simp at hf)
   have e6 := Eda (Fua [] (Jma [id] r.2.1).1).1 (hgood.slim hfit (by omega)) (by have := hfit.1; unfold Fua; omega)
   simp (disch := first | omega | exact hlt) only [Aea, e2, Aaa, Cxa hm.b, Cxa hm.k, Ala, Sjb, e3, e5, e6]
   by_cases h1 : 1 < (Jma [id] r.2.1).2.length
   ·rw [if_pos h1]
    simp (disch := omega) only [Ada]
   ·rw [if_neg h1]
    by_cases h0 : (Fua [] (Jma [id] r.2.1).1).2 = 0
    ·have hne : ((Fua [] (Jma [id] r.2.1).1).2 != 0) = false := by simp [h0]
     rw [if_neg (by simp [h0])]
     cases hmt : Mua (Fua [] (Jma [id] r.2.1).1).1 with
     | false => simp (disch := omega) only [Aea, Aca, Ama, hne, if_true]
     | true =>
      rw [if_neg (by simp)]
      simp (disch := omega) only [Aea, Aca, Aba, Ama, hne]
    ·have hne : ((Fua [] (Jma [id] r.2.1).1).2 != 0) = true := by simp [h0]
     rw [if_pos h0]
     simp (disch := omega) only [Aea, Aba, hne]
theorem Kgb (r : Jga) (id : Id) (hr : Hla r) : Hla (Qea r id).1 := by
 by_cases h0 : (Qea r id).2 = 0
 ·have hm := Khb h0
  refine ⟨?_, by have := hm.n; omega, Nha.may hm.b, Nha.may hm.k⟩
  unfold Qea at h0 ⊢
  split at h0
  ·simp at h0
  ·rename_i h1
   split at h0
   ·simp at h0
   ·rename_i h2
    split at h0
    ·simp at h0
    ·rename_i h3
     split at h0
     ·rename_i h4; exact absurd h0 h4
     ·rename_i h4
      split at h0
      ·simp at h0
      ·rename_i h5
       rw [if_neg h1, if_neg h2, if_neg h3, if_neg h4, if_neg h5]
       intro q hq
       obtain ⟨p, hp, hk⟩ := (Ccb [id] r.2.1).1 q hq
       exact hk.light (hr.l p hp)
 ·have : (Qea r id).1 = noR := by
   unfold Qea at h0 ⊢
   split
   ·rfl
   ·split
    ·rfl
    ·split
     ·rfl
     ·split
      ·rfl
      ·split
       ·rfl
       ·simp_all
  rw [this]
  exact ⟨by simp, by simp, ⟨⟨by simp, by simp⟩, by intro f hf; simp at hf⟩, ⟨⟨by simp, by simp⟩, by intro f hf; simp at hf⟩⟩
theorem Bzb : Hla noR := ⟨by simp, by simp, ⟨⟨by simp, by simp⟩, by intro f hf; simp at hf⟩, ⟨⟨by simp, by simp⟩, by intro f hf; simp at hf⟩⟩
def Fjb (x : Jga × Int) : Prop := Hla x.1 ∧ (x.2 = 0 → Hbb x.1)
theorem Fjb.may {x : Jga × Int} (h : Fjb x) : (x.2 != 0) = true ∨ ((x.2 != 0) = false ∧ (x.2 == 0) = true ∧ Aja (x.1, ()) = some (true, ())) := by
 by_cases h0 : x.2 = 0
 ·refine .inr ⟨by simp [h0], by simp [h0], ?_⟩
  rw [Hka x.1 h.1, (Efa _).2 (h.2 h0)]
 ·exact .inl (by simp [h0])
theorem Wda (r : Jga) (t : Aka) (text : Str) (id : Id) (s1 s2 : Str) (hr : Sdb r) (ht : Vga t) (htn : t.length < 4611686018427387903) : Ioa (r, t, text, id, s1, s2, ()) = some (true, ()) := by
 have e1 := Dcb r hr
 have e1' := Naa t ht htn
 rw [Wca]
 unfold Pla
 simp only [Ddb, Aaa, Mva, Bpa, e1, e1', Ama, Aba]
 cases hl : Btb r with
 | false => simp only [Aca]
 | true =>
  cases hs : Mca t with
  | false => simp only [Aca, Aba]
  | true =>
   obtain ⟨lr, hn10⟩ := Orb hl
   have lt := (Cjb hs).1
   by_cases h0 : 200 < text.size
   ·simp (disch := omega) only [Aba, Ada]
   ·by_cases h1 : 100 < s1.size
    ·simp (disch := omega) only [Aba, Ada, Aea]
    ·by_cases h2 : 100 < s2.size
     ·simp (disch := omega) only [Aba, Ada, Aea]
     ·have e2 := Hka r lr
      simp (disch := omega) only [Aba, Aea, e2, Aaa]
      cases hm : Roa r with
      | false => simp only [Aca]
      | true =>
       have mr := (Efa r).1 hm
       have a1 := Zja r t lr lt
       have a2 := Dhb r text [] lr (by omega) (by simp)
       have a3 := Zqa r id lr
       have a4 := Jpb r s1 s2 lr (by omega) (by omega)
       have a5 := Djb r lr
       have b1 : Fjb (Kqb r t) := by
        unfold Kqb
        split
        ·rename_i h; exact ⟨lr.set lt, fun _ => Mvb mr h.2⟩
        ·exact ⟨Bzb, fun h => by simp at h⟩
       have b2 : Fjb (Kma r text []) := by
        by_cases k : (Kma r text []).2 = 0
        ·obtain ⟨_, ms, hs, hf, hmn⟩ := Nkb k
         have hlp : Bla (Ora r, [], text, Dna r, ()) := by
          have h200' : (Dna r).length ≤ 200 := by
           simp only [Kjb, Bool.and_eq_true, decide_eq_true_eq] at hmn
           exact hmn.1.2
          refine ⟨fun c hc => ?_, by simp only; omega, by simp, by simp only; omega⟩
          simp only at hc
          rw [Nza mr] at hc
          exact Oqa (Mrb mr.b mr.k hc)
         exact ⟨by rw [hs]; exact Ewb lr mr hlp lr.w, fun _ => ms⟩
        ·rw [Fjb, Lgb r text [] k]; exact ⟨Bzb, fun h => absurd h k⟩
       have b3 : Fjb (Qea r id) := ⟨Kgb r id lr, Khb⟩
       have b4 : Fjb (Zoa r s1 s2) := by
        by_cases k : (Zoa r s1 s2).2 = 0
        ·obtain ⟨_, _, _, ha0, hs, ms⟩ := Pbb k
         have ha : Bva r.2.2.1 (Iqa s1 s2) = ((Bva r.2.2.1 (Iqa s1 s2)).1, 0) := by rw [← ha0]
         obtain ⟨mu, _⟩ := Geb mr.b ha
         have hlp : Bla (Ora r, [], Bxb, [Iqa s1 s2], ()) := by
          refine ⟨fun c hc => ?_, by simp, by simp, (by decide : Bxb.size ≤ 1000)⟩
          simp only [List.mem_singleton] at hc
          subst hc
          exact Coa.move (by omega) (by omega)
         exact ⟨by rw [hs]; exact Ewb lr mr hlp (Nha.may mu), fun _ => ms⟩
        ·rw [Fjb, Pab r s1 s2 k]; exact ⟨Bzb, fun h => absurd h k⟩
       have hv : Oza r = (Cib r r.2.2.1, 0) := by unfold Oza; rw [if_pos hm]
       have b5 : Fjb (Oza r) := by rw [hv]; exact ⟨lr.set lr.b, fun _ => Mvb mr mr.b⟩
       have c5 : ((Oza r).2 == 0) = true ∧ Aja ((Oza r).1, ()) = some (true, ()) := by
        rcases b5.may with k | ⟨_, k1, k2⟩
        ·rw [hv] at k; simp at k
        ·exact ⟨k1, k2⟩
       obtain ⟨c5, d5⟩ := c5
       simp only [Aba, a1, a2, a3, a4, a5, Aaa, Mva, c5, d5]
       rcases b1.may with c1 | ⟨c1, _, d1⟩ <;> rcases b2.may with c2 | ⟨c2, _, d2⟩ <;> rcases b3.may with c3 | ⟨c3, _, d3⟩ <;> rcases b4.may with c4 | ⟨c4, _, d4⟩ <;>
        simp only [c1, c2, c3, c4, Aba, Aca] <;>
        first
        | rfl
        | (simp only [d1, Aaa, Aba]; done)
        | (simp only [d2, Aaa, Aba]; done)
        | (simp only [d3, Aaa, Aba]; done)
        | (simp only [d4, Aaa, Aba]; done)
        | (simp only [d1, d2, Aaa, Aba]; done)
        | (simp only [d1, d3, Aaa, Aba]; done)
        | (simp only [d1, d4, Aaa, Aba]; done)
        | (simp only [d2, d3, Aaa, Aba]; done)
        | (simp only [d2, d4, Aaa, Aba]; done)
        | (simp only [d3, d4, Aaa, Aba]; done)
        | (simp only [d1, d2, d3, Aaa, Aba]; done)
        | (simp only [d1, d2, d4, Aaa, Aba]; done)
        | (simp only [d1, d3, d4, Aaa, Aba]; done)
        | (simp only [d2, d3, d4, Aaa, Aba]; done)
        | (simp only [d1, d2, d3, d4, Aaa, Aba]; done)
theorem Slb {f : FuncId} {ash : List Shp} {F : dens ash Unit → Option (retS (.ty .bool) []).den} (h : nJb Tryz.prog th f ash (.ty .bool) [] F) {x : dens ash Unit} (e : F x = some (true, ())) :
  run Tryz.prog th (.call f (toLs (hEa.encSs [] ash _ x).1)) = some ⟨.normal, .sc (.bool true), default, {}⟩ := h x (true, ()) e
theorem Lhb : Rep Tryz.prog 56 (fun l : List ByteArray => .slice (l.map (eEa .str))) (fun l => (∀ x ∈ l, x.size ≤ reachBytes) ∧ l.length * Tryz.prog.bytesOf 9 ≤ reachBytes) :=
 Rep.slice Tryz.underlying56 (Rep.str Tryz.underlying9)
theorem Swb : Rep Tryz.prog 98 (eEa (.pair .str (.pair (.list .str) .unit))) (fun f : ByteArray × List ByteArray × Unit => f.1.size ≤ reachBytes ∧ ((∀ x ∈ f.2.1, x.size ≤ reachBytes) ∧ f.2.1.length * Tryz.prog.bytesOf 9 ≤ reachBytes) ∧ True) :=
 Rep.struct Tryz.underlying98 (lGa.cons (Rep.str Tryz.underlying9) (lGa.cons Lhb lGa.nil))
theorem Ljb : Rep Tryz.prog 45 (fun t : List (ByteArray × List ByteArray × Unit) => .slice (t.map (eEa (.pair .str (.pair (.list .str) .unit))))) (fun t => (∀ f ∈ t, f.1.size ≤ reachBytes ∧ ((∀ x ∈ f.2.1, x.size ≤ reachBytes) ∧ f.2.1.length * Tryz.prog.bytesOf 9 ≤ reachBytes) ∧ True) ∧ t.length * Tryz.prog.bytesOf 98 ≤ reachBytes) :=
 Rep.slice Tryz.underlying45 Swb
theorem Wwb : Tryz.prog.bytesOf 9 = 16 := by kernel_rfl
theorem Wsb : Tryz.prog.bytesOf 98 = 40 := by kernel_rfl
theorem Xca : reachBytes ≤ 140737488355328 := by
 have := reachBytes_lt
 have h2 : (2 : Nat) ^ 47 = 140737488355328 := rfl
 omega
theorem Pcb {l : List ByteArray} (h : (∀ x ∈ l, x.size ≤ reachBytes) ∧ l.length * Tryz.prog.bytesOf 9 ≤ reachBytes) : Zhb l ∧ l.length < 4611686018427387903 := by
 have hr := Xca
 rw [Wwb] at h
 exact ⟨fun s hs => by have := h.1 s hs; omega, by omega⟩
theorem Ezb {t : Aka} (h : (∀ f ∈ t, f.1.size ≤ reachBytes ∧ ((∀ x ∈ f.2.1, x.size ≤ reachBytes) ∧ f.2.1.length * Tryz.prog.bytesOf 9 ≤ reachBytes) ∧ True) ∧ t.length * Tryz.prog.bytesOf 98 ≤ reachBytes) : Vga t ∧ t.length < 4611686018427387903 := by
 have hr := Xca
 refine ⟨fun f hf => ?_, ?_⟩
 ·obtain ⟨h1, h2, _⟩ := h.1 f hf
  obtain ⟨h3, h4⟩ := Pcb h2
  exact ⟨by omega, h3, h4⟩
 ·have := h.2
  rw [Wsb] at this
  omega
theorem Rep.mono {P : Program} {t : TypeId} {α : Type} {enc : α → LV} {ok ok' : α → Prop} (r : Rep P t enc ok) (h : ∀ a, ok a → ok' a) : Rep P t enc ok' where
 get := fun h1 h2 => by
  obtain ⟨a, e, k⟩ := r.get h1 h2
  exact ⟨a, e, h a k⟩
theorem Fcb : Rep Tryz.prog 3 (eEa (.int .i64)) (fun _ : Int => True) := Rep.mono (Rep.int Tryz.underlying3) fun _ _ => trivial
theorem Oga : Rep Tryz.prog 9 (eEa .str) (fun s : ByteArray => s.size ≤ reachBytes) := Rep.str Tryz.underlying9
theorem Syb : Rep Tryz.prog 31 (eEa (.pair (.int .i64) (.pair (.int .i64) .unit))) (fun _ : Id => True) :=
 Rep.mono (Rep.struct Tryz.underlying31 (lGa.cons Fcb (lGa.cons Fcb lGa.nil))) fun _ _ => trivial
theorem Sxb : Rep Tryz.prog 70 (eEa (.pair (.int .i64) (.pair (.list .str) (.pair (.list .str) .unit)))) (fun h : Jwa => h.2.1.length < 4611686018427387903 ∧ h.2.2.1.length < 4611686018427387903) :=
 Rep.mono (Rep.struct Tryz.underlying70 (lGa.cons Fcb (lGa.cons Lhb (lGa.cons Lhb lGa.nil)))) fun _ h => ⟨(Pcb h.2.1).2, (Pcb h.2.2.1).2⟩
theorem Szb : Rep Tryz.prog 72 (eEa (.pair (.int .i64) (.pair .str (.pair .str (.pair (.pair (.int .i64) (.pair (.list .str) (.pair (.list .str) .unit))) .unit))))) Kmb :=
 Rep.mono (Rep.struct Tryz.underlying72 (lGa.cons Fcb (lGa.cons Oga (lGa.cons Oga (lGa.cons Sxb lGa.nil))))) fun _ h => h.2.2.2.1
theorem Wtb : Tryz.prog.bytesOf 31 = 16 := by kernel_rfl
theorem Wvb : Tryz.prog.bytesOf 72 = 96 := by kernel_rfl
theorem Wub : Tryz.prog.bytesOf 40 = 80 := by kernel_rfl
theorem Xbb : Rep Tryz.prog 37 (eEa (.list (.pair (.int .i64) (.pair (.int .i64) .unit)))) (fun l : List Id => l.length < 4611686018427387903) :=
 Rep.mono (Rep.slice Tryz.underlying37 Syb) fun l h => by
  have hr := Xca
  have := h.2
  rw [Wtb] at this
  omega
theorem Qsb : Rep Tryz.prog 38 (eEa (.list (.pair (.int .i64) (.pair .str (.pair .str (.pair (.pair (.int .i64) (.pair (.list .str) (.pair (.list .str) .unit))) .unit)))))) (fun l : List Ana => (∀ p ∈ l, Kmb p) ∧ l.length < 4611686018427387903) :=
 Rep.mono (Rep.slice Tryz.underlying38 Szb) fun l h => by
  have hr := Xca
  have := h.2
  rw [Wvb] at this
  exact ⟨h.1, by omega⟩
theorem Qrb : Rep Tryz.prog 40 (eEa (.pair (.pair (.int .i64) (.pair (.int .i64) .unit)) (.pair (.list (.pair (.int .i64) (.pair (.int .i64) .unit))) (.pair .str (.pair (.list (.pair (.int .i64) (.pair .str (.pair .str (.pair (.pair (.int .i64) (.pair (.list .str) (.pair (.list .str) .unit))) .unit))))) .unit))))) Knb :=
 Rep.mono (Rep.struct Tryz.underlying40 (lGa.cons Syb (lGa.cons Xbb (lGa.cons Oga (lGa.cons Qsb lGa.nil))))) fun _ h => ⟨h.2.2.2.1.2, h.2.2.2.1.1, h.2.1⟩
theorem Pib : Rep Tryz.prog 22 (eEa (.list (.pair (.pair (.int .i64) (.pair (.int .i64) .unit)) (.pair (.list (.pair (.int .i64) (.pair (.int .i64) .unit))) (.pair .str (.pair (.list (.pair (.int .i64) (.pair .str (.pair .str (.pair (.pair (.int .i64) (.pair (.list .str) (.pair (.list .str) .unit))) .unit))))) .unit)))))) (fun l : List Aga => (∀ p ∈ l, Knb p) ∧ l.length < 4611686018427387903) :=
 Rep.mono (Rep.slice Tryz.underlying22 Qrb) fun l h => by
  have hr := Xca
  have := h.2
  rw [Wub] at this
  exact ⟨h.1, by omega⟩
theorem Tab : Rep Tryz.prog 47 (eEa (.pair (.int .i64) (.pair (.list (.pair (.pair (.int .i64) (.pair (.int .i64) .unit)) (.pair (.list (.pair (.int .i64) (.pair (.int .i64) .unit))) (.pair .str (.pair (.list (.pair (.int .i64) (.pair .str (.pair .str (.pair (.pair (.int .i64) (.pair (.list .str) (.pair (.list .str) .unit))) .unit))))) .unit))))) (.pair (.list (.pair .str (.pair (.list .str) .unit))) (.pair (.list (.pair .str (.pair (.list .str) .unit))) (.pair (.int .i64) .unit)))))) Sdb :=
 Rep.mono (Rep.struct Tryz.underlying47 (lGa.cons Fcb (lGa.cons Pib (lGa.cons Ljb (lGa.cons Ljb (lGa.cons Fcb lGa.nil)))))) fun _ h =>
  ⟨h.2.1.2, h.2.1.1, (Ezb h.2.2.1).1, (Ezb h.2.2.1).2, (Ezb h.2.2.2.1).1, (Ezb h.2.2.2.1).2⟩
end Go.Proofs.YtpeaaophmddhnaaGreat.LI
