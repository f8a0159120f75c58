/-
  Small laws for reading what was carried out: tests, names, numbers, lists. Trees: what the program's functions come to. Lines and names, lists that are the same: what the functions come to. Names and lines that may be: what the functions come to. Trees with a file, and without one: what the functions come to. Trees: the document's Put and Del, the program's Del. The names of the files of two trees: what the functions come to. The document's names of two trees; whether a tree may be; whether it is light. Whether a tree may be, and whether it is light: what the functions come to. Light trees; the example; the two ways to names. The example of the chapter, and the laws of trees. Laws of trees: what is got of a tree with a file and of one without, and that rising trees of the same files are the same. What two lists have in common: what the functions come to. Edits and hunks: what the functions come to. News: what the functions come to. The laws NewsTells and NewsCost hold of what was carried out. Lists of strings, joined, and compared once more. Changes: what the functions come to. Trees that changes change: what the functions come to. What the changes from one tree to another one are like: pairs of equal lines, edits that are apart, changes of which none undoes the one ahead. The changes from one tree to another one change it into that. Changes turned back; the laws NewsTwo and NewsFiles hold of what was carried out. The law NewsGives holds of what was carried out. Patches that pass one another, and repositories: plain definitions. Hunks and changes that pass one another: what the functions come to. Lists of changes, and patches, that pass one another: what the functions come to. Patches that pass one another, and those that stay: what the functions come to. Patches and repositories: what the functions come to. Repositories that are light, and such that are the same: what the functions come to. The law RepoReverts holds of what was carried out. What a repository becomes when it is recorded, a file has another name, and a patch is not recorded any more: what the functions come to. The laws RepoMoves and RepoRecords hold of what was carried out. A patch that is not recorded any more: what the function comes to. The law RepoStays holds of what was carried out. From a law's function to its row: which data its arguments are. Which data patches and repositories are.
-/
import Derived.Test.YtpeaaophmddhnaaGreatVRM0
import Derived.Sort.Walk0
import Derived.Test.YtpeaaophmddhnaaGreatRows
import Derived.Test.YtpeaaophmddhnaaGreatChecked
import Derived.ChangeOld
import Derived.ProofKit
import Derived.ShutString
set_option linter.unusedSimpArgs false
set_option linter.unusedVariables false
set_option maxRecDepth 100000
namespace Go.Proofs.YtpeaaophmddhnaaGreat.LI
open Go
open Go Go.RowKit
open KV (toL)
open KV.toL (toLs)
theorem Aba {α : Type} {p : Prop} [Decidable p] (h : p) (x y : Option α) : jKa (decide p) x y = x := by simp [jKa, h]
theorem Afa {α : Type} {p : Prop} [Decidable p] (h : ¬ p) (x y : Option α) : jKa (decide p) x y = y := by simp [jKa, h]
theorem Aka {α : Type} [h : Decidable True] (x y : Option α) : jKa (@decide True h) x y = x := Aba trivial x y
theorem Ada {α : Type} (x y : Option α) : jKa true x y = x := rfl
theorem Aea {α : Type} (x y : Option α) : jKa false x y = y := rfl
theorem Bsa {α : Type} (b : Bool) (x y : Option α) : jKa (!b) x y = jKa b y x := by cases b <;> rfl
theorem Aaa {α β : Type} (a : α) (f : α → Option β) : lIa (some a) f = f a := rfl
theorem Ida {α β γ : Type} (a : α) (f : α → Option γ) (g : β → Option γ) : bFb (.inl a) f g = f a := rfl
theorem Hla {α β γ : Type} (a : β) (f : α → Option γ) (g : β → Option γ) : bFb (.inr a) f g = g a := rfl
theorem Axa {n : Int} (h : -4611686018427387904 ≤ n) (h' : n < 4611686018427387904) : IntKind.wrap .i64 n = n := by rw [IntKind.wrap_i64]; omega
theorem Hna {i : Nat} (h : i < 4611686018427387903) : IntKind.wrap .i64 ((i : Int) + 1) = ((i + 1 : Nat) : Int) := by rw [IntKind.wrap_i64]; omega
theorem Ieb {i : Nat} (h : 0 < i) (h' : i < 4611686018427387903) : IntKind.wrap .i64 ((i : Int) - 1) = ((i - 1 : Nat) : Int) := by rw [IntKind.wrap_i64]; omega
theorem Aia : bBa = 1099511627776 := rfl
theorem Aca {α : Type} {l : List α} {i : Nat} {a : α} {r : List α} (h : l.drop i = a :: r) : i < l.length ∧ (∀ d, l.getD i d = a) ∧ l.drop (i + 1) = r ∧ a ∈ l := by
  have hi : i < l.length := by
    by_cases hi : i < l.length
    · exact hi
    · rw [List.drop_eq_nil_of_le (by omega)] at h; cases h
  rw [List.drop_eq_getElem_cons hi] at h
  injection h with h1 h2
  refine ⟨hi, fun d => ?_, h2, h1 ▸ List.getElem_mem hi⟩
  rw [List.getD_eq_getElem?_getD, List.getElem?_eq_getElem hi, Option.getD_some, h1]
theorem Aga {α : Type} {l : List α} {i : Nat} (h : l.drop i = []) (hi : i ≤ l.length) : i = l.length := by
  rw [List.drop_eq_nil_iff] at h
  omega
theorem Wsa (a b : ByteArray) : (ByteArray.toList a == ByteArray.toList b) = decide (a = b) := by
  rw [Bool.eq_iff_iff, beq_iff_eq, decide_eq_true_eq]
  constructor
  · intro h
    rw [Lib.toList_data, Lib.toList_data] at h
    exact ByteArray.ext (Array.toList_inj.1 h)
  · rintro rfl; rfl
def ltS (a b : ByteArray) : Prop := a.data.toList < b.data.toList
instance (a b : ByteArray) : Decidable (ltS a b) := inferInstanceAs (Decidable (a.data.toList < b.data.toList))
theorem Ixb (a b : ByteArray) : Op.bytesLess (ByteArray.toList a) (ByteArray.toList b) = decide (ltS a b) := by
  rw [Go.Proofs.bytesLess_eq, Lib.toList_data, Lib.toList_data]; rfl
theorem Hva (a : ByteArray) : ¬ ltS a a := List.lt_irrefl _
theorem Hca {a b c : ByteArray} (h : ltS a b) (k : ltS b c) : ltS a c := List.lt_trans h k
theorem Xda {a b : ByteArray} (h : ltS a b) : ¬ ltS b a := fun k => Hva a (Hca h k)
theorem Lra (a b : ByteArray) : ltS a b ∨ a = b ∨ ltS b a := by
  by_cases h : ltS a b
  · exact .inl h
  · by_cases k : ltS b a
    · exact .inr (.inr k)
    · have h1 := List.not_lt.1 h
      have k1 := List.not_lt.1 k
      have := List.le_antisymm k1 h1
      exact .inr (.inl (ByteArray.ext (Array.toList_inj.1 this)))
theorem Ozb (a b : ByteArray) : (decide (ltS a b) || decide (a = b)) = !decide (ltS b a) := by
  rcases Lra a b with h | h | h
  · have := Xda h; simp [h, this]
  · subst h; simp [Hva]
  · have h1 := Xda h
    have h2 : ¬ a = b := fun e => Hva b (e ▸ h)
    simp [h, h1, h2]
theorem PP : (∀ {α : Type} [h : Decidable True] (x y : Option α), jKa (@decide True h) x y = x) ∧
    (∀ {α : Type} {p : Prop} [Decidable p] (_ : p) (x y : Option α), jKa (decide p) x y = x) ∧
    (∀ {α : Type} {p : Prop} [Decidable p] (_ : ¬ p) (x y : Option α), jKa (decide p) x y = y) ∧
    (∀ {α : Type} (x y : Option α), jKa true x y = x) ∧ (∀ {α : Type} (x y : Option α), jKa false x y = y) ∧
    (∀ {α : Type} (b : Bool) (x y : Option α), jKa (!b) x y = jKa b y x) ∧
    (∀ {α β : Type} (a : α) (f : α → Option β), lIa (some a) f = f a) ∧
    (∀ {α β γ : Type} (a : α) (f : α → Option γ) (g : β → Option γ), bFb (.inl a) f g = f a) ∧
    (∀ {α β γ : Type} (a : β) (f : α → Option γ) (g : β → Option γ), bFb (.inr a) f g = g a) ∧
    (∀ n : Nat, Int.toNat (n : Int) = n) ∧
    (∀ {i : Nat} (_ : i < 4611686018427387903), IntKind.wrap .i64 ((i : Int) + 1) = ((i + 1 : Nat) : Int)) ∧
    (∀ {i : Nat} (_ : 0 < i) (_ : i < 4611686018427387903), IntKind.wrap .i64 ((i : Int) - 1) = ((i - 1 : Nat) : Int)) ∧
    (∀ {α β : Type} (a : α) (f : α → Option β), (some a).bind f = f a) ∧ (∀ {α β : Type} (f : α → Option β), (none : Option α).bind f = none) ∧
    (∀ {α β γ : Type} (f : α → γ) (g : β → γ) (a : α), Sum.elim f g (.inl a) = f a) ∧ (∀ {α β γ : Type} (f : α → γ) (g : β → γ) (a : β), Sum.elim f g (.inr a) = g a) ∧
    (∀ {α : Type} (l m : List α), (l ++ m).length = l.length + m.length) ∧ (∀ {α : Type} (a : α) (l : List α), (a :: l).length = l.length + 1) ∧ (∀ {α : Type}, ([] : List α).length = 0) ∧
    (∀ a b : ByteArray, (ByteArray.toList a == ByteArray.toList b) = decide (a = b)) ∧ (∀ a b : ByteArray, Op.bytesLess (ByteArray.toList a) (ByteArray.toList b) = decide (ltS a b)) ∧
    (∀ a b : ByteArray, (decide (ltS a b) || decide (a = b)) = !decide (ltS b a)) ∧ (∀ b : Bool, (!!b) = b) :=
  ⟨Aka, Aba, Afa, Ada, Aea, Bsa, Aaa, Ida, Hla, Int.toNat_natCast, Hna, Ieb, fun _ _ => rfl, fun _ => rfl, fun _ _ _ => rfl, fun _ _ _ => rfl,
    fun _ _ => List.length_append, fun _ _ => List.length_cons, List.length_nil, Wsa, Ixb, Ozb, Bool.not_not⟩
mutual
theorem Pwa : ∀ (t : Ty) (x : t.den), eqT t x x = true
  | .int _, _ => by simp [eqT]
  | .byte, _ => by simp [eqT]
  | .bool, _ => by simp [eqT]
  | .str, _ => by simp [eqT]
  | .list t, l => by rw [eqT]; exact Fab t l
  | .unit, _ => by simp [eqT]
  | .pair a b, p => by rw [eqT, Pwa a, Pwa b]; rfl
theorem Fab (t : Ty) : ∀ (l : List t.den), eqT.eqL t l l = true
  | [] => by rw [eqT.eqL]
  | x :: xs => by rw [eqT.eqL, Pwa t x, Fab t xs]; rfl
end
abbrev Str := ByteArray
abbrev Yka := ByteArray × List ByteArray × Unit
abbrev Aha := List Yka
def Wee (t : Aha) : Prop := t.length ≤ 1000000000 ∧ ∀ f ∈ t, f.2.1.length ≤ 1000000000
theorem Mna (s : Str) (l : List Str) (h : l.length ≤ 1000000000) : Kxa (s, l, ()) = some ((s, l, ()), ()) := by
  have hM := Aia
  rw [Epb]
  simp (disch := omega) only [Bgb, PP]
theorem Ria (t l0 : Aha) (hw : Wee t) : ∀ (r : Aha) (i : Nat) (l1 : Aha), t.drop i = r → i ≤ t.length → l1.length + r.length ≤ 1000000000 →
    Kia (l0, l1, t, (t.length : Int), (i : Int), ()) = some (l0, l1 ++ r, t, (t.length : Int), (t.length : Int), ())
  | [], i, l1, h, hi, _ => by
    have := Aga h hi
    subst this
    rw [Rha]
    simp (disch := omega) only [Nta, PP, List.append_nil]
  | f :: r, i, l1, h, hi, hl => by
    obtain ⟨h1, h2, h3, h4⟩ := Aca h
    have hb := hw.1
    have hf := hw.2 f h4
    have hM := Aia
    rw [Rha]
    simp only [List.length_cons] at hl
    simp (disch := omega) only [Nta, PP, h2, Mna]
    rw [Ria t l0 hw r (i + 1) _ h3 (by omega) (by simp; omega)]
    simp
theorem Kja (t : Aha) (hw : Wee t) : Tna (t, ()) = some (t, ()) := by
  rw [Eob]
  have := Ria t [] hw t 0 [] rfl (by omega) (by simpa using hw.1)
  simp only [Int.natCast_zero, List.nil_append] at this
  simp (disch := omega) only [Bfb, PP, this]
def at_ (t : Aha) (s : Str) : Nat := t.findIdx fun f => decide (f.1 = s)
theorem Zja (t : Aha) (s : Str) (hb : t.length < 4611686018427387903) : ∀ (r : Aha) (i : Nat), t.drop i = r → i ≤ t.length →
    ∃ y, Ava (s, t, (t.length : Int), (i : Int), ()) = some y ∧ (match y with
      | .inl z => z.2.2.1 = ((i + r.findIdx (fun f => decide (f.1 = s)) : Nat) : Int) ∧ r.findIdx (fun f => decide (f.1 = s)) < r.length
      | .inr _ => r.findIdx (fun f => decide (f.1 = s)) = r.length)
  | [], i, h, hi => by
    have := Aga h hi
    subst this
    rw [Ega]
    simp (disch := omega) only [Bla, PP]
    exact ⟨_, rfl, rfl⟩
  | f :: r, i, h, hi => by
    obtain ⟨h1, h2, h3, h4⟩ := Aca h
    rw [Ega]
    by_cases hf : f.1 = s
    · simp (disch := omega) only [Bla, PP, h2, hf, List.findIdx_cons, decide_true, cond_true, Nat.add_zero]
      exact ⟨_, rfl, rfl, by omega⟩
    · simp (disch := omega) only [Bla, PP, h2, hf, List.findIdx_cons, decide_false, cond_false]
      obtain ⟨y, e, p⟩ := Zja t s hb r (i + 1) h3 (by omega)
      refine ⟨y, e, ?_⟩
      cases y with
      | inl z => simp only at p ⊢; exact ⟨by rw [p.1]; omega, by omega⟩
      | inr z => simp only at p ⊢; omega
theorem Dba (t : Aha) (s : Str) (hb : t.length < 4611686018427387903) : Jma (t, s, ()) = some ((at_ t s : Int), ()) := by
  rw [Ayb]
  obtain ⟨y, e, p⟩ := Zja t s hb t 0 rfl (by omega)
  simp only [Int.natCast_zero] at e
  cases y with
  | inl z =>
    simp only [Nat.zero_add] at p
    simp (disch := omega) only [Rla, e, PP, p.1]
    rfl
  | inr z =>
    simp only at p
    simp only [Rla, e, PP, at_, p]
def Aja (t : Aha) (s : Str) : Option (List Str) := (t.find? fun f => decide (f.1 = s)).map fun f => f.2.1
theorem Wva (t : Aha) (s : Str) : Aja t s = if at_ t s < t.length then some (t.getD (at_ t s) (ByteArray.empty, [], ())).2.1 else none := by
  unfold Aja at_
  induction t with
  | nil => simp
  | cons f t ih =>
    rw [List.find?_cons, List.findIdx_cons]
    by_cases hf : f.1 = s
    · simp [hf]
    · simp only [hf, decide_false, cond_false, List.length_cons, Nat.add_lt_add_iff_right, List.getD_cons_succ]
      exact ih
theorem Bza (t : Aha) (s : Str) (hw : Wee t) : Dpa (t, s, ()) = some ((Aja t s).getD [], (Aja t s).isSome, ()) := by
  have hb := hw.1
  have hM := Aia
  rw [Elb]
  by_cases h : at_ t s < t.length
  · have hm : t.getD (at_ t s) (ByteArray.empty, [], ()) ∈ t := by
      rw [List.getD_eq_getElem?_getD, List.getElem?_eq_getElem h]; exact List.getElem_mem h
    have := hw.2 _ hm
    simp (disch := omega) only [Wba, Dba, PP, Wva, h, if_true, Option.getD_some, Option.isSome_some]
  · simp (disch := omega) only [Wba, Dba, PP, Wva, h, if_false, Option.getD_none, Option.isSome_none]
theorem Fra (m : List Str) : ∀ (r : List Str) (l : List Str) (i : Nat), l.drop i = r → i ≤ l.length → l.length = m.length → l.length < 4611686018427387903 →
    ∃ y, Bja (l, m, (l.length : Int), (i : Int), ()) = some y ∧ (match y with
      | .inl _ => l.drop i ≠ m.drop i
      | .inr _ => l.drop i = m.drop i)
  | [], l, i, h, hi, hl, hb => by
    have := Aga h hi
    subst this
    rw [Fqa]
    simp (disch := omega) only [Bva, PP]
    exact ⟨_, rfl, by simp [hl]⟩
  | a :: r, l, i, h, hi, hl, hb => by
    obtain ⟨h1, h2, h3, h4⟩ := Aca h
    obtain ⟨b, s, hm⟩ : ∃ b s, m.drop i = b :: s := ⟨_, _, List.drop_eq_getElem_cons (by omega)⟩
    obtain ⟨m1, m2, m3, m4⟩ := Aca hm
    rw [Fqa]
    by_cases hab : a = b
    · subst hab
      simp (disch := omega) only [Bva, PP, h2, m2, decide_true, Bool.not_true]
      obtain ⟨y, e, p⟩ := Fra m r l (i + 1) h3 (by omega) hl hb
      refine ⟨y, e, ?_⟩
      rw [h, hm]
      rw [h3, m3] at p
      cases y with
      | inl z => simpa using p
      | inr z => simpa using p
    · simp (disch := first | omega | assumption) only [Bva, PP, h2, m2]
      refine ⟨_, rfl, ?_⟩
      rw [h, hm]
      simp [hab]
theorem Dja (l m : List Str) (hb : l.length < 4611686018427387903) : Bya (l, m, ()) = some (decide (l = m), ()) := by
  rw [Nna]
  by_cases hl : l.length = m.length
  · obtain ⟨y, e, p⟩ := Fra m l l 0 rfl (by omega) hl hb
    simp only [Int.natCast_zero] at e
    have hbn : ((l.length : Int) != (m.length : Int)) = false := by simp [hl]
    simp only [List.drop_zero] at p
    cases y with
    | inl z => simp only at p; simp only [Cla, hbn, e, PP, p, decide_false]
    | inr z => simp only at p; subst p; simp only [Cla, hbn, e, PP, decide_true]
  · have hbn : ((l.length : Int) != (m.length : Int)) = true := by simp; omega
    have : ¬ l = m := fun e => hl (by rw [e])
    simp only [Cla, hbn, PP, this, decide_false]
theorem Fbb {f g : Yka} (h : f.1 = g.1) (k : f.2.1 = g.2.1) : f = g := by
  obtain ⟨a, b, ⟨⟩⟩ := f
  obtain ⟨c, d, ⟨⟩⟩ := g
  simp only at h k
  rw [h, k]
theorem Rga (f g : Yka) (hb : f.2.1.length < 4611686018427387903) : Mla (f, g, ()) = some (decide (f = g), ()) := by
  rw [Yja]
  by_cases h : f.1 = g.1
  · by_cases k : f.2.1 = g.2.1
    · have := Fbb h k
      subst this
      simp (disch := omega) only [Kta, PP, decide_true, Dja]
    · have : ¬ f = g := fun e => k (by rw [e])
      simp (disch := omega) only [Kta, PP, h, decide_true, Dja, k, decide_false, this]
  · have : ¬ f = g := fun e => h (by rw [e])
    simp (disch := first | omega | assumption) only [Kta, PP, decide_false, this]
theorem Efa (m l : Aha) (hw : Wee l) : ∀ (r : Aha) (i : Nat), l.drop i = r → i ≤ l.length → l.length = m.length →
    ∃ y, Aua (m, l, (l.length : Int), (i : Int), ()) = some y ∧ (match y with
      | .inl _ => l.drop i ≠ m.drop i
      | .inr _ => l.drop i = m.drop i)
  | [], i, h, hi, hl => by
    have := Aga h hi
    subst this
    rw [Eea]
    simp (disch := omega) only [Bka, PP]
    exact ⟨_, rfl, by simp [hl]⟩
  | a :: r, i, h, hi, hl => by
    have hb := hw.1
    obtain ⟨h1, h2, h3, h4⟩ := Aca h
    have ha := hw.2 a h4
    obtain ⟨b, s, hm⟩ : ∃ b s, m.drop i = b :: s := ⟨_, _, List.drop_eq_getElem_cons (by omega)⟩
    obtain ⟨m1, m2, m3, m4⟩ := Aca hm
    rw [Eea]
    have e1 : ((a.1, a.2.1, ()) : Yka) = a := rfl
    have e2 : ((b.1, b.2.1, ()) : Yka) = b := rfl
    by_cases hab : a = b
    · subst hab
      simp (disch := omega) only [Bka, PP, h2, m2, e1, Rga, decide_true]
      obtain ⟨y, e, p⟩ := Efa m l hw r (i + 1) h3 (by omega) hl
      refine ⟨y, e, ?_⟩
      rw [h, hm]
      rw [h3, m3] at p
      cases y with
      | inl z => simpa using p
      | inr z => simpa using p
    · simp (disch := omega) only [Bka, PP, h2, m2, e1, e2, Rga, hab, decide_false]
      refine ⟨_, rfl, ?_⟩
      rw [h, hm]
      simp [hab]
theorem Poa (l m : Aha) (hw : Wee l) : Ira (l, m, ()) = some (decide (l = m), ()) := by
  rw [Dkb]
  by_cases hl : l.length = m.length
  · obtain ⟨y, e, p⟩ := Efa m l hw l 0 rfl (by omega) hl
    simp only [Int.natCast_zero] at e
    have hbn : ((l.length : Int) != (m.length : Int)) = false := by simp [hl]
    simp only [List.drop_zero] at p
    cases y with
    | inl z => simp only at p; simp only [Pta, hbn, e, PP, p, decide_false]
    | inr z => simp only at p; subst p; simp only [Pta, hbn, e, PP, decide_true]
  · have hbn : ((l.length : Int) != (m.length : Int)) = true := by simp; omega
    have : ¬ l = m := fun e => hl (by rw [e])
    simp only [Pta, hbn, PP, this, decide_false]
def Gab (c : UInt8) : Bool := (decide (97 ≤ c.toNat) && decide (c.toNat ≤ 122)) || (decide (48 ≤ c.toNat) && decide (c.toNat ≤ 57)) || decide (c.toNat = 46)
theorem Vea (c : UInt8) : Tma (c, ()) = some (Gab c, ()) := by
  rw [Djb]
  have e : (((UInt8.toNat c : Nat) : Int) == 46) = decide (c.toNat = 46) := by
    rw [Bool.eq_iff_iff]; simp; omega
  by_cases h1 : 97 ≤ c.toNat <;> by_cases h2 : c.toNat ≤ 122 <;> by_cases h3 : 48 ≤ c.toNat <;> by_cases h4 : c.toNat ≤ 57 <;>
    first
    | (exfalso; omega)
    | simp (disch := omega) only [Ysa, PP, e, Gab, h1, h2, h3, h4, decide_true, decide_false, Bool.true_and, Bool.false_and, Bool.true_or, Bool.false_or, Bool.or_false, Bool.or_true, Bool.and_false, Bool.and_true]
theorem Zua (c : UInt8) : UInt8.ofNat (UInt8.toNat c) = c := by simp
theorem Gtb (c : UInt8) : (decide ((0 : Int) ≤ ((UInt8.toNat c : Nat) : Int)) && decide (((UInt8.toNat c : Nat) : Int) < 256)) = true := by
  have := UInt8.toNat_lt c
  simp; omega
def Eka (s : Str) : Bool := decide (1 ≤ s.size) && decide (s.size ≤ 16) && s.data.toList.all Gab
theorem Tja (s : Str) : s.data.toList.length = s.size := by simp
theorem Pna (s : Str) (hb : s.size < 4611686018427387903) : ∀ (r : List UInt8) (i : Nat), s.data.toList.drop i = r → i ≤ s.size →
    ∃ y, Iqa (s, (s.size : Int), (i : Int), ()) = some y ∧ (match y with
      | .inl _ => r.all Gab = false
      | .inr z => r.all Gab = true ∧ z.1 = s)
  | [], i, h, hi => by
    have := Aga h (by rw [Tja]; exact hi)
    rw [Tja] at this
    subst this
    rw [Pma]
    simp (disch := omega) only [Jea, PP]
    exact ⟨_, rfl, rfl, rfl⟩
  | c :: r, i, h, hi => by
    obtain ⟨h1, h2, h3, h4⟩ := Aca h
    rw [Tja] at h1
    rw [Pma]
    cases hc : Gab c with
    | true =>
      simp (disch := omega) only [Jea, PP, h2, Gtb, Zua, Vea, hc]
      obtain ⟨y, e, p⟩ := Pna s hb r (i + 1) h3 (by omega)
      refine ⟨y, e, ?_⟩
      cases y with
      | inl z => simpa [hc] using p
      | inr z => simpa [hc] using p
    | false =>
      simp (disch := omega) only [Jea, PP, h2, Gtb, Zua, Vea, hc]
      exact ⟨_, rfl, by simp [hc]⟩
theorem Dfb (s : Str) : s = ByteArray.empty ↔ s.size = 0 := by
  constructor
  · rintro rfl; rfl
  · intro h
    apply ByteArray.ext
    apply Array.ext'
    have : s.data.toList = [] := List.eq_nil_of_length_eq_zero (by rw [Tja]; exact h)
    rw [this]; rfl
theorem Cha (s : Str) (hb : s.size < 4611686018427387903) : Kfa (s, ()) = some (Eka s, ()) := by
  rw [Dib]
  obtain ⟨y, e, p⟩ := Pna s hb s.data.toList 0 rfl (by omega)
  simp only [Int.natCast_zero] at e
  cases y with
  | inl z =>
    simp only at p
    simp only [Psa, e, PP, Eka, p, Bool.and_false]
  | inr z =>
    obtain ⟨p, rfl⟩ := p
    have hd : decide (((z.1.size : Nat) : Int) ≤ 16) = decide (z.1.size ≤ 16) := by
      rw [decide_eq_decide]; omega
    by_cases h0 : z.1 = ByteArray.empty
    · have h1 := (Dfb _).1 h0
      have : Eka z.1 = false := by simp [Eka, h1]
      simp only [Psa, e, PP, this]
      simp only [h0, decide_true, PP]
    · have h1 : 1 ≤ z.1.size := by
        have := mt (Dfb z.1).2 h0
        omega
      simp only [Psa, e, PP, h0, decide_false, Eka, h1, decide_true, p, Bool.true_and, Bool.and_true, hd]
def Azb (s : Str) : Bool := decide (s.size ≤ 80) && s.data.toList.all fun c => decide (c ≠ 10)
theorem Uva : ∀ (l : List UInt8) (c : UInt8), -1 ≤ Lib.indexByte l c
  | [], c => by simp [Lib.indexByte]
  | b :: l, c => by
    have := Uva l c
    simp only [Lib.indexByte]
    split
    · omega
    · split
      · omega
      · omega
theorem Sna : ∀ (l : List UInt8), decide (Lib.indexByte l 10 < 0) = l.all fun c => decide (c ≠ 10)
  | [] => rfl
  | b :: l => by
    have ih := Sna l
    have hge := Uva l 10
    simp only [Lib.indexByte, List.all_cons, ← ih]
    by_cases hb : b = 10
    · subst hb; simp
    · simp only [beq_iff_eq, hb, if_false, ne_eq, not_false_eq_true, decide_true, Bool.true_and]
      split
      · rename_i h; rw [h]
      · rename_i h
        rw [Bool.eq_iff_iff, decide_eq_true_eq, decide_eq_true_eq]; omega
theorem Xoa (s : Str) : Qga (s, ()) = some (Azb s, ()) := by
  have e10 : Nat.toUInt8 (Int.toNat (((UInt8.toNat (UInt8.ofNat (Int.toNat 10))) : Nat) : Int)) = 10 := rfl
  have hi : Ema (s, UInt8.ofNat (Int.toNat 10), ()) = some (Lib.indexByte s.data.toList 10, ()) := by
    rw [Qla]
    simp only [Ksa, Gtb, PP, Zua, Haa, Coa]
    rfl
  rw [Ejb]
  by_cases h : s.size ≤ 80
  · simp (disch := omega) only [Vya, PP, hi, Sna, Azb, h, decide_true, Bool.true_and]
  · simp (disch := omega) only [Vya, PP, Azb, h, decide_false, Bool.false_and]
theorem Tla (s : Str) : Qfa (s, ()) = some (!Azb s, ()) := by
  rw [Atb]
  simp only [Vxa, Xoa, PP]
def Uka (l : List Str) : Bool := decide (l.length ≤ 200) && l.all Azb
theorem Dfa (l : List Str) (hb : l.length < 4611686018427387903) : ∀ (r : List Str) (i : Nat), l.drop i = r → i ≤ l.length →
    ∃ y, Ama (l, (l.length : Int), (i : Int), ()) = some y ∧ (match y with
      | .inl z => r.all Azb = false ∧ 0 ≤ z.2.1
      | .inr z => r.all Azb = true)
  | [], i, h, hi => by
    have := Aga h hi
    subst this
    rw [Dea]
    simp (disch := omega) only [Aza, PP]
    exact ⟨_, rfl, rfl⟩
  | c :: r, i, h, hi => by
    obtain ⟨h1, h2, h3, h4⟩ := Aca h
    rw [Dea]
    cases hc : Azb c with
    | true =>
      simp (disch := omega) only [Aza, PP, h2, Tla, hc, Bool.not_true]
      obtain ⟨y, e, p⟩ := Dfa l hb r (i + 1) h3 (by omega)
      refine ⟨y, e, ?_⟩
      cases y with
      | inl z => simpa [hc] using p
      | inr z => simpa [hc] using p
    | false =>
      simp (disch := omega) only [Aza, PP, h2, Tla, hc, Bool.not_false]
      exact ⟨_, rfl, by simp [hc], by simp only; omega⟩
theorem Hya (l : List Str) : Qea (l, ()) = some (Uka l, ()) := by
  rw [Eib]
  by_cases h : l.length ≤ 200
  · obtain ⟨y, e, p⟩ := Dfa l (by omega) l 0 rfl (by omega)
    simp only [Int.natCast_zero] at e
    cases y with
    | inl z =>
      simp only at p
      have : decide (z.2.1 ≥ 0) = true := decide_eq_true p.2
      simp (disch := omega) only [Saa, PP, e, Uka, h, p.1, decide_true, Bool.true_and, this, Bool.not_true]
    | inr z =>
      simp only at p
      simp (disch := omega) only [Saa, PP, e, Uka, h, p, decide_true, Bool.true_and]
  · simp (disch := omega) only [Saa, PP, Uka, h, decide_false, Bool.false_and]
def gt_ (t : Aha) (s : Str) : Nat := t.findIdx fun f => decide (ltS s f.1)
def Jba (t : Aha) (s : Str) (l : List Str) : Aha := if at_ t s < t.length then t.set (at_ t s) (s, l, ()) else t.take (gt_ t s) ++ (s, l, ()) :: t.drop (gt_ t s)
theorem Fcb (t : Aha) (s : Str) (hb : t.length < 4611686018427387903) : ∀ (r : Aha) (i : Nat), t.drop i = r → i ≤ t.length →
    ∃ y, Ara (t, s, (t.length : Int), (i : Int), ()) = some y ∧ (match y with
      | .inl z => z.1 = t ∧ z.2.1 = s ∧ z.2.2.1 = ((i + r.findIdx (fun f => decide (ltS s f.1)) : Nat) : Int) ∧ r.findIdx (fun f => decide (ltS s f.1)) < r.length
      | .inr z => z.1 = t ∧ z.2.1 = s ∧ r.findIdx (fun f => decide (ltS s f.1)) = r.length)
  | [], i, h, hi => by
    have := Aga h hi
    subst this
    rw [Dna]
    simp (disch := omega) only [Bga, PP]
    exact ⟨_, rfl, rfl, rfl, rfl⟩
  | f :: r, i, h, hi => by
    obtain ⟨h1, h2, h3, h4⟩ := Aca h
    rw [Dna]
    by_cases hf : ltS s f.1
    · simp (disch := omega) only [Bga, PP, h2, hf, List.findIdx_cons, decide_true, cond_true, Nat.add_zero]
      exact ⟨_, rfl, rfl, rfl, rfl, by omega⟩
    · simp (disch := omega) only [Bga, PP, h2, hf, List.findIdx_cons, decide_false, cond_false]
      obtain ⟨y, e, p⟩ := Fcb t s hb r (i + 1) h3 (by omega)
      refine ⟨y, e, ?_⟩
      cases y with
      | inl z => simp only at p ⊢; exact ⟨p.1, p.2.1, by rw [p.2.2.1]; omega, by omega⟩
      | inr z => simp only at p ⊢; exact ⟨p.1, p.2.1, by omega⟩
theorem Fdb (t : Aha) (n : Nat) (f : Yka) : oPb t (n : Int) [f] = t.take n ++ f :: t.drop n := by simp [oPb]
theorem Kha (t : Aha) (s : Str) (l : List Str) (hw : Wee t) (hl : l.length ≤ 1000000000) : Iea (t, s, l, ()) = some (Jba t s l, ()) := by
  have hb := hw.1
  have hM := Aia
  rw [Enb]
  by_cases h : at_ t s < t.length
  · simp (disch := first | omega | assumption) only [Sba, PP, Kja, Dba, Mna, List.length_set, Jba, h, if_true]
  · obtain ⟨y, e, p⟩ := Fcb t s (by omega) t 0 rfl (by omega)
    simp only [Int.natCast_zero] at e
    cases y with
    | inl z =>
      obtain ⟨p1, p2, p3, p4⟩ := p
      simp only [Nat.zero_add] at p3
      rw [show (t.findIdx fun f => decide (ltS s f.1)) = gt_ t s from rfl] at p3 p4
      simp (disch := first | omega | assumption) only [Sba, PP, Kja, Dba, e, p1, p2, p3, Pwa, Mna, Fdb, Jba, h, if_false]
    | inr z =>
      obtain ⟨p1, p2, p3⟩ := p
      rw [show (t.findIdx fun f => decide (ltS s f.1)) = gt_ t s from rfl] at p3
      simp (disch := first | omega | assumption) only [Sba, PP, Kja, Dba, e, p1, p2, Pwa, Mna, Fdb, Jba, h, if_false, p3]
def Qoa (t : Aha) (s : Str) : Aha := t.eraseIdx (at_ t s)
theorem Jhb (t : Aha) (n : Nat) (h : n < t.length) : t.take n ++ t.drop (n + 1) = t.eraseIdx n := (List.eraseIdx_eq_take_drop_succ t n).symm
theorem Sza {α : Type} (l : List α) (n : Nat) (ys : List α) (h : n + ys.length ≤ l.length) : (hYb l n ys).length = l.length := by
  simp only [hYb, List.length_append, List.length_take, List.length_drop]; omega
theorem Rwa (t : Aha) (s : Str) (hw : Wee t) : Qha (t, s, ()) = some (Qoa t s, ()) := by
  have hb := hw.1
  have hM := Aia
  rw [Ekb]
  by_cases h : at_ t s < t.length
  · have hne : (((at_ t s : Nat) : Int) == ((at_ t s + 1 : Nat) : Int)) = false := by simp; omega
    have h1 : (List.take (0 + (t.length - 0) - (0 + (at_ t s + 1))) (List.drop (0 + (at_ t s + 1)) t)) = t.drop (at_ t s + 1) := by
      rw [Nat.zero_add, Nat.zero_add, Nat.sub_zero]
      exact List.take_of_length_le (by simp)
    have hl1 : (t.drop (at_ t s + 1)).length = t.length - (at_ t s + 1) := List.length_drop
    simp (disch := first | omega | assumption) only [Waa, PP, Kja, Dba, hne, h1]
    have hO : (hYb t (at_ t s) (t.drop (at_ t s + 1))).length = t.length := Sza _ _ _ (by omega)
    have hk : at_ t s + (t.drop (at_ t s + 1)).length = t.length - 1 := by omega
    have hO2 : ∀ d : Yka, (hYb (hYb t (at_ t s) (t.drop (at_ t s + 1))) (t.length - 1) (List.replicate (t.length - (t.length - 1)) d)).length = t.length := fun d => by
      rw [Sza _ _ _ (by rw [List.length_replicate, hO]; omega), hO]
    simp only [Nat.zero_add, Nat.add_zero, Nat.sub_zero, List.drop_zero]
    simp (disch := first | omega | assumption) only [hO, hk, hO2, PP]
    have e1 : hYb t (at_ t s) (t.drop (at_ t s + 1)) = t.take (at_ t s) ++ t.drop (at_ t s + 1) ++ t.drop (at_ t s + (t.drop (at_ t s + 1)).length) := rfl
    have e2 : ∀ (O r : List Yka), t.length - 1 ≤ O.length → (hYb O (t.length - 1) r).take (t.length - 1) = O.take (t.length - 1) := fun O r ho => by
      simp only [hYb, List.append_assoc]
      rw [List.take_append_of_le_length (by rw [List.length_take]; omega), List.take_take, Nat.min_self]
    rw [e2 _ _ (by omega), e1, List.take_append_of_le_length (by rw [List.length_append, List.length_take, hl1]; omega), List.take_of_length_le (by rw [List.length_append, List.length_take, hl1]; omega), Jhb t _ h]
    rfl
  · simp (disch := first | omega | assumption) only [Waa, PP, Kja, Dba, Qoa]
    rw [List.eraseIdx_of_length_le (by omega)]
theorem Uca (l0 ts : List Aha) (hb : ts.length < 4611686018427387903) : ∀ (r : List Aha) (i n : Nat), ts.drop i = r → i ≤ ts.length → n + r.flatten.length < 4611686018427387903 →
    Boa (l0, (n : Int), ts, (ts.length : Int), (i : Int), ()) = some (l0, ((n + r.flatten.length : Nat) : Int), ts, (ts.length : Int), (ts.length : Int), ())
  | [], i, n, h, hi, _ => by
    have := Aga h hi
    subst this
    rw [Gla]
    simp (disch := omega) only [Dha, PP, List.flatten_nil, Nat.add_zero]
  | t :: r, i, n, h, hi, hn => by
    obtain ⟨h1, h2, h3, h4⟩ := Aca h
    simp only [List.flatten_cons, List.length_append] at hn
    have hw : IntKind.wrap .i64 ((n : Int) + (t.length : Int)) = ((n + t.length : Nat) : Int) := by rw [Axa (by omega) (by omega)]; omega
    rw [Gla]
    simp (disch := omega) only [Dha, PP, h2, hw]
    rw [Uca l0 ts hb r (i + 1) (n + t.length) h3 (by omega) (by omega)]
    simp only [List.flatten_cons, List.length_append, Nat.add_assoc]
theorem Rya (l0 : Aha) (ts : List Aha) (hb : ts.length < 4611686018427387903) : ∀ (r : List Aha) (i n : Nat) (row : Aha), ts.drop i = r → i ≤ ts.length → n + r.flatten.length ≤ row.length →
    ∃ row' : Aha, Bia (l0, row, 0, n, ts, (ts.length : Int), (i : Int), ()) = some (l0, row', 0, n + r.flatten.length, ts, (ts.length : Int), (ts.length : Int), ()) ∧ row'.length = row.length ∧ row'.take (n + r.flatten.length) = row.take n ++ r.flatten
  | [], i, n, row, h, hi, _ => by
    have := Aga h hi
    subst this
    rw [Fpa]
    simp (disch := omega) only [Cva, PP, List.flatten_nil, Nat.add_zero, List.append_nil]
    exact ⟨row, rfl, rfl, rfl⟩
  | t :: r, i, n, row, h, hi, hn => by
    obtain ⟨h1, h2, h3, h4⟩ := Aca h
    simp only [List.flatten_cons, List.length_append] at hn
    have ho := Sza row n t (by omega)
    rw [Fpa]
    simp (disch := omega) only [Cva, PP, h2, ho]
    obtain ⟨row', e, e1, e2⟩ := Rya l0 ts hb r (i + 1) (n + t.length) (hYb row n t) h3 (by omega) (by omega)
    refine ⟨row', ?_, by rw [e1, ho], ?_⟩
    · rw [e]; simp only [List.flatten_cons, List.length_append, Nat.add_assoc]
    · have e3 : (hYb row n t).take (n + t.length) = row.take n ++ t := by
        have : (row.take n ++ t).length = n + t.length := by rw [List.length_append, List.length_take]; omega
        rw [hYb, ← this]; exact List.take_left
      rw [e3] at e2
      simp only [List.flatten_cons, List.length_append]
      rw [← Nat.add_assoc, e2, List.append_assoc]
theorem Qna (l0 : Aha) (ts : List Aha) (hb : ts.length < 4611686018427387903) : ∀ (r : List Aha) (i : Nat), ts.drop i = r → i ≤ ts.length → r.flatten = [] →
    Bba (l0, [], ts, (ts.length : Int), (i : Int), ()) = some (l0, [], ts, (ts.length : Int), (ts.length : Int), ())
  | [], i, h, hi, _ => by
    have := Aga h hi
    subst this
    rw [Ewa]
    simp (disch := omega) only [Cpa, PP]
  | t :: r, i, h, hi, hn => by
    obtain ⟨h1, h2, h3, h4⟩ := Aca h
    have hM := Aia
    simp only [List.flatten_cons, List.append_eq_nil_iff] at hn
    obtain ⟨rfl, hn⟩ := hn
    rw [Ewa]
    simp (disch := omega) only [Cpa, PP, h2, List.append_nil]
    exact Qna l0 ts hb r (i + 1) h3 (by omega) hn
theorem Gdb (ts : List Aha) (hb : ts.length < 1000000000) (hn : ts.flatten.length ≤ 1000000000000) : Cea (ts, ()) = some (ts.flatten, ()) := by
  have hM := Aia
  have e := Uca ts ts (by omega) ts 0 0 rfl (by omega) (by omega)
  simp only [Int.natCast_zero, Nat.zero_add] at e
  rw [Pka]
  have hw0 : IntKind.wrap .i64 ((0 : Int) - ((0 : Nat) : Int)) = 0 := by rw [Axa (by omega) (by omega)]; rfl
  have hw0' : IntKind.wrap .i64 ((0 : Int) - 0) = 0 := by rw [Axa (by omega) (by omega)]; rfl
  have hw : IntKind.wrap .i64 (((ts.flatten.length : Nat) : Int) - 0) = ((ts.flatten.length : Nat) : Int) := by rw [Axa (by omega) (by omega)]; omega
  by_cases h0 : ts.flatten.length = 0
  · have hf : ts.flatten = [] := List.eq_nil_of_length_eq_zero h0
    have e2 := Qna [] ts (by omega) ts 0 rfl (by omega) hf
    simp only [Int.natCast_zero] at e2
    simp (disch := omega) only [Fxa, e, PP, hw0, hw, e2]
    rw [hf]
  · obtain ⟨row', e2, e3, e4⟩ := Rya [] ts (by omega) ts 0 0 (List.replicate ts.flatten.length (ByteArray.empty, [], ())) rfl (by omega) (by simp)
    simp only [Int.natCast_zero, Nat.zero_add, List.take_zero, List.nil_append] at e2 e4
    simp only [List.length_replicate] at e3
    simp (disch := omega) only [Fxa, e, PP, hw0, hw0', hw, List.length_replicate, Nat.sub_zero, Int.natCast_zero, Int.toNat_zero, Nat.add_zero, e2, List.drop_zero, e4]
def Dyb (x : Str) (l : List Str) : Bool := l.any fun y => decide (y = x)
theorem Vja (x : Str) (l : List Str) : Dyb x l = true ↔ x ∈ l := by simp [Dyb]
def Eqb : List Str → List Str → List Str
  | seen, [] => seen
  | seen, x :: xs => bif Dyb x seen then Eqb seen xs else Eqb (seen ++ [x]) xs
theorem Kgb (a b : Str) : eqK .str a b = decide (b = a) := by
  show (ByteArray.toList a == ByteArray.toList b) = _
  rw [Wsa, decide_eq_decide]
  exact eq_comm
theorem Cvb (s : Str) (p : Str × Bool) (m : List (Str × Bool)) : aLb .str .bool s (p :: m) = if p.1 = s then some 0 else (aLb .str .bool s m).map (· + 1) := by
  unfold aLb
  rw [List.findIdx?_cons, Kgb]
  by_cases h : p.1 = s <;> simp [h]
theorem Sda (s : Str) (p : Str × Bool) (m : List (Str × Bool)) : nMb .str .bool s false (p :: m) = if p.1 = s then p.2 else nMb .str .bool s false m := by
  unfold nMb
  rw [Cvb]
  by_cases h : p.1 = s
  · simp [h]
  · simp only [h, if_false]
    cases aLb .str .bool s m <;> simp
theorem Hxb (k : Str) (p : Str × Bool) (m : List (Str × Bool)) : qLb .str .bool k true (p :: m) = if p.1 = k then (k, true) :: m else p :: qLb .str .bool k true m := by
  unfold qLb
  rw [Cvb]
  by_cases h : p.1 = k
  · simp [h]
  · simp only [h, if_false]
    cases aLb .str .bool k m <;> simp
theorem Hfb (s k : Str) : ∀ (m : List (Str × Bool)), nMb .str .bool s false (qLb .str .bool k true m) = if k = s then true else nMb .str .bool s false m
  | [] => by
    have : qLb .str .bool k true [] = [(k, true)] := rfl
    rw [this, Sda]
  | p :: m => by
    rw [Hxb, Sda]
    by_cases h : p.1 = k
    · subst h
      simp only [if_true]
      rw [Sda]
      by_cases hs : p.1 = s <;> simp [hs]
    · simp only [h, if_false]
      rw [Sda, Hfb s k m]
      by_cases hs : p.1 = s
      · have : ¬ k = s := fun e => h (hs.trans e.symm)
        simp [hs, this]
      · simp [hs]
theorem Iva (t : Aha) (hb : t.length ≤ 10000000000) : ∀ (r : Aha) (i : Nat) (o : List Str) (m : List (Str × Bool)), t.drop i = r → i ≤ t.length → o.length ≤ i → m.length ≤ i → (∀ s, nMb .str .bool s false m = Dyb s o) →
    ∃ m', Hma (o, m, t, (t.length : Int), (i : Int), ()) = some (Eqb o (r.map (·.1)), m', t, (t.length : Int), (t.length : Int), ())
  | [], i, o, m, h, hi, ho, hm, hs => by
    have := Aga h hi
    subst this
    rw [Nha]
    simp (disch := omega) only [Iaa, PP]
    exact ⟨m, rfl⟩
  | f :: r, i, o, m, h, hi, ho, hm, hs => by
    obtain ⟨h1, h2, h3, h4⟩ := Aca h
    have hM := Aia
    rw [Nha]
    cases hf : Dyb f.1 o with
    | true =>
      simp (disch := omega) only [Iaa, PP, h2, hs, hf, decide_true, Bool.not_true]
      obtain ⟨m', e⟩ := Iva t hb r (i + 1) o m h3 (by omega) (by omega) (by omega) hs
      refine ⟨m', ?_⟩
      rw [e]
      simp only [List.map_cons, Eqb, hf, cond_true]
    | false =>
      simp (disch := omega) only [Iaa, PP, h2, hs, hf, decide_false, Bool.not_false]
      obtain ⟨m', e⟩ := Iva t hb r (i + 1) (o ++ [f.1]) (qLb .str .bool f.1 true m) h3 (by omega) (by simp; omega) (by
        unfold qLb; split
        · simp; omega
        · simp; omega) (fun s => by
        rw [Hfb, hs]
        by_cases hsf : f.1 = s
        · subst hsf; simp [Dyb]
        · simp [Dyb, hsf])
      refine ⟨m', ?_⟩
      rw [e]
      simp only [List.map_cons, Eqb, hf, cond_false]
theorem Vna : ∀ (xs o : List Str), (Eqb o xs).length ≤ o.length + xs.length
  | [], o => by simp [Eqb]
  | x :: xs, o => by
    simp only [Eqb]
    cases Dyb x o with
    | true => have := Vna xs o; simp; omega
    | false => have := Vna xs (o ++ [x]); simp at this ⊢; omega
theorem Axb (a b : Aha) (ha : a.length ≤ 1000000000) (hb : b.length ≤ 1000000000) : Qia (a, b, ()) = some (lSa (Eqb [] ((a ++ b).map (·.1))), ()) := by
  have hM := Aia
  have hl : (a ++ b).length ≤ 10000000000 := by rw [List.length_append]; omega
  obtain ⟨m', e⟩ := Iva (a ++ b) hl (a ++ b) 0 [] [] rfl (by omega) (by simp) (by simp) (fun s => rfl)
  simp only [Int.natCast_zero] at e
  have hc : Cea ([a, b], ()) = some (a ++ b, ()) := by
    have := Gdb [a, b] (by simp) (by simp; omega)
    simpa using this
  have hu := Vna ((a ++ b).map (·.1)) []
  simp only [List.length_map, List.length_nil, Nat.zero_add] at hu
  rw [Awb]
  simp (disch := omega) only [Wda, hc, Aaa, e, Aka, Aba, List.length_nil, sDa]
def Jnb (l : List Str) (x : Str) : List Str := bif Dyb x l then l else l.take (l.findIdx fun y => decide (ltS x y)) ++ x :: l.drop (l.findIdx fun y => decide (ltS x y))
def Qnb (l : List Str) : Prop := ∀ s ∈ l, s.size < 4611686018427387903
def Dxb : Option Str → Aha → Bool
  | _, [] => true
  | q, f :: r => Eka f.1 && (Uka f.2.1 && ((match q with | some q => decide (ltS q f.1) | none => true) && Dxb (some f.1) r))
def Nka (t : Aha) : Bool := Dxb none t && decide (t.length ≤ 30)
def Vfa (t : Aha) : Prop := ∀ f ∈ t, f.1.size < 4611686018427387903 ∧ Qnb f.2.1 ∧ f.2.1.length < 4611686018427387903
def Ksb (t : Aha) (i : Nat) : Option Str := if i = 0 then none else some (t.getD (i - 1) (ByteArray.empty, [], ())).1
theorem Xka (t : Aha) : Ksb t 0 = none := rfl
theorem Hwb (t : Aha) (i : Nat) {f : Yka} (h : ∀ d, t.getD i d = f) : Ksb t (i + 1) = some f.1 := by
  unfold Ksb; rw [if_neg (by omega), Nat.add_sub_cancel, h]
theorem Rfa (t : Aha) (hs : Vfa t) (hb : t.length < 4611686018427387903) : ∀ (r : Aha) (i : Nat), t.drop i = r → i ≤ t.length →
    ∃ y, Kga (t, t, (t.length : Int), (i : Int), ()) = some y ∧ (match y with
      | .inl _ => Dxb (Ksb t i) r = false
      | .inr z => Dxb (Ksb t i) r = true ∧ z.1 = t)
  | [], i, h, hi => by
    have := Aga h hi
    subst this
    rw [Rea]
    simp (disch := omega) only [Dwa, PP]
    exact ⟨_, rfl, rfl, rfl⟩
  | f :: r, i, h, hi => by
    obtain ⟨h1, h2, h3, h4⟩ := Aca h
    obtain ⟨s1, s2, s3⟩ := hs f h4
    obtain ⟨y, e, p⟩ := Rfa t hs hb r (i + 1) h3 (by omega)
    rw [Hwb t i h2] at p
    rw [Rea]
    cases hn : Eka f.1 with
    | false =>
      simp (disch := first | omega | assumption) only [Dwa, PP, h2, Cha, hn, Bool.not_false]
      exact ⟨_, rfl, by simp [Dxb, hn]⟩
    | true =>
      cases ha : Uka f.2.1 with
      | false =>
        simp (disch := first | omega | assumption) only [Dwa, PP, h2, Cha, hn, Bool.not_true, Hya, ha, Bool.not_false]
        exact ⟨_, rfl, by simp [Dxb, hn, ha]⟩
      | true =>
        by_cases h0 : i = 0
        · subst h0
          have hb1 : 0 < t.length := h1
          have hw1 : IntKind.wrap .i64 ((0 : Int) + 1) = 1 := by rw [Axa (by omega) (by omega)]; rfl
          simp only [Int.natCast_zero] at *
          simp (disch := first | omega | assumption) only [Dwa, PP, h2, Cha, hn, Bool.not_true, Hya, ha, Int.toNat_zero, hw1]
          refine ⟨y, by simpa using e, ?_⟩
          cases y with
          | inl z => simp only at p; simp [Dxb, hn, ha, Xka, p]
          | inr z => simp only at p; simp [Dxb, hn, ha, Xka, p]
        · have hp : Ksb t i = some (t.getD (i - 1) (ByteArray.empty, [], ())).1 := by unfold Ksb; rw [if_neg h0]
          rw [hp]
          generalize hq : (t.getD (i - 1) (ByteArray.empty, [], ())).1 = q
          by_cases hlt : ltS q f.1
          · simp (disch := first | omega | assumption) only [Dwa, PP, h2, Cha, hn, Bool.not_true, Hya, ha, hq, hlt, decide_true]
            refine ⟨y, e, ?_⟩
            cases y with
            | inl z => simp only at p; simp [Dxb, hn, ha, hlt, p]
            | inr z => simp only at p; simp [Dxb, hn, ha, hlt, p]
          · simp (disch := first | omega | assumption) only [Dwa, PP, h2, Cha, hn, Bool.not_true, Hya, ha, hq, hlt, decide_false, Bool.not_false]
            exact ⟨_, rfl, by simp [Dxb, hn, ha, hlt]⟩
theorem Fza (t : Aha) (hs : Vfa t) (hb : t.length < 4611686018427387903) : Mka (t, ()) = some (Nka t, ()) := by
  rw [Emb]
  obtain ⟨y, e, p⟩ := Rfa t hs hb t 0 rfl (by omega)
  simp only [Int.natCast_zero, Xka] at e p
  cases y with
  | inl z =>
    simp only at p
    simp only [Wca, e, PP, Nka, p, Bool.false_and]
  | inr z =>
    obtain ⟨p, rfl⟩ := p
    have hd : decide (((z.1.length : Nat) : Int) ≤ 30) = decide (z.1.length ≤ 30) := by
      rw [decide_eq_decide]; omega
    simp only [Wca, e, PP, Nka, p, Bool.true_and, hd]
def Nea (l : List Str) : Bool := l.all fun s => decide (s.size ≤ 200)
theorem Lla (l : List Str) (hb : l.length < 4611686018427387903) : ∀ (r : List Str) (i : Nat), l.drop i = r → i ≤ l.length →
    ∃ y, Fga (l, (i : Int), ()) = some y ∧ (match y with
      | .inl _ => Nea r = false
      | .inr _ => Nea r = true)
  | [], i, h, hi => by
    have := Aga h hi
    subst this
    rw [Lka]
    simp (disch := omega) only [Goa, PP]
    exact ⟨_, rfl, rfl⟩
  | c :: r, i, h, hi => by
    obtain ⟨h1, h2, h3, h4⟩ := Aca h
    rw [Lka]
    by_cases hc : c.size ≤ 200
    · simp (disch := omega) only [Goa, PP, h2]
      obtain ⟨y, e, p⟩ := Lla l hb r (i + 1) h3 (by omega)
      refine ⟨y, e, ?_⟩
      cases y with
      | inl z => simp only [Nea] at p ⊢; simpa [hc] using p
      | inr z => simp only [Nea] at p ⊢; simpa [hc] using p
    · simp (disch := omega) only [Goa, PP, h2]
      exact ⟨_, rfl, by simp [Nea, hc]⟩
theorem Fha (l : List Str) (hb : l.length < 4611686018427387903) : Fya (l, 300, ()) = some (decide (l.length ≤ 300) && Nea l, ()) := by
  rw [Xsa]
  by_cases h : l.length ≤ 300
  · obtain ⟨y, e, p⟩ := Lla l hb l 0 rfl (by omega)
    simp only [Int.natCast_zero] at e
    cases y with
    | inl z => simp only at p; simp (disch := omega) only [Kpa, PP, e, p, Bool.and_false]
    | inr z => simp only at p; simp (disch := omega) only [Kpa, PP, e, p, h, decide_true, Bool.true_and]
  · simp (disch := omega) only [Kpa, PP, h, decide_false, Bool.false_and]
def Oqa (t : Aha) : Bool := t.all fun f => (decide (f.2.1.length ≤ 300) && Nea f.2.1) && decide (f.1.size ≤ 100)
theorem Lna (t : Aha) (hs : Vfa t) (hb : t.length < 4611686018427387903) : ∀ (r : Aha) (i : Nat), t.drop i = r → i ≤ t.length →
    ∃ y, Fia (t, (i : Int), ()) = some y ∧ (match y with
      | .inl _ => Oqa r = false
      | .inr _ => Oqa r = true)
  | [], i, h, hi => by
    have := Aga h hi
    subst this
    rw [Lma]
    simp (disch := omega) only [Dra, PP]
    exact ⟨_, rfl, rfl⟩
  | f :: r, i, h, hi => by
    obtain ⟨h1, h2, h3, h4⟩ := Aca h
    obtain ⟨s1, s2, s3⟩ := hs f h4
    rw [Lma]
    cases hl : (decide (f.2.1.length ≤ 300) && Nea f.2.1) with
    | false =>
      simp (disch := omega) only [Dra, PP, h2, Fha, hl, Bool.not_false]
      exact ⟨_, rfl, by simp [Oqa, hl]⟩
    | true =>
      by_cases hc : f.1.size ≤ 100
      · simp (disch := omega) only [Dra, PP, h2, Fha, hl, Bool.not_true]
        obtain ⟨y, e, p⟩ := Lna t hs hb r (i + 1) h3 (by omega)
        refine ⟨y, e, ?_⟩
        cases y with
        | inl z => simp only [Oqa, List.all_cons, hl, hc, decide_true, Bool.true_and] at p ⊢; exact p
        | inr z => simp only [Oqa, List.all_cons, hl, hc, decide_true, Bool.true_and] at p ⊢; exact p
      · simp (disch := omega) only [Dra, PP, h2, Fha, hl, Bool.not_true]
        exact ⟨_, rfl, by simp [Oqa, hc]⟩
theorem Iba (t : Aha) (hs : Vfa t) (hb : t.length < 4611686018427387903) : Jxa (t, ()) = some (decide (t.length ≤ 40) && Oqa t, ()) := by
  rw [Xva]
  by_cases h : t.length ≤ 40
  · obtain ⟨y, e, p⟩ := Lna t hs hb t 0 rfl (by omega)
    simp only [Int.natCast_zero] at e
    cases y with
    | inl z => simp only at p; simp (disch := omega) only [Kqa, PP, e, p, Bool.and_false]
    | inr z => simp only at p; simp (disch := omega) only [Kqa, PP, e, p, h, decide_true, Bool.true_and]
  · simp (disch := omega) only [Kqa, PP, h, decide_false, Bool.false_and]
theorem Hkb {t : Aha} (h1 : t.length ≤ 40) (h2 : Oqa t = true) : t.length ≤ 40 ∧ Wee t ∧ Vfa t := by
  rw [Oqa, List.all_eq_true] at h2
  refine ⟨h1, ⟨by omega, fun f hf => ?_⟩, fun f hf => ?_⟩
  · have := h2 f hf
    simp only [Bool.and_eq_true, decide_eq_true_eq] at this
    omega
  · have := h2 f hf
    simp only [Bool.and_eq_true, decide_eq_true_eq, Nea, List.all_eq_true] at this
    refine ⟨by omega, fun s hs => ?_, by omega⟩
    have := this.1.2 s hs
    omega
theorem Wee.set {t : Aha} (h : Wee t) (i : Nat) {f : Yka} (hf : f.2.1.length ≤ 1000000000) : Wee (t.set i f) := by
  refine ⟨by rw [List.length_set]; exact h.1, fun g hg => ?_⟩
  rcases List.mem_or_eq_of_mem_set hg with hg | rfl
  · exact h.2 g hg
  · exact hf
theorem Wee.put {t : Aha} (h : Wee t) (ht : t.length < 1000000000) (s : Str) {l : List Str} (hl : l.length ≤ 1000000000) : Wee (Jba t s l) := by
  unfold Jba
  split
  · exact h.set _ hl
  · refine ⟨?_, fun g hg => ?_⟩
    · rw [List.length_append, List.length_cons, List.length_take, List.length_drop]; omega
    · simp only [List.mem_append, List.mem_cons] at hg
      rcases hg with hg | rfl | hg
      · exact h.2 g (List.mem_of_mem_take hg)
      · exact hl
      · exact h.2 g (List.mem_of_mem_drop hg)
theorem Wee.del {t : Aha} (h : Wee t) (s : Str) : Wee (Qoa t s) := by
  refine ⟨Nat.le_trans (by rw [Qoa, List.length_eraseIdx]; split <;> omega) h.1, fun g hg => h.2 g (List.mem_of_mem_eraseIdx hg)⟩
theorem Ktb (t : Aha) (s : Str) (l : List Str) : (Jba t s l).length ≤ t.length + 1 := by
  unfold Jba
  split
  · rw [List.length_set]; omega
  · rw [List.length_append, List.length_cons, List.length_take, List.length_drop]; omega
abbrev Rza (l : List Str) : Prop := l.Pairwise ltS
theorem Iub {l : List Str} {x y : Str} : y ∈ Jnb l x ↔ y ∈ l ∨ y = x := by
  unfold Jnb
  cases h : Dyb x l with
  | true =>
    have := (Vja x l).1 h
    simp only [cond_true]
    constructor
    · exact .inl
    · rintro (h | rfl) <;> assumption
  | false =>
    simp only [cond_false, List.mem_append, List.mem_cons]
    have := List.take_append_drop (l.findIdx fun y => decide (ltS x y)) l
    constructor
    · rintro (h | h | h)
      · exact .inl (List.mem_of_mem_take h)
      · exact .inr h
      · exact .inl (List.mem_of_mem_drop h)
    · rintro (h | h)
      · rw [← this, List.mem_append] at h
        rcases h with h | h
        · exact .inl h
        · exact .inr (.inr h)
      · exact .inr (.inl h)
theorem Esb {x : Str} : ∀ {l : List Str}, Dyb x l = false → Rza l → (∀ y ∈ l.take (l.findIdx fun y => decide (ltS x y)), ltS y x) ∧ ∀ y ∈ l.drop (l.findIdx fun y => decide (ltS x y)), ltS x y
  | [], _, _ => by simp
  | o :: l, hm, hr => by
    simp only [Dyb, List.any_cons, Bool.or_eq_false_iff, decide_eq_false_iff_not] at hm
    obtain ⟨hr1, hr2⟩ := List.pairwise_cons.1 hr
    obtain ⟨i1, i2⟩ := Esb (x := x) (l := l) hm.2 hr2
    rw [List.findIdx_cons]
    by_cases h : ltS x o
    · simp only [h, decide_true, cond_true, List.take_zero, List.drop_zero]
      refine ⟨by simp, fun y hy => ?_⟩
      rcases List.mem_cons.1 hy with rfl | hy
      · exact h
      · exact Hca h (hr1 y hy)
    · simp only [h, decide_false, cond_false, List.take_succ_cons, List.drop_succ_cons]
      refine ⟨fun y hy => ?_, i2⟩
      rcases List.mem_cons.1 hy with rfl | hy
      · rcases Lra y x with k | k | k
        · exact k
        · exact absurd k hm.1
        · exact absurd k h
      · exact i1 y hy
theorem Dub {l : List Str} {x : Str} (h : Rza l) : Rza (Jnb l x) := by
  unfold Jnb
  cases hm : Dyb x l with
  | true => exact h
  | false =>
    obtain ⟨h1, h2⟩ := Esb hm h
    simp only [cond_false]
    rw [Rza, List.pairwise_append]
    refine ⟨h.sublist (List.take_sublist _ _), List.pairwise_cons.2 ⟨h2, h.sublist (List.drop_sublist _ _)⟩, fun a ha b hb => ?_⟩
    rcases List.mem_cons.1 hb with rfl | hb
    · exact h1 a ha
    · exact Hca (h1 a ha) (h2 b hb)
theorem Lia : ∀ (xs l : List Str), Rza l → Rza (xs.foldl Jnb l) ∧ ∀ y, y ∈ xs.foldl Jnb l ↔ y ∈ l ∨ y ∈ xs
  | [], l, h => ⟨h, fun y => by simp⟩
  | x :: xs, l, h => by
    obtain ⟨h1, h2⟩ := Lia xs (Jnb l x) (Dub h)
    refine ⟨h1, fun y => ?_⟩
    rw [List.foldl_cons, h2, Iub, List.mem_cons]
    constructor
    · rintro ((h | h) | h)
      · exact .inl h
      · exact .inr (.inl h)
      · exact .inr (.inr h)
    · rintro (h | h | h)
      · exact .inl (.inl h)
      · exact .inl (.inr h)
      · exact .inr h
theorem Xpa : ∀ (xs o : List Str), o.Nodup → (Eqb o xs).Nodup ∧ ∀ y, y ∈ Eqb o xs ↔ y ∈ o ∨ y ∈ xs
  | [], o, h => ⟨h, fun y => by simp [Eqb]⟩
  | x :: xs, o, h => by
    simp only [Eqb]
    cases hm : Dyb x o with
    | true =>
      have hx := (Vja x o).1 hm
      obtain ⟨h1, h2⟩ := Xpa xs o h
      refine ⟨h1, fun y => ?_⟩
      simp only [cond_true, h2, List.mem_cons]
      constructor
      · rintro (h | h)
        · exact .inl h
        · exact .inr (.inr h)
      · rintro (h | rfl | h)
        · exact .inl h
        · exact .inl hx
        · exact .inr h
    | false =>
      have hx : ¬ x ∈ o := fun h => by rw [(Vja x o).2 h] at hm; cases hm
      obtain ⟨h1, h2⟩ := Xpa xs (o ++ [x]) (by rw [List.nodup_append]; exact ⟨h, by simp, fun a ha b hb => by simp at hb; subst hb; exact fun e => hx (e ▸ ha)⟩)
      refine ⟨h1, fun y => ?_⟩
      simp only [cond_false, h2, List.mem_append, List.mem_cons, List.not_mem_nil, or_false, or_assoc]
theorem Deb {l : List Str} (h : l.Nodup) : Rza (lSa l) := by
  have h1 : (lSa l).Pairwise fun a b => decide (a.data.toList ≤ b.data.toList) = true := oXa l
  have h2 : (lSa l).Nodup := (oFa l).nodup_iff.2 h
  refine (h1.and h2).imp fun {a b} hab => ?_
  obtain ⟨k1, k2⟩ := hab
  rw [decide_eq_true_eq] at k1
  rcases Lra a b with k | k | k
  · exact k
  · exact absurd k k2
  · exact absurd k (List.not_lt.2 k1)
theorem Ibb {l : List Str} {y : Str} : y ∈ lSa l ↔ y ∈ l := (oFa l).mem_iff
theorem Zna : ∀ {l m : List Str}, Rza l → Rza m → (∀ y, y ∈ l ↔ y ∈ m) → l = m
  | [], [], _, _, _ => rfl
  | [], b :: m, _, _, h => by have := (h b).2 List.mem_cons_self; cases this
  | a :: l, [], _, _, h => by have := (h a).1 List.mem_cons_self; cases this
  | a :: l, b :: m, hl, hm, h => by
    obtain ⟨l1, l2⟩ := List.pairwise_cons.1 hl
    obtain ⟨m1, m2⟩ := List.pairwise_cons.1 hm
    have hab : a = b := by
      rcases List.mem_cons.1 ((h a).1 List.mem_cons_self) with e | e
      · exact e
      · rcases List.mem_cons.1 ((h b).2 List.mem_cons_self) with e' | e'
        · exact e'.symm
        · exact absurd (Hca (m1 a e) (l1 b e')) (Hva _)
    subst hab
    congr 1
    refine Zna l2 m2 fun y => ?_
    have hy := h y
    simp only [List.mem_cons] at hy
    constructor
    · intro k
      rcases hy.1 (.inr k) with rfl | k'
      · exact absurd (l1 y k) (Hva _)
      · exact k'
    · intro k
      rcases hy.2 (.inr k) with rfl | k'
      · exact absurd (m1 y k) (Hva _)
      · exact k'
def Lta (a b : Aha) : List Str := lSa (Eqb [] ((a ++ b).map (·.1)))
theorem Xga (a b : Aha) : ((a ++ b).map (·.1)).foldl Jnb [] = Lta a b := by
  obtain ⟨h1, h2⟩ := Lia ((a ++ b).map (·.1)) [] List.Pairwise.nil
  obtain ⟨h3, h4⟩ := Xpa ((a ++ b).map (·.1)) [] List.nodup_nil
  refine Zna h1 (Deb h3) fun y => ?_
  rw [h2, Lta, Ibb, h4]
theorem Cnb (a b : Aha) : (Lta a b).length ≤ a.length + b.length := by
  rw [Lta, sDa]
  have := Vna ((a ++ b).map (·.1)) []
  simpa using this
abbrev RT (t : Aha) : Prop := t.Pairwise fun f g => ltS f.1 g.1
theorem Afb (s : Str) : Aja [] s = none := rfl
theorem Baa (f : Yka) (t : Aha) (s : Str) : Aja (f :: t) s = if f.1 = s then some f.2.1 else Aja t s := by
  unfold Aja
  rw [List.find?_cons]
  by_cases h : f.1 = s <;> simp [h]
theorem Dqb (f : Yka) (t : Aha) (s : Str) : at_ (f :: t) s = if f.1 = s then 0 else at_ t s + 1 := by
  unfold at_
  rw [List.findIdx_cons]
  by_cases h : f.1 = s <;> simp [h]
theorem Hgb (f : Yka) (t : Aha) (s : Str) : gt_ (f :: t) s = if ltS s f.1 then 0 else gt_ t s + 1 := by
  unfold gt_
  rw [List.findIdx_cons]
  by_cases h : ltS s f.1 <;> simp [h]
theorem Wma (t : Aha) (s : Str) : at_ t s < t.length ↔ (Aja t s).isSome = true := by
  rw [Wva]
  by_cases h : at_ t s < t.length <;> simp [h]
theorem Fba : ∀ {t : Aha} {s : Str}, (∀ f ∈ t, f.1 ≠ s) → Aja t s = none
  | [], _, _ => rfl
  | f :: t, s, h => by
    rw [Baa, if_neg (h f List.mem_cons_self)]
    exact Fba fun g hg => h g (List.mem_cons_of_mem _ hg)
theorem Aeb : ∀ {t : Aha} {f : Yka}, f ∈ t → (Aja t f.1).isSome = true
  | g :: t, f, h => by
    rw [Baa]
    split
    · rfl
    · rcases List.mem_cons.1 h with rfl | h
      · rename_i hn; exact absurd rfl hn
      · exact Aeb h
theorem Adb : ∀ {t : Aha} {s : Str} {l : List Str}, Aja t s = some l → (s, l, ()) ∈ t
  | f :: t, s, l, h => by
    rw [Baa] at h
    split at h
    · rename_i e; subst e; cases h; exact List.mem_cons_self
    · exact List.mem_cons_of_mem _ (Adb h)
theorem Nfa {a b : Str} (h : ltS a b) : a ≠ b := fun e => Hva b (e ▸ h)
theorem Ecb (s : Str) (l : List Str) : Jba [] s l = [(s, l, ())] := by simp [Jba, at_, gt_]
theorem Fjb (f : Yka) (t : Aha) (s : Str) (l : List Str) (h : f.1 = s) : Jba (f :: t) s l = (s, l, ()) :: t := by
  unfold Jba
  rw [Dqb, if_pos h, if_pos (by simp)]; rfl
theorem Jpb (f : Yka) (t : Aha) (s : Str) (l : List Str) (h : ltS f.1 s) : Jba (f :: t) s l = f :: Jba t s l := by
  unfold Jba
  rw [Dqb, if_neg (Nfa h), Hgb, if_neg (Xda h), List.length_cons]
  by_cases k : at_ t s < t.length
  · rw [if_pos (by omega), if_pos k]; rfl
  · rw [if_neg (by omega), if_neg k]; rfl
theorem Job (f : Yka) (t : Aha) (s : Str) (l : List Str) (hr : RT (f :: t)) (h : ltS s f.1) : Jba (f :: t) s l = (s, l, ()) :: f :: t := by
  have hn : Aja (f :: t) s = none := Fba fun g hg => by
    rcases List.mem_cons.1 hg with rfl | hg
    · exact (Nfa h).symm
    · exact (Nfa (Hca h ((List.pairwise_cons.1 hr).1 g hg))).symm
  have ha : ¬ at_ (f :: t) s < (f :: t).length := by rw [Wma, hn]; simp
  unfold Jba
  rw [if_neg ha, Hgb, if_pos h]; rfl
theorem Aqb : ∀ {t : Aha} {s : Str} {l : List Str} {g : Yka}, g ∈ Jba t s l → g = (s, l, ()) ∨ g ∈ t := by
  intro t s l g h
  unfold Jba at h
  split at h
  · rcases List.mem_or_eq_of_mem_set h with h | h
    · exact .inr h
    · exact .inl h
  · simp only [List.mem_append, List.mem_cons] at h
    rcases h with h | h | h
    · exact .inr (List.mem_of_mem_take h)
    · exact .inl h
    · exact .inr (List.mem_of_mem_drop h)
theorem Bra : ∀ {t : Aha} (s : Str) (l : List Str), RT t → RT (Jba t s l)
  | [], s, l, _ => by rw [Ecb]; exact List.pairwise_singleton _ _
  | f :: t, s, l, hr => by
    obtain ⟨h1, h2⟩ := List.pairwise_cons.1 hr
    rcases Lra f.1 s with h | h | h
    · rw [Jpb _ _ _ _ h]
      refine List.pairwise_cons.2 ⟨fun g hg => ?_, Bra s l h2⟩
      rcases Aqb hg with rfl | hg
      · exact h
      · exact h1 g hg
    · rw [Fjb _ _ _ _ h]
      refine List.pairwise_cons.2 ⟨fun g hg => ?_, h2⟩
      rw [← h]; exact h1 g hg
    · rw [Job _ _ _ _ hr h]
      refine List.pairwise_cons.2 ⟨fun g hg => ?_, hr⟩
      rcases List.mem_cons.1 hg with rfl | hg
      · exact h
      · exact Hca h (h1 g hg)
theorem Bqa : ∀ {t : Aha} (s : Str) (l : List Str) (x : Str), RT t → Aja (Jba t s l) x = if x = s then some l else Aja t x
  | [], s, l, x, _ => by
    rw [Ecb, Baa]
    by_cases h : x = s
    · rw [if_pos h.symm, if_pos h]
    · rw [if_neg fun e => h e.symm, if_neg h]
  | f :: t, s, l, x, hr => by
    obtain ⟨h1, h2⟩ := List.pairwise_cons.1 hr
    rcases Lra f.1 s with h | h | h
    · rw [Jpb _ _ _ _ h, Baa, Bqa s l x h2, Baa]
      by_cases k : f.1 = x
      · rw [if_pos k, if_pos k, if_neg fun e => Nfa h (k.trans e)]
      · rw [if_neg k, if_neg k]
    · rw [Fjb _ _ _ _ h, Baa, Baa]
      by_cases k : x = s
      · rw [if_pos k.symm, if_pos k]
      · rw [if_neg fun e => k e.symm, if_neg k, if_neg fun e => k (e.symm.trans h)]
    · rw [Job _ _ _ _ hr h, Baa]
      by_cases k : x = s
      · rw [if_pos k.symm, if_pos k]
      · rw [if_neg fun e => k e.symm, if_neg k]
theorem Jkb (t : Aha) (s : Str) (l : List Str) : (Jba t s l).length = if (Aja t s).isSome then t.length else t.length + 1 := by
  unfold Jba
  by_cases h : at_ t s < t.length
  · rw [if_pos h, if_pos ((Wma t s).1 h), List.length_set]
  · rw [if_neg h, if_neg (fun e => h ((Wma t s).2 e)), List.length_append, List.length_cons, List.length_take, List.length_drop]; omega
theorem Kcb (s : Str) : Qoa [] s = [] := rfl
theorem Ilb (f : Yka) (t : Aha) (s : Str) : Qoa (f :: t) s = if f.1 = s then t else f :: Qoa t s := by
  unfold Qoa
  rw [Dqb]
  by_cases h : f.1 = s
  · rw [if_pos h, if_pos h]; rfl
  · rw [if_neg h, if_neg h]; rfl
theorem Drb {t : Aha} {s : Str} {g : Yka} (h : g ∈ Qoa t s) : g ∈ t := List.mem_of_mem_eraseIdx h
theorem Dga {t : Aha} (s : Str) (h : RT t) : RT (Qoa t s) := h.sublist (List.eraseIdx_sublist _ _)
theorem Gwa : ∀ {t : Aha} (s x : Str), RT t → Aja (Qoa t s) x = if x = s then none else Aja t x
  | [], s, x, _ => by rw [Kcb, Afb]; split <;> rfl
  | f :: t, s, x, hr => by
    obtain ⟨h1, h2⟩ := List.pairwise_cons.1 hr
    rw [Ilb, Baa]
    by_cases h : f.1 = s
    · rw [if_pos h]
      by_cases k : x = s
      · rw [if_pos k]
        exact Fba fun g hg e => Nfa (h1 g hg) ((h.trans k.symm).trans e.symm)
      · rw [if_neg k, if_neg fun e => k (e.symm.trans h)]
    · rw [if_neg h, Baa, Gwa s x h2]
      by_cases k : f.1 = x
      · rw [if_pos k, if_pos k, if_neg fun e => h (k.trans e)]
      · rw [if_neg k, if_neg k]
theorem Gvb (t : Aha) (s : Str) : (Qoa t s).length ≤ t.length := by
  rw [Qoa, List.length_eraseIdx]; split <;> omega
theorem Mma : ∀ {t u : Aha}, RT t → RT u → (∀ x, Aja t x = Aja u x) → t = u
  | [], [], _, _, _ => rfl
  | [], g :: u, _, _, h => by
    have := h g.1; rw [Afb, Baa, if_pos rfl] at this; cases this
  | f :: t, [], _, _, h => by
    have := h f.1; rw [Afb, Baa, if_pos rfl] at this; cases this
  | f :: t, g :: u, ht, hu, h => by
    obtain ⟨t1, t2⟩ := List.pairwise_cons.1 ht
    obtain ⟨u1, u2⟩ := List.pairwise_cons.1 hu
    have hfg : f.1 = g.1 := by
      rcases Lra f.1 g.1 with k | k | k
      · have e : Aja (g :: u) f.1 = none := Fba fun a ha => by
          rcases List.mem_cons.1 ha with rfl | ha
          · exact (Nfa k).symm
          · exact (Nfa (Hca k (u1 a ha))).symm
        have := h f.1
        rw [e, Baa, if_pos rfl] at this; cases this
      · exact k
      · have e : Aja (f :: t) g.1 = none := Fba fun a ha => by
          rcases List.mem_cons.1 ha with rfl | ha
          · exact (Nfa k).symm
          · exact (Nfa (Hca k (t1 a ha))).symm
        have := h g.1
        rw [e, Baa, if_pos rfl] at this; cases this
    have hl := h f.1
    rw [Baa, if_pos rfl, Baa, if_pos hfg.symm] at hl
    have e : f = g := Fbb hfg (Option.some.inj hl)
    subst e
    congr 1
    refine Mma t2 u2 fun x => ?_
    have hx := h x
    rw [Baa, Baa] at hx
    by_cases k : f.1 = x
    · rw [Fba fun a ha e => Nfa (t1 a ha) (k.trans e.symm), Fba fun a ha e => Nfa (u1 a ha) (k.trans e.symm)]
    · rwa [if_neg k, if_neg k] at hx
theorem Ffb : ∀ {t : Aha} {q : Option Str}, Dxb q t = true ↔ (∀ f ∈ t, Eka f.1 = true ∧ Uka f.2.1 = true) ∧ RT t ∧ ∀ a, q = some a → ∀ f ∈ t, ltS a f.1
  | [], q => by simp [Dxb]
  | f :: t, q => by
    have ih := Ffb (t := t) (q := some f.1)
    rw [show Dxb q (f :: t) = (Eka f.1 && (Uka f.2.1 && ((match q with | some q => decide (ltS q f.1) | none => true) && Dxb (some f.1) t))) from by cases q <;> rfl, Bool.and_eq_true, Bool.and_eq_true, Bool.and_eq_true, ih, show RT (f :: t) ↔ _ from List.pairwise_cons]
    constructor
    · rintro ⟨h1, h2, h3, h4, h5, h6⟩
      refine ⟨fun g hg => ?_, ⟨h6 _ rfl, h5⟩, fun a ha g hg => ?_⟩
      · rcases List.mem_cons.1 hg with rfl | hg
        · exact ⟨h1, h2⟩
        · exact h4 g hg
      · subst ha
        simp only [decide_eq_true_eq] at h3
        rcases List.mem_cons.1 hg with rfl | hg
        · exact h3
        · exact Hca h3 (h6 _ rfl g hg)
    · rintro ⟨h1, ⟨h2, h3⟩, h4⟩
      refine ⟨(h1 f List.mem_cons_self).1, (h1 f List.mem_cons_self).2, ?_, fun g hg => h1 g (List.mem_cons_of_mem _ hg), h3, fun a ha g hg => ?_⟩
      · cases q with
        | none => rfl
        | some a => exact decide_eq_true (h4 a rfl f List.mem_cons_self)
      · cases ha; exact h2 g hg
theorem Jfa {t : Aha} : Nka t = true ↔ (∀ f ∈ t, Eka f.1 = true ∧ Uka f.2.1 = true) ∧ RT t ∧ t.length ≤ 30 := by
  rw [Nka, Bool.and_eq_true, Ffb, decide_eq_true_eq]
  constructor
  · rintro ⟨⟨h1, h2, _⟩, h3⟩; exact ⟨h1, h2, h3⟩
  · rintro ⟨h1, h2, h3⟩; exact ⟨⟨h1, h2, by simp⟩, h3⟩
theorem Klb {t : Aha} (s : Str) (h : Nka t = true) : Nka (Qoa t s) = true := by
  rw [Jfa] at *
  obtain ⟨h1, h2, h3⟩ := h
  exact ⟨fun f hf => h1 f (Drb hf), Dga s h2, Nat.le_trans (Gvb t s) h3⟩
theorem Kmb {t : Aha} (s : Str) (l : List Str) (h : Nka t = true) (hs : Eka s = true) (hl : Uka l = true) : Nka (Jba t s l) = ((Aja t s).isSome || decide (t.length < 30)) := by
  rw [Bool.eq_iff_iff, Jfa, Jkb]
  rw [Jfa] at h
  obtain ⟨h1, h2, h3⟩ := h
  constructor
  · rintro ⟨_, _, k⟩
    cases hg : (Aja t s).isSome with
    | true => rfl
    | false => rw [hg, if_neg (by simp)] at k; simp; omega
  · intro k
    refine ⟨fun f hf => ?_, Bra s l h2, ?_⟩
    · rcases Aqb hf with rfl | hf
      · exact ⟨hs, hl⟩
      · exact h1 f hf
    · cases hg : (Aja t s).isSome with
      | true => simpa using h3
      | false => rw [hg] at k; simp at k; simp; omega
theorem Txa {t : Aha} (h : Nka t = true) : RT t := (Jfa.1 h).2.1
theorem Kdb {t : Aha} (s : Str) (l : List Str) (h : RT t) (hn : Aja t s = none) : Qoa (Jba t s l) s = t := by
  refine Mma (Dga _ (Bra _ _ h)) h fun x => ?_
  rw [Gwa _ _ (Bra _ _ h), Bqa _ _ _ h]
  by_cases k : x = s
  · rw [if_pos k, k, hn]
  · rw [if_neg k, if_neg k]
def Jca (a b : List Str) (i : Nat) : List Int := (List.range (b.length + 1)).map fun j => ((sRa (a.drop i) (b.drop j) : Nat) : Int)
theorem Hja (a b : List Str) (i : Nat) : (Jca a b i).length = b.length + 1 := by simp [Jca]
theorem Jga (a b : List Str) (i j : Nat) (h : j ≤ b.length) (d : Int) : (Jca a b i).getD j d = ((sRa (a.drop i) (b.drop j) : Nat) : Int) := by
  rw [Jca, List.getD_eq_getElem?_getD, List.getElem?_map, List.getElem?_range (by omega)]; rfl
theorem Asb (a b : List Str) : (lIb a b).length = a.length + 1 := by simp [lIb]
theorem Arb (a b : List Str) (i : Nat) (h : i ≤ a.length) (d : List Int) : (lIb a b).getD i d = Jca a b i := by
  rw [lIb, List.getD_eq_getElem?_getD, List.getElem?_map, List.getElem?_range (by omega)]; rfl
theorem Xna (a b : List Str) (i : Nat) (h : a.length ≤ i) : Jca a b i = List.replicate (b.length + 1) 0 := by
  unfold Jca
  rw [List.drop_eq_nil_of_le h]
  simp only [cIb, Int.natCast_zero]
  apply List.ext_getElem <;> simp
theorem Isb {α : Type} (x y : List α) (k : Nat) (d : α) (h : k < x.length) : (x ++ y).getD k d = x.getD k d := by
  rw [List.getD_eq_getElem?_getD, List.getElem?_append_left h, ← List.getD_eq_getElem?_getD]
theorem Hcb {α : Type} (x y : List α) (k : Nat) (d : α) (h : x.length ≤ k) : (x ++ y).getD k d = y.getD (k - x.length) d := by
  rw [List.getD_eq_getElem?_getD, List.getElem?_append_right h, ← List.getD_eq_getElem?_getD]
theorem Hdb {α : Type} (x : List α) (i k : Nat) (d : α) : (x.drop i).getD k d = x.getD (i + k) d := by
  rw [List.getD_eq_getElem?_getD, List.getElem?_drop, ← List.getD_eq_getElem?_getD]
theorem Heb {α : Type} (x : List α) (i k : Nat) (d : α) (h : k < i) : (x.take i).getD k d = x.getD k d := by
  rw [List.getD_eq_getElem?_getD, List.getElem?_take, if_pos h, ← List.getD_eq_getElem?_getD]
def Hpb {α : Type} (k : Nat) (x y : List α) : List α := x.take k ++ y.drop k
theorem Vka {α : Type} (k : Nat) (x y : List α) (h : x.length = y.length) : (Hpb k x y).length = x.length := by
  simp only [Hpb, List.length_append, List.length_take, List.length_drop]; omega
theorem Sra {α : Type} (k j : Nat) (x y : List α) (h : x.length = y.length) (hk : k ≤ x.length) (d : α) : (Hpb k x y).getD j d = if j < k then x.getD j d else y.getD j d := by
  unfold Hpb
  split
  · rename_i hj
    rw [Isb _ _ _ _ (by rw [List.length_take]; omega), Heb _ _ _ _ hj]
  · rename_i hj
    rw [Hcb _ _ _ _ (by rw [List.length_take]; omega), Hdb, List.length_take]
    congr 1; omega
theorem Hqb {α : Type} (x y : List α) : Hpb 0 x y = y := by simp [Hpb]
theorem Izb {α : Type} (k : Nat) (x y : List α) (h : x.length = y.length) (hk : k < x.length) (d : α) : (Hpb (k + 1) x y).set k (y.getD k d) = Hpb k x y := by
  apply List.ext_getElem?
  intro i
  have h1 := Vka (k + 1) x y h
  have h2 := Vka k x y h
  rw [List.getElem?_set, h1]
  split
  · rename_i he
    subst he
    have := Sra k k x y h (by omega) d
    rw [if_neg (by omega), List.getD_eq_getElem?_getD, List.getElem?_eq_getElem (by omega)] at this
    rw [List.getElem?_eq_getElem (by omega)]
    simpa using this.symm
  · rename_i he
    by_cases hi : i < x.length
    · have a1 := Sra (k + 1) i x y h (by omega) d
      have a2 := Sra k i x y h (by omega) d
      rw [List.getD_eq_getElem?_getD, List.getElem?_eq_getElem (by omega)] at a1 a2
      rw [List.getElem?_eq_getElem (by omega), List.getElem?_eq_getElem (by omega)]
      simp only [Option.getD_some] at a1 a2
      rw [a1, a2]
      by_cases hik : i < k
      · rw [if_pos (by omega), if_pos hik]
      · rw [if_neg (by omega), if_neg hik]
    · rw [List.getElem?_eq_none (by omega), List.getElem?_eq_none (by omega)]
theorem Wta {a : List Str} {i : Nat} (h : i < a.length) : a.drop i = a.getD i ByteArray.empty :: a.drop (i + 1) := by
  rw [List.drop_eq_getElem_cons h, List.getD_eq_getElem?_getD, List.getElem?_eq_getElem h]; rfl
theorem Ivb (a b : List Str) (i j : Nat) (hi : i < a.length) (hj : j < b.length) (u v : Int) : (Jca a b i).getD j u = if a.getD i ByteArray.empty = b.getD j ByteArray.empty then (Jca a b (i + 1)).getD (j + 1) v + 1 else
    bif decide ((Jca a b (i + 1)).getD j v < (Jca a b i).getD (j + 1) v) then (Jca a b i).getD (j + 1) v else (Jca a b (i + 1)).getD j v := by
  rw [Jga _ _ _ _ (by omega), Jga _ _ _ _ (by omega), Jga _ _ _ _ (by omega), Jga _ _ _ _ (by omega), Wta hi, Wta hj, xXa]
  split
  · omega
  · split
    · rename_i h; rw [decide_eq_false (by omega)]; rfl
    · rename_i h; rw [decide_eq_true (by omega)]; rfl
theorem Kyb (a b : List Str) (i j : Nat) (d : Int) (hd : d = 0) (hl : b.length < 1000000000) : 0 ≤ (Jca a b i).getD j d ∧ (Jca a b i).getD j d ≤ a.length := by
  by_cases h : j ≤ b.length
  · rw [Jga _ _ _ _ h]
    have := vWa (a.drop i) (b.drop j)
    rw [List.length_drop] at this
    omega
  · rw [List.getD_eq_getElem?_getD, List.getElem?_eq_none (by rw [Hja]; omega)]
    subst hd
    simp
theorem Qwa (t : List (List Int)) (z : List Int) (a b : List Str) (ha : a.length ≤ 1000000000) (hb : b.length < 1000000000) (i : Nat) (hi : i < a.length) : ∀ (k : Nat), k ≤ b.length →
    Hua (t, z, Hpb k (Jca a b (i + 1)) (Jca a b i), a, b, Jca a b (i + 1), (i : Int), (k : Int) - 1, ()) = some (t, z, Jca a b i, a, b, Jca a b (i + 1), (i : Int), -1, ())
  | 0, hk => by
    rw [Kza, Hqb]
    simp (disch := omega) only [Gaa, PP]
    rfl
  | k + 1, hk => by
    have hl1 := Hja a b (i + 1)
    have hl2 := Hja a b i
    have hl := Vka (k + 1) (Jca a b (i + 1)) (Jca a b i) (by omega)
    have e0 : (((k + 1 : Nat) : Int) - 1) = (k : Int) := by omega
    have hw : IntKind.wrap .i64 ((k : Int) + 1) = ((k + 1 : Nat) : Int) := Hna (by omega)
    have hw2 : IntKind.wrap .i64 ((k : Int) - 1) = (k : Int) - 1 := Axa (by omega) (by omega)
    have ih := Qwa t z a b ha hb i hi k (by omega)
    have hm : ∀ d, (Hpb (k + 1) (Jca a b (i + 1)) (Jca a b i)).getD (k + 1) d = (Jca a b i).getD (k + 1) d := fun d => by rw [Sra _ _ _ _ (by omega) (by omega), if_neg (by omega)]
    have hx : ∀ d, a.getD i d = a.getD i ByteArray.empty := fun d => by
      rw [List.getD_eq_getElem?_getD, List.getD_eq_getElem?_getD, List.getElem?_eq_getElem (by omega)]; rfl
    have hy : ∀ d, b.getD k d = b.getD k ByteArray.empty := fun d => by
      rw [List.getD_eq_getElem?_getD, List.getD_eq_getElem?_getD, List.getElem?_eq_getElem (by omega)]; rfl
    have hs := Izb k (Jca a b (i + 1)) (Jca a b i) (by omega) (by omega) 0
    have hst := Ivb a b i k hi (by omega) 0 0
    have hbd := Kyb a b (i + 1) (k + 1) 0 rfl hb
    have hw3 : IntKind.wrap .i64 ((Jca a b (i + 1)).getD (k + 1) 0 + 1) = (Jca a b (i + 1)).getD (k + 1) 0 + 1 := Axa (by omega) (by omega)
    have hd : ∀ d : Int, (Ty.dfl (Ty.int IntKind.i64) : Int) = 0 := fun _ => rfl
    rw [Kza, e0]
    by_cases heq : a.getD i ByteArray.empty = b.getD k ByteArray.empty
    · rw [if_pos heq] at hst
      simp (disch := omega) only [Gaa, PP, hw, hw2, hm, hl, List.length_set, List.set_set, heq, decide_true, hx, hy]
      simp only [hd 0, hw3]
      simp only [← hst, hs]
      exact ih
    · rw [if_neg heq] at hst
      simp (disch := omega) only [Gaa, PP, hw, hw2, hm, hl, List.length_set, heq, decide_false, hx, hy]
      simp only [hd 0, ← hst, hs]
      exact ih
theorem Cpb {α : Type} (x y : List α) (h : x.length = y.length) : hYb x 0 y = y := by
  simp [hYb, h]
theorem Qva (a b : List Str) (ha : a.length ≤ 1000000000) (hb : b.length < 1000000000) : ∀ (k : Nat), k ≤ a.length + 1 → ∀ z : List Int,
    ∃ z' x, Kca (List.replicate k [] ++ (lIb a b).drop k, z, a, b, Jca a b k, (k : Int) - 1, ()) = some (lIb a b, z', a, b, x, -1, ())
  | 0, hk, z => by
    rw [Qua]
    simp (disch := omega) only [Nqa, PP]
    exact ⟨_, _, rfl⟩
  | k + 1, hk, z => by
    have hM := Aia
    have hl := Hja a b (k + 1)
    have e0 : (((k + 1 : Nat) : Int) - 1) = (k : Int) := by omega
    have hw : IntKind.wrap .i64 ((b.length : Int) + 1) = ((b.length + 1 : Nat) : Int) := Hna (by omega)
    have hw2 : IntKind.wrap .i64 ((k : Int) - 1) = (k : Int) - 1 := Axa (by omega) (by omega)
    have hw4 : IntKind.wrap .i64 ((b.length : Int) - 1) = (b.length : Int) - 1 := Axa (by omega) (by omega)
    have ho : ∀ x : List Int, x.length = b.length + 1 → hYb x 0 ((Jca a b (k + 1)).take (x.length - 0)) = Jca a b (k + 1) := fun x hx => by
      rw [List.take_of_length_le (by omega), Cpb _ _ (by omega)]
    have h9 : ∃ row, row = Jca a b k ∧ ∃ j, Hua (List.replicate (k + 1) [] ++ (lIb a b).drop (k + 1), z, Jca a b (k + 1), a, b, Jca a b (k + 1), (k : Int), (b.length : Int) - 1, ()) = some (List.replicate (k + 1) [] ++ (lIb a b).drop (k + 1), z, row, a, b, Jca a b (k + 1), (k : Int), j, ()) := by
      by_cases hka : k < a.length
      · refine ⟨_, rfl, -1, ?_⟩
        have := Qwa (List.replicate (k + 1) [] ++ (lIb a b).drop (k + 1)) z a b ha hb k hka b.length (Nat.le_refl _)
        have hmx : Hpb b.length (Jca a b (k + 1)) (Jca a b k) = Jca a b (k + 1) := by
          apply List.ext_getElem?
          intro i
          have l1 := Vka b.length (Jca a b (k + 1)) (Jca a b k) (by rw [Hja, Hja])
          have l2 := Hja a b k
          by_cases hi : i < b.length + 1
          · have q1 := Sra b.length i (Jca a b (k + 1)) (Jca a b k) (by rw [Hja, Hja]) (by omega) 0
            rw [List.getElem?_eq_getElem (by omega), List.getElem?_eq_getElem (by omega)]
            rw [List.getD_eq_getElem?_getD, List.getElem?_eq_getElem (by omega)] at q1
            simp only [Option.getD_some] at q1
            rw [q1]
            by_cases hib : i < b.length
            · rw [if_pos hib, List.getD_eq_getElem?_getD, List.getElem?_eq_getElem (by omega)]; rfl
            · have : i = b.length := by omega
              subst this
              rw [if_neg (by omega), Jga _ _ _ _ (Nat.le_refl _)]
              have q2 := Jga a b (k + 1) b.length (Nat.le_refl _) 0
              rw [List.getD_eq_getElem?_getD, List.getElem?_eq_getElem (by omega)] at q2
              simp only [Option.getD_some] at q2
              rw [q2]
              rw [List.drop_eq_nil_of_le (Nat.le_refl b.length), xYa, xYa]
          · rw [List.getElem?_eq_none (by omega), List.getElem?_eq_none (by omega)]
        rw [hmx] at this
        exact this
      · refine ⟨Jca a b (k + 1), by rw [Xna _ _ _ (by omega), Xna _ _ _ (by omega)], (b.length : Int) - 1, ?_⟩
        rw [Kza]
        by_cases hb0 : b.length = 0
        · simp (disch := omega) only [Gaa, PP]
        · simp (disch := omega) only [Gaa, PP]
    obtain ⟨row, hrow, j, e9⟩ := h9
    subst hrow
    have htl := Asb a b
    have hset : (List.replicate (k + 1) [] ++ (lIb a b).drop (k + 1)).set k (Jca a b k) = List.replicate k [] ++ (lIb a b).drop k := by
      have e1 : List.replicate (k + 1) ([] : List Int) = List.replicate k [] ++ [[]] := List.replicate_succ'
      have e2 : (lIb a b).drop k = Jca a b k :: (lIb a b).drop (k + 1) := by
        rw [List.drop_eq_getElem_cons (by omega)]
        have := Arb a b k (by omega) []
        rw [List.getD_eq_getElem?_getD, List.getElem?_eq_getElem (by omega)] at this
        simp only [Option.getD_some] at this
        rw [this]
      rw [e1, e2, List.append_assoc, List.set_append_right _ _ (by simp), List.length_replicate, Nat.sub_self]
      rfl
    obtain ⟨z', x, ih⟩ := Qva a b ha hb k (by omega) z
    refine ⟨z', x, ?_⟩
    have hll : (List.replicate (k + 1) ([] : List Int) ++ (lIb a b).drop (k + 1)).length = a.length + 1 := by
      rw [List.length_append, List.length_replicate, List.length_drop, htl]; omega
    rw [Qua, e0]
    simp (disch := first | omega | (simp only [List.length_replicate]; omega)) only [Nqa, Aka, Aba, Aaa, Int.toNat_natCast, hw, hw2, hw4, List.length_replicate, ho, Nat.sub_zero, hl, e9, hll, List.length_set, hset, Option.bind_some, Sum.elim_inl, List.take_of_length_le, Cpb]
    exact ih
theorem Dwb (a b : List Str) (ha : a.length ≤ 1000000000) (hb : b.length < 1000000000) : Via (a, b, ()) = some (lIb a b, ()) := by
  have hM := Aia
  obtain ⟨z', x, e⟩ := Qva a b ha hb (a.length + 1) (Nat.le_refl _) (List.replicate (b.length + 1) 0)
  rw [Xna _ _ _ (by omega), List.drop_eq_nil_of_le (by rw [Asb]; exact Nat.le_refl _), List.append_nil] at e
  have e0 : (((a.length + 1 : Nat) : Int) - 1) = (a.length : Int) := by omega
  rw [e0] at e
  have hw : IntKind.wrap .i64 ((b.length : Int) + 1) = ((b.length + 1 : Nat) : Int) := Hna (by omega)
  have hw2 : IntKind.wrap .i64 ((a.length : Int) + 1) = ((a.length + 1 : Nat) : Int) := Hna (by omega)
  rw [Dvb]
  simp (disch := first | omega | (simp only [List.length_replicate]; omega)) only [Bab, Aka, Aba, Aaa, Int.toNat_natCast, hw, hw2, e]
abbrev Dnb := Int × Int × Unit
def Dca : List Str → List Str → Int → Int → List Dnb
  | x :: xs, y :: ys, i, j => if x = y then (i, j, ()) :: Dca xs ys (i + 1) (j + 1) else if sRa (x :: xs) ys ≤ sRa xs (y :: ys) then Dca xs (y :: ys) (i + 1) j else Dca (x :: xs) ys i (j + 1)
  | _, _, _, _ => []
termination_by a b => a.length + b.length
theorem Hwa (b : List Str) (i j : Int) : Dca [] b i j = [] := by rw [Dca]; intros; simp_all
theorem Mca (a : List Str) (i j : Int) : Dca a [] i j = [] := by cases a <;> (rw [Dca]; intros; simp_all)
theorem Mba (x y : Str) (xs ys : List Str) (i j : Int) : Dca (x :: xs) (y :: ys) i j = if x = y then (i, j, ()) :: Dca xs ys (i + 1) (j + 1) else if sRa (x :: xs) ys ≤ sRa xs (y :: ys) then Dca xs (y :: ys) (i + 1) j else Dca (x :: xs) ys i (j + 1) := by rw [Dca]
theorem Cqb {a b : List Str} {i j : Nat} (hi : i < a.length) (hj : j < b.length) : Dca (a.drop i) (b.drop j) i j = if a.getD i ByteArray.empty = b.getD j ByteArray.empty then ((i : Int), (j : Int), ()) :: Dca (a.drop (i + 1)) (b.drop (j + 1)) ((i + 1 : Nat) : Int) ((j + 1 : Nat) : Int)
    else if (Jca a b i).getD (j + 1) 0 ≤ (Jca a b (i + 1)).getD j 0 then Dca (a.drop (i + 1)) (b.drop j) ((i + 1 : Nat) : Int) j else Dca (a.drop i) (b.drop (j + 1)) i ((j + 1 : Nat) : Int) := by
  rw [Jga _ _ _ _ (by omega), Jga _ _ _ _ (by omega), Wta hi, Wta hj, Mba]
  simp only [Int.natCast_add, Int.natCast_one, Int.ofNat_le]
theorem Cbb {α : Type} (l : List α) (k : Nat) (h : k < l.length) (d d' : α) : l.getD k d = l.getD k d' := by
  rw [List.getD_eq_getElem?_getD, List.getD_eq_getElem?_getD, List.getElem?_eq_getElem h]; rfl
theorem Cjb (a b : List Str) (ha : a.length ≤ 1000000000) (hb : b.length < 1000000000) : ∀ (n i j : Nat) (l : List Dnb), (a.length - i) + (b.length - j) ≤ n → i ≤ a.length → j ≤ b.length → l.length ≤ i →
    ∃ x y, Fka (l, a, b, lIb a b, (i : Int), (j : Int), ()) = some (l ++ Dca (a.drop i) (b.drop j) i j, a, b, lIb a b, x, y, ()) := by
  have hM := Aia
  intro n
  induction n with
  | zero =>
    intro i j l hn hi hj hl
    have e1 : i = a.length := by omega
    subst e1
    rw [Eja]
    simp (disch := omega) only [Bwa, PP]
    rw [List.drop_eq_nil_of_le (Nat.le_refl _), Hwa, List.append_nil]
    exact ⟨_, _, rfl⟩
  | succ n ih =>
    intro i j l hn hi hj hl
    by_cases hia : i = a.length
    · subst hia
      rw [Eja]
      simp (disch := omega) only [Bwa, PP]
      rw [List.drop_eq_nil_of_le (Nat.le_refl _), Hwa, List.append_nil]
      exact ⟨_, _, rfl⟩
    · by_cases hjb : j = b.length
      · subst hjb
        rw [Eja]
        simp (disch := omega) only [Bwa, PP]
        rw [List.drop_eq_nil_of_le (Nat.le_refl b.length), Mca, List.append_nil]
        exact ⟨_, _, rfl⟩
      · have hw : IntKind.wrap .i64 ((i : Int) + 1) = ((i + 1 : Nat) : Int) := Hna (by omega)
        have hw2 : IntKind.wrap .i64 ((j : Int) + 1) = ((j + 1 : Nat) : Int) := Hna (by omega)
        have hx := Cbb a i (by omega)
        have hy := Cbb b j (by omega)
        have ht1 := Arb a b i (by omega)
        have ht2 := Arb a b (i + 1) (by omega)
        have hr1 := Hja a b i
        have hr2 := Hja a b (i + 1)
        have htl := Asb a b
        rw [Eja, Cqb (by omega) (by omega)]
        by_cases heq : a.getD i ByteArray.empty = b.getD j ByteArray.empty
        · obtain ⟨x, y, e⟩ := ih (i + 1) (j + 1) (l ++ [((i : Int), (j : Int), ())]) (by omega) (by omega) (by omega) (by simp; omega)
          refine ⟨x, y, ?_⟩
          simp (disch := omega) only [Bwa, PP, hw, hw2, heq, decide_true, e, if_true]
          rw [List.append_assoc]; rfl
        · rw [if_neg heq]
          by_cases hc : (Jca a b i).getD (j + 1) 0 ≤ (Jca a b (i + 1)).getD j 0
          · obtain ⟨x, y, e⟩ := ih (i + 1) j l (by omega) (by omega) (by omega) (by omega)
            refine ⟨x, y, ?_⟩
            rw [if_pos hc]
            simp (disch := omega) only [Bwa, PP, hw, hw2, heq, decide_false, ht1, ht2, e]
          · obtain ⟨x, y, e⟩ := ih i (j + 1) l (by omega) (by omega) (by omega) (by omega)
            refine ⟨x, y, ?_⟩
            rw [if_neg hc]
            simp (disch := omega) only [Bwa, PP, hw, hw2, heq, decide_false, ht1, ht2, e]
theorem Opa (a b : List Str) (ha : a.length ≤ 1000000000) (hb : b.length < 1000000000) : Sqa (a, b, ()) = some (Dca a b 0 0, ()) := by
  obtain ⟨x, y, e⟩ := Cjb a b ha hb _ 0 0 [] (Nat.le_refl _) (by omega) (by omega) (by simp)
  simp only [Int.natCast_zero, List.drop_zero, List.nil_append] at e
  rw [Cib]
  simp (disch := omega) only [Yna, PP, Dwb a b ha hb, e]
abbrev Geb := Int × Int × List Str × Unit
abbrev Ppa := Int × List Str × List Str × Unit
abbrev Bua := Int × Str × Str × Ppa × Unit
def Cta (b : List Str) : List Dnb → Int → Int → List Geb
  | [], _, _ => []
  | p :: ps, i, j => (if p.1 > i ∨ p.2.1 > j then [(i, p.1 - i, (b.drop j.toNat).take (p.2.1.toNat - j.toNat), ())] else []) ++ Cta b ps (p.1 + 1) (p.2.1 + 1)
def OkE (n m : Nat) : List Dnb → Int → Int → Prop
  | [], _, _ => True
  | p :: ps, i, j => i ≤ p.1 ∧ p.1 ≤ n ∧ j ≤ p.2.1 ∧ p.2.1 ≤ m ∧ OkE n m ps (p.1 + 1) (p.2.1 + 1)
theorem Lva (n m : Nat) : ∀ (a b : List Str) (i j : Int), i + a.length ≤ n → j + b.length ≤ m → OkE n m (Dca a b i j ++ [((n : Int), (m : Int), ())]) i j
  | [], b, i, j, h1, h2 => by rw [Hwa]; simp only [List.length_nil, List.nil_append, OkE] at *; exact ⟨by omega, by omega, by omega, by omega, trivial⟩
  | x :: xs, [], i, j, h1, h2 => by rw [Mca]; simp only [List.length_nil, List.nil_append, OkE] at *; exact ⟨by omega, by omega, by omega, by omega, trivial⟩
  | x :: xs, y :: ys, i, j, h1, h2 => by
    rw [Mba]
    simp only [List.length_cons] at h1 h2
    split
    · rw [List.cons_append]
      exact ⟨by simp, by simp; omega, by simp, by simp; omega, Lva n m xs ys (i + 1) (j + 1) (by omega) (by omega)⟩
    · have pNb : ∀ (ps : List Dnb) (i j i' j' : Int), i' ≤ i → j' ≤ j → OkE n m ps i j → OkE n m ps i' j' := fun ps i j i' j' hi hj h => by
        cases ps with
        | nil => trivial
        | cons p ps => exact ⟨by have := h.1; omega, h.2.1, by have := h.2.2.1; omega, h.2.2.2⟩
      split
      · exact pNb _ _ _ _ _ (by omega) (by omega) (Lva n m xs (y :: ys) (i + 1) j (by omega) (by simp only [List.length_cons]; omega))
      · exact pNb _ _ _ _ _ (by omega) (by omega) (Lva n m (x :: xs) ys i (j + 1) (by simp only [List.length_cons]; omega) (by omega))
termination_by a b => a.length + b.length
theorem Lua : ∀ (a b : List Str) (i j : Int), (Dca a b i j).length ≤ a.length
  | [], b, i, j => by rw [Hwa]; simp
  | x :: xs, [], i, j => by rw [Mca]; simp
  | x :: xs, y :: ys, i, j => by
    have h1 := Lua xs ys (i + 1) (j + 1)
    have h2 := Lua xs (y :: ys) (i + 1) j
    have h3 := Lua (x :: xs) ys i (j + 1)
    rw [Mba]
    simp only [List.length_cons] at *
    split
    · simp only [List.length_cons]; omega
    · split <;> omega
termination_by a b => a.length + b.length
def Uoa (a b : List Str) : List Geb := Cta b (Dca a b 0 0 ++ [((a.length : Int), (b.length : Int), ())]) 0 0
theorem Ita (n : Nat) (ps : List Dnb) (a b : List Str) (q : Dnb) (hn : n ≤ 1000000000) (hb : b.length ≤ 1000000000) (hp : ps.length ≤ 2000000000) : ∀ (r : List Dnb) (k : Nat) (l : List Geb) (i j : Int), ps.drop k = r → k ≤ ps.length → l.length ≤ k → 0 ≤ i → 0 ≤ j → OkE n b.length (r ++ [q]) i j →
    ∃ l' x y, Gua (l, b, i, j, a, ps, (ps.length : Int), (k : Int), ()) = some (l', b, x, y, a, ps, (ps.length : Int), (ps.length : Int), ()) ∧ l' ++ Cta b [q] x y = l ++ Cta b (r ++ [q]) i j ∧ OkE n b.length [q] x y ∧ 0 ≤ x ∧ 0 ≤ y ∧ l'.length ≤ ps.length
  | [], k, l, i, j, h, hk, hl, hi, hj, ho => by
    have := Aga h hk
    subst this
    rw [Mza]
    simp (disch := omega) only [Faa, PP]
    exact ⟨_, _, _, rfl, rfl, ho, hi, hj, hl⟩
  | p :: r, k, l, i, j, h, hk, hl, hi, hj, ho => by
    obtain ⟨h1, h2, h3, h4⟩ := Aca h
    obtain ⟨o1, o2, o3, o4, o5⟩ := ho
    have hM := Aia
    have hw1 : IntKind.wrap .i64 (p.1 + 1) = p.1 + 1 := Axa (by omega) (by omega)
    have hw2 : IntKind.wrap .i64 (p.2.1 + 1) = p.2.1 + 1 := Axa (by omega) (by omega)
    have hw3 : IntKind.wrap .i64 (p.1 - i) = p.1 - i := Axa (by omega) (by omega)
    have ht : ((b.drop j.toNat).take (p.2.1.toNat - j.toNat)).length ≤ 1000000000 := by rw [List.length_take, List.length_drop]; omega
    rw [Mza, List.cons_append, Cta]
    by_cases hc : p.1 > i ∨ p.2.1 > j
    · obtain ⟨l', x, y, e, e2, e3⟩ := Ita n ps a b q hn hb hp r (k + 1) (l ++ [(i, p.1 - i, (b.drop j.toNat).take (p.2.1.toNat - j.toNat), ())]) (p.1 + 1) (p.2.1 + 1) h3 (by omega) (by simp; omega) (by omega) (by omega) o5
      refine ⟨l', x, y, ?_, by rw [e2, if_pos hc, List.append_assoc], e3⟩
      by_cases hc1 : p.1 > i
      · simp (disch := omega) only [Faa, PP, h2, hw1, hw2, hw3, e]
      · simp (disch := omega) only [Faa, PP, h2, hw1, hw2, hw3, e]
    · obtain ⟨l', x, y, e, e2, e3⟩ := Ita n ps a b q hn hb hp r (k + 1) l (p.1 + 1) (p.2.1 + 1) h3 (by omega) (by omega) (by omega) (by omega) o5
      refine ⟨l', x, y, ?_, by rw [e2, if_neg hc, List.nil_append], e3⟩
      simp (disch := omega) only [Faa, PP, h2, hw1, hw2, hw3, e]
theorem Zxa (a b : List Str) (ha : a.length ≤ 1000000000) (hb : b.length < 1000000000) : Pva (a, b, ()) = some (Uoa a b, ()) := by
  have hM := Aia
  have hpl := Lua a b 0 0
  obtain ⟨l', x, y, e, e2, e3, e4, e5, e6⟩ := Ita a.length (Dca a b 0 0) a b ((a.length : Int), (b.length : Int), ()) ha (by omega) (by omega) _ 0 [] 0 0 rfl (by omega) (by simp) (by omega) (by omega) (Lva a.length b.length a b 0 0 (by omega) (by omega))
  simp only [Int.natCast_zero, List.nil_append] at e e2
  obtain ⟨o1, o2, o3, o4, _⟩ := e3
  simp only at o1 o3
  have hw3 : IntKind.wrap .i64 ((a.length : Int) - x) = (a.length : Int) - x := Axa (by omega) (by omega)
  have ht : ((b.drop y.toNat).take (b.length - y.toNat)).length ≤ 1000000000 := by rw [List.length_take, List.length_drop]; omega
  have he : Uoa a b = l' ++ Cta b [((a.length : Int), (b.length : Int), ())] x y := by rw [e2]; rfl
  rw [Zwa, he, Cta]
  by_cases hc1 : (a.length : Int) > x
  · rw [if_pos (.inl hc1)]
    simp (disch := omega) only [Lxa, PP, Opa a b ha hb, e, hw3, Cta]
    rfl
  · by_cases hc2 : (b.length : Int) > y
    · rw [if_pos (.inr hc2)]
      simp (disch := omega) only [Lxa, PP, Opa a b ha hb, e, hw3, Cta]
      rfl
    · rw [if_neg (by simp only; omega)]
      simp (disch := omega) only [Lxa, PP, Opa a b ha hb, e, hw3, Cta]
      simp
def Jva (a : List Str) : List Geb → Int → List Ppa
  | [], _ => []
  | e :: es, by_ => (e.1 + by_, (a.drop e.1.toNat).take ((e.1 + e.2.1).toNat - e.1.toNat), e.2.2.1, ()) :: Jva a es (by_ + e.2.2.1.length - e.2.1)
def Pzb (a : List Str) (e : Geb) : Prop := 0 ≤ e.1 ∧ 0 ≤ e.2.1 ∧ e.1 + e.2.1 ≤ a.length ∧ e.2.2.1.length ≤ 1000000000
theorem Aib (a : List Str) (es : List Geb) (ha : a.length ≤ 1000000000) (he : ∀ e ∈ es, Pzb a e) (hs : es.length ≤ 1000000001) : ∀ (r : List Geb) (k : Nat) (l : List Ppa) (by_ : Int), es.drop k = r → k ≤ es.length → l.length ≤ k → -(k * 1000000000 : Int) ≤ by_ → by_ ≤ k * 1000000000 →
    ∃ x y, Lja (l, a, by_, es, (es.length : Int), (k : Int), ()) = some (l ++ Jva a r by_, a, x, es, (es.length : Int), y, ()) := by
  intro r
  induction r with
  | nil =>
    intro k l by_ h hk hl hb1 hb2
    have := Aga h hk
    subst this
    rw [Ska]
    simp (disch := omega) only [Rka, PP, Jva, List.append_nil]
    exact ⟨_, _, rfl⟩
  | cons e r ih =>
    intro k l by_ h hk hl hb1 hb2
    obtain ⟨h1, h2, h3, h4⟩ := Aca h
    obtain ⟨o1, o2, o3, o4⟩ := he e h4
    have hM := Aia
    have hw1 : IntKind.wrap .i64 (e.1 + e.2.1) = e.1 + e.2.1 := Axa (by omega) (by omega)
    have hw2 : IntKind.wrap .i64 (e.1 + by_) = e.1 + by_ := Axa (by omega) (by omega)
    have hw3 : IntKind.wrap .i64 ((e.2.2.1.length : Int) - e.2.1) = (e.2.2.1.length : Int) - e.2.1 := Axa (by omega) (by omega)
    have hw4 : IntKind.wrap .i64 (by_ + ((e.2.2.1.length : Int) - e.2.1)) = by_ + e.2.2.1.length - e.2.1 := by rw [Axa (by omega) (by omega)]; omega
    have ht : ((a.drop e.1.toNat).take ((e.1 + e.2.1).toNat - e.1.toNat)).length ≤ 1000000000 := by rw [List.length_take, List.length_drop]; omega
    obtain ⟨x, y, e9⟩ := ih (k + 1) (l ++ [(e.1 + by_, (a.drop e.1.toNat).take ((e.1 + e.2.1).toNat - e.1.toNat), e.2.2.1, ())]) (by_ + e.2.2.1.length - e.2.1) h3 (by omega) (by simp; omega) (by omega) (by omega)
    refine ⟨x, y, ?_⟩
    rw [Ska, Jva]
    simp (disch := omega) only [Rka, PP, h2, hw1, hw2, hw3, hw4, e9]
    rw [List.append_assoc]; rfl
theorem Byb (n : Nat) (a b : List Str) (ha : n ≤ a.length) (hb : b.length ≤ 1000000000) : ∀ (ps : List Dnb) (i j : Int), 0 ≤ i → 0 ≤ j → OkE n b.length ps i j → ∀ e ∈ Cta b ps i j, Pzb a e
  | [], i, j, hi, hj, ho, e, he => by simp [Cta] at he
  | p :: ps, i, j, hi, hj, ho, e, he => by
    obtain ⟨o1, o2, o3, o4, o5⟩ := ho
    rw [Cta, List.mem_append] at he
    rcases he with he | he
    · split at he
      · simp only [List.mem_singleton] at he
        subst he
        refine ⟨hi, by simp only; omega, by simp only; omega, ?_⟩
        simp only [List.length_take, List.length_drop]; omega
      · simp at he
    · exact Byb n a b ha hb ps _ _ (by omega) (by omega) o5 e he
theorem Zga (b : List Str) : ∀ (ps : List Dnb) (i j : Int), (Cta b ps i j).length ≤ ps.length
  | [], i, j => by simp [Cta]
  | p :: ps, i, j => by
    have := Zga b ps (p.1 + 1) (p.2.1 + 1)
    rw [Cta, List.length_append, List.length_cons]
    split <;> simp <;> omega
theorem Gxb (a b : List Str) (hb : b.length ≤ 1000000000) : ∀ e ∈ Uoa a b, Pzb a e := Byb a.length a b (Nat.le_refl _) hb _ 0 0 (by omega) (by omega) (Lva a.length b.length a b 0 0 (by omega) (by omega))
theorem Zha (a b : List Str) : (Uoa a b).length ≤ a.length + 1 := by
  have h1 := Zga b (Dca a b 0 0 ++ [((a.length : Int), (b.length : Int), ())]) 0 0
  have h2 := Lua a b 0 0
  rw [List.length_append] at h1
  simp only [Uoa, List.length_cons, List.length_nil] at *
  omega
def Nda (a b : List Str) : List Ppa := Jva a (Uoa a b) 0
theorem Fqb (a b : List Str) (ha : a.length ≤ 1000000000) (hb : b.length < 1000000000) : Wza (a, b, ()) = some (Nda a b, ()) := by
  have hel := Zha a b
  obtain ⟨x, y, e⟩ := Aib a (Uoa a b) ha (Gxb a b (by omega)) (by omega) _ 0 [] 0 rfl (by omega) (by simp) (by simp) (by simp)
  simp only [Int.natCast_zero, List.nil_append] at e
  rw [Fpb]
  simp (disch := omega) only [Erb, PP, Zxa a b ha hb, e]
  rfl
theorem Zka (a : List Str) : ∀ (es : List Geb) (x : Int), (Jva a es x).length = es.length
  | [], _ => rfl
  | e :: es, x => by rw [Jva, List.length_cons, List.length_cons, Zka a es]
def Mid (t : Aha) : Prop := t.length ≤ 1000 ∧ ∀ f ∈ t, f.2.1.length ≤ 1000
theorem Mid.wee {t : Aha} (h : Mid t) : Wee t := ⟨by have := h.1; omega, fun f hf => by have := h.2 f hf; omega⟩
theorem Mid.get {t : Aha} (h : Mid t) (s : Str) : ((Aja t s).getD []).length ≤ 1000 := by
  rw [Wva]
  split
  · rename_i hlt
    simp only [Option.getD_some]
    have := h.2 (t.getD (at_ t s) (ByteArray.empty, [], ())) (by rw [List.getD_eq_getElem?_getD, List.getElem?_eq_getElem hlt]; exact List.getElem_mem _)
    exact this
  · simp
abbrev noH : Ppa := (0, [], [], ())
def Hga (s : Str) (hs : List Ppa) : List Bua := hs.map fun h => (3, s, ByteArray.empty, h, ())
def Lha (a b : Aha) (s : Str) : List Bua := (if (Aja a s).isSome then [] else [(0, s, ByteArray.empty, noH, ())]) ++ (Hga s (Nda ((Aja a s).getD []) ((Aja b s).getD [])) ++
  (if (Aja b s).isSome then [] else [(1, s, ByteArray.empty, noH, ())]))
theorem Oua (s : Str) (b : Bool) (hs : List Ppa) (hl : hs.length ≤ 1000000000) : ∀ (r : List Ppa) (k : Nat) (l : List Bua), hs.drop k = r → k ≤ hs.length → l.length ≤ 10000000000 + k →
    Gga (l, s, b, hs, (hs.length : Int), (k : Int), ()) = some (l ++ Hga s r, s, b, hs, (hs.length : Int), (hs.length : Int), ())
  | [], k, l, h, hk, hb => by
    have := Aga h hk
    subst this
    rw [Ota]
    simp (disch := omega) only [Lya, PP, Hga, List.map_nil, List.append_nil]
  | x :: r, k, l, h, hk, hb => by
    obtain ⟨h1, h2, h3, h4⟩ := Aca h
    have hM := Aia
    have ih := Oua s b hs hl r (k + 1) (l ++ [(3, s, ByteArray.empty, x, ())]) h3 (by omega) (by simp; omega)
    rw [Ota]
    simp (disch := omega) only [Lya, PP, h2]
    refine ih.trans ?_
    rw [List.append_assoc]; rfl
theorem Tua (a b : List Str) : (Nda a b).length ≤ a.length + 1 := by
  rw [Nda, Zka]; exact Zha a b
theorem Gyb (a b : Aha) (ha : Mid a) (s : Str) : (Lha a b s).length ≤ 1003 := by
  have h1 := Tua ((Aja a s).getD []) ((Aja b s).getD [])
  have h2 := ha.get s
  simp only [Lha, List.length_append, Hga, List.length_map]
  split <;> split <;> simp <;> omega
theorem Sta (a b : Aha) (ha : Mid a) (hb : Mid b) (ns : List Str) (hn : ns.length ≤ 1000000) : ∀ (r : List Str) (k : Nat) (l : List Bua), ns.drop k = r → k ≤ ns.length → l.length ≤ k * 1003 →
    Jja (l, a, b, ns, (ns.length : Int), (k : Int), ()) = some (l ++ r.flatMap (Lha a b), a, b, ns, (ns.length : Int), (ns.length : Int), ())
  | [], k, l, h, hk, hl => by
    have := Aga h hk
    subst this
    rw [Ssa]
    simp (disch := omega) only [Hra, PP, List.flatMap_nil, List.append_nil]
  | s :: r, k, l, h, hk, hl => by
    obtain ⟨h1, h2, h3, h4⟩ := Aca h
    have hM := Aia
    have g1 := ha.get s
    have g2 := hb.get s
    have hfl := Gyb a b ha s
    have hhl := Tua ((Aja a s).getD []) ((Aja b s).getD [])
    have ih := Sta a b ha hb ns hn r (k + 1) (l ++ Lha a b s) h3 (by omega) (by rw [List.length_append]; omega)
    have eA := Bza a s ha.wee
    have eB := Bza b s hb.wee
    have eH := Fqb ((Aja a s).getD []) ((Aja b s).getD []) (by omega) (by omega)
    have eL := fun b2 l (hl : l.length ≤ 10000000000) => Oua s b2 (Nda ((Aja a s).getD []) ((Aja b s).getD [])) (by omega) _ 0 l rfl (by omega) (by omega)
    simp only [Int.natCast_zero, List.drop_zero] at eL
    have hpl : (Hga s (Nda ((Aja a s).getD []) ((Aja b s).getD []))).length ≤ 1001 := by rw [Hga, List.length_map]; omega
    have fin : ∀ l', l' = l ++ Lha a b s → Jja (l', a, b, ns, (ns.length : Int), ((k + 1 : Nat) : Int), ()) = some (l ++ (s :: r).flatMap (Lha a b), a, b, ns, (ns.length : Int), (ns.length : Int), ()) := fun l' hl' => by
      rw [hl', ih, List.flatMap_cons, List.append_assoc]
    rw [Ssa]
    cases hA : (Aja a s).isSome with
    | true =>
      cases hB : (Aja b s).isSome with
      | true =>
        simp (disch := first | omega | (simp only [List.length_append, List.length_cons, List.length_nil]; omega)) only [Hra, PP, h2, eA, eB, eH, eL, hA, hB]
        refine fin _ ?_; simp [Lha, hA, hB]
      | false =>
        simp (disch := first | omega | (simp only [List.length_append, List.length_cons, List.length_nil]; omega)) only [Hra, PP, h2, eA, eB, eH, eL, hA, hB]
        refine fin _ ?_; simp [Lha, hA, hB]
    | false =>
      cases hB : (Aja b s).isSome with
      | true =>
        simp (disch := first | omega | (simp only [List.length_append, List.length_cons, List.length_nil]; omega)) only [Hra, PP, h2, eA, eB, eH, eL, hA, hB]
        refine fin _ ?_; simp [Lha, hA, hB]
      | false =>
        simp (disch := first | omega | (simp only [List.length_append, List.length_cons, List.length_nil]; omega)) only [Hra, PP, h2, eA, eB, eH, eL, hA, hB]
        refine fin _ ?_; simp [Lha, hA, hB]
def Yea (a b : Aha) : List Bua := (Lta a b).flatMap (Lha a b)
theorem Fzb (a b : Aha) (ha : Mid a) (hb : Mid b) (sa : Vfa a) (sb : Vfa b) : Akb (a, b, ()) = some (if Nka a && Nka b then Yea a b else [], if Nka a && Nka b then 0 else 1, ()) := by
  have hl := Cnb a b
  have h1 := ha.1
  have h2 := hb.1
  have eN := Axb a b (by omega) (by omega)
  have eL := Sta a b ha hb (Lta a b) (by omega) _ 0 [] rfl (by omega) (by simp)
  simp only [Int.natCast_zero, List.nil_append, List.drop_zero] at eL
  rw [Fyb]
  cases hA : Nka a with
  | false =>
    simp (disch := omega) only [Vha, PP, Fza a sa (by omega), hA]
    rfl
  | true =>
    cases hB : Nka b with
    | false =>
      simp (disch := omega) only [Vha, PP, Fza a sa (by omega), Fza b sb (by omega), hA, hB]
      rfl
    | true =>
      rw [show lSa (Eqb [] ((a ++ b).map (·.1))) = Lta a b from rfl] at eN
      simp (disch := omega) only [Vha, PP, Fza a sa (by omega), Fza b sb (by omega), hA, hB, eN, eL]
      rfl
def Dob (p : Bua) : Prop := p.2.2.2.1.2.1.length < 4611686018427387903 ∧ p.2.2.2.1.2.2.1.length < 4611686018427387903
theorem Gra {α : Type} [DecidableEq α] (a b : α) : (a == b) = decide (a = b) := by by_cases h : a = b <;> simp [h]
instance decPrim1 : DecidableEq (Ppa × Unit) := inferInstance
instance decPrim2 : DecidableEq (Str × Ppa × Unit) := inferInstance
instance decPrim3 : DecidableEq (Str × Str × Ppa × Unit) := inferInstance
instance decPrim : DecidableEq Bua := inferInstanceAs (DecidableEq (Int × Str × Str × Ppa × Unit))
theorem Rna {α β : Type} (f : α → List β) (c : Nat) : ∀ (l : List α), (∀ x ∈ l, (f x).length ≤ c) → (l.flatMap f).length ≤ l.length * c
  | [], _ => by simp
  | x :: l, h => by
    have h1 := Rna f c l fun y hy => h y (List.mem_cons_of_mem _ hy)
    have h2 := h x List.mem_cons_self
    rw [List.flatMap_cons, List.length_append, List.length_cons, Nat.add_mul]
    omega
theorem Rxa (l0 ts : List (List Str)) (hb : ts.length < 4611686018427387903) : ∀ (r : List (List Str)) (i n : Nat), ts.drop i = r → i ≤ ts.length → n + r.flatten.length < 4611686018427387903 →
    Bca (l0, (n : Int), ts, (ts.length : Int), (i : Int), ()) = some (l0, ((n + r.flatten.length : Nat) : Int), ts, (ts.length : Int), (ts.length : Int), ())
  | [], i, n, h, hi, _ => by
    have := Aga h hi
    subst this
    rw [Exa]
    simp (disch := omega) only [Cqa, PP, List.flatten_nil, Nat.add_zero]
  | t :: r, i, n, h, hi, hn => by
    obtain ⟨h1, h2, h3, h4⟩ := Aca h
    simp only [List.flatten_cons, List.length_append] at hn
    have hw : IntKind.wrap .i64 ((n : Int) + (t.length : Int)) = ((n + t.length : Nat) : Int) := by rw [Axa (by omega) (by omega)]; omega
    rw [Exa]
    simp (disch := omega) only [Cqa, PP, h2, hw]
    rw [Rxa l0 ts hb r (i + 1) (n + t.length) h3 (by omega) (by omega)]
    simp only [List.flatten_cons, List.length_append, Nat.add_assoc]
theorem Qma (l0 : List Str) (ts : List (List Str)) (hb : ts.length < 4611686018427387903) : ∀ (r : List (List Str)) (i n : Nat) (row : List Str), ts.drop i = r → i ≤ ts.length → n + r.flatten.length ≤ row.length →
    ∃ row' : List Str, Ata (l0, row, 0, n, ts, (ts.length : Int), (i : Int), ()) = some (l0, row', 0, n + r.flatten.length, ts, (ts.length : Int), (ts.length : Int), ()) ∧ row'.length = row.length ∧ row'.take (n + r.flatten.length) = row.take n ++ r.flatten
  | [], i, n, row, h, hi, _ => by
    have := Aga h hi
    subst this
    rw [Eca]
    simp (disch := omega) only [Cia, PP, List.flatten_nil, Nat.add_zero, List.append_nil]
    exact ⟨row, rfl, rfl, rfl⟩
  | t :: r, i, n, row, h, hi, hn => by
    obtain ⟨h1, h2, h3, h4⟩ := Aca h
    simp only [List.flatten_cons, List.length_append] at hn
    have ho := Sza row n t (by omega)
    rw [Eca]
    simp (disch := omega) only [Cia, PP, h2, ho]
    obtain ⟨row', e, e1, e2⟩ := Qma l0 ts hb r (i + 1) (n + t.length) (hYb row n t) h3 (by omega) (by omega)
    refine ⟨row', ?_, by rw [e1, ho], ?_⟩
    · rw [e]; simp only [List.flatten_cons, List.length_append, Nat.add_assoc]
    · have e3 : (hYb row n t).take (n + t.length) = row.take n ++ t := by
        have : (row.take n ++ t).length = n + t.length := by rw [List.length_append, List.length_take]; omega
        rw [hYb, ← this]; exact List.take_left
      rw [e3] at e2
      simp only [List.flatten_cons, List.length_append]
      rw [← Nat.add_assoc, e2, List.append_assoc]
theorem Noa (l0 : List Str) (ts : List (List Str)) (hb : ts.length < 4611686018427387903) : ∀ (r : List (List Str)) (i : Nat), ts.drop i = r → i ≤ ts.length → r.flatten = [] →
    Aqa (l0, [], ts, (ts.length : Int), (i : Int), ()) = some (l0, [], ts, (ts.length : Int), (ts.length : Int), ())
  | [], i, h, hi, _ => by
    have := Aga h hi
    subst this
    rw [Dma]
    simp (disch := omega) only [Cba, PP]
  | t :: r, i, h, hi, hn => by
    obtain ⟨h1, h2, h3, h4⟩ := Aca h
    have hM := Aia
    simp only [List.flatten_cons, List.append_eq_nil_iff] at hn
    obtain ⟨rfl, hn⟩ := hn
    rw [Dma]
    simp (disch := omega) only [Cba, PP, h2, List.append_nil]
    exact Noa l0 ts hb r (i + 1) h3 (by omega) hn
theorem Flb (ts : List (List Str)) (hb : ts.length < 1000000000) (hn : ts.flatten.length ≤ 1000000000000) : Cma (ts, ()) = some (ts.flatten, ()) := by
  have hM := Aia
  have e := Rxa ts ts (by omega) ts 0 0 rfl (by omega) (by omega)
  simp only [Int.natCast_zero, Nat.zero_add] at e
  rw [Mha]
  have hw0 : IntKind.wrap .i64 ((0 : Int) - ((0 : Nat) : Int)) = 0 := by rw [Axa (by omega) (by omega)]; rfl
  have hw0' : IntKind.wrap .i64 ((0 : Int) - 0) = 0 := by rw [Axa (by omega) (by omega)]; rfl
  have hw : IntKind.wrap .i64 (((ts.flatten.length : Nat) : Int) - 0) = ((ts.flatten.length : Nat) : Int) := by rw [Axa (by omega) (by omega)]; omega
  by_cases h0 : ts.flatten.length = 0
  · have hf : ts.flatten = [] := List.eq_nil_of_length_eq_zero h0
    have e2 := Noa [] ts (by omega) ts 0 rfl (by omega) hf
    simp only [Int.natCast_zero] at e2
    simp (disch := omega) only [Dva, e, PP, hw0, hw, e2]
    rw [hf]
  · obtain ⟨row', e2, e3, e4⟩ := Qma [] ts (by omega) ts 0 0 (List.replicate ts.flatten.length ByteArray.empty) rfl (by omega) (by simp)
    simp only [Int.natCast_zero, Nat.zero_add, List.take_zero, List.nil_append] at e2 e4
    simp only [List.length_replicate] at e3
    simp (disch := omega) only [Dva, e, PP, hw0, hw0', hw, List.length_replicate, Nat.sub_zero, Int.natCast_zero, Int.toNat_zero, Nat.add_zero, e2, List.drop_zero, e4]
theorem Eza (m : List Str) : ∀ (r : List Str) (l : List Str) (i : Nat), l.drop i = r → i ≤ l.length → l.length = m.length → l.length < 4611686018427387903 →
    ∃ y, Bda (l, m, (l.length : Int), (i : Int), ()) = some y ∧ (match y with
      | .inl _ => l.drop i ≠ m.drop i
      | .inr _ => l.drop i = m.drop i)
  | [], l, i, h, hi, hl, hb => by
    have := Aga h hi
    subst this
    rw [Eya]
    simp (disch := omega) only [Bpa, PP]
    exact ⟨_, rfl, by simp [hl]⟩
  | a :: r, l, i, h, hi, hl, hb => by
    obtain ⟨h1, h2, h3, h4⟩ := Aca h
    obtain ⟨b, s, hm⟩ : ∃ b s, m.drop i = b :: s := ⟨_, _, List.drop_eq_getElem_cons (by omega)⟩
    obtain ⟨m1, m2, m3, m4⟩ := Aca hm
    rw [Eya]
    by_cases hab : a = b
    · subst hab
      simp (disch := omega) only [Bpa, PP, h2, m2, decide_true, Bool.not_true]
      obtain ⟨y, e, p⟩ := Eza m r l (i + 1) h3 (by omega) hl hb
      refine ⟨y, e, ?_⟩
      rw [h, hm]
      rw [h3, m3] at p
      cases y with
      | inl z => simpa using p
      | inr z => simpa using p
    · simp (disch := first | omega | assumption) only [Bpa, PP, h2, m2]
      refine ⟨_, rfl, ?_⟩
      rw [h, hm]
      simp [hab]
theorem Mja (l m : List Str) (hb : l.length < 4611686018427387903) : Cna (l, m, ()) = some (decide (l = m), ()) := by
  rw [Mia]
  by_cases hl : l.length = m.length
  · obtain ⟨y, e, p⟩ := Eza m l l 0 rfl (by omega) hl hb
    simp only [Int.natCast_zero] at e
    have hbn : ((l.length : Int) != (m.length : Int)) = false := by simp [hl]
    simp only [List.drop_zero] at p
    cases y with
    | inl z => simp only at p; simp only [Cca, hbn, e, PP, p, decide_false]
    | inr z => simp only at p; subst p; simp only [Cca, hbn, e, PP, decide_true]
  · have hbn : ((l.length : Int) != (m.length : Int)) = true := by simp; omega
    have : ¬ l = m := fun e => hl (by rw [e])
    simp only [Cca, hbn, PP, this, decide_false]
theorem Cza (p : Bua) : ((p.1, p.2.1, p.2.2.1, (p.2.2.2.1.1, p.2.2.2.1.2.1, p.2.2.2.1.2.2.1, ()), ()) : Bua) = p := rfl
theorem Sma (h : Ppa) : ((h.1, h.2.1, h.2.2.1, ()) : Ppa) = h := rfl
def Uba (h : Ppa) : Ppa := (h.1, h.2.2.1, h.2.1, ())
def Kma (p : Bua) : Bua :=
  if p.1 = 0 then (1, p.2.1, p.2.2.1, p.2.2.2.1, ()) else if p.1 = 1 then (0, p.2.1, p.2.2.1, p.2.2.2.1, ()) else if p.1 = 2 then (p.1, p.2.2.1, p.2.1, p.2.2.2.1, ()) else (p.1, p.2.1, p.2.2.1, Uba p.2.2.2.1, ())
theorem Gcb (p : Bua) : Kma (Kma p) = p := by
  obtain ⟨k, n, t, h, u⟩ := p
  unfold Kma
  by_cases h0 : k = 0
  · subst h0; simp
  · by_cases h1 : k = 1
    · subst h1; simp
    · by_cases h2 : k = 2
      · subst h2; simp
      · simp [h0, h1, h2, Uba]
def Lcb (h : Ppa) : Prop := h.2.1.length ≤ 1000000000000 ∧ h.2.2.1.length ≤ 1000000000000
theorem Cdb (h : Ppa) (hb : Lcb h) : Sla (h, ()) = some (Uba h, ()) := by
  have hM := Aia
  obtain ⟨h1, h2⟩ := hb
  rw [Ccb]
  simp (disch := omega) only [Yma, Aka, Aba]
  rfl
abbrev Fmb (p : Bua) : Prop := Lcb p.2.2.2.1
theorem Cxb (p : Bua) (hb : Fmb p) : Tfa (p, ()) = some (Kma p, ()) := by
  obtain ⟨k, n, t, h, u⟩ := p
  rw [Cwb]
  unfold Kma
  by_cases h0 : k = 0
  · simp only [Lba, Gra, h0, decide_true, Ada, if_true]
  · by_cases h1 : k = 1
    · subst h1
      simp only [Lba, Gra, decide_true, Ada, if_true]
      rfl
    · by_cases h2 : k = 2
      · subst h2
        simp only [Lba, Gra, decide_true, Ada, if_true]
        rfl
      · simp only [Lba, Gra, h0, h1, h2, decide_true, decide_false, Ada, Aea, if_true, if_false, Sma, Cdb h hb, Aaa]
def Toa (l : List Bua) : List Bua := l.reverse.map Kma
theorem Gbb (l : List Bua) : Toa (Toa l) = l := by
  simp only [Toa, ← List.map_reverse, List.reverse_reverse, List.map_map]
  have : Kma ∘ Kma = id := funext Gcb
  rw [this, List.map_id]
theorem Kib {α : Type} (l : List α) (k : Nat) (h : k < l.length) : ∃ x, (∀ d, l.getD k d = x) ∧ l.take (k + 1) = l.take k ++ [x] ∧ x ∈ l := by
  refine ⟨l[k], fun d => by rw [List.getD_eq_getElem?_getD, List.getElem?_eq_getElem h]; rfl, ?_, List.getElem_mem h⟩
  rw [List.take_add_one, List.getElem?_eq_getElem h]; rfl
theorem Oda (l : List Bua) (hl : l.length ≤ 1000000000) (hb : ∀ p ∈ l, Fmb p) : ∀ (k : Nat) (acc : List Bua), k ≤ l.length → acc.length + k ≤ 1000000000 →
    Apa (acc, l, (k : Int) - 1, ()) = some (acc ++ Toa (l.take k), l, -1, ())
  | 0, acc, hk, ha => by
    rw [Dla]
    simp (disch := omega) only [Caa, PP, List.take_zero, Toa, List.reverse_nil, List.map_nil, List.append_nil]
    rfl
  | k + 1, acc, hk, ha => by
    have hM := Aia
    have e0 : (((k + 1 : Nat) : Int) - 1) = (k : Int) := by omega
    have hw : IntKind.wrap .i64 ((k : Int) - 1) = (k : Int) - 1 := Axa (by omega) (by omega)
    obtain ⟨x, hx', ht, hmem⟩ := Kib l k (by omega)
    have ih := Oda l hl hb k (acc ++ [Kma x]) (by omega) (by simp; omega)
    have hT := Cxb x (hb x hmem)
    rw [Dla, e0]
    simp (disch := omega) only [Caa, PP, hw, hx', Cza, hT]
    refine Eq.trans ih ?_
    rw [ht, Toa, Toa, List.reverse_append, List.map_append, List.append_assoc]; rfl
theorem Upa (l : List Bua) (hl : l.length ≤ 1000000000) (hb : ∀ p ∈ l, Fmb p) : Oca (l, ()) = some (Toa l, ()) := by
  have e := Oda l hl hb l.length [] (Nat.le_refl _) (by simp; omega)
  rw [List.take_length, List.nil_append] at e
  have hw : IntKind.wrap .i64 ((l.length : Int) - 1) = (l.length : Int) - 1 := Axa (by omega) (by omega)
  rw [Bzb]
  simp (disch := omega) only [Yla, PP, hw, e]
def Vga (h : Ppa) : Bool := (decide (0 ≤ h.1) && decide (h.1 ≤ 1048576)) && (Uka h.2.1 && Uka h.2.2.1)
def Zra (p : Bua) : Bool := decide (p.2.2.2.1.1 = 0) && decide (p.2.2.2.1.2.1.length + p.2.2.2.1.2.2.1.length = 0)
def Daa (p : Bua) : Bool := Eka p.2.1 && decide (p.2.2.1 = ByteArray.empty)
def Dia (p : Bua) : Bool :=
  if p.1 = 0 ∨ p.1 = 1 then Daa p && Zra p
  else if p.1 = 2 then (Eka p.2.1 && Eka p.2.2.1) && (decide (p.2.1 ≠ p.2.2.1) && Zra p)
  else if p.1 = 3 then Daa p && Vga p.2.2.2.1
  else if p.1 = 4 then (Daa p && Vga p.2.2.2.1) && decide (p.2.2.2.1.1 = 0)
  else false
structure Kka (p : Bua) : Prop where
  n : p.2.1.size < 4611686018427387903
  t : p.2.2.1.size < 4611686018427387903
  o : p.2.2.2.1.2.1.length ≤ 1000000000000
  w : p.2.2.2.1.2.2.1.length ≤ 1000000000000
theorem Kka.s {p : Bua} (h : Kka p) : Dob p := ⟨by have := h.o; omega, by have := h.w; omega⟩
theorem Kka.b {p : Bua} (h : Kka p) : Fmb p := ⟨h.o, h.w⟩
theorem Wya (h : Ppa) : Sja (h, ()) = some (Vga h, ()) := by
  rw [Dtb]
  by_cases h0 : 0 ≤ h.1
  · by_cases h1 : h.1 ≤ 1048576
    · cases h2 : Uka h.2.1 with
      | true =>
        simp (disch := omega) only [Npa, Aba, Hya, Aaa, Ada, h2, Vga, h0, h1, decide_true, Bool.true_and]
      | false =>
        simp (disch := omega) only [Npa, Aba, Hya, Aaa, Aea, h2, Vga, Bool.false_and, Bool.and_false]
    · simp (disch := omega) only [Npa, Aba, Afa, Aea, Vga, h1, decide_false, Bool.and_false, Bool.false_and]
  · simp (disch := omega) only [Npa, Aba, Afa, Aea, Vga, h0, decide_false, Bool.false_and]
theorem Ddb (p : Bua) (h : Kka p) : Cda (p, ()) = some (Daa p, ()) := by
  rw [Pga]
  have := h.n
  cases hn : Eka p.2.1 with
  | true => simp (disch := omega) only [Fwa, Cha, Aaa, hn, Ada, Wsa, Daa, Bool.true_and]
  | false => simp (disch := omega) only [Fwa, Cha, Aaa, hn, Aea, Wsa, Daa, Bool.false_and]
theorem Grb (p : Bua) (h : Kka p) : Dda (p, ()) = some (Zra p, ()) := by
  rw [Rqa]
  have h1 := h.o
  have h2 := h.w
  have hw : IntKind.wrap .i64 ((p.2.2.2.1.2.1.length : Int) + (p.2.2.2.1.2.2.1.length : Int)) = ((p.2.2.2.1.2.1.length + p.2.2.2.1.2.2.1.length : Nat) : Int) := by rw [Axa (by omega) (by omega)]; omega
  have hd : decide (((p.2.2.2.1.2.1.length + p.2.2.2.1.2.2.1.length : Nat) : Int) = 0) = decide (p.2.2.2.1.2.1.length + p.2.2.2.1.2.2.1.length = 0) := decide_eq_decide.2 (by omega)
  by_cases h0 : p.2.2.2.1.1 = 0
  · simp only [Hsa, Gra, h0, decide_true, Ada, hw, hd, Zra, Bool.true_and]
  · simp only [Hsa, Gra, h0, decide_false, Aea, Zra, Bool.false_and]
theorem Fub (p : Bua) (h : Kka p) : Bxa (p, ()) = some (Daa p && Zra p, ()) := by
  rw [Nla]
  have e1 := Ddb p h
  have e2 := Grb p h
  unfold Iwa
  rw [Cza, e1, e2]
  cases Daa p <;> rfl
theorem Xfa (p : Bua) (h : Kka p) : Bta (p, ()) = some (Daa p && Vga p.2.2.2.1, ()) := by
  rw [Mea]
  have e1 := Ddb p h
  have e2 := Wya p.2.2.2.1
  unfold Iga
  rw [Cza, Sma, e1, e2]
  cases Daa p <;> rfl
theorem Hob (p : Bua) (h : Kka p) : Dka (p, ()) = some ((Daa p && Vga p.2.2.2.1) && decide (p.2.2.2.1.1 = 0), ()) := by
  rw [Pfa]
  have e1 := Xfa p h
  unfold Jna
  rw [Cza, e1]
  simp only [Gra]
  cases (Daa p && Vga p.2.2.2.1) <;> rfl
theorem Fvb (p : Bua) (h : Kka p) : Cya (p, ()) = some ((Eka p.2.1 && Eka p.2.2.1) && (decide (p.2.1 ≠ p.2.2.1) && Zra p), ()) := by
  rw [Nma]
  have h1 := h.n
  have h2 := h.t
  have e2 := Grb p h
  unfold Ixa
  rw [Cza, Cha _ (by omega), Cha _ (by omega), e2, Wsa]
  by_cases hd : p.2.1 = p.2.2.1
  · cases Eka p.2.1 <;> cases Eka p.2.2.1 <;> simp [Aaa, jKa, hd]
  · cases Eka p.2.1 <;> cases Eka p.2.2.1 <;> simp [Aaa, jKa, hd]
theorem Xla (p : Bua) (h : Kka p) : Tea (p, ()) = some (Dia p, ()) := by
  rw [Ebb]
  unfold Bcb
  simp only [Cza, Fub p h, Fvb p h, Xfa p h, Hob p h, Aaa]
  unfold Dia
  by_cases k0 : p.1 = 0
  · simp (disch := omega) only [Aba, k0, true_or, if_true]
  · by_cases k1 : p.1 = 1
    · simp (disch := omega) only [Aba, Afa, k1, or_true, if_true]
    · by_cases k2 : p.1 = 2
      · rw [if_neg (by omega), if_pos k2]
        simp (disch := omega) only [Aba, Afa]
      · by_cases k3 : p.1 = 3
        · rw [if_neg (by omega), if_neg k2, if_pos k3]
          simp (disch := omega) only [Aba, Afa]
        · by_cases k4 : p.1 = 4
          · rw [if_neg (by omega), if_neg k2, if_neg k3, if_pos k4]
            simp (disch := omega) only [Aba, Afa]
          · rw [if_neg (by omega), if_neg k2, if_neg k3, if_neg k4]
            by_cases kn : 0 ≤ p.1
            · simp (disch := omega) only [Aba, Afa]
            · simp (disch := omega) only [Aba, Afa]
def isAt (l : List Str) (at0 : Int) (old : List Str) : Bool := decide (0 ≤ at0) && decide ((l.drop at0.toNat).take old.length = old) && decide (at0 ≤ l.length)
def Gma (l : List Str) (h : Ppa) : List Str := l.take h.1.toNat ++ (h.2.2.1 ++ l.drop (h.1.toNat + h.2.1.length))
theorem Yia (l : List Str) (at0 : Int) (old : List Str) (h1 : l.length ≤ 1000000000000) (h2 : at0 ≤ 1048576) (h3 : old.length < 1000000000000000000) : Mga (l, at0, old, ()) = some (isAt l at0 old, ()) := by
  rw [Yha]
  unfold isAt
  by_cases c1 : 0 ≤ at0
  · by_cases c2 : at0 ≤ l.length
    · have hw1 : IntKind.wrap .i64 ((l.length : Int) - at0) = (l.length : Int) - at0 := Axa (by omega) (by omega)
      have hw2 : IntKind.wrap .i64 (at0 + (old.length : Int)) = at0 + (old.length : Int) := Axa (by omega) (by omega)
      by_cases c3 : (old.length : Int) ≤ (l.length : Int) - at0
      · have e : (at0 + (old.length : Int)).toNat - at0.toNat = old.length := by omega
        have hb : ((l.drop at0.toNat).take old.length).length < 4611686018427387903 := by rw [List.length_take]; omega
        simp (disch := omega) only [Iha, Aka, Aba, hw1, hw2, Aaa, e, Mja _ _ hb]
        simp [c1, c2]
      · have hne : ¬ ((l.drop at0.toNat).take old.length = old) := fun he => by
          have := congrArg List.length he
          rw [List.length_take, List.length_drop] at this
          omega
        simp (disch := omega) only [Iha, Aka, Aba, Afa, hw1]
        simp [hne]
    · simp (disch := omega) only [Iha, Aka, Aba, Afa]
      simp [c2]
  · simp (disch := omega) only [Iha, Aka, Aba, Afa]
    simp [c1]
theorem Dbb (l : List Str) (at0 : Int) (old : List Str) (h1 : l.length ≤ 1000000000000) (h2 : at0 ≤ 1048576) (h3 : old.length < 1000000000000000000) : Fkb (l, at0, old, ()) = some (isAt l at0 old, ()) := by
  rw [Iab]
  simp only [Gob, Yia l at0 old h1 h2 h3, Aaa]
theorem Ehb (l : List Str) (h : Ppa) (h1 : l.length ≤ 100000000000) (h2 : h.1 ≤ 1048576) (h3 : h.2.1.length < 1000000000000000000) (h4 : h.2.2.1.length ≤ 100000000000) :
    Vma (l, h.1, h.2.1, h.2.2.1, ()) = some (if isAt l h.1 h.2.1 = true then Gma l h else [], isAt l h.1 h.2.1, ()) := by
  rw [Egb]
  cases hc : isAt l h.1 h.2.1 with
  | false =>
    simp (disch := omega) only [Vwa, Dbb l h.1 h.2.1 (by omega) h2 h3, Aaa, hc, Bsa, Aea, Bool.false_eq_true, if_false]
  | true =>
    have hc' := hc
    simp only [isAt, Bool.and_eq_true, decide_eq_true_eq] at hc'
    obtain ⟨⟨c1, c2⟩, c3⟩ := hc'
    have hl : h.1 + h.2.1.length ≤ l.length := by
      have := congrArg List.length c2
      rw [List.length_take, List.length_drop] at this
      omega
    have hw : IntKind.wrap .i64 (h.1 + (h.2.1.length : Int)) = h.1 + (h.2.1.length : Int) := Axa (by omega) (by omega)
    have hn : (h.1 + (h.2.1.length : Int)).toNat = h.1.toNat + h.2.1.length := by omega
    have ht : (l.drop (h.1.toNat + h.2.1.length)).take (l.length - (h.1.toNat + h.2.1.length)) = l.drop (h.1.toNat + h.2.1.length) := List.take_of_length_le (by rw [List.length_drop]; omega)
    have eC := Flb [l.take h.1.toNat, h.2.2.1, l.drop (h.1.toNat + h.2.1.length)] (by simp) (by simp; omega)
    simp (disch := omega) only [Vwa, Dbb l h.1 h.2.1 (by omega) h2 h3, Aaa, hc, Bsa, Ada, Aka, Aba, if_true, hw, hn, ht, Nat.sub_zero, List.drop_zero, eC]
    simp [Gma]
theorem Xea {h : Ppa} (hm : Vga h = true) : 0 ≤ h.1 ∧ h.1 ≤ 1048576 ∧ h.2.1.length ≤ 200 ∧ h.2.2.1.length ≤ 200 := by
  simp only [Vga, Uka, Bool.and_eq_true, decide_eq_true_eq] at hm
  exact ⟨hm.1.1, hm.1.2, hm.2.1.1, hm.2.2.1⟩
theorem Ahb (l : List Str) (h : Ppa) (h1 : l.length ≤ 100000000000) : Pza (l, h, ()) = some (if Vga h = true ∧ isAt l h.1 h.2.1 = true then Gma l h else [], if Vga h = true then (if isAt l h.1 h.2.1 = true then 0 else 5) else 1, ()) := by
  rw [Agb]
  unfold Vsa
  rw [Sma, Wya]
  cases hm : Vga h with
  | false => simp only [Aaa, Bsa, Aea]; simp
  | true =>
    obtain ⟨a1, a2, a3, a4⟩ := Xea hm
    have eS := Ehb l h h1 a2 (by omega) (by omega)
    rw [eS]
    cases hc : isAt l h.1 h.2.1 with
    | false => simp only [Aaa, Bsa, Aea, Ada]; simp
    | true => simp only [Aaa, Bsa, Aea, Ada]; simp
def doP (t : Aha) (p : Bua) : Option Aha :=
  if p.1 = 0 then (if (Aja t p.2.1).isSome then none else some (Jba t p.2.1 []))
  else if p.1 = 1 then (if Aja t p.2.1 = some [] then some (Qoa t p.2.1) else none)
  else if p.1 = 2 then (if (Aja t p.2.1).isSome = true ∧ (Aja t p.2.2.1).isSome = false then some (Jba (Qoa t p.2.1) p.2.2.1 ((Aja t p.2.1).getD [])) else none)
  else if p.1 = 3 then (if (Aja t p.2.1).isSome = true ∧ isAt ((Aja t p.2.1).getD []) p.2.2.2.1.1 p.2.2.2.1.2.1 = true then some (Jba t p.2.1 (Gma ((Aja t p.2.1).getD []) p.2.2.2.1)) else none)
  else (if Aja t p.2.1 = some p.2.2.2.1.2.1 then some (Jba t p.2.1 p.2.2.2.1.2.2.1) else none)
def Bfa (t : Aha) (p : Bua) : Aha × Int := if Dia p = true then (match doP t p with
  | some u => (u, 0)
  | none => ([], 5)) else ([], 1)
def Fit (n m : Nat) (t : Aha) : Prop := t.length ≤ n ∧ ∀ f ∈ t, f.2.1.length ≤ m
theorem Fit.wee {n m : Nat} {t : Aha} (h : Fit n m t) (hn : n ≤ 1000000000) (hm : m ≤ 1000000000) : Wee t := ⟨Nat.le_trans h.1 hn, fun f hf => Nat.le_trans (h.2 f hf) hm⟩
theorem Fit.get {n m : Nat} {t : Aha} (h : Fit n m t) (s : Str) : ((Aja t s).getD []).length ≤ m := by
  rw [Wva]
  split
  · rename_i hlt
    simp only [Option.getD_some]
    exact h.2 (t.getD (at_ t s) (ByteArray.empty, [], ())) (by rw [List.getD_eq_getElem?_getD, List.getElem?_eq_getElem hlt]; exact List.getElem_mem _)
  · simp
theorem Fit.put {n m : Nat} {t : Aha} (h : Fit n m t) (s : Str) {l : List Str} (hl : l.length ≤ m) : Fit (n + 1) m (Jba t s l) := by
  refine ⟨Nat.le_trans (Ktb t s l) (by have := h.1; omega), fun f hf => ?_⟩
  rcases Aqb hf with rfl | hf
  · exact hl
  · exact h.2 f hf
theorem Fit.del {n m : Nat} {t : Aha} (h : Fit n m t) (s : Str) : Fit n m (Qoa t s) := ⟨Nat.le_trans (Gvb t s) h.1, fun f hf => h.2 f (Drb hf)⟩
theorem Fit.mono {n m n' m' : Nat} {t : Aha} (h : Fit n m t) (hn : n ≤ n') (hm : m ≤ m') : Fit n' m' t := ⟨Nat.le_trans h.1 hn, fun f hf => Nat.le_trans (h.2 f hf) hm⟩
theorem Dgb (l : List Str) (h : Ppa) : (Gma l h).length ≤ l.length + h.2.2.1.length := by
  simp only [Gma, List.length_append, List.length_take, List.length_drop]; omega
theorem Jha {p : Bua} (h : Dia p = true) (h3 : p.1 = 3 ∨ p.1 = 4) : Vga p.2.2.2.1 = true := by
  unfold Dia at h
  rw [if_neg (by omega), if_neg (by omega)] at h
  split at h
  · simp only [Bool.and_eq_true] at h; exact h.2
  · split at h
    · simp only [Bool.and_eq_true] at h; exact h.1.2
    · cases h
theorem Qaa {p : Bua} (h : Dia p = true) : 0 ≤ p.1 ∧ p.1 < 5 := by
  unfold Dia at h
  split at h
  · omega
  · split at h
    · omega
    · split at h
      · omega
      · split at h
        · omega
        · cases h
theorem Kfb {n m : Nat} {t u : Aha} {p : Bua} (h : Fit n m t) (hm : Dia p = true) (hd : doP t p = some u) : Fit (n + 1) (m + 200) u := by
  unfold doP at hd
  split at hd
  · split at hd
    · cases hd
    · cases hd; exact (h.mono (Nat.le_refl _) (by omega)).put _ (by simp)
  · split at hd
    · split at hd
      · cases hd; exact (h.del _).mono (by omega) (by omega)
      · cases hd
    · split at hd
      · split at hd
        · cases hd; exact ((h.del _).mono (Nat.le_refl _) (by omega)).put _ (by have := h.get p.2.1; omega)
        · cases hd
      · split at hd
        · rename_i h3
          have hh := Xea (Jha hm (.inl h3))
          split at hd
          · cases hd; exact (h.mono (Nat.le_refl _) (by omega)).put _ (by have := Dgb ((Aja t p.2.1).getD []) p.2.2.2.1; have := h.get p.2.1; omega)
          · cases hd
        · rename_i h0 h1 h2 h3
          have hk := Qaa hm
          have hh := Xea (Jha hm (.inr (by omega)))
          split at hd
          · cases hd; exact (h.mono (Nat.le_refl _) (by omega)).put _ (by omega)
          · cases hd
def Xqa (o : Option Aha) : Aha × Int := match o with
  | some u => (u, 0)
  | none => ([], 5)
theorem Imb {t : Aha} {p : Bua} (h : p.1 = 0) : doP t p = if (Aja t p.2.1).isSome then none else some (Jba t p.2.1 []) := by unfold doP; rw [if_pos h]
theorem Inb {t : Aha} {p : Bua} (h : p.1 = 1) : doP t p = if Aja t p.2.1 = some [] then some (Qoa t p.2.1) else none := by unfold doP; rw [if_neg (by omega), if_pos h]
theorem Iob {t : Aha} {p : Bua} (h : p.1 = 2) : doP t p = if (Aja t p.2.1).isSome = true ∧ (Aja t p.2.2.1).isSome = false then some (Jba (Qoa t p.2.1) p.2.2.1 ((Aja t p.2.1).getD [])) else none := by unfold doP; rw [if_neg (by omega), if_neg (by omega), if_pos h]
theorem Ipb {t : Aha} {p : Bua} (h : p.1 = 3) : doP t p = if (Aja t p.2.1).isSome = true ∧ isAt ((Aja t p.2.1).getD []) p.2.2.2.1.1 p.2.2.2.1.2.1 = true then some (Jba t p.2.1 (Gma ((Aja t p.2.1).getD []) p.2.2.2.1)) else none := by unfold doP; rw [if_neg (by omega), if_neg (by omega), if_neg (by omega), if_pos h]
theorem Keb {t : Aha} {p : Bua} (h : 4 ≤ p.1) : doP t p = if Aja t p.2.1 = some p.2.2.2.1.2.1 then some (Jba t p.2.1 p.2.2.2.1.2.2.1) else none := by unfold doP; rw [if_neg (by omega), if_neg (by omega), if_neg (by omega), if_neg (by omega)]
theorem Otb (t : Aha) (p : Bua) (hw : Wee t) (k0 : p.1 = 0) : Hha (p, t, ()) = some ((Xqa (doP t p)).1, (Xqa (doP t p)).2, ()) := by
  rw [Tga, Imb k0]
  simp only [Mqa, Bza t p.2.1 hw, Aaa, Kha t p.2.1 [] hw (by simp)]
  cases (Aja t p.2.1).isSome <;> rfl
theorem Qlb (t : Aha) (p : Bua) (hw : Wee t) (k1 : p.1 = 1) : Ica (p, t, ()) = some ((Xqa (doP t p)).1, (Xqa (doP t p)).2, ()) := by
  rw [Uaa, Inb k1]
  simp only [Nra, Bza t p.2.1 hw, Aaa, Rwa t p.2.1 hw]
  cases hg : Aja t p.2.1 with
  | none => simp [jKa, Xqa]
  | some l =>
    cases l with
    | nil => simp [jKa, Xqa]
    | cons x l =>
      have h1 : ((((x :: l).length : Nat) : Int)) > 0 := by simp only [List.length_cons]; omega
      simp only [Option.getD_some, Option.isSome_some, Bsa, Ada]
      rw [Aba h1]
      simp [Xqa]
theorem Knb (t : Aha) (p : Bua) (hw : Wee t) (hl : ((Aja t p.2.1).getD []).length ≤ 1000000000) (k2 : p.1 = 2) : Fua (p, t, ()) = some ((Xqa (doP t p)).1, (Xqa (doP t p)).2, ()) := by
  rw [Rra, Iob k2]
  simp only [Lca, Bza t p.2.1 hw, Bza t p.2.2.1 hw, Aaa, Rwa t p.2.1 hw, Kha (Qoa t p.2.1) p.2.2.1 ((Aja t p.2.1).getD []) (hw.del _) hl]
  cases (Aja t p.2.1).isSome <;> cases (Aja t p.2.2.1).isSome <;> simp [jKa, Xqa]
theorem Jjb (t : Aha) (p : Bua) (hw : Wee t) (hl : ((Aja t p.2.1).getD []).length ≤ 100000000) (k3 : p.1 = 3) (hm : Vga p.2.2.2.1 = true) : Ela (p, t, ()) = some ((Xqa (doP t p)).1, (Xqa (doP t p)).2, ()) := by
  have hs := Dgb ((Aja t p.2.1).getD []) p.2.2.2.1
  have ha := Xea hm
  have eH := Ahb ((Aja t p.2.1).getD []) p.2.2.2.1 (by omega)
  have eP := Kha t p.2.1 (Gma ((Aja t p.2.1).getD []) p.2.2.2.1) hw (by omega)
  rw [Qka, Ipb k3]
  simp only [Kra, Sma, Bza t p.2.1 hw, Aaa, eH, hm, true_and, if_true]
  cases hg : (Aja t p.2.1).isSome with
  | false => simp [jKa, Xqa]
  | true =>
    cases hc : isAt ((Aja t p.2.1).getD []) p.2.2.2.1.1 p.2.2.2.1.2.1 with
    | false => simp [jKa, Xqa]
    | true => simp [jKa, Xqa, Aaa, eP]
theorem Pcb (t : Aha) (p : Bua) (hw : Wee t) (hl : ((Aja t p.2.1).getD []).length ≤ 100000000) (k4 : 4 ≤ p.1) (hm : p.2.2.2.1.2.2.1.length ≤ 1000000000) : Hia (p, t, ()) = some ((Xqa (doP t p)).1, (Xqa (doP t p)).2, ()) := by
  rw [Tha, Keb k4]
  simp only [Mra, Bza t p.2.1 hw, Aaa, Dja ((Aja t p.2.1).getD []) p.2.2.2.1.2.1 (by omega), Kha t p.2.1 p.2.2.2.1.2.2.1 hw hm]
  cases hg : Aja t p.2.1 with
  | none => simp [jKa, Xqa]
  | some l =>
    by_cases he : l = p.2.2.2.1.2.1
    · subst he; simp [jKa, Xqa, Aaa]
    · simp [jKa, Xqa, he]
theorem Qkb {α : Type} (t : Ty) (u : t.den) (x y : Option α) : jKa (eqT t u u) x y = x := by rw [Pwa]; rfl
theorem Tra {t : Aha} {p : Bua} (h : Dia p = true) : Bfa t p = Xqa (doP t p) := by
  unfold Bfa Xqa
  rw [if_pos h]
theorem Tda (t : Aha) (p : Bua) (ht : Fit 1000000 100000000 t) (hp : Kka p) : Jka (t, p, ()) = some ((Bfa t p).1, (Bfa t p).2, ()) := by
  have hw := ht.wee (by omega) (by omega)
  have g := ht.get p.2.1
  rw [Apb]
  unfold Vva
  simp only [Cza, Xla p hp, Aaa, Qkb, Aka]
  cases hm : Dia p with
  | false => simp [jKa, Bfa, hm]
  | true =>
    have hk := Qaa hm
    rw [Tra hm]
    simp only [Bsa, Ada]
    by_cases k0 : p.1 = 0
    · rw [Aba (by omega), Otb t p hw k0]; rfl
    · by_cases k1 : p.1 = 1
      · rw [Afa (by omega), Aba (by omega), Qlb t p hw k1]; rfl
      · by_cases k2 : p.1 = 2
        · rw [Afa (by omega), Afa (by omega), Aba (by omega), Knb t p hw (by omega) k2]; rfl
        · by_cases k3 : p.1 = 3
          · rw [Afa (by omega), Afa (by omega), Afa (by omega), Aba (by omega), Jjb t p hw g k3 (Jha hm (.inl k3))]; rfl
          · have ha := Xea (Jha hm (.inr (by omega)))
            rw [Afa (by omega), Afa (by omega), Afa (by omega), Afa (by omega), Aba (by omega), Pcb t p hw g (by omega) (by omega)]; rfl
def Dqa : Aha → List Bua → Aha × Int
  | t, [] => (t, 0)
  | t, p :: l => if (Bfa t p).2 = 0 then Dqa (Bfa t p).1 l else ([], (Bfa t p).2)
theorem Blb {t u : Aha} {p : Bua} (h : Bfa t p = (u, 0)) : Dia p = true ∧ doP t p = some u := by
  unfold Bfa at h
  split at h
  · rename_i hm
    split at h
    · rename_i v hv
      have := (Prod.mk.inj h).1
      subst this
      exact ⟨hm, hv⟩
    · have := (Prod.mk.inj h).2
      simp at this
  · have := (Prod.mk.inj h).2
    simp at this
theorem Yza {n m : Nat} {t : Aha} {p : Bua} (h : Fit n m t) (h0 : (Bfa t p).2 = 0) : Fit (n + 1) (m + 200) (Bfa t p).1 := by
  obtain ⟨h1, h2⟩ := Blb (t := t) (p := p) (u := (Bfa t p).1) (by rw [← h0])
  exact Kfb h h1 h2
theorem Nba (l : List Bua) (hl : l.length ≤ 100000) (hp : ∀ p ∈ l, Kka p) : ∀ (r : List Bua) (i : Nat) (t : Aha), l.drop i = r → i ≤ l.length → Fit (100000 + i) (10000000 + i * 200) t →
    ∃ y, Gva (t, l, (l.length : Int), (i : Int), ()) = some y ∧ (match y with
      | .inl z => Dqa t r = ([], z.2.2.2.2.2.2.2.1) ∧ z.2.2.2.2.2.2.2.1 ≠ 0
      | .inr z => Dqa t r = (z.1, 0))
  | [], i, t, h, hi, hf => by
    have := Aga h hi
    subst this
    rw [Naa]
    simp (disch := omega) only [Hza, Aba, Afa]
    exact ⟨_, rfl, rfl⟩
  | p :: r, i, t, h, hi, hf => by
    obtain ⟨h1, h2, h3, h4⟩ := Aca h
    have eA := Tda t p (hf.mono (by omega) (by omega)) (hp p h4)
    rw [Naa]
    by_cases h0 : (Bfa t p).2 = 0
    · have hf2 := Yza hf h0
      obtain ⟨y, e, q⟩ := Nba l hl hp r (i + 1) (Bfa t p).1 h3 (by omega) (hf2.mono (by omega) (by omega))
      refine ⟨y, ?_, ?_⟩
      · have hne : ((Bfa t p).2 != 0) = false := by simp [h0]
        simp (disch := omega) only [Hza, Aba, Aka, Int.toNat_natCast, h2, Cza, eA, Aaa, hne, Aea, Hna, Option.bind_some, Sum.elim_inl, e]
      · cases y with
        | inl z => simp only [Dqa, if_pos h0]; exact q
        | inr z => simp only [Dqa, if_pos h0]; exact q
    · have hne : ((Bfa t p).2 != 0) = true := by simp [h0]
      simp (disch := omega) only [Hza, Aba, Aka, Int.toNat_natCast, h2, Cza, eA, Aaa, hne, Ada, Option.bind_some, Sum.elim_inr]
      refine ⟨_, rfl, ?_⟩
      exact ⟨by simp only [Dqa, if_neg h0], h0⟩
theorem Aab (t : Aha) (l : List Bua) (ht : Fit 100000 10000000 t) (hl : l.length ≤ 100000) (hp : ∀ p ∈ l, Kka p) : Pxa (t, l, ()) = some ((Dqa t l).1, (Dqa t l).2, ()) := by
  obtain ⟨y, e, q⟩ := Nba l hl hp l 0 t rfl (by omega) (ht.mono (by omega) (by omega))
  simp only [Int.natCast_zero] at e
  rw [Zza]
  cases y with
  | inl z => simp only at q; simp only [Rja, e, Aaa, Ida, q.1]
  | inr z => simp only at q; simp only [Rja, e, Aaa, Hla, q]
abbrev eS : Str := ByteArray.empty
def AlP (a b : List Str) : List Dnb → Nat → Nat → Prop
  | [], i, j => i < a.length → j < b.length → a.getD i eS ≠ b.getD j eS
  | p :: ps, i, j => ∃ k q : Nat, p = ((k : Int), (q : Int), ()) ∧ i ≤ k ∧ k < a.length ∧ j ≤ q ∧ q < b.length ∧ a.getD k eS = b.getD q eS ∧ (k ≠ i ∨ q ≠ j → a.getD i eS ≠ b.getD j eS) ∧ AlP a b ps (k + 1) (q + 1)
theorem AlP.left {a b : List Str} {ps : List Dnb} {i j : Nat} (h : AlP a b ps (i + 1) j) (hn : a.getD i eS ≠ b.getD j eS) : AlP a b ps i j := by
  cases ps with
  | nil => exact fun _ _ => hn
  | cons p ps =>
    obtain ⟨k, q, h1, h2, h3, h4, h5, h6, _, h8⟩ := h
    exact ⟨k, q, h1, by omega, h3, h4, h5, h6, fun _ => hn, h8⟩
theorem AlP.right {a b : List Str} {ps : List Dnb} {i j : Nat} (h : AlP a b ps i (j + 1)) (hn : a.getD i eS ≠ b.getD j eS) : AlP a b ps i j := by
  cases ps with
  | nil => exact fun _ _ => hn
  | cons p ps =>
    obtain ⟨k, q, h1, h2, h3, h4, h5, h6, _, h8⟩ := h
    exact ⟨k, q, h1, h2, h3, by omega, h5, h6, fun _ => hn, h8⟩
theorem Jib (a b : List Str) : ∀ (n i j : Nat), (a.length - i) + (b.length - j) ≤ n → AlP a b (Dca (a.drop i) (b.drop j) i j) i j := by
  intro n
  induction n with
  | zero =>
    intro i j h
    rw [List.drop_eq_nil_of_le (by omega), Hwa]
    intro h1 h2
    omega
  | succ n ih =>
    intro i j h
    by_cases hi : i < a.length
    · by_cases hj : j < b.length
      · rw [Cqb hi hj]
        split
        · rename_i he
          exact ⟨i, j, rfl, Nat.le_refl _, hi, Nat.le_refl _, hj, he, fun h => by omega, ih (i + 1) (j + 1) (by omega)⟩
        · rename_i he
          split
          · exact (ih (i + 1) j (by omega)).left he
          · exact (ih i (j + 1) (by omega)).right he
      · rw [show b.drop j = [] from List.drop_eq_nil_of_le (by omega), Mca]
        intro h1 h2; omega
    · rw [List.drop_eq_nil_of_le (by omega), Hwa]
      intro h1 h2; omega
def Pyb : List Geb → Prop
  | e :: e' :: l => e.1 + e.2.1 < e'.1 ∧ Pyb (e' :: l)
  | _ => True
theorem Pyb.cons {e : Geb} {l : List Geb} (h : Pyb l) (h1 : ∀ e' ∈ l, e.1 + e.2.1 < e'.1) : Pyb (e :: l) := by
  cases l with
  | nil => trivial
  | cons e' l => exact ⟨h1 e' List.mem_cons_self, h⟩
theorem Cmb {a b : Aha} {s : Str} (h : s ∈ Lta a b) : ((Aja a s).isSome || (Aja b s).isSome) = true := by
  have : s ∈ (a ++ b).map (·.1) := by
    rw [← Xga] at h
    have := (Lia ((a ++ b).map (·.1)) [] List.Pairwise.nil).2 s
    rw [this] at h
    simpa using h
  obtain ⟨f, hf, rfl⟩ := List.mem_map.1 this
  rcases List.mem_append.1 hf with hf | hf
  · rw [Aeb hf]; rfl
  · rw [Aeb hf, Bool.or_true]
theorem Dzb (a b : Aha) : (Lta a b).Nodup := by
  rw [← Xga]
  have h := (Lia ((a ++ b).map (·.1)) [] List.Pairwise.nil).1
  exact List.Pairwise.imp (fun {x y} hxy => Nfa hxy) h
def Xaa : List Str → List Ppa → List Str → Prop
  | l, [], m => l = m
  | l, h :: hs, m => isAt l h.1 h.2.1 = true ∧ Xaa (Gma l h) hs m
theorem Dhb {b : List Str} {q : Nat} (h : q < b.length) : b.take (q + 1) = b.take q ++ [b.getD q eS] := by
  rw [List.take_add_one, List.getElem?_eq_getElem h, List.getD_eq_getElem?_getD, List.getElem?_eq_getElem h]; rfl
theorem Gwb (a b : List Str) (i j k q : Nat) (hi : i ≤ k) (hk : k ≤ a.length) (hj : j ≤ q) (hq : q ≤ b.length) :
    isAt (b.take j ++ a.drop i) (j : Int) ((a.drop i).take (k - i)) = true ∧ Gma (b.take j ++ a.drop i) ((j : Int), (a.drop i).take (k - i), (b.drop j).take (q - j), ()) = b.take q ++ a.drop k := by
  have hl : (b.take j).length = j := by rw [List.length_take]; omega
  have hl2 : ((a.drop i).take (k - i)).length = k - i := by rw [List.length_take, List.length_drop]; omega
  constructor
  · simp only [isAt, Bool.and_eq_true, decide_eq_true_eq]
    refine ⟨⟨by omega, ?_⟩, ?_⟩
    · rw [Int.toNat_natCast, List.drop_left' hl, hl2]
    · rw [List.length_append, hl]; omega
  · simp only [Gma, Int.toNat_natCast, hl2]
    have e1 : (b.take j ++ a.drop i).take j = b.take j := by
      rw [List.take_append_of_le_length (by omega), List.take_of_length_le (by omega)]
    have e2 : (b.take j ++ a.drop i).drop (j + (k - i)) = a.drop k := by
      rw [List.drop_append, hl, List.drop_eq_nil_of_le (by omega), List.nil_append, List.drop_drop]
      congr 1; omega
    have e3 : b.take j ++ (b.drop j).take (q - j) = b.take q := by
      have := List.take_append_drop j (b.take q)
      rw [List.take_take, Nat.min_eq_left hj, List.drop_take] at this
      exact this
    rw [e1, e2, ← List.append_assoc, e3]
theorem Ezb (a b : List Str) : ∀ (ps : List Dnb) (i j : Nat), i ≤ a.length → j ≤ b.length → AlP a b ps i j →
    Xaa (b.take j ++ a.drop i) (Jva a (Cta b (ps ++ [((a.length : Int), (b.length : Int), ())]) i j) ((j : Int) - i)) b
  | [], i, j, hi, hj, h => by
    rw [List.nil_append, Cta, Cta, List.append_nil]
    have hE := Gwb a b i j a.length b.length hi (Nat.le_refl _) hj (Nat.le_refl _)
    split
    · rw [Jva, Jva]
      simp only at hE ⊢
      have e1 : ((i : Int) + ((j : Int) - (i : Int))) = (j : Int) := by omega
      have e2 : ((i : Int) + ((a.length : Int) - (i : Int))).toNat - (i : Int).toNat = a.length - i := by omega
      have e3 : (b.length : Int).toNat - (j : Int).toNat = b.length - j := by omega
      rw [e1, e2, e3, Int.toNat_natCast, Int.toNat_natCast]
      refine ⟨hE.1, ?_⟩
      rw [hE.2]
      simp [Xaa]
    · rename_i hc
      simp only at hc
      rw [Jva]
      show b.take j ++ a.drop i = b
      rw [List.take_of_length_le (by omega), List.drop_eq_nil_of_le (by omega), List.append_nil]
  | p :: ps, i, j, hi, hj, h => by
    obtain ⟨k, q, rfl, h2, h3, h4, h5, h6, h7, h8⟩ := h
    have ih := Ezb a b ps (k + 1) (q + 1) (by omega) (by omega) h8
    have hE := Gwb a b i j k q h2 (by omega) h4 (by omega)
    have hsame : b.take q ++ a.drop k = b.take (q + 1) ++ a.drop (k + 1) := by
      rw [Dhb h5, Wta h3, h6, List.append_assoc]; rfl
    simp only [Int.natCast_add, Int.natCast_one] at ih
    rw [List.cons_append, Cta]
    split
    · rw [List.singleton_append, Jva]
      simp only at hE ⊢
      have e1 : ((i : Int) + ((j : Int) - (i : Int))) = (j : Int) := by omega
      have e2 : ((i : Int) + ((k : Int) - (i : Int))).toNat - (i : Int).toNat = k - i := by omega
      have e3 : (q : Int).toNat - (j : Int).toNat = q - j := by omega
      have e4 : ((b.drop j).take (q - j)).length = q - j := by rw [List.length_take, List.length_drop]; omega
      have e5 : ((j : Int) - (i : Int) + ((q - j : Nat) : Int) - ((k : Int) - (i : Int))) = ((q : Int) + 1 - ((k : Int) + 1)) := by omega
      rw [e1, e2, e3, Int.toNat_natCast, Int.toNat_natCast, e4, e5]
      refine ⟨hE.1, ?_⟩
      rw [hE.2, hsame]
      exact ih
    · rename_i hc
      simp only at hc
      have hk : k = i := by omega
      have hq : q = j := by omega
      subst hk; subst hq
      rw [List.nil_append]
      have e5 : ((q : Int) - (k : Int)) = ((q : Int) + 1 - ((k : Int) + 1)) := by omega
      rw [e5, hsame]
      exact ih
theorem Itb (a b : List Str) : Xaa a (Nda a b) b := by
  have hal := Jib a b _ 0 0 (Nat.le_refl _)
  simp only [List.drop_zero, Int.natCast_zero] at hal
  have := Ezb a b _ 0 0 (by omega) (by omega) hal
  simp only [List.take_zero, List.drop_zero, List.nil_append, Int.natCast_zero, Int.sub_self] at this
  exact this
theorem Ewb {l m : List Str} (h : Uka l = true) (hs : ∀ x ∈ m, x ∈ l) (hl : m.length ≤ l.length) : Uka m = true := by
  simp only [Uka, Bool.and_eq_true, decide_eq_true_eq, List.all_eq_true] at h ⊢
  exact ⟨by omega, fun x hx => h.2 x (hs x hx)⟩
theorem Roa {n m : Nat} {a b : List Str} (hb : b.length = m) : ∀ {ps : List Dnb} {i j : Int} {x : Int}, 0 ≤ i → 0 ≤ j → x = j - i → OkE n m ps i j → ∀ h ∈ Jva a (Cta b ps i j) x, 0 ≤ h.1 ∧ h.1 ≤ m ∧ (∀ s ∈ h.2.1, s ∈ a) ∧ (∀ s ∈ h.2.2.1, s ∈ b) ∧ h.2.2.1.length ≤ b.length ∧ h.2.1.length ≤ a.length
  | [], _, _, _, _, _, _, _, h, hm => by simp [Cta, Jva] at hm
  | p :: ps, i, j, x, hi, hj, hx, ho, h, hm => by
    obtain ⟨o1, o2, o3, o4, o5⟩ := ho
    rw [Cta] at hm
    split at hm
    · rw [List.singleton_append, Jva] at hm
      rcases List.mem_cons.1 hm with rfl | hm
      · refine ⟨by simp only; omega, by simp only; omega, fun s hs => List.mem_of_mem_drop (List.mem_of_mem_take hs), fun s hs => List.mem_of_mem_drop (List.mem_of_mem_take hs), ?_, ?_⟩
        · simp only [List.length_take, List.length_drop]; omega
        · simp only [List.length_take, List.length_drop]; omega
      · refine Roa hb (by omega) (by omega) ?_ o5 h hm
        simp only [List.length_take, List.length_drop]
        omega
    · rename_i hc
      rw [List.nil_append] at hm
      exact Roa hb (by omega) (by omega) (by omega) o5 h hm
theorem Frb {a b : List Str} (ha : Uka a = true) (hb : Uka b = true) {h : Ppa} (hm : h ∈ Nda a b) : Vga h = true := by
  obtain ⟨h1, h2, h3, h4, h5, h6⟩ := Roa (n := a.length) rfl (Int.le_refl 0) (Int.le_refl 0) rfl (Lva a.length b.length a b 0 0 (by omega) (by omega)) h hm
  have hb' := hb
  simp only [Uka, Bool.and_eq_true, decide_eq_true_eq] at hb'
  simp only [Vga, Bool.and_eq_true, decide_eq_true_eq]
  exact ⟨⟨h1, by omega⟩, Ewb ha h3 h6, Ewb hb h4 h5⟩
theorem Zqa {t : Aha} (h : Nka t = true) (s : Str) : Uka ((Aja t s).getD []) = true := by
  cases hg : Aja t s with
  | none => rfl
  | some l => exact ((Jfa.1 h).1 _ (Adb hg)).2
theorem Fgb {t : Aha} (h : Nka t = true) {s : Str} (hs : (Aja t s).isSome = true) : Eka s = true := by
  cases hg : Aja t s with
  | none => rw [hg] at hs; cases hs
  | some l => exact ((Jfa.1 h).1 _ (Adb hg)).1
theorem Zya {t u : Aha} {p : Bua} {l : List Bua} (hm : Dia p = true) (hd : doP t p = some u) : Dqa t (p :: l) = Dqa u l := by
  have : Bfa t p = (u, 0) := by rw [Tra hm, hd]; rfl
  simp only [Dqa, this, if_true]
theorem Zla (s : Str) (hs : Eka s = true) : ∀ (hks : List Ppa) (t : Aha) (l m : List Str) (rest : List Bua), (∀ h ∈ hks, Vga h = true) → RT t → Aja t s = some l → Xaa l hks m →
    ∃ u, Dqa t (Hga s hks ++ rest) = Dqa u rest ∧ RT u ∧ Aja u s = some m ∧ ∀ x, x ≠ s → Aja u x = Aja t x
  | [], t, l, m, rest, _, hr, hg, ho => ⟨t, rfl, hr, by rw [hg]; exact congrArg some ho, fun _ _ => rfl⟩
  | h :: hks, t, l, m, rest, hm, hr, hg, ho => by
    obtain ⟨o1, o2⟩ := ho
    have hp : Dia (3, s, ByteArray.empty, h, ()) = true := by
      simp [Dia, Daa, hs, hm h List.mem_cons_self]
    have hd : doP t (3, s, ByteArray.empty, h, ()) = some (Jba t s (Gma l h)) := by
      rw [Ipb rfl]
      simp only [hg, Option.isSome_some, Option.getD_some, o1, and_self, if_true]
    have hr2 := Bra s (Gma l h) hr
    have hg2 : Aja (Jba t s (Gma l h)) s = some (Gma l h) := by rw [Bqa _ _ _ hr, if_pos rfl]
    obtain ⟨u, e1, e2, e3, e4⟩ := Zla s hs hks (Jba t s (Gma l h)) (Gma l h) m rest (fun h' hh => hm h' (List.mem_cons_of_mem _ hh)) hr2 hg2 o2
    refine ⟨u, ?_, e2, e3, fun x hx => by rw [e4 x hx, Bqa _ _ _ hr, if_neg hx]⟩
    show Dqa t ((3, s, ByteArray.empty, h, ()) :: (Hga s hks ++ rest)) = _
    rw [Zya hp hd, e1]
theorem Eyb {k : Int} {s : Str} (hk : k = 0 ∨ k = 1) (hs : Eka s = true) : Dia (k, s, ByteArray.empty, noH, ()) = true := by
  rcases hk with rfl | rfl <;> simp [Dia, Daa, Zra, hs]
theorem Khb {a b : Aha} (ma : Nka a = true) (mb : Nka b = true) {s : Str} (hs : ((Aja a s).isSome || (Aja b s).isSome) = true) (t : Aha) (rest : List Bua) (hr : RT t) (hg : Aja t s = Aja a s) :
    ∃ u, Dqa t (Lha a b s ++ rest) = Dqa u rest ∧ RT u ∧ Aja u s = Aja b s ∧ ∀ x, x ≠ s → Aja u x = Aja t x := by
  have hn : Eka s = true := by
    cases hA : (Aja a s).isSome with
    | true => exact Fgb ma hA
    | false => rw [hA, Bool.false_or] at hs; exact Fgb mb hs
  have hmay : ∀ h ∈ Nda ((Aja a s).getD []) ((Aja b s).getD []), Vga h = true := fun h hh => Frb (Zqa ma s) (Zqa mb s) hh
  have h1 : ∃ t1, Dqa t (Lha a b s ++ rest) = Dqa t1 (Hga s (Nda ((Aja a s).getD []) ((Aja b s).getD [])) ++ ((if (Aja b s).isSome then [] else [(1, s, ByteArray.empty, noH, ())]) ++ rest)) ∧ RT t1 ∧ Aja t1 s = some ((Aja a s).getD []) ∧ ∀ x, x ≠ s → Aja t1 x = Aja t x := by
    unfold Lha
    cases hA : Aja a s with
    | some l =>
      refine ⟨t, ?_, hr, by rw [hg, hA]; rfl, fun _ _ => rfl⟩
      simp only [Option.isSome_some, if_true, List.nil_append, List.append_assoc]
    | none =>
      refine ⟨Jba t s [], ?_, Bra s [] hr, by rw [Bqa _ _ _ hr, if_pos rfl]; rfl, fun x hx => by rw [Bqa _ _ _ hr, if_neg hx]⟩
      have hd : doP t (0, s, ByteArray.empty, noH, ()) = some (Jba t s []) := by
        rw [Imb rfl]
        simp only [hg, hA, Option.isSome_none, Bool.false_eq_true, if_false]
      have hf := fun l => Zya (l := l) (Eyb (.inl rfl) hn) hd
      simp only [Option.isSome_none, Bool.false_eq_true, if_false, List.append_assoc, List.singleton_append]
      exact (hf _).trans (congrArg (Dqa (Jba t s [])) (List.append_assoc _ _ _))
  obtain ⟨t1, e1, r1, g1, x1⟩ := h1
  obtain ⟨t2, e2, r2, g2, x2⟩ := Zla s hn _ t1 _ _ ((if (Aja b s).isSome then [] else [(1, s, ByteArray.empty, noH, ())]) ++ rest) hmay r1 g1 (Itb ((Aja a s).getD []) ((Aja b s).getD []))
  cases hB : Aja b s with
  | some l =>
    refine ⟨t2, ?_, r2, by rw [g2, hB]; rfl, fun x hx => by rw [x2 x hx, x1 x hx]⟩
    rw [e1, e2, hB]
    rfl
  | none =>
    rw [hB] at g2
    refine ⟨Qoa t2 s, ?_, Dga s r2, by rw [Gwa _ _ r2, if_pos rfl], fun x hx => by rw [Gwa _ _ r2, if_neg hx, x2 x hx, x1 x hx]⟩
    rw [e1, e2, hB]
    simp only [Option.isSome_none, Bool.false_eq_true, if_false, List.singleton_append]
    refine Zya (Eyb (.inr rfl) hn) ?_
    rw [Inb rfl]
    simp only [g2, Option.getD_none, if_true]
theorem Fhb {a b : Aha} (ma : Nka a = true) (mb : Nka b = true) : ∀ (ns : List Str) (t : Aha) (rest : List Bua), ns.Nodup → (∀ s ∈ ns, ((Aja a s).isSome || (Aja b s).isSome) = true) → RT t → (∀ s ∈ ns, Aja t s = Aja a s) →
    ∃ u, Dqa t (ns.flatMap (Lha a b) ++ rest) = Dqa u rest ∧ RT u ∧ (∀ s ∈ ns, Aja u s = Aja b s) ∧ ∀ x, x ∉ ns → Aja u x = Aja t x
  | [], t, rest, _, _, hr, _ => ⟨t, rfl, hr, fun s hs => by simp at hs, fun _ _ => rfl⟩
  | s :: ns, t, rest, hn, hs, hr, hg => by
    obtain ⟨n1, n2⟩ := List.nodup_cons.1 hn
    obtain ⟨t1, e1, r1, g1, x1⟩ := Khb ma mb (hs s List.mem_cons_self) t (ns.flatMap (Lha a b) ++ rest) hr (hg s List.mem_cons_self)
    obtain ⟨t2, e2, r2, g2, x2⟩ := Fhb ma mb ns t1 rest n2 (fun x hx => hs x (List.mem_cons_of_mem _ hx)) r1 (fun x hx => by
      rw [x1 x (fun he => n1 (he ▸ hx))]; exact hg x (List.mem_cons_of_mem _ hx))
    refine ⟨t2, by rw [List.flatMap_cons, List.append_assoc, e1, e2], r2, fun x hx => ?_, fun x hx => ?_⟩
    · rcases List.mem_cons.1 hx with rfl | hx
      · rw [x2 x n1, g1]
      · exact g2 x hx
    · rw [x2 x (fun h => hx (List.mem_cons_of_mem _ h)), x1 x (fun h => hx (h ▸ List.mem_cons_self))]
theorem Clb {a b : Aha} {s : Str} (h : s ∉ Lta a b) : Aja a s = none ∧ Aja b s = none := by
  have hm : ∀ f, f ∈ a ∨ f ∈ b → f.1 ≠ s := fun f hf he => by
    apply h
    rw [← Xga, (Lia ((a ++ b).map (·.1)) [] List.Pairwise.nil).2 s]
    exact .inr (List.mem_map.2 ⟨f, List.mem_append.2 hf, he⟩)
  exact ⟨Fba fun f hf => hm f (.inl hf), Fba fun f hf => hm f (.inr hf)⟩
theorem Kob {a b : Aha} (ma : Nka a = true) (mb : Nka b = true) (rest : List Bua) : Dqa a (Yea a b ++ rest) = Dqa b rest := by
  obtain ⟨u, e, r, g, x⟩ := Fhb ma mb (Lta a b) a rest (Dzb a b) (fun s hs => Cmb hs) (Txa ma) fun _ _ => rfl
  have : u = b := Mma r (Txa mb) fun s => by
    by_cases h : s ∈ Lta a b
    · exact g s h
    · rw [x s h, (Clb h).1, (Clb h).2]
  rw [Yea, e, this]
theorem Icb {l : List Str} {h : Ppa} (ha : isAt l h.1 h.2.1 = true) : isAt (Gma l h) h.1 h.2.2.1 = true ∧ Gma (Gma l h) (Uba h) = l := by
  simp only [isAt, Bool.and_eq_true, decide_eq_true_eq] at ha
  obtain ⟨⟨h1, h2⟩, h3⟩ := ha
  have hl : (l.take h.1.toNat).length = h.1.toNat := by rw [List.length_take]; omega
  constructor
  · have p1 : ((Gma l h).drop h.1.toNat).take h.2.2.1.length = h.2.2.1 := by
      unfold Gma
      rw [List.drop_left' hl, List.take_left']
      rfl
    have p2 : h.1 ≤ (Gma l h).length := by
      unfold Gma
      rw [List.length_append, hl]; omega
    simp only [isAt, Bool.and_eq_true, decide_eq_true_eq]
    exact ⟨⟨h1, p1⟩, p2⟩
  · simp only [Gma, Uba]
    rw [List.take_left' hl]
    have e1 : (l.take h.1.toNat ++ (h.2.2.1 ++ l.drop (h.1.toNat + h.2.1.length))).drop (h.1.toNat + h.2.2.1.length) = l.drop (h.1.toNat + h.2.1.length) := by
      rw [← List.append_assoc, List.drop_left']
      rw [List.length_append, hl]
    rw [e1]
    have e2 : h.2.1 ++ l.drop (h.1.toNat + h.2.1.length) = l.drop h.1.toNat := by
      have := List.take_append_drop h.2.1.length (l.drop h.1.toNat)
      rw [h2, List.drop_drop] at this
      exact this
    rw [e2, List.take_append_drop]
theorem Iqb {t u : Aha} {p : Bua} (hm : Dia p = true) (hr : RT t) (hd : doP t p = some u) : Dia (Kma p) = true ∧ RT u ∧ doP u (Kma p) = some t := by
  have hk := Qaa hm
  by_cases k0 : p.1 = 0
  · rw [Imb k0] at hd
    split at hd
    · cases hd
    · rename_i hn
      cases hd
      have hn' : Aja t p.2.1 = none := by cases hg : Aja t p.2.1 with
        | none => rfl
        | some l => rw [hg] at hn; simp at hn
      have e : Kma p = (1, p.2.1, p.2.2.1, p.2.2.2.1, ()) := by unfold Kma; rw [if_pos k0]
      refine ⟨?_, Bra _ _ hr, ?_⟩
      · rw [e]
        unfold Dia at hm ⊢
        rw [if_pos (.inl k0)] at hm
        rw [if_pos (.inr rfl)]
        exact hm
      · rw [e, Inb rfl]
        simp only
        rw [Bqa _ _ _ hr, if_pos rfl, if_pos rfl, Kdb _ _ hr hn']
  · by_cases k1 : p.1 = 1
    · rw [Inb k1] at hd
      split at hd
      · rename_i hn
        cases hd
        have e : Kma p = (0, p.2.1, p.2.2.1, p.2.2.2.1, ()) := by unfold Kma; rw [if_neg k0, if_pos k1]
        refine ⟨?_, Dga _ hr, ?_⟩
        · rw [e]
          unfold Dia at hm ⊢
          rw [if_pos (.inr k1)] at hm
          rw [if_pos (.inl rfl)]
          exact hm
        · rw [e, Imb rfl]
          simp only
          rw [Gwa _ _ hr, if_pos rfl]
          simp only [Option.isSome_none, Bool.false_eq_true, if_false, Option.some.injEq]
          refine Mma (Bra _ _ (Dga _ hr)) hr fun x => ?_
          rw [Bqa _ _ _ (Dga _ hr), Gwa _ _ hr]
          by_cases hx : x = p.2.1
          · rw [if_pos hx, hx, hn]
          · rw [if_neg hx, if_neg hx]
      · cases hd
    · by_cases k2 : p.1 = 2
      · rw [Iob k2] at hd
        split at hd
        · rename_i hn
          cases hd
          obtain ⟨hn1, hn2⟩ := hn
          obtain ⟨l, hl⟩ := Option.isSome_iff_exists.1 hn1
          have hto : Aja t p.2.2.1 = none := by cases hg : Aja t p.2.2.1 with
            | none => rfl
            | some l => rw [hg] at hn2; simp at hn2
          have hne : p.2.1 ≠ p.2.2.1 := fun he => by rw [he, hto] at hl; cases hl
          have e : Kma p = (p.1, p.2.2.1, p.2.1, p.2.2.2.1, ()) := by unfold Kma; rw [if_neg k0, if_neg k1, if_pos k2]
          have r1 := Dga p.2.1 hr
          have r2 := Bra p.2.2.1 ((Aja t p.2.1).getD []) r1
          refine ⟨?_, r2, ?_⟩
          · rw [e]
            unfold Dia at hm ⊢
            rw [if_neg (by omega), if_pos k2] at hm
            rw [if_neg (by simp only; omega), if_pos k2]
            simp only [Bool.and_eq_true, decide_eq_true_eq] at hm ⊢
            exact ⟨⟨hm.1.2, hm.1.1⟩, Ne.symm hm.2.1, hm.2.2⟩
          · rw [e, Iob (show ((p.1, p.2.2.1, p.2.1, p.2.2.2.1, ()) : Bua).1 = 2 from k2)]
            simp only
            have g1 : Aja (Jba (Qoa t p.2.1) p.2.2.1 ((Aja t p.2.1).getD [])) p.2.2.1 = some l := by rw [Bqa _ _ _ r1, if_pos rfl, hl]; rfl
            have g2 : Aja (Jba (Qoa t p.2.1) p.2.2.1 ((Aja t p.2.1).getD [])) p.2.1 = none := by rw [Bqa _ _ _ r1, if_neg hne, Gwa _ _ hr, if_pos rfl]
            rw [g1, g2]
            simp only [Option.isSome_some, Option.isSome_none, and_self, if_true, Option.getD_some, Option.some.injEq]
            refine Mma (Bra _ _ (Dga _ r2)) hr fun x => ?_
            rw [Bqa _ _ _ (Dga _ r2), Gwa _ _ r2, Bqa _ _ _ r1, Gwa _ _ hr]
            by_cases hx : x = p.2.1
            · rw [if_pos hx, hx, hl]
            · by_cases hx2 : x = p.2.2.1
              · rw [if_neg hx, if_pos hx2, hx2, hto]
              · rw [if_neg hx, if_neg hx2, if_neg hx2, if_neg hx]
        · cases hd
      · have e : Kma p = (p.1, p.2.1, p.2.2.1, Uba p.2.2.2.1, ()) := by unfold Kma; rw [if_neg k0, if_neg k1, if_neg k2]
        by_cases k3 : p.1 = 3
        · rw [Ipb k3] at hd
          split at hd
          · rename_i hn
            cases hd
            obtain ⟨hn1, hn2⟩ := hn
            obtain ⟨l, hl⟩ := Option.isSome_iff_exists.1 hn1
            simp only [hl, Option.getD_some] at hn2 ⊢
            obtain ⟨b1, b2⟩ := Icb hn2
            have r2 := Bra p.2.1 (Gma l p.2.2.2.1) hr
            refine ⟨?_, r2, ?_⟩
            · rw [e]
              unfold Dia at hm ⊢
              rw [if_neg (by omega), if_neg k2, if_pos k3] at hm
              rw [if_neg (by simp only; omega), if_neg k2, if_pos k3]
              simp only [Bool.and_eq_true, Vga, Daa, Uba] at hm ⊢
              exact ⟨hm.1, hm.2.1, hm.2.2.2, hm.2.2.1⟩
            · rw [e, Ipb (show ((p.1, p.2.1, p.2.2.1, Uba p.2.2.2.1, ()) : Bua).1 = 3 from k3)]
              simp only
              have g1 : Aja (Jba t p.2.1 (Gma l p.2.2.2.1)) p.2.1 = some (Gma l p.2.2.2.1) := by rw [Bqa _ _ _ hr, if_pos rfl]
              rw [g1]
              simp only [Option.isSome_some, Option.getD_some, true_and]
              rw [if_pos (show isAt (Gma l p.2.2.2.1) (Uba p.2.2.2.1).1 (Uba p.2.2.2.1).2.1 = true from b1), b2]
              refine congrArg some (Mma (Bra _ _ r2) hr fun x => ?_)
              rw [Bqa _ _ _ r2, Bqa _ _ _ hr]
              by_cases hx : x = p.2.1
              · rw [if_pos hx, hx, hl]
              · rw [if_neg hx, if_neg hx]
          · cases hd
        · have k4 : p.1 = 4 := by omega
          rw [Keb (by omega)] at hd
          split at hd
          · rename_i hl
            cases hd
            have r2 := Bra p.2.1 p.2.2.2.1.2.2.1 hr
            refine ⟨?_, r2, ?_⟩
            · rw [e]
              unfold Dia at hm ⊢
              rw [if_neg (by omega), if_neg k2, if_neg k3, if_pos k4] at hm
              rw [if_neg (by simp only; omega), if_neg k2, if_neg k3, if_pos k4]
              simp only [Bool.and_eq_true, Vga, Daa, Uba] at hm ⊢
              exact ⟨⟨hm.1.1, hm.1.2.1, hm.1.2.2.2, hm.1.2.2.1⟩, hm.2⟩
            · rw [e, Keb (show 4 ≤ ((p.1, p.2.1, p.2.2.1, Uba p.2.2.2.1, ()) : Bua).1 from by simp only; omega)]
              simp only
              rw [Bqa _ _ _ hr, if_pos rfl, if_pos (show some p.2.2.2.1.2.2.1 = some (Uba p.2.2.2.1).2.1 from rfl)]
              refine congrArg some (Mma (Bra _ _ r2) hr fun x => ?_)
              rw [Bqa _ _ _ r2, Bqa _ _ _ hr]
              by_cases hx : x = p.2.1
              · rw [if_pos hx, hx, hl]; rfl
              · rw [if_neg hx, if_neg hx]
          · cases hd
theorem Hab {l m : List Bua} : ∀ {t u : Aha}, Dqa t l = (u, 0) → Dqa t (l ++ m) = Dqa u m := by
  induction l with
  | nil => intro t u h; rw [Dqa] at h; cases h; rfl
  | cons p l ih =>
    intro t u h
    simp only [List.cons_append, Dqa] at h ⊢
    split at h
    · rename_i h0; rw [if_pos h0]; exact ih h
    · rename_i h0; exact absurd (Prod.mk.inj h).2 h0
theorem Fob {n m : Nat} {a : Aha} (b : Aha) (ha : Fit n m a) (s : Str) : (Lha a b s).length ≤ m + 3 := by
  have h1 := Tua ((Aja a s).getD []) ((Aja b s).getD [])
  have h2 := ha.get s
  simp only [Lha, List.length_append, Hga, List.length_map]
  split <;> split <;> simp <;> omega
theorem Fxb {n m : Nat} {a b : Aha} (ha : Fit n m a) (hb : b.length ≤ n) : (Yea a b).length ≤ (n + n) * (m + 3) := by
  have h1 := Rna (Lha a b) (m + 3) (Lta a b) fun s _ => Fob b ha s
  have h2 := Cnb a b
  have h3 := ha.1
  exact Nat.le_trans h1 (Nat.mul_le_mul_right _ (by omega))
theorem Htb {s : Str} (h : Eka s = true) : s.size ≤ 16 := by
  simp only [Eka, Bool.and_eq_true, decide_eq_true_eq] at h
  exact h.1.2
theorem Zia (b : List Str) (n : Int) : ∀ (l : List Str) (i : Int), n = i + l.length → Cta b (Dca l l i i ++ [(n, n, ())]) i i = []
  | [], i, h => by
    rw [Hwa, List.nil_append, Cta, Cta, if_neg (by simp at h; simp only; omega)]; rfl
  | x :: xs, i, h => by
    rw [Mba, if_pos rfl, List.cons_append, Cta, if_neg (by simp only; omega), List.nil_append]
    exact Zia b n xs (i + 1) (by rw [h, List.length_cons]; omega)
theorem Fsb (l : List Str) : Nda l l = [] := by
  rw [Nda, Uoa, Zia l _ l 0 (by omega)]
  rfl
theorem Acb (p : Bua) (h : Kka p) : Pya (p, ()) = some (!Dia p, ()) := by
  rw [Abb]
  simp only [Vra, Cza, Xla p h, Aaa]
theorem Eia (l : List Bua) (hb : l.length < 4611686018427387903) (hw : ∀ p ∈ l, Kka p) : ∀ (r : List Bua) (i : Nat), l.drop i = r → i ≤ l.length →
    ∃ y, Awa (l, (l.length : Int), (i : Int), ()) = some y ∧ (match y with
      | .inl z => r.all Dia = false ∧ 0 ≤ z.2.1
      | .inr _ => r.all Dia = true)
  | [], i, h, hi => by
    have := Aga h hi
    subst this
    rw [Eha]
    simp (disch := omega) only [Bma, PP]
    exact ⟨_, rfl, rfl⟩
  | p :: r, i, h, hi => by
    obtain ⟨h1, h2, h3, h4⟩ := Aca h
    have e := Acb p (hw p h4)
    rw [Eha]
    cases hm : Dia p with
    | false =>
      rw [hm] at e
      simp (disch := omega) only [Bma, PP, h2, Cza, e, Bool.not_false]
      refine ⟨_, rfl, ?_⟩
      exact ⟨by rw [List.all_cons, hm, Bool.false_and], by simp only; omega⟩
    | true =>
      rw [hm] at e
      simp (disch := omega) only [Bma, PP, h2, Cza, e, Bool.not_true]
      obtain ⟨y, e', q⟩ := Eia l hb hw r (i + 1) h3 (by omega)
      refine ⟨y, e', ?_⟩
      cases y with
      | inl z => simp only [List.all_cons, hm, Bool.true_and] at q ⊢; exact q
      | inr z => simp only [List.all_cons, hm, Bool.true_and] at q ⊢; exact q
theorem Wua (l : List Bua) (hb : l.length < 4611686018427387903) (hw : ∀ p ∈ l, Kka p) : Kwa (l, ()) = some (l.all Dia, ()) := by
  obtain ⟨y, e, q⟩ := Eia l hb hw l 0 rfl (by omega)
  simp only [Int.natCast_zero] at e
  rw [Dsb]
  cases y with
  | inl z =>
    simp only at q
    simp (disch := omega) only [Vqa, PP, e, q.1]
    rw [decide_eq_true q.2]; rfl
  | inr z =>
    simp only at q
    simp (disch := omega) only [Vqa, PP, e, q]
theorem Pdb {p : Bua} (h : Kka p) : Kka (Kma p) := by
  unfold Kma
  split
  · exact ⟨h.n, h.t, h.o, h.w⟩
  · split
    · exact ⟨h.n, h.t, h.o, h.w⟩
    · split
      · exact ⟨h.t, h.n, h.o, h.w⟩
      · exact ⟨h.n, h.t, h.w, h.o⟩
theorem Lab {l : List Bua} (h : ∀ p ∈ l, Kka p) : ∀ p ∈ Toa l, Kka p := fun p hp => by
  simp only [Toa, List.mem_map, List.mem_reverse] at hp
  obtain ⟨q, hq, rfl⟩ := hp
  exact Pdb (h q hq)
theorem Idb (l : List Bua) : (Toa l).length = l.length := by simp [Toa]
theorem Hub (a : Aha) : Yea a a = [] := by
  unfold Yea
  rw [List.flatMap_eq_nil_iff]
  intro s hs
  have h := Cmb hs
  rw [Bool.or_self] at h
  simp only [Lha, h, if_true, Fsb, Hga, List.map_nil, List.append_nil]
theorem Cob {a b : Aha} (ma : Nka a = true) (mb : Nka b = true) : Yea a b = [] ↔ a = b := by
  constructor
  · intro h
    have := Kob ma mb []
    rw [h] at this
    exact (Prod.mk.inj this).1
  · rintro rfl; exact Hub a
abbrev Id := Int × Int × Unit
abbrev Ana := Id × List Id × Str × List Bua × Unit
abbrev Nia := Int × List Ana × Aha × Aha × Int × Unit
instance (s : Str) (l : List Str) : Decidable (s ∈ l) := decidable_of_iff (Dyb s l = true) (Vja s l)
inductive Iib {α : Type} (R : α → α → Prop) : List α → List α → Prop
  | nil : Iib R [] []
  | cons {x y : α} {l m : List α} : R x y → Iib R l m → Iib R (x :: l) (y :: m)
def Peb (p : Ana) (l : List Bua) : Ana := (p.1, p.2.1, p.2.2.1, l, ())
def Iwb (a b : Id) : Bool := decide (a.1 < b.1) || (decide (a.1 = b.1) && decide (a.2.1 < b.2.1))
def Hlb (x : Id) : Bool := decide (0 ≤ x.1) && decide (x.1 < 8) && decide (1 ≤ x.2.1) && decide (x.2.1 ≤ 1048576)
def Vba : List Id → Bool
  | a :: b :: l => Iwb a b && Vba (b :: l)
  | _ => true
def Hmb (p : Ana) : Bool :=
  Hlb p.1 && decide (p.2.1.length ≤ 60) && p.2.1.all (fun x => Hlb x && decide (x ≠ p.1)) && Vba p.2.1 && Azb p.2.2.1 && decide (p.2.2.2.1.length ≤ 200) && p.2.2.2.1.all Dia
def Gpb (l : List Ana) : List Bua := l.flatMap fun p => p.2.2.2.1
def Mta (t : Aha) (l : List Ana) : Aha × Int := Dqa t (Gpb l)
def Tsa (l : List Ana) (id : Id) : Option Nat := l.findIdx? fun p => decide (p.1 = id)
def Dlb : List Id → List Ana → Int → Int → Bool
  | _, [], _, _ => true
  | ids, p :: l, who, made => Hmb p && decide (p.1 ∉ ids) && !(decide (p.1.1 = who) && decide (made < p.1.2.1)) && Dlb (ids ++ [p.1]) l who made
def Ckb (r : Nia) : Bool :=
  decide (0 ≤ r.1) && decide (r.1 < 8) && decide (r.2.1.length ≤ 60) && decide (0 ≤ r.2.2.2.2.1) && decide (r.2.2.2.2.1 ≤ 1048576) && Dlb [] r.2.1 r.1 r.2.2.2.2.1
    && decide ((Mta [] r.2.1).2 = 0) && decide ((Mta [] r.2.1).1 = r.2.2.1) && Nka r.2.2.1 && Nka r.2.2.2.1
def Osa (r : Nia) : List Bua := if Ckb r = true then Yea r.2.2.1 r.2.2.2.1 else []
theorem Eub {α : Type} {R : α → α → Prop} {l m : List α} (h : Iib R l m) : ∀ {y}, y ∈ m → ∃ x ∈ l, R x y := by
  induction h with
  | nil => intro y hy; cases hy
  | cons a1 a2 ih =>
    intro y hy
    rcases List.mem_cons.1 hy with rfl | hy
    · exact ⟨_, List.mem_cons_self, a1⟩
    · obtain ⟨x, hx, hr⟩ := ih hy; exact ⟨x, List.mem_cons_of_mem _ hx, hr⟩
structure Kna (p : Bua) : Prop where
  n : p.2.1.size ≤ 100
  t : p.2.2.1.size ≤ 100
  o : p.2.2.2.1.2.1.length ≤ 300
  w : p.2.2.2.1.2.2.1.length ≤ 300
theorem Kna.w' {p : Bua} (h : Kna p) : Kka p := ⟨by have := h.n; omega, by have := h.t; omega, by have := h.o; omega, by have := h.w; omega⟩
theorem Kkb {p : Bua} (h : p.1 = 2) : Dia p = ((Eka p.2.1 && Eka p.2.2.1) && (decide (p.2.1 ≠ p.2.2.1) && Zra p)) := by unfold Dia; rw [if_neg (by omega), if_pos h]
structure Ldb (p q : Bua) : Prop where
  k : p.1 = q.1
  m : Dia p = true → Dia q = true
  l : Kna p → Kna q
theorem Ldb.trans {p q r : Bua} (h : Ldb p q) (k : Ldb q r) : Ldb p r := ⟨h.k.trans k.k, k.m ∘ h.m, k.l ∘ h.l⟩
structure Kin (p q : Ana) : Prop where
  id : p.1 = q.1
  deps : p.2.1 = q.2.1
  text : p.2.2.1 = q.2.2.1
  l : Iib Ldb p.2.2.2.1 q.2.2.2.1
theorem Ywa {α : Type} {R : α → α → Prop} (ht : ∀ {x y z}, R x y → R y z → R x z) : ∀ {a b c : List α}, Iib R a b → Iib R b c → Iib R a c
  | _, _, _, .nil, .nil => .nil
  | _, _, _, .cons a b, .cons c d => .cons (ht a c) (Ywa (R := R) (fun h k => ht h k) b d)
theorem Zpa {α : Type} {R : α → α → Prop} : ∀ {a b : List α}, Iib R a b → a.length = b.length
  | _, _, .nil => rfl
  | _, _, .cons _ b => by simp [Zpa b]
theorem Kin.trans {p q r : Ana} (h : Kin p q) (k : Kin q r) : Kin p r := ⟨h.id.trans k.id, h.deps.trans k.deps, h.text.trans k.text, Ywa (fun a b => a.trans b) h.l k.l⟩
theorem Kin.may {p q : Ana} (h : Kin p q) (k : Hmb p = true) : Hmb q = true := by
  unfold Hmb at k ⊢
  rw [← h.id, ← h.deps, ← h.text, ← Zpa h.l]
  simp only [Bool.and_eq_true] at k ⊢
  refine ⟨k.1, ?_⟩
  have := k.2
  rw [List.all_eq_true] at this ⊢
  intro y hy
  obtain ⟨x, hx, hr⟩ := Eub h.l hy
  exact hr.m (this x hx)
theorem Dmb (who made : Int) : ∀ (l : List Ana) (ids : List Id), Dlb ids l who made = true ↔ (∀ p ∈ l, Hmb p = true ∧ (p.1.1 = who → p.1.2.1 ≤ made)) ∧ (l.map (·.1)).Nodup ∧ ∀ p ∈ l, p.1 ∉ ids
  | [], ids => by simp [Dlb]
  | p :: l, ids => by
    have ih := Dmb who made l (ids ++ [p.1])
    unfold Dlb
    rw [Bool.and_eq_true, ih]
    simp only [Bool.and_eq_true, decide_eq_true_eq, Bool.not_eq_true', Bool.and_eq_false_iff, decide_eq_false_iff_not, List.mem_cons, forall_eq_or_imp, List.map_cons, List.nodup_cons, List.mem_append, List.mem_map, not_or, List.not_mem_nil, not_false_eq_true, and_true, List.mem_singleton]
    constructor
    · rintro ⟨⟨⟨a, b⟩, c⟩, d, e, f⟩
      refine ⟨⟨⟨a, fun h => ?_⟩, d⟩, ⟨?_, e⟩, b, fun q hq => (f q hq).1⟩
      · rcases c with c | c
        · exact absurd h c
        · omega
      · rintro ⟨q, hq, h⟩; exact (f q hq).2 h
    · rintro ⟨⟨⟨a, b⟩, c⟩, ⟨d, e⟩, f, g⟩
      refine ⟨⟨⟨a, f⟩, ?_⟩, c, e, fun q hq => ⟨g q hq, fun h => d ⟨q, hq, h⟩⟩⟩
      by_cases h : p.1.1 = who
      · right; have := b h; omega
      · left; exact h
structure Ifb (r : Nia) : Prop where
  w0 : 0 ≤ r.1
  w1 : r.1 < 8
  n : r.2.1.length ≤ 60
  m0 : 0 ≤ r.2.2.2.2.1
  m1 : r.2.2.2.2.1 ≤ 1048576
  p : ∀ p ∈ r.2.1, Hmb p = true ∧ (p.1.1 = r.1 → p.1.2.1 ≤ r.2.2.2.2.1)
  u : (r.2.1.map (·.1)).Nodup
  a : Mta [] r.2.1 = (r.2.2.1, 0)
  b : Nka r.2.2.1 = true
  k : Nka r.2.2.2.1 = true
theorem Lsa (r : Nia) : Ckb r = true ↔ Ifb r := by
  unfold Ckb
  simp only [Bool.and_eq_true, decide_eq_true_eq, Dmb]
  constructor
  · rintro ⟨⟨⟨⟨⟨⟨⟨⟨⟨a, b⟩, c⟩, d⟩, e⟩, f, g, _⟩, h⟩, i⟩, j⟩, k⟩
    exact ⟨a, b, c, d, e, f, g, Prod.ext i h, j, k⟩
  · rintro ⟨a, b, c, d, e, f, g, h, i, j⟩
    exact ⟨⟨⟨⟨⟨⟨⟨⟨⟨a, b⟩, c⟩, d⟩, e⟩, f, g, by simp⟩, by rw [h]⟩, by rw [h]⟩, i⟩, j⟩
abbrev noR : Nia := (0, [], [], [], 0, ())
def Kzb (r : Nia) (t : Aha) : Nia := (r.1, r.2.1, r.2.2.1, t, r.2.2.2.2.1, ())
def Ova (r : Nia) : Id := (r.1, r.2.2.2.2.1 + 1, ())
def Tta (r : Nia) : Prop := 60 ≤ r.2.1.length ∨ 1048576 ≤ r.2.2.2.2.1
instance (r : Nia) : Decidable (Tta r) := inferInstanceAs (Decidable (_ ∨ _))
def Nja (r : Nia) (p : Ana) (t : Aha) : Nia := (r.1, r.2.1 ++ [p], t, t, r.2.2.2.2.1 + 1, ())
def Cxa (name to : Str) : Bua := (2, name, to, (0, [], [], ()), ())
def Kda : Str := ⟨#[109, 111, 118, 101]⟩
def Ora (r : Nia) (name to : Str) : Nia × Int :=
  if Ckb r = false then (noR, 1)
  else if Osa r ≠ [] then (noR, 9)
  else if Tta r then (noR, 8)
  else if (Bfa r.2.2.1 (Cxa name to)).2 ≠ 0 then (noR, (Bfa r.2.2.1 (Cxa name to)).2)
  else (Nja r (Ova r, [], Kda, [Cxa name to], ()) (Bfa r.2.2.1 (Cxa name to)).1, 0)
theorem Tya {r : Nia} (h : Ifb r) : Osa r = Yea r.2.2.1 r.2.2.2.1 := by rw [Osa, if_pos ((Lsa r).2 h)]
theorem Hbb {l m : List Bua} {t u : Aha} (h : Dqa t l = (u, 0)) : Dqa t (l ++ m) = Dqa u m := Hab h
theorem Iyb {r : Nia} (h : Ifb r) (hf : ¬ Tta r) {p : Ana} {t : Aha} (hi : p.1 = Ova r) (hp : Hmb p = true) (ha : Dqa r.2.2.1 p.2.2.2.1 = (t, 0)) (ht : Nka t = true) : Ifb (Nja r p t) := by
  unfold Tta at hf
  refine ⟨h.w0, h.w1, ?_, ?_, ?_, ?_, ?_, ?_, ht, ht⟩
  · simp only [Nja, List.length_append, List.length_singleton]; omega
  · simp only [Nja]; have := h.m0; omega
  · simp only [Nja]; omega
  · intro q hq
    simp only [Nja] at hq ⊢
    rcases List.mem_append.1 hq with hq | hq
    · obtain ⟨a, b⟩ := h.p q hq
      exact ⟨a, fun e => by have := b e; omega⟩
    · rw [List.mem_singleton.1 hq, hi]
      refine ⟨hp, fun _ => ?_⟩
      simp [Ova]
  · simp only [Nja, List.map_append, List.map_cons, List.map_nil]
    rw [List.nodup_append]
    refine ⟨h.u, by simp, ?_⟩
    intro a ha' b hb e
    rw [List.mem_singleton] at hb
    subst hb
    obtain ⟨q, hq, rfl⟩ := List.mem_map.1 ha'
    have := (h.p q hq).2
    rw [e, hi] at this
    simp only [Ova] at this
    have := this trivial
    omega
  · simp only [Nja, Mta, Gpb, List.flatMap_append]
    have ha' := h.a
    unfold Mta at ha'
    rw [show List.flatMap (fun p : Ana => p.2.2.2.1) r.2.1 = Gpb r.2.1 from rfl, Hbb ha']
    simpa using ha
def Leb (h : Ppa) : Prop := h.2.1.length ≤ 300 ∧ h.2.2.1.length ≤ 300
theorem Kna.h {p : Bua} (h : Kna p) : Leb p.2.2.2.1 := ⟨h.o, h.w⟩
theorem Dza (x : Id) : ((x.1, x.2.1, ()) : Id) = x := rfl
theorem Cua (x : Ana) : (((x.1.1, x.1.2.1, ()), x.2.1, x.2.2.1, x.2.2.2.1, ()) : Ana) = x := rfl
theorem Jia (x : Ana) : ((x.1, x.2.1, x.2.2.1, x.2.2.2.1, ()) : Ana) = x := rfl
theorem Gsb (a b c d : Int) : (a == c && (b == d && true)) = decide (((a, b, ()) : Id) = (c, d, ())) := by
  simp only [Bool.and_true, Gra, Prod.mk.injEq, and_true, Bool.decide_and]
theorem Ipa (l : List Id) (s : Id) (hb : l.length < 4611686018427387903) : ∀ (r : List Id) (i : Nat), l.drop i = r → i ≤ l.length →
    ∃ y, Cga (s.1, s.2.1, l, (l.length : Int), (i : Int), ()) = some y ∧ (match y with
      | .inl z => 0 ≤ z.2.2.2.1 ∧ s ∈ r
      | .inr _ => s ∉ r)
  | [], i, h, hi => by
    have := Aga h hi
    subst this
    rw [Ioa]
    simp (disch := omega) only [Cwa, PP]
    exact ⟨_, rfl, by simp⟩
  | f :: r, i, h, hi => by
    obtain ⟨h1, h2, h3, h4⟩ := Aca h
    rw [Ioa]
    by_cases hf : s = f
    · simp (disch := first | omega | exact hf) only [Cwa, PP, h2, Gsb, Dza]
      exact ⟨_, rfl, by simp only; omega, by simp [hf]⟩
    · simp (disch := first | omega | exact hf) only [Cwa, PP, h2, Gsb, Dza]
      obtain ⟨y, e, p⟩ := Ipa l s hb r (i + 1) h3 (by omega)
      refine ⟨y, e, ?_⟩
      cases y with
      | inl z => simp only at p ⊢; exact ⟨p.1, List.mem_cons_of_mem _ p.2⟩
      | inr z => simp only [List.mem_cons, not_or] at p ⊢; exact ⟨hf, p⟩
theorem Eda (l : List Id) (s : Id) (hb : l.length < 4611686018427387903) : Cfa (l, s, ()) = some (decide (s ∈ l), ()) := by
  obtain ⟨y, e, p⟩ := Ipa l s hb l 0 rfl (by omega)
  simp only [Int.natCast_zero] at e
  have e2 : ∃ n : Int, Hka (l, s, ()) = some (n, ()) ∧ (0 ≤ n ↔ s ∈ l) := by
    rw [Tka]
    unfold Msa
    simp only [e, Aaa]
    cases y with
    | inl z => simp only at p; simp only [Ida]; exact ⟨_, rfl, ⟨fun _ => p.2, fun _ => p.1⟩⟩
    | inr z => simp only at p; simp only [Hla]; exact ⟨_, rfl, ⟨fun h => by omega, fun h => absurd h p⟩⟩
  obtain ⟨n, e2, hn⟩ := e2
  rw [Pla]
  unfold Joa
  simp only [Dza, e2, Aaa]
  exact congrArg (fun b => some (b, ())) (decide_eq_decide.2 hn)
structure Hoa (p : Ana) : Prop where
  l : ∀ c ∈ p.2.2.2.1, Kna c
  n : p.2.2.2.1.length ≤ 1000
  d : p.2.1.length ≤ 1000
  t : p.2.2.1.size ≤ 1000
theorem Kin.light {p q : Ana} (h : Kin p q) (k : Hoa p) : Hoa q := by
  refine ⟨fun c hc => ?_, by rw [← Zpa h.l]; exact k.n, by rw [← h.deps]; exact k.d, by rw [← h.text]; exact k.t⟩
  obtain ⟨x, hx, hr⟩ := Eub h.l hc
  exact hr.l (k.l x hx)
theorem Hoa.b {p : Ana} (h : Hoa p) : ∀ c ∈ p.2.2.2.1, Fmb c := fun c hc => (h.l c hc).w'.b
theorem Avb (p : Ana) (l : List Bua) (h : p.2.1.length ≤ 1000) : Fva (p, l, ()) = some (Peb p l, ()) := by
  have hM := Aia
  rw [Rva]
  simp (disch := omega) only [Lda, PP, Dza]
  rfl
def Ijb {α : Type} (l c : List α) (i : Nat) : Prop := c.length = l.length ∧ ∀ x, c[x]? = if x < i ∨ l.length ≤ x + i then l.reverse[x]? else l[x]?
theorem Ijb.zero {α : Type} (l : List α) : Ijb l l 0 := by
  refine ⟨rfl, fun x => ?_⟩
  split
  · rename_i h
    rw [List.getElem?_eq_none (by omega), List.getElem?_eq_none (by simp; omega)]
  · rfl
theorem Ijb.end {α : Type} {l c : List α} {i : Nat} (h : Ijb l c i) (hi : l.length ≤ 2 * i + 1) : c = l.reverse := by
  apply List.ext_getElem?
  intro x
  rw [h.2 x]
  split
  · rfl
  · rename_i hx
    have : x < l.length := by omega
    rw [List.getElem?_reverse this]
    congr 1
    omega
theorem Ena (q : Ana) (hq : Hoa q) : Jla ([], q, ()) = some ([], q, true, ()) := by
  have e1 := Upa q.2.2.2.1 (by have := hq.n; omega) hq.b
  have hb2 : ∀ c ∈ Toa q.2.2.2.1, Fmb c := fun c hc => (Lab (fun p hp => (hq.l p hp).w') c hc).b
  have e2 := Upa (Toa q.2.2.2.1) (by rw [Idb]; have := hq.n; omega) hb2
  rw [Gbb] at e2
  have e3 := Avb q q.2.2.2.1 hq.d
  rw [show Peb q q.2.2.2.1 = q from rfl] at e3
  have hw1 : IntKind.wrap .i64 (((([] : List Ana).length : Nat) : Int) - 1) = -1 := by rw [Axa (by simp) (by simp)]; rfl
  have e4 : Ala ([], [], q.1.1, q.1.2.1, q.2.1, q.2.2.1, q.2.2.2.1, [], -1, ()) = some (.inr ([], [], q.1.1, q.1.2.1, q.2.1, q.2.2.1, q.2.2.2.1, [], -1, ())) := by
    rw [Iua]
    simp (disch := omega) only [Dua, PP]
  have e5 : Bea ([], [], q.1.1, q.1.2.1, q.2.1, q.2.2.1, q.2.2.2.1, [], 0, -1, ()) = some ([], [], q.1.1, q.1.2.1, q.2.1, q.2.2.1, q.2.2.2.1, [], 0, -1, ()) := by
    rw [Kla]
    simp (disch := omega) only [Gba, PP]
  rw [Aub]
  unfold Vza
  simp only [hw1]
  simp (disch := simp) only [Aka, Aba, Cua, Jia, Dza, e1, e2, e3, e4, e5, hw1, Aaa, Hla]
theorem Maa (ids : List Id) (l s a : List Ana) (hl : l.length ≤ 100000) : Csa (s, a, ids, l, (l.length : Int), (l.length : Int), ()) = some (s, a, ids, l, (l.length : Int), (l.length : Int), ()) := by
  rw [Gsa]
  simp (disch := omega) only [Fta, PP]
theorem Oba (ids : List Id) (hi0 : ids.length ≤ 1000000) (l : List Ana) (hl : l.length ≤ 100000) (hw : ∀ p ∈ l, Hoa p) (b : List Ana) (hb : b = [] ∨ ∃ p, b = [p] ∧ p.1 ∈ ids) : ∀ (r : List Ana) (i : Nat) (s : List Ana), l.drop i = r ++ b → i ≤ l.length → s.length + r.length ≤ 100000 → (∀ p ∈ r, p.1 ∉ ids) →
    Csa (s, [], ids, l, (l.length : Int), (i : Int), ()) = some (s ++ r, b, ids, l, (l.length : Int), (l.length : Int), ())
  | [], i, s, h, hi, hn, hr => by
    rw [List.append_nil]
    rcases hb with rfl | ⟨p, rfl, hp⟩
    · have := Aga h hi
      subst this
      exact Maa ids l s [] hl
    · obtain ⟨h1, h2, h3, h4⟩ := Aca h
      have hM := Aia
      have e1 := Eda ids p.1 (by omega)
      rw [decide_eq_true hp] at e1
      have e2 := Ena p (hw p h4)
      have hil := Aga h3 (by omega)
      rw [Gsa]
      simp (disch := omega) only [Fta, PP, h2, Cua, Jia, Dza, e1, e2]
      rw [hil]
      exact Maa ids l s [p] hl
  | p :: r, i, s, h, hi, hn, hr => by
    obtain ⟨h1, h2, h3, h4⟩ := Aca h
    have hM := Aia
    have e1 := Eda ids p.1 (by omega)
    rw [decide_eq_false (hr p List.mem_cons_self)] at e1
    have e2 := Ena p (hw p h4)
    simp only [List.length_cons] at hn
    have ih := Oba ids hi0 l hl hw b hb r (i + 1) (s ++ [p]) h3 (by omega) (by simp; omega) (fun q hq => hr q (List.mem_cons_of_mem _ hq))
    rw [Gsa]
    simp (disch := omega) only [Fta, PP, h2, Cua, Jia, Dza, e1, e2, ih, List.nil_append]
    simp
theorem Mya (l : List Ana) (hl : l.length ≤ 1000000) (hw : ∀ p ∈ l, Hoa p) : ∀ (r : List Ana) (i : Nat) (acc : List Ana), l.drop i = r → i ≤ l.length → acc.length + r.length ≤ 1000000 →
    Gta (acc, l, (l.length : Int), (i : Int), ()) = some (acc ++ r, l, (l.length : Int), (l.length : Int), ())
  | [], i, acc, h, hi, ha => by
    have := Aga h hi
    subst this
    rw [Mxa]
    simp (disch := omega) only [Kya, PP, List.append_nil]
  | p :: r, i, acc, h, hi, ha => by
    obtain ⟨h1, h2, h3, h4⟩ := Aca h
    have hM := Aia
    have e1 := Ena p (hw p h4)
    simp only [List.length_cons] at ha
    rw [Mxa]
    simp (disch := omega) only [Kya, PP, h2, Cua, Jia, Dza, e1]
    rw [Mya l hl hw r (i + 1) _ h3 (by omega) (by simp; omega)]
    simp
theorem Zta (l : List Ana) (hl : l.length ≤ 1000000) (hw : ∀ p ∈ l, Hoa p) : Pua (l, ()) = some (l, ()) := by
  have e := Mya l hl hw l 0 [] rfl (by omega) (by simp; omega)
  simp only [Int.natCast_zero, List.nil_append] at e
  rw [Zsa]
  simp (disch := omega) only [Vpa, PP, e]
theorem Qja (ids : List Id) (hi0 : ids.length ≤ 1000000) (a b : List Ana) (hl : (a ++ b).length ≤ 100000) (hw : ∀ p ∈ a ++ b, Hoa p) (hb : b = [] ∨ ∃ p, b = [p] ∧ p.1 ∈ ids) (ha : ∀ p ∈ a, p.1 ∉ ids) : Jta (a ++ b, ids, ()) = some (a, b, ()) := by
  have e0 := Zta (a ++ b) (by omega) hw
  have hM := Aia
  rw [Xra]
  match hab : a ++ b with
  | [] =>
    rw [hab] at e0
    obtain ⟨rfl, rfl⟩ := List.append_eq_nil_iff.1 hab
    have e1 : Cja ([], [], ids, [], ((([] : List Ana).length : Nat) : Int), ()) = some (.inr ([], [], ids, [], 0, ())) := by
      rw [Hta]
      simp (disch := simp) only [Gna, PP]
      rfl
    simp only [List.length_nil, Int.natCast_zero] at e1
    simp (disch := omega) only [Koa, PP, e0, Int.natCast_zero, e1]
  | p :: r =>
    rw [hab] at e0 hl hw
    have hp := hw p List.mem_cons_self
    have e1 := Eda ids p.1 (by omega)
    have e2 := Ena p hp
    have g0 : ∀ d, (p :: r).getD 0 d = p := fun d => rfl
    simp only [List.length_cons] at hl
    by_cases hc : p.1 ∈ ids
    · rw [decide_eq_true hc] at e1
      have e3 : Cja ([], [], ids, p :: r, (((p :: r).length : Nat) : Int), ()) = some (.inl ([], [p], ids, p :: r, (((p :: r).length : Nat) : Int), ())) := by
        rw [Hta]
        simp (disch := first | omega | (simp only [List.length_cons]; omega)) only [Gna, Aka, Aba, Afa, Ada, Aea, Bsa, Aaa, Int.toNat_zero, g0, Cua, Jia, Dza, e1, e2, Option.bind_some, Sum.elim_inr, List.nil_append, List.length_cons, List.length_nil]
      cases a with
      | cons x a => rw [List.cons_append] at hab; exact absurd hc ((List.cons.inj hab).1 ▸ ha x List.mem_cons_self)
      | nil =>
        rcases hb with rfl | ⟨q, rfl, hq⟩
        · simp at hab
        · rw [List.nil_append] at hab
          obtain ⟨rfl, rfl⟩ := List.cons.inj hab
          have ih := Maa ids [q] [] [q] (by simp)
          simp only [List.length_cons, List.length_nil, Nat.zero_add, Int.natCast_one] at ih e3
          simp (disch := omega) only [Koa, PP, e0]
          simp (disch := omega) only [Nat.zero_add, Int.natCast_one, PP, e3, ih]
    · rw [decide_eq_false hc] at e1
      have e3 : Cja ([], [], ids, p :: r, (((p :: r).length : Nat) : Int), ()) = some (.inl ([p], [], ids, p :: r, (((p :: r).length : Nat) : Int), ())) := by
        rw [Hta]
        simp (disch := first | omega | (simp only [List.length_cons]; omega)) only [Gna, Aka, Aba, Afa, Ada, Aea, Bsa, Aaa, Int.toNat_zero, g0, Cua, Jia, Dza, e1, e2, Option.bind_some, Sum.elim_inr, List.nil_append, List.length_cons, List.length_nil]
      cases a with
      | nil =>
        rcases hb with rfl | ⟨q, rfl, hq⟩
        · simp at hab
        · rw [List.nil_append] at hab
          exact absurd hq ((List.cons.inj hab).1 ▸ hc)
      | cons x a =>
        rw [List.cons_append] at hab
        obtain ⟨rfl, rfl⟩ := List.cons.inj hab
        have ih := Oba ids hi0 (x :: (a ++ b)) (by simp only [List.length_cons]; omega) hw b hb a 1 [x] rfl (by simp) (by simp at hl ⊢; omega) (fun q hq => ha q (List.mem_cons_of_mem _ hq))
        simp only [Int.natCast_one] at ih
        simp (disch := omega) only [Koa, PP, e0]
        simp only [List.length_cons, List.length_append] at e3 ih
        simp (disch := omega) only [PP, e3, ih, List.singleton_append]
theorem Xja (x : Id) : Tca (x, ()) = some (Hlb x, ()) := by
  rw [Eab]
  unfold Bbb Hlb
  by_cases h1 : 0 ≤ x.1
  · by_cases h2 : x.1 < 8
    · by_cases h3 : 1 ≤ x.2.1
      · simp only [ge_iff_le, h1, h2, h3, decide_true, Ada, Bool.true_and]
      · simp only [ge_iff_le, h1, h2, h3, decide_true, decide_false, Ada, Aea, Bool.true_and, Bool.false_and]
    · simp only [ge_iff_le, h1, h2, decide_true, decide_false, Ada, Aea, Bool.true_and, Bool.false_and]
  · simp only [ge_iff_le, h1, decide_false, Aea, Bool.false_and]
theorem Aob (a b : Id) : Qca (a, b, ()) = some (Iwb a b, ()) := by
  rw [Anb]
  unfold Vua Iwb
  by_cases h1 : a.1 < b.1
  · simp only [h1, decide_true, Ada, Bool.true_or]
  · by_cases h2 : a.1 = b.1
    · simp only [Gra, h1, h2, decide_true, decide_false, Ada, Aea, Bool.false_or, Bool.true_and, Int.lt_irrefl]
    · simp only [Gra, h1, h2, decide_true, decide_false, Ada, Aea, Bool.false_or, Bool.false_and]
def Lbb (x0 x : Id) : Bool := Hlb x && decide (x ≠ x0)
theorem Sca (a b : Id) : (a.1 == b.1 && (a.2.1 == b.2.1 && true)) = decide (a = b) := by
  rw [Gsb]
theorem Vca (p : Ana) (l : List Id) (hb : l.length < 4611686018427387903) : ∀ (r : List Id) (i : Nat), l.drop i = r → i ≤ l.length →
    (r.all (Lbb p.1) = true ∧ Aoa (p.1.1, p.1.2.1, p.2.1, p.2.2.1, p.2.2.2.1, l, (l.length : Int), (i : Int), ()) = some (.inr (p.1.1, p.1.2.1, p.2.1, p.2.2.1, p.2.2.2.1, l, (l.length : Int), (l.length : Int), ()))) ∨
    (r.all (Lbb p.1) = false ∧ ∃ z, Aoa (p.1.1, p.1.2.1, p.2.1, p.2.2.1, p.2.2.2.1, l, (l.length : Int), (i : Int), ()) = some (.inl z) ∧ 0 ≤ z.2.2.2.2.2.2.1)
  | [], i, h, hi => by
    have := Aga h hi
    subst this
    rw [Fsa]
    simp (disch := omega) only [Aya, PP]
    exact .inl ⟨by rfl, trivial⟩
  | f :: r, i, h, hi => by
    obtain ⟨h1, h2, h3, h4⟩ := Aca h
    have e1 := Xja f
    rw [Fsa]
    cases hm : Hlb f with
    | false =>
      rw [hm] at e1
      simp (disch := omega) only [Aya, PP, h2, Dza, e1]
      exact .inr ⟨by simp [Lbb, hm], _, rfl, by simp only; omega⟩
    | true =>
      rw [hm] at e1
      by_cases hf : f = p.1
      · simp (disch := first | omega | exact hf) only [Aya, PP, h2, Dza, e1, Sca]
        exact .inr ⟨by simp [Lbb, hf], _, rfl, by simp only; omega⟩
      · simp (disch := first | omega | exact hf) only [Aya, PP, h2, Dza, e1, Sca]
        have ih := Vca p l hb r (i + 1) h3 (by omega)
        have ho : Lbb p.1 f = true := by simp [Lbb, hm, hf]
        rcases ih with ⟨a, b⟩ | ⟨a, b⟩
        · exact .inl ⟨by rw [List.all_cons, ho, a]; rfl, b⟩
        · exact .inr ⟨by rw [List.all_cons, ho, a]; rfl, b⟩
theorem Rba (p : Ana) (l : List Id) (hb : l.length < 4611686018427387903) : ∀ (r : List Id) (i : Nat), l.drop i = r → i ≤ l.length →
    (Vba (l.drop (i - 1)) = true ∧ Cka (p.1.1, p.1.2.1, p.2.1, p.2.2.1, p.2.2.2.1, l, (l.length : Int), (i : Int), ()) = some (.inr (p.1.1, p.1.2.1, p.2.1, p.2.2.1, p.2.2.2.1, l, (l.length : Int), (l.length : Int), ()))) ∨
    (Vba (l.drop (i - 1)) = false ∧ ∃ z, Cka (p.1.1, p.1.2.1, p.2.1, p.2.2.1, p.2.2.2.1, l, (l.length : Int), (i : Int), ()) = some (.inl z))
  | [], i, h, hi => by
    have := Aga h hi
    subst this
    rw [Lwa]
    simp (disch := omega) only [Dsa, PP]
    refine .inl ⟨?_, trivial⟩
    have hl : (l.drop (l.length - 1)).length ≤ 1 := by simp; omega
    match hd : l.drop (l.length - 1) with
    | [] => rfl
    | [x] => rfl
    | x :: y :: t => rw [hd] at hl; simp at hl
  | f :: r, i, h, hi => by
    obtain ⟨h1, h2, h3, h4⟩ := Aca h
    rw [Lwa]
    have ih := Rba p l hb r (i + 1) h3 (by omega)
    rw [Nat.add_sub_cancel, h] at ih
    by_cases h0 : i = 0
    · subst h0
      simp (disch := omega) only [Dsa, PP]
      rw [Nat.zero_sub, h]
      exact ih
    · obtain ⟨j, rfl⟩ : ∃ j, i = j + 1 := ⟨i - 1, by omega⟩
      have hg : l.drop j = l.getD j (0, 0, ()) :: f :: r := by
        rw [List.drop_eq_getElem_cons (by omega), h, List.getD_eq_getElem?_getD, List.getElem?_eq_getElem (by omega)]
        rfl
      have hg' : ∀ d, l.getD j d = l.getD j (0, 0, ()) := fun d => by rw [List.getD_eq_getElem?_getD, List.getD_eq_getElem?_getD, List.getElem?_eq_getElem (by omega)]; rfl
      have e0 : (((j + 1 : Nat) : Int) - 1) = (j : Int) := by omega
      have hw1 : IntKind.wrap .i64 (((j + 1 : Nat) : Int) - 1) = (j : Int) := by rw [Axa (by omega) (by omega)]; omega
      have e1 := Aob (l.getD j (0, 0, ())) f
      rw [Nat.add_sub_cancel, hg]
      cases hl : Iwb (l.getD j (0, 0, ())) f with
      | false =>
        rw [hl] at e1
        simp (disch := omega) only [Dsa, Aka, Aba, Afa, Ada, Aea, Bsa, Aaa, hw1, Int.toNat_natCast, h2, Dza, e1, Option.bind_some, Sum.elim_inr]
        exact .inr ⟨by rw [Vba, hl]; rfl, _, rfl⟩
      | true =>
        rw [hl] at e1
        simp (disch := omega) only [Dsa, Aka, Aba, Afa, Ada, Aea, Bsa, Aaa, hw1, Hna, Int.toNat_natCast, h2, Dza, e1, Option.bind_some, Sum.elim_inl]
        rcases ih with ⟨a, b⟩ | ⟨a, b⟩
        · exact .inl ⟨by rw [Vba, hl, a]; rfl, b⟩
        · exact .inr ⟨by rw [Vba, hl, a]; rfl, b⟩
theorem Cub (p : Ana) (hp : Hoa p) : Tba (p, ()) = some (Hmb p, ()) := by
  have e1 := Xja p.1
  have e4 := Xoa p.2.2.1
  have hd := hp.d
  have hn := hp.n
  have e5 := Wua p.2.2.2.1 (by omega) (fun c hc => (hp.l c hc).w')
  rw [Ctb]
  unfold Ypa Hmb
  simp only [Dza, e1, Aaa]
  cases h1 : Hlb p.1 with
  | false => simp only [Aea, Bool.false_and]
  | true =>
    by_cases h2 : p.2.1.length ≤ 60
    · rcases Vca p p.2.1 (by omega) p.2.1 0 rfl (by omega) with ⟨a, b⟩ | ⟨a, z, b, hz⟩
      · simp only [Int.natCast_zero] at b
        have a' : (p.2.1.all fun x => Hlb x && decide (x ≠ p.1)) = true := a
        rcases Rba p p.2.1 (by omega) p.2.1 0 rfl (by omega) with ⟨c, d⟩ | ⟨c, z, d⟩
        · simp only [Int.natCast_zero, Nat.zero_sub, List.drop_zero] at c d
          cases h3 : Azb p.2.2.1 with
          | false =>
            rw [h3] at e4
            simp (disch := omega) only [Ada, Aea, Aba, Afa, b, d, e4, Aaa, Ida, Hla, Bool.and_false, Bool.false_and, c, h2, a', decide_true, Bool.true_and]
          | true =>
            rw [h3] at e4
            by_cases h4 : p.2.2.2.1.length ≤ 200
            · simp (disch := omega) only [Ada, Aea, Aba, Afa, b, d, e4, e5, Aaa, Ida, Hla, c, h2, a', h4, decide_true, Bool.true_and]
            · simp (disch := omega) only [Ada, Aea, Aba, Afa, b, d, e4, e5, Aaa, Ida, Hla, c, h2, a', h4, decide_true, decide_false, Bool.true_and, Bool.false_and]
        · simp only [Int.natCast_zero, Nat.zero_sub, List.drop_zero] at c d
          simp (disch := omega) only [Ada, Aea, Aba, Afa, b, d, Aaa, Ida, Hla, Bool.and_false, Bool.false_and, c, h2, a', decide_true, Bool.true_and]
      · simp only [Int.natCast_zero] at b
        have a' : (p.2.1.all fun x => Hlb x && decide (x ≠ p.1)) = false := a
        have hz' : decide (z.2.2.2.2.2.2.1 ≥ 0) = true := by simpa using hz
        simp (disch := omega) only [Ada, Aea, Aba, Bsa, hz', b, Aaa, Ida, Hla, Bool.and_false, Bool.false_and, a']
    · simp (disch := omega) only [Ada, Aea, Aba, Afa, h2, decide_false, Bool.and_false, Bool.false_and]
def Gzb (l : List Ana) (id : Id) : Int := match Tsa l id with
  | some n => n
  | none => -1
theorem Pea (l : List Ana) (s : Id) (hb : l.length < 4611686018427387903) : ∀ (r : List Ana) (i : Nat), l.drop i = r → i ≤ l.length →
    ∃ y, Asa (s.1, s.2.1, l, (l.length : Int), (i : Int), ()) = some y ∧ (match y with
      | .inl z => ∃ n, Tsa r s = some n ∧ z.2.2.2.1 = ((i + n : Nat) : Int)
      | .inr _ => Tsa r s = none)
  | [], i, h, hi => by
    have := Aga h hi
    subst this
    rw [Doa]
    simp (disch := omega) only [Bha, PP]
    exact ⟨_, rfl, rfl⟩
  | f :: r, i, h, hi => by
    obtain ⟨h1, h2, h3, h4⟩ := Aca h
    rw [Doa]
    by_cases hf : f.1 = s
    · simp (disch := first | omega | exact hf) only [Bha, PP, h2, Sca]
      exact ⟨_, rfl, 0, by simp [Tsa, List.findIdx?_cons, hf], by simp⟩
    · simp (disch := first | omega | exact hf) only [Bha, PP, h2, Sca]
      obtain ⟨y, e, p⟩ := Pea l s hb r (i + 1) h3 (by omega)
      refine ⟨y, e, ?_⟩
      have hc : Tsa (f :: r) s = (Tsa r s).map (· + 1) := by simp [Tsa, List.findIdx?_cons, hf]
      cases y with
      | inl z =>
        simp only at p ⊢
        obtain ⟨n, p1, p2⟩ := p
        exact ⟨n + 1, by rw [hc, p1]; rfl, by rw [p2]; omega⟩
      | inr z => simp only at p ⊢; rw [hc, p]; rfl
theorem Amb (l : List Ana) (s : Id) (hb : l.length < 4611686018427387903) : Qba (l, s, ()) = some (Gzb l s, ()) := by
  obtain ⟨y, e, p⟩ := Pea l s hb l 0 rfl (by omega)
  simp only [Int.natCast_zero] at e
  rw [Alb]
  unfold Vta Gzb
  simp only [e, Aaa]
  cases y with
  | inl z =>
    simp only at p
    obtain ⟨n, p1, p2⟩ := p
    simp only [Ida, p1, p2, Nat.zero_add]
  | inr z => simp only at p; simp only [Hla, p]
theorem Irb (l : List Ana) (i : Nat) (p : Ana) (h : l.drop i = p :: l.drop (i + 1)) (hi : i < l.length) : Gzb l p.1 < (i : Int) ↔ p.1 ∈ (l.take i).map (·.1) := by
  have hs : Tsa l p.1 = (Tsa (l.take i) p.1).or (some i) := by
    conv => lhs; rw [← List.take_append_drop i l, h]
    unfold Tsa
    rw [List.findIdx?_append, List.findIdx?_cons, if_pos (by simp)]
    simp only [Option.map_some, Nat.zero_add, List.length_take, Nat.min_eq_left (Nat.le_of_lt hi)]
  unfold Gzb
  rw [hs]
  cases ht : Tsa (l.take i) p.1 with
  | none =>
    simp only [Option.none_or, Int.lt_irrefl, false_iff]
    unfold Tsa at ht
    rw [List.findIdx?_eq_none_iff] at ht
    rw [List.mem_map]
    rintro ⟨x, hx, e⟩
    have := ht x hx
    simp [e] at this
  | some n =>
    simp only [Option.some_or]
    unfold Tsa at ht
    rw [List.findIdx?_eq_some_iff_getElem] at ht
    obtain ⟨hn, he, _⟩ := ht
    have hlt : n < i := by simp at hn; omega
    constructor
    · intro _
      rw [List.mem_map]
      exact ⟨_, List.getElem_mem hn, by simpa using he⟩
    · intro _; omega
theorem Pda (l : List Ana) (hl : l.length ≤ 1000000) (hw : ∀ p ∈ l, p.2.2.2.1.length ≤ 1000) : ∀ (r : List Ana) (i : Nat) (acc : List Bua), l.drop i = r → i ≤ l.length → acc.length + r.length * 1000 ≤ 1000000000 →
    Ina (acc, l, (l.length : Int), (i : Int), ()) = some (acc ++ Gpb r, l, (l.length : Int), (l.length : Int), ())
  | [], i, acc, h, hi, ha => by
    have := Aga h hi
    subst this
    rw [Pca]
    simp (disch := omega) only [Lza, PP, Gpb, List.flatMap_nil, List.append_nil]
  | p :: r, i, acc, h, hi, ha => by
    obtain ⟨h1, h2, h3, h4⟩ := Aca h
    have hM := Aia
    have hp := hw p h4
    simp only [List.length_cons] at ha
    rw [Pca]
    simp (disch := omega) only [Lza, PP, h2]
    rw [Pda l hl hw r (i + 1) _ h3 (by omega) (by simp; omega)]
    simp [Gpb]
theorem Csb (l : List Ana) (hl : l.length ≤ 1000000) (hw : ∀ p ∈ l, p.2.2.2.1.length ≤ 1000) : Taa (l, ()) = some (Gpb l, ()) := by
  have e := Pda l hl hw l 0 [] rfl (by omega) (by simp; omega)
  simp only [Int.natCast_zero, List.nil_append] at e
  rw [Crb]
  simp (disch := omega) only [Yoa, PP, e]
theorem Evb (l : List Ana) (hw : ∀ p ∈ l, p.2.2.2.1.length ≤ 1000) : (Gpb l).length ≤ l.length * 1000 := Rna _ 1000 l hw
theorem Fnb {l : List Ana} (hw : ∀ p ∈ l, Hoa p) : ∀ c ∈ Gpb l, Kna c := by
  intro c hc
  obtain ⟨p, hp, h⟩ := List.mem_flatMap.1 hc
  exact (hw p hp).l c h
theorem Yga (t : Aha) (l : List Ana) (ht : Fit 100000 10000000 t) (hl : l.length ≤ 100) (hw : ∀ p ∈ l, Hoa p) : Mda (t, l, ()) = some ((Mta t l).1, (Mta t l).2, ()) := by
  have hn : ∀ p ∈ l, p.2.2.2.1.length ≤ 1000 := fun p hp => (hw p hp).n
  have e1 := Csb l (by omega) hn
  have hlen := Evb l hn
  have e2 := Aab t (Gpb l) ht (by omega) (fun c hc => (Fnb hw c hc).w')
  rw [Yfa]
  simp only [Uha, e1, e2, Aaa]
  rfl
theorem Hnb {s : Str} (h : Azb s = true) : s.size ≤ 80 := by
  simp only [Azb, Bool.and_eq_true, decide_eq_true_eq] at h; exact h.1
structure Nsa (t : Aha) : Prop where
  m : Mid t
  s : Vfa t
theorem Nsa.w {t : Aha} (h : Nsa t) : Wee t := ⟨by have := h.m.1; omega, fun f hf => by have := h.m.2 f hf; omega⟩
theorem Nsa.n {t : Aha} (h : Nsa t) : t.length < 4611686018427387903 := by have := h.m.1; omega
theorem Nsa.may {t : Aha} (h : Nka t = true) : Nsa t := by
  obtain ⟨h1, h2, h3⟩ := Jfa.1 h
  refine ⟨⟨by omega, fun f hf => ?_⟩, fun f hf => ?_⟩
  · have := (h1 f hf).2
    simp only [Uka, Bool.and_eq_true, decide_eq_true_eq] at this
    omega
  · obtain ⟨a, b⟩ := h1 f hf
    have a' := Htb a
    simp only [Uka, Bool.and_eq_true, decide_eq_true_eq, List.all_eq_true] at b
    exact ⟨by omega, fun s hs => by have := Hnb (b.2 s hs); omega, by omega⟩
structure Moa (r : Nia) : Prop where
  l : ∀ p ∈ r.2.1, Hoa p
  n : r.2.1.length ≤ 1000
  b : Nsa r.2.2.1
  w : Nsa r.2.2.2.1
theorem Vla (r : Nia) : ((r.1, r.2.1, r.2.2.1, r.2.2.2.1, r.2.2.2.2.1, ()) : Nia) = r := rfl
theorem Rda (r : Nia) (hr : Moa r) : ∀ (m : List Ana) (i : Nat), r.2.1.drop i = m → i ≤ r.2.1.length →
    (Dlb ((r.2.1.take i).map (·.1)) m r.1 r.2.2.2.2.1 = true ∧ Hxa (r.1, r.2.1, r.2.2.1, r.2.2.2.1, r.2.2.2.2.1, r.2.1, (r.2.1.length : Int), (i : Int), ()) = some (.inr (r.1, r.2.1, r.2.2.1, r.2.2.2.1, r.2.2.2.2.1, r.2.1, (r.2.1.length : Int), (r.2.1.length : Int), ()))) ∨
    (Dlb ((r.2.1.take i).map (·.1)) m r.1 r.2.2.2.2.1 = false ∧ ∃ z, Hxa (r.1, r.2.1, r.2.2.1, r.2.2.2.1, r.2.2.2.2.1, r.2.1, (r.2.1.length : Int), (i : Int), ()) = some (.inl z))
  | [], i, h, hi => by
    have := Aga h hi
    have hn := hr.n
    subst this
    rw [Rca]
    simp (disch := omega) only [Dta, PP]
    exact .inl ⟨by rfl, trivial⟩
  | p :: m, i, h, hi => by
    obtain ⟨h1, h2, h3, h4⟩ := Aca h
    have hn := hr.n
    have e1 := Cub p (hr.l p h4)
    have e2 := Amb r.2.1 p.1 (by omega)
    have hlt := Irb r.2.1 i p (by rw [h, h3]) h1
    have ih := Rda r hr m (i + 1) h3 (by omega)
    have ht : (r.2.1.take (i + 1)).map (·.1) = (r.2.1.take i).map (·.1) ++ [p.1] := by
      have hg : r.2.1[i]? = some p := by
        have := congrArg (·[0]?) h
        simpa using this
      rw [List.take_add_one, hg]; simp
    rw [ht] at ih
    rw [Rca, Dlb]
    cases hm : Hmb p with
    | false =>
      rw [hm] at e1
      simp (disch := omega) only [Dta, PP, h2, Cua, Dza, e1]
      exact .inr ⟨rfl, _, rfl⟩
    | true =>
      rw [hm] at e1
      by_cases hf : Gzb r.2.1 p.1 < (i : Int)
      · simp (disch := omega) only [Dta, PP, h2, Cua, Dza, e1, e2]
        have : p.1 ∈ (r.2.1.take i).map (·.1) := hlt.1 hf
        exact .inr ⟨by simp only [this, not_true_eq_false, decide_false, Bool.and_false, Bool.false_and], _, rfl⟩
      · have hno : p.1 ∉ (r.2.1.take i).map (·.1) := fun k => hf (hlt.2 k)
        by_cases hw : p.1.1 = r.1
        · by_cases hmd : r.2.2.2.2.1 < p.1.2.1
          · simp (disch := first | omega | exact hw) only [Dta, PP, h2, Cua, Dza, e1, e2, Gra]
            exact .inr ⟨by simp [hw, hmd], _, rfl⟩
          · simp (disch := first | omega | exact hw) only [Dta, PP, h2, Cua, Dza, e1, e2, Gra]
            simp only [hno, hmd, not_false_eq_true, decide_true, decide_false, Bool.and_false, Bool.not_false, Bool.true_and]
            exact ih
        · simp (disch := first | omega | exact hw) only [Dta, PP, h2, Cua, Dza, e1, e2, Gra]
          simp only [hno, hw, not_false_eq_true, decide_true, decide_false, Bool.false_and, Bool.not_false, Bool.true_and]
          exact ih
theorem Rsa (r : Nia) (hr : Moa r) : Qda (r, ()) = some (Ckb r, ()) := by
  have hn := hr.n
  rw [Eeb]
  unfold Bdb Ckb
  by_cases h0 : 0 ≤ r.1
  · by_cases h1 : r.1 < 8
    · by_cases h2 : r.2.1.length ≤ 60
      · by_cases h3 : 0 ≤ r.2.2.2.2.1
        · by_cases h4 : r.2.2.2.2.1 ≤ 1048576
          · have hA := Yga [] r.2.1 ⟨by simp, by simp⟩ (by omega) hr.l
            have hB := Fza r.2.2.1 hr.b.s hr.b.n
            have hW := Fza r.2.2.2.1 hr.w.s hr.w.n
            rcases Rda r hr r.2.1 0 rfl (by omega) with ⟨a, b⟩ | ⟨a, z, b⟩
            · simp only [Int.natCast_zero, List.take_zero, List.map_nil] at a b
              simp (disch := omega) only [Aba, Afa, b, Aaa, Hla, hA, a, h0, h1, h2, h3, h4, decide_true, Bool.true_and, Gra]
              by_cases h5 : (Mta [] r.2.1).2 = 0
              · have eS : Ira ((Mta [] r.2.1).1, r.2.2.1, ()) = some (decide ((Mta [] r.2.1).1 = r.2.2.1), ()) := by
                  have ht : Wee (Mta [] r.2.1).1 := by
                    have hal := Evb r.2.1 (fun p hp => (hr.l p hp).n)
                    have fit : ∀ (l : List Bua) (t : Aha) (n m : Nat), Fit n m t → Fit (n + l.length) (m + l.length * 200) (Dqa t l).1 := by
                      intro l
                      induction l with
                      | nil => intro t n m h; exact h.mono (by simp) (by simp)
                      | cons p l ih =>
                        intro t n m h
                        unfold Dqa
                        split
                        · rename_i h0
                          exact (ih _ _ _ (Yza h h0)).mono (by simp; omega) (by simp; omega)
                        · exact ⟨by simp, by simp⟩
                    have := fit (Gpb r.2.1) [] 0 0 ⟨by simp, by simp⟩
                    exact this.wee (by omega) (by omega)
                  exact Poa _ _ ht
                simp only [h5, decide_true, Ada, eS, Aaa, Bool.true_and]
                by_cases h6 : (Mta [] r.2.1).1 = r.2.2.1
                · simp only [h6, decide_true, Ada, hB, Aaa, Bool.true_and]
                  cases h7 : Nka r.2.2.1 with
                  | false => simp only [Aea, Bool.false_and]
                  | true => simp only [Ada, hW, Aaa, Bool.true_and]
                · simp only [h6, decide_false, Aea, Bool.false_and]
              · simp only [h5, decide_false, Aea, Bool.false_and]
            · simp only [Int.natCast_zero, List.take_zero, List.map_nil] at a b
              simp (disch := omega) only [Aba, Afa, b, Aaa, Ida, a, Bool.and_false, Bool.false_and]
          · simp (disch := omega) only [Aba, Afa, h4, decide_false, Bool.and_false, Bool.false_and]
        · simp (disch := omega) only [Aba, Afa, h3, decide_false, Bool.and_false, Bool.false_and]
      · simp (disch := omega) only [Aba, Afa, h2, decide_false, Bool.and_false, Bool.false_and]
    · simp (disch := omega) only [Aba, Afa, h1, decide_false, Bool.and_false, Bool.false_and]
  · simp (disch := omega) only [Aba, Afa, h0, decide_false, Bool.and_false, Bool.false_and]
theorem Gub {t : Aha} (h : Nka t = true) : Qoa t ByteArray.empty = t := by
  have hn : Aja t ByteArray.empty = none := Fba fun f hf e => by
    have := ((Jfa.1 h).1 f hf).1
    rw [e] at this
    simp [Eka] at this
  have : ¬ at_ t ByteArray.empty < t.length := by
    rw [Wma, hn]; simp
  unfold Qoa
  exact List.eraseIdx_of_length_le (by omega)
theorem Rta {t : Aha} (h : Nka t = true) : Mfa (t, ()) = some (t, ()) := by
  have e := Rwa t ByteArray.empty (Nsa.may h).w
  rw [Gub h] at e
  rw [Efb]
  simp only [Beb, e, Aaa]
theorem Dab (r : Nia) (hr : Moa r) : Pja (r, ()) = some (Osa r, ()) := by
  have e1 := Rsa r hr
  have e2 := Fzb r.2.2.1 r.2.2.2.1 hr.b.m hr.w.m hr.b.s hr.w.s
  rw [Czb]
  unfold Yra Osa
  simp only [Vla, e1, Aaa, Bsa]
  cases h : Ckb r with
  | false => simp only [Aea, Bool.false_eq_true, if_false]
  | true =>
    have hm := (Lsa r).1 h
    rw [hm.b, hm.k] at e2
    simp only [Bool.and_self, if_true] at e2
    simp only [Ada, e2, Aaa, if_true]
def Xca (h : Ppa) : Bool := (decide (h.2.1.length ≤ 300) && Nea h.2.1) && (decide (h.2.2.1.length ≤ 300) && Nea h.2.2.1)
def Twa (p : Bua) : Bool := Xca p.2.2.2.1 && (decide (p.2.1.size ≤ 100) && decide (p.2.2.1.size ≤ 100))
def Ihb (l : List Bua) : Bool := l.all fun p => Twa p && decide (p.2.2.2.1.1 ≤ 524288)
def Tva (p : Ana) : Bool := (decide (p.2.2.2.1.length ≤ 10) && Ihb p.2.2.2.1) && (decide (p.2.1.length ≤ 100) && decide (p.2.2.1.size ≤ 200))
def Igb (l : List Ana) : Bool := l.all Tva
structure Dpb (p : Ana) : Prop where
  n : p.2.2.2.1.length < 4611686018427387903
  l : ∀ c ∈ p.2.2.2.1, Dob c
  d : p.2.1.length < 4611686018427387903
structure Kbb (r : Nia) : Prop where
  n : r.2.1.length < 4611686018427387903
  l : ∀ p ∈ r.2.1, Dpb p
  b : Vfa r.2.2.1
  bn : r.2.2.1.length < 4611686018427387903
  w : Vfa r.2.2.2.1
  wn : r.2.2.2.1.length < 4611686018427387903
theorem Xua (h : Ppa) (h1 : h.2.1.length < 4611686018427387903) (h2 : h.2.2.1.length < 4611686018427387903) : Jwa (h, ()) = some (Xca h, ()) := by
  rw [Xta]
  have e1 := Fha h.2.1 h1
  have e2 := Fha h.2.2.1 h2
  simp only [Uda, e1, e2, Aaa, Xca]
  cases (decide (h.2.1.length ≤ 300) && Nea h.2.1) <;> rfl
theorem Zva (a b : Nat) : decide ((a : Int) ≤ (b : Int)) = decide (a ≤ b) := by rw [decide_eq_decide]; omega
theorem Xxa (p : Bua) (h : Dob p) : Jya (p, ()) = some (Twa p, ()) := by
  rw [Xwa]
  have e1 := Xua p.2.2.2.1 h.1 h.2
  have e2 : decide ((p.2.2.1.size : Int) ≤ 100) = decide (p.2.2.1.size ≤ 100) := Zva p.2.2.1.size 100
  have e3 : decide ((p.2.1.size : Int) ≤ 100) = decide (p.2.1.size ≤ 100) := Zva p.2.1.size 100
  unfold Uea Twa
  simp only [Sma, e1, e2, e3, Aaa]
  cases Xca p.2.2.2.1 with
  | false => simp only [Aea, Bool.false_and]
  | true =>
    by_cases hn : p.2.1.size ≤ 100
    · simp only [Ada, hn, decide_true, Bool.true_and]
    · simp only [Ada, Aea, hn, decide_false, Bool.true_and, Bool.false_and]
theorem Oma (l : List Bua) (hs : ∀ p ∈ l, Dob p) (hb : l.length < 4611686018427387903) : ∀ (r : List Bua) (i : Nat), l.drop i = r → i ≤ l.length →
    ∃ y, Ila (l, (i : Int), ()) = some y ∧ (match y with
      | .inl _ => Ihb r = false
      | .inr _ => Ihb r = true)
  | [], i, h, hi => by
    have := Aga h hi
    subst this
    rw [Ola]
    simp (disch := omega) only [Gpa, PP]
    exact ⟨_, rfl, rfl⟩
  | f :: r, i, h, hi => by
    obtain ⟨h1, h2, h3, h4⟩ := Aca h
    have e1 := Xxa f (hs f h4)
    rw [Ola]
    cases hl : Twa f with
    | false =>
      rw [hl] at e1
      simp (disch := omega) only [Gpa, PP, h2, Cza, e1]
      exact ⟨_, rfl, by simp [Ihb, hl]⟩
    | true =>
      rw [hl] at e1
      by_cases hc : f.2.2.2.1.1 ≤ 524288
      · simp (disch := omega) only [Gpa, PP, h2, Cza, e1]
        obtain ⟨y, e, p⟩ := Oma l hs hb r (i + 1) h3 (by omega)
        refine ⟨y, e, ?_⟩
        cases y with
        | inl z => simp only [Ihb, List.all_cons, hl, hc, decide_true, Bool.true_and] at p ⊢; exact p
        | inr z => simp only [Ihb, List.all_cons, hl, hc, decide_true, Bool.true_and] at p ⊢; exact p
      · simp (disch := omega) only [Gpa, PP, h2, Cza, e1]
        exact ⟨_, rfl, by simp [Ihb, hc]⟩
theorem Cfb (l : List Bua) (hs : ∀ p ∈ l, Dob p) (hb : l.length < 4611686018427387903) : Oka (l, 10, ()) = some (decide (l.length ≤ 10) && Ihb l, ()) := by
  rw [Ceb]
  by_cases h : l.length ≤ 10
  · obtain ⟨y, e, p⟩ := Oma l hs hb l 0 rfl (by omega)
    simp only [Int.natCast_zero] at e
    cases y with
    | inl z => simp only at p; simp (disch := omega) only [Pqa, PP, e, p, Bool.and_false]
    | inr z => simp only at p; simp (disch := omega) only [Pqa, PP, e, p, h, decide_true, Bool.true_and]
  · simp (disch := omega) only [Pqa, PP, h, decide_false, Bool.false_and]
theorem Xza (p : Ana) (h : Dpb p) : Jza (p, 10, ()) = some (Tva p, ()) := by
  rw [Xya]
  have e1 := Cfb p.2.2.2.1 h.l h.n
  have e2 : decide ((p.2.2.1.size : Int) ≤ 200) = decide (p.2.2.1.size ≤ 200) := Zva p.2.2.1.size 200
  have e3 : decide ((p.2.1.length : Int) ≤ 100) = decide (p.2.1.length ≤ 100) := Zva p.2.1.length 100
  unfold Ufa Tva
  simp only [e1, e2, e3, Aaa]
  cases (decide (p.2.2.2.1.length ≤ 10) && Ihb p.2.2.2.1) with
  | false => simp only [Aea, Bool.false_and]
  | true =>
    by_cases hn : p.2.1.length ≤ 100
    · simp only [Ada, hn, decide_true, Bool.true_and]
    · simp only [Ada, Aea, hn, decide_false, Bool.true_and, Bool.false_and]
theorem Ooa (l : List Ana) (hs : ∀ p ∈ l, Dpb p) (hb : l.length < 4611686018427387903) : ∀ (r : List Ana) (i : Nat), l.drop i = r → i ≤ l.length →
    ∃ y, Ima (l, (i : Int), ()) = some y ∧ (match y with
      | .inl _ => Igb r = false
      | .inr _ => Igb r = true)
  | [], i, h, hi => by
    have := Aga h hi
    subst this
    rw [Ona]
    simp (disch := omega) only [Jda, PP]
    exact ⟨_, rfl, rfl⟩
  | f :: r, i, h, hi => by
    obtain ⟨h1, h2, h3, h4⟩ := Aca h
    have e1 := Xza f (hs f h4)
    rw [Ona]
    cases hl : Tva f with
    | false =>
      rw [hl] at e1
      simp (disch := omega) only [Jda, PP, h2, Cua, Dza, e1]
      exact ⟨_, rfl, by simp [Igb, hl]⟩
    | true =>
      rw [hl] at e1
      simp (disch := omega) only [Jda, PP, h2, Cua, Dza, e1]
      obtain ⟨y, e, p⟩ := Ooa l hs hb r (i + 1) h3 (by omega)
      refine ⟨y, e, ?_⟩
      cases y with
      | inl z => simp only [Igb, List.all_cons, hl, Bool.true_and] at p ⊢; exact p
      | inr z => simp only [Igb, List.all_cons, hl, Bool.true_and] at p ⊢; exact p
theorem Chb (l : List Ana) (n : Nat) (hn : n ≤ 1000) (hs : ∀ p ∈ l, Dpb p) (hb : l.length < 4611686018427387903) : Loa (l, (n : Int), ()) = some (decide (l.length ≤ n) && Igb l, ()) := by
  rw [Cgb]
  by_cases h : l.length ≤ n
  · obtain ⟨y, e, p⟩ := Ooa l hs hb l 0 rfl (by omega)
    simp only [Int.natCast_zero] at e
    cases y with
    | inl z => simp only at p; simp (disch := omega) only [Pra, PP, e, p, Bool.and_false]
    | inr z => simp only at p; simp (disch := omega) only [Pra, PP, e, p, h, decide_true, Bool.true_and]
  · simp (disch := omega) only [Pra, PP, h, decide_false, Bool.false_and]
theorem Hjb {p : Bua} (h : Twa p = true) : Kna p := by
  simp only [Twa, Xca, Bool.and_eq_true, decide_eq_true_eq] at h
  exact ⟨h.2.1, h.2.2, h.1.1.1, h.1.2.1⟩
theorem Hib {p : Ana} (h : Tva p = true) : Hoa p ∧ p.2.2.2.1.length ≤ 10 := by
  simp only [Tva, Ihb, Bool.and_eq_true, decide_eq_true_eq, List.all_eq_true] at h
  exact ⟨⟨fun c hc => Hjb (h.1.2 c hc).1, by omega, by omega, by omega⟩, h.1.1⟩
def Rua (t : Aha) : Bool := t.all fun f => decide (f.2.1.length ≤ 40)
theorem Lqa (t : Aha) (hb : t.length < 4611686018427387903) : ∀ (r : Aha) (i : Nat), t.drop i = r → i ≤ t.length →
    ∃ y, Fja (t, (i : Int), ()) = some y ∧ (match y with
      | .inl _ => Rua r = false
      | .inr _ => Rua r = true)
  | [], i, h, hi => by
    have := Aga h hi
    subst this
    rw [Lpa]
    simp (disch := omega) only [Gqa, PP]
    exact ⟨_, rfl, rfl⟩
  | f :: r, i, h, hi => by
    obtain ⟨h1, h2, h3, h4⟩ := Aca h
    rw [Lpa]
    by_cases hc : f.2.1.length ≤ 40
    · simp (disch := omega) only [Gqa, PP, h2]
      obtain ⟨y, e, p⟩ := Lqa t hb r (i + 1) h3 (by omega)
      refine ⟨y, e, ?_⟩
      cases y with
      | inl z => simp only [Rua, List.all_cons, hc, decide_true, Bool.true_and] at p ⊢; exact p
      | inr z => simp only [Rua, List.all_cons, hc, decide_true, Bool.true_and] at p ⊢; exact p
    · simp (disch := omega) only [Gqa, PP, h2]
      exact ⟨_, rfl, by simp [Rua, hc]⟩
def Laa (t : Aha) : Bool := (decide (t.length ≤ 40) && Oqa t) && (decide (t.length ≤ 6) && Rua t)
theorem Qta (t : Aha) (hs : Vfa t) (hb : t.length < 4611686018427387903) : Kba (t, ()) = some (Laa t, ()) := by
  rw [Yda]
  cases hl : (decide (t.length ≤ 40) && Oqa t) with
  | false => simp (disch := first | omega | assumption) only [Ifa, PP, Iba, hl, Bool.not_false, Laa, Bool.false_and]
  | true =>
    by_cases h6 : t.length ≤ 6
    · obtain ⟨y, e, p⟩ := Lqa t hb t 0 rfl (by omega)
      simp only [Int.natCast_zero] at e
      cases y with
      | inl z => simp only at p; simp (disch := first | omega | assumption) only [Ifa, PP, Iba, hl, Bool.not_true, Laa, e, p, Bool.true_and, Bool.and_false]
      | inr z => simp only at p; simp (disch := first | omega | assumption) only [Ifa, PP, Iba, hl, Bool.not_true, Laa, e, p, h6, decide_true, Bool.true_and]
    · simp (disch := first | omega | assumption) only [Ifa, PP, Iba, hl, Bool.not_true, Laa, h6, decide_false, Bool.true_and, Bool.false_and]
theorem Dcb {t : Aha} (h : Laa t = true) : Nsa t ∧ t.length ≤ 6 ∧ ∀ f ∈ t, f.2.1.length ≤ 40 := by
  simp only [Laa, Rua, Bool.and_eq_true, decide_eq_true_eq, List.all_eq_true] at h
  obtain ⟨h1, h2, h3⟩ := Hkb h.1.1 h.1.2
  exact ⟨⟨⟨by omega, fun f hf => by have := h.2.2 f hf; omega⟩, h3⟩, h.2.1, h.2.2⟩
def Xba (r : Nia) : Bool := (decide (r.2.1.length ≤ 10) && Igb r.2.1) && (Laa r.2.2.1 && Laa r.2.2.2.1)
theorem Yba (r : Nia) (h : Kbb r) : Kaa (r, ()) = some (Xba r, ()) := by
  rw [Yaa]
  have e1 : Loa (r.2.1, 10, ()) = some (decide (r.2.1.length ≤ 10) && Igb r.2.1, ()) := Chb r.2.1 10 (by omega) h.l h.n
  have e2 := Qta r.2.2.1 h.b h.bn
  have e3 := Qta r.2.2.2.1 h.w h.wn
  simp only [Uga, e1, e2, e3, Aaa, Xba]
  cases (decide (r.2.1.length ≤ 10) && Igb r.2.1) <;> cases Laa r.2.2.1 <;> rfl
theorem Hhb {r : Nia} (h : Xba r = true) : Moa r ∧ r.2.1.length ≤ 10 := by
  simp only [Xba, Igb, Bool.and_eq_true, decide_eq_true_eq, List.all_eq_true] at h
  exact ⟨⟨fun p hp => (Hib (h.1.2 p hp)).1, by omega, (Dcb h.2.1).1, (Dcb h.2.2).1⟩, h.1.1⟩
instance : DecidableEq Bua := instDecidableEqProd
instance : DecidableEq Ana := instDecidableEqProd
instance : DecidableEq (List Ana) := inferInstance
instance : DecidableEq (Aha × Aha × Int × Unit) := instDecidableEqProd
instance : DecidableEq (List Ana × Aha × Aha × Int × Unit) := instDecidableEqProd
instance : DecidableEq Nia := instDecidableEqProd
theorem Hoa.s {p : Ana} (h : Hoa p) : Dpb p := ⟨by have := h.n; omega, fun c hc => (h.l c hc).w'.s, by have := h.d; omega⟩
theorem Moa.set {r : Nia} (h : Moa r) {t : Aha} (ht : Nsa t) : Moa (Kzb r t) := ⟨h.l, h.n, h.b, ht⟩
theorem Rma (r : Nia) (hr : Moa r) : Jta (r.2.1, [], ()) = some (r.2.1, [], ()) := by
  have e3 := Qja [] (by simp) r.2.1 [] (by have := hr.n; simp; omega) (by simpa using hr.l) (.inl rfl) (by simp)
  rwa [List.append_nil] at e3
theorem Nsa.fit {t : Aha} (h : Nsa t) : Fit 1000 1000 t := ⟨h.m.1, h.m.2⟩
theorem Jab {a b : Aha} (ha : Nsa a) (hb : Nsa b) : (Yea a b).length ≤ 10000000 := by
  have := Fxb ha.fit hb.m.1
  omega
theorem Ajb {t u : Aha} {s1 s2 : Str} (hm : Nka t = true) (h : Bfa t (Cxa s1 s2) = (u, 0)) : Nka u = true ∧ Dia (Cxa s1 s2) = true ∧ Aja t s1 ≠ none ∧ Aja u s1 = none ∧ Aja u s2 = Aja t s1 ∧ Bfa u (Cxa s2 s1) = (t, 0) := by
  obtain ⟨h1, h2⟩ := Blb h
  have hr := Txa hm
  obtain ⟨b1, b2, b3⟩ := Iqb h1 hr h2
  have h1' := h1
  rw [Kkb rfl] at h1'
  simp only [Cxa, Bool.and_eq_true, decide_eq_true_eq] at h1'
  obtain ⟨⟨n1, n2⟩, hne, _⟩ := h1'
  have hne : s1 ≠ s2 := of_decide_eq_true hne
  have h2' : (if (Aja t s1).isSome = true ∧ (Aja t s2).isSome = false then some (Jba (Qoa t s1) s2 ((Aja t s1).getD [])) else none) = some u := by
    have := h2
    rw [Iob rfl] at this
    exact this
  by_cases hc : (Aja t s1).isSome = true ∧ (Aja t s2).isSome = false
  · rw [if_pos hc] at h2'
    obtain ⟨c1, c2⟩ := hc
    simp only [Option.some.injEq] at h2'
    subst h2'
    have hrd : RT (Qoa t s1) := Dga s1 hr
    obtain ⟨l, hl⟩ := Option.isSome_iff_exists.1 c1
    rw [hl, Option.getD_some]
    have hal : Uka l = true := by
      have := Zqa hm s1
      rwa [hl, Option.getD_some] at this
    have hd := Klb s1 hm
    have hn : Aja (Qoa t s1) s2 = none := by
      rw [Gwa s1 s2 hr, if_neg (fun e => hne e.symm)]
      cases hg : Aja t s2 with
      | none => rfl
      | some x => rw [hg] at c2; simp at c2
    have hp := Kmb s2 l hd n2 hal
    have hlen : (Qoa t s1).length < 30 := by
      have h30 : t.length ≤ 30 := (Jfa.1 hm).2.2
      have : at_ t s1 < t.length := (Wma t s1).2 c1
      unfold Qoa
      rw [List.length_eraseIdx_of_lt this]
      omega
    refine ⟨?_, h1, by simp, ?_, ?_, ?_⟩
    · rw [hp, decide_eq_true hlen, Bool.or_true]
    · rw [Bqa s2 l s1 hrd, if_neg hne, Gwa s1 s1 hr, if_pos rfl]
    · rw [Bqa s2 l s2 hrd, if_pos rfl]
    · rw [hl, Option.getD_some] at b3
      have : Kma (Cxa s1 s2) = Cxa s2 s1 := rfl
      rw [this] at b3 b1
      rw [Tra b1, b3]; rfl
  · rw [if_neg hc] at h2'; cases h2'
theorem Kna.move {s1 s2 : Str} (h1 : s1.size ≤ 100) (h2 : s2.size ≤ 100) : Kna (Cxa s1 s2) := ⟨h1, h2, by simp [Cxa], by simp [Cxa]⟩
theorem Vda (r : Nia) (s1 s2 : Str) (hr : Moa r) (h1 : s1.size ≤ 100) (h2 : s2.size ≤ 100) : Pia (r, s1, s2, ()) = some ((Ora r s1 s2).1, (Ora r s1 s2).2, ()) := by
  have e1 := Rsa r hr
  have e2 := Rma r hr
  have e3 := Dab r hr
  have hn := hr.n
  have hM := Aia
  rw [Cyb]
  unfold Yqa Ora
  simp only [Vla, e1, Aaa, Bsa]
  cases h : Ckb r with
  | false => simp only [Aea, if_true]
  | true =>
    have hm := (Lsa r).1 h
    have hn60 := hm.n
    have hm1 := hm.m1
    have hm0 := hm.m0
    rw [if_neg (by simp)]
    simp only [Ada, e2, Aaa, Rta hm.b, Rta hm.k, Aka, e3]
    have hnl := Jab hr.b hr.w
    rw [← Tya hm] at hnl
    have hw1 : IntKind.wrap .i64 (r.2.2.2.2.1 + 1) = r.2.2.2.2.1 + 1 := Axa (by omega) (by omega)
    by_cases hz : Osa r = []
    · have hz' : ¬ ((Osa r).length : Int) > 0 := by rw [hz]; simp
      by_cases hf : r.2.1.length < 60
      · by_cases hf2 : r.2.2.2.2.1 < 1048576
        · have eA := Tda r.2.2.1 (Cxa s1 s2) (hr.b.fit.mono (by omega) (by omega)) (Kna.move h1 h2).w'
          have eA' : Jka (r.2.2.1, (2, s1, s2, (0, [], [], ()), ()), ()) = some ((Bfa r.2.2.1 (Cxa s1 s2)).1, (Bfa r.2.2.1 (Cxa s1 s2)).2, ()) := eA
          have hfull : ¬ Tta r := by unfold Tta; omega
          rw [if_neg (by simp [hz]), if_neg hfull]
          by_cases h0 : (Bfa r.2.2.1 (Cxa s1 s2)).2 = 0
          · have hne : ((Bfa r.2.2.1 (Cxa s1 s2)).2 != 0) = false := by simp [h0]
            obtain ⟨mu, _⟩ := Ajb hm.b (u := (Bfa r.2.2.1 (Cxa s1 s2)).1) (by rw [← h0])
            rw [if_neg (by simp [h0])]
            simp (disch := first | omega | exact hz') only [Aba, Afa, Ada, Aea, eA', Aaa, hne, Rta mu, hw1, List.length_append, List.length_cons, List.length_nil]
            rfl
          · have hne : ((Bfa r.2.2.1 (Cxa s1 s2)).2 != 0) = true := by simp [h0]
            rw [if_pos h0]
            simp (disch := first | omega | exact hz') only [Aba, Afa, Ada, Aea, eA', Aaa, hne]
        · have hfull : Tta r := by unfold Tta; omega
          rw [if_neg (by simp [hz]), if_pos hfull]
          simp (disch := first | omega | exact hz') only [Aba, Afa, Ada, Aea, Aaa]
      · have hfull : Tta r := by unfold Tta; omega
        rw [if_neg (by simp [hz]), if_pos hfull]
        simp (disch := first | omega | exact hz') only [Aba, Afa, Ada, Aea, Aaa]
    · have hz' : ((Osa r).length : Int) > 0 := by
        have : (Osa r).length ≠ 0 := fun e => hz (List.eq_nil_of_length_eq_zero e)
        omega
      rw [if_pos hz]
      by_cases hf : r.2.1.length < 60
      · simp (disch := first | omega | exact hz') only [Aba, Afa, Ada, Aea, Aaa]
      · simp (disch := first | omega | exact hz') only [Aba, Afa, Ada, Aea, Aaa]
theorem Kpb (r : Nia) (h : Ifb r) (hf : ¬ Tta r) : Hlb (Ova r) = true := by
  unfold Tta at hf
  have h0 := h.w0
  have h1 := h.w1
  have h2 := h.m0
  have h3 := h.m1
  unfold Hlb
  rw [decide_eq_true (show 0 ≤ (Ova r).1 from h0), decide_eq_true (show (Ova r).1 < 8 from h1), decide_eq_true (show 1 ≤ (Ova r).2.1 by show 1 ≤ r.2.2.2.2.1 + 1; omega), decide_eq_true (show (Ova r).2.1 ≤ 1048576 by show r.2.2.2.2.1 + 1 ≤ 1048576; omega)]
  rfl
theorem Hsb {r : Nia} {s1 s2 : Str} (h : (Ora r s1 s2).2 = 0) : Ifb r ∧ Osa r = [] ∧ ¬ Tta r ∧ (Bfa r.2.2.1 (Cxa s1 s2)).2 = 0 ∧ (Ora r s1 s2).1 = Nja r (Ova r, [], Kda, [Cxa s1 s2], ()) (Bfa r.2.2.1 (Cxa s1 s2)).1 ∧ Ifb (Ora r s1 s2).1 := by
  unfold Ora at h ⊢
  split at h
  · simp at h
  · rename_i h1
    split at h
    · simp at h
    · rename_i h2
      split at h
      · simp at h
      · rename_i h3
        split at h
        · rename_i h4; exact absurd h h4
        · rename_i h4
          rw [if_neg h1, if_neg h2, if_neg h3, if_neg h4]
          have hm : Ifb r := (Lsa r).1 (by simpa using h1)
          have h4' : (Bfa r.2.2.1 (Cxa s1 s2)).2 = 0 := by simpa using h4
          have ha : Bfa r.2.2.1 (Cxa s1 s2) = ((Bfa r.2.2.1 (Cxa s1 s2)).1, 0) := by rw [← h4']
          obtain ⟨mu, mp, _⟩ := Ajb hm.b ha
          refine ⟨hm, by simpa using h2, h3, h4', rfl, Iyb hm h3 rfl ?_ ?_ mu⟩
          · simp only [Hmb, Kpb r hm h3, List.length_nil, List.all_nil, Vba, List.length_singleton, List.all_cons, mp, Bool.and_true, Bool.and_eq_true, decide_eq_true_eq]
            refine ⟨⟨⟨?_, ?_⟩, ?_⟩, ?_⟩
            all_goals first | trivial | decide | simp [Kda, Azb]
          · simp only [Dqa, h4', if_true]
theorem Ftb {r : Nia} {p : Ana} {t : Aha} (h : Moa r) (hm : Ifb r) (hp : Hoa p) (ht : Nsa t) : Moa (Nja r p t) := by
  have := hm.n
  refine ⟨fun q hq => ?_, by simp only [Nja, List.length_append, List.length_singleton]; omega, ht, ht⟩
  simp only [Nja] at hq
  rcases List.mem_append.1 hq with hq | hq
  · exact h.l q hq
  · rw [List.mem_singleton.1 hq]; exact hp
theorem Cab {α : Type} (l : List α) (p d : α) : (l ++ [p]).getD l.length d = p := by
  rw [List.getD_eq_getElem?_getD, List.getElem?_append_right (Nat.le_refl _)]; simp
theorem Hrb (r : Nia) (s1 s2 : Str) (h : (Ora r s1 s2).2 ≠ 0) : (Ora r s1 s2).1 = noR := by
  unfold Ora at h ⊢
  split
  · rfl
  · split
    · rfl
    · split
      · rfl
      · split
        · rfl
        · simp_all
theorem Spa (r : Nia) (s1 s2 : Str) (hr : Kbb r) : Hba (r, s1, s2, ()) = some (true, ()) := by
  have e1 := Yba r hr
  rw [Soa]
  unfold Mpa
  simp only [Yca, Aaa, Vla, e1, Bsa, Ada]
  cases hl : Xba r with
  | false => simp only [Aea]
  | true =>
    obtain ⟨lr, hn10⟩ := Hhb hl
    by_cases h1 : 100 < s1.size
    · simp (disch := omega) only [Ada, Aba]
    · by_cases h2 : 100 < s2.size
      · simp (disch := omega) only [Ada, Aba, Afa]
      · have e2 := Vda r s1 s2 lr (by omega) (by omega)
        simp (disch := omega) only [Ada, Afa, e2, Aaa]
        by_cases h0 : (Ora r s1 s2).2 = 0
        · obtain ⟨mr, hnews, hf, ha0, hs, ms⟩ := Hsb h0
          have hne : ((Ora r s1 s2).2 != 0) = false := by simp [h0]
          simp only [hne, Aea]
          have ha : Bfa r.2.2.1 (Cxa s1 s2) = ((Bfa r.2.2.1 (Cxa s1 s2)).1, 0) := by rw [← ha0]
          obtain ⟨mu, mp, g1, g2, g3, g4⟩ := Ajb mr.b ha
          rw [hs] at ms ⊢
          generalize (Bfa r.2.2.1 (Cxa s1 s2)).1 = u at *
          have hbw : r.2.2.1 = r.2.2.2.1 := by
            rw [Tya mr] at hnews
            exact (Cob mr.b mr.k).1 hnews
          have hlp : Hoa (Ova r, [], Kda, [Cxa s1 s2], ()) := by
            refine ⟨fun c hc => ?_, by simp, by simp, (by decide : Kda.size ≤ 1000)⟩
            simp only [List.mem_singleton] at hc
            subst hc
            exact Kna.move (by omega) (by omega)
          have lu := Nsa.may mu
          have ls := Ftb lr mr hlp lu
          obtain ⟨l, hl1⟩ : ∃ l, Aja r.2.2.1 s1 = some l := by
            cases hg : Aja r.2.2.1 s1 with
            | none => exact absurd hg g1
            | some l => exact ⟨l, rfl⟩
          have e3 := Bza r.2.2.2.1 s1 lr.w.w
          rw [← hbw, hl1] at e3
          have e4 := Bza u s2 lu.w
          rw [g3, hl1] at e4
          have e5 := Bza u s1 lu.w
          rw [g2] at e5
          simp only [Option.getD_some, Option.isSome_some, Option.isSome_none] at e3 e4 e5
          have hll : l.length ≤ 1000 := by
            have := lr.b.fit.get s1
            rwa [hl1, Option.getD_some] at this
          have e6 : ∀ s : Str, Iea ([], s, l, ()) = some (Jba [] s l, ()) := fun s => Kha [] s l ⟨by simp, by simp⟩ (by omega)
          have e7 : ∀ s : Str, Ira (Jba [] s l, Jba [] s l, ()) = some (true, ()) := fun s => by
            have := Poa (Jba [] s l) (Jba [] s l) (by rw [Ecb]; exact ⟨by simp, by simp; omega⟩)
            rwa [decide_eq_true rfl] at this
          have e8 := Vda _ s2 s1 ls (by omega) (by omega)
          have hm8 : (Ora (Nja r (Ova r, [], Kda, [Cxa s1 s2], ()) u) s2 s1).2 = 8 ∨ (Ora (Nja r (Ova r, [], Kda, [Cxa s1 s2], ()) u) s2 s1).2 = 0 ∧ (Ora (Nja r (Ova r, [], Kda, [Cxa s1 s2], ()) u) s2 s1).1.2.2.1 = r.2.2.1 := by
            unfold Ora
            rw [if_neg (by rw [(Lsa _).2 ms]; simp)]
            have hnn : Osa (Nja r (Ova r, [], Kda, [Cxa s1 s2], ()) u) = [] := by
              rw [Tya ms]
              exact (Cob mu mu).2 rfl
            rw [if_neg (by simp [hnn])]
            split
            · exact .inl rfl
            · have g4' : Bfa (Nja r (Ova r, [], Kda, [Cxa s1 s2], ()) u).2.2.1 (Cxa s2 s1) = (r.2.2.1, 0) := g4
              rw [g4', if_neg (by simp)]
              exact .inr ⟨rfl, rfl⟩
          have e9 := Wua [Cxa s1 s2] (by simp) (by intro c hc; simp only [List.mem_singleton] at hc; subst hc; exact (Kna.move (by omega) (by omega)).w')
          have e9' : Kwa ([Cxa s1 s2], ()) = some (true, ()) := by rw [e9]; simp [mp]
          have e10 := Poa r.2.2.1 r.2.2.1 lr.b.w
          rw [decide_eq_true rfl] at e10
          have hlen : (0 : Int) ≤ (r.2.1.length : Int) := by omega
          have hlen2 : (r.2.1.length : Int) < ((r.2.1 ++ [(Ova r, ([] : List Id), Kda, [Cxa s1 s2], ())]).length : Int) := by simp; omega
          simp only [Vla, e8, Aaa]
          simp only [Nja] at hm8 ⊢
          simp only [← hbw, e3, e4, e5, e6, e7, Aaa, Ada, Aea]
          rcases hm8 with k | ⟨k, k2⟩
          · rw [k]
            have hb8 : ((8 : Int) == 8) = true := by decide
            simp (disch := first | exact hlen | (simp only [List.length_append, List.length_cons, List.length_nil]; omega)) only [hb8, Ada, Aba, Int.toNat_natCast, Cab, e9', Aaa]
            exact Aba (by simp only [List.length_append, List.length_cons, List.length_nil]; omega) _ _
          · rw [k, k2]
            have hb1 : ((0 : Int) == 8) = false := by decide
            have hb2 : ((0 : Int) == 0) = true := by decide
            simp (disch := first | exact hlen | (simp only [List.length_append, List.length_cons, List.length_nil]; omega)) only [hb1, hb2, Ada, Aea, e10, Aaa, Aba, Int.toNat_natCast, Cab, e9']
            exact Aba (by simp only [List.length_append, List.length_cons, List.length_nil]; omega) _ _
        · have hne : ((Ora r s1 s2).2 != 0) = true := by simp [h0]
          simp only [hne, Ada, Hrb r s1 s2 h0, List.length_nil]
          rfl
def Voa (t : Aha) : Prop := ∀ f ∈ t, Eka f.1 = true ∧ ∀ x ∈ f.2.1, Azb x = true
theorem Voa.put {t : Aha} {s : Str} {l : List Str} (h : Voa t) (hs : Eka s = true) (hl : ∀ x ∈ l, Azb x = true) : Voa (Jba t s l) := by
  intro f hf
  rcases Aqb hf with rfl | hf
  · exact ⟨hs, hl⟩
  · exact h f hf
theorem Voa.del {t : Aha} {s : Str} (h : Voa t) : Voa (Qoa t s) := fun f hf => h f (Drb hf)
theorem Voa.get {t : Aha} (h : Voa t) (s : Str) : ∀ x ∈ (Aja t s).getD [], Azb x = true := by
  intro x hx
  cases hg : Aja t s with
  | none => rw [hg] at hx; simp at hx
  | some l =>
    rw [hg, Option.getD_some] at hx
    exact (h _ (Adb hg)).2 x hx
theorem Ikb {l : List Str} (h : Uka l = true) : ∀ x ∈ l, Azb x = true := by
  simp only [Uka, Bool.and_eq_true, List.all_eq_true] at h
  exact h.2
theorem Feb {h : Ppa} (hm : Vga h = true) : ∀ x ∈ h.2.2.1, Azb x = true := by
  simp only [Vga, Bool.and_eq_true] at hm
  exact Ikb hm.2.2
theorem Fwb {p : Bua} (h : Dia p = true) : Eka p.2.1 = true ∧ (p.1 = 2 → Eka p.2.2.1 = true) := by
  unfold Dia at h
  split at h
  · simp only [Bool.and_eq_true, Daa] at h
    exact ⟨h.1.1, fun e => by omega⟩
  · split at h
    · simp only [Bool.and_eq_true] at h
      exact ⟨h.1.1, fun _ => h.1.2⟩
    · split at h
      · simp only [Bool.and_eq_true, Daa] at h
        exact ⟨h.1.1, fun e => by omega⟩
      · split at h
        · simp only [Bool.and_eq_true, Daa] at h
          exact ⟨h.1.1.1, fun e => by omega⟩
        · cases h
theorem Voa.doP {t u : Aha} {p : Bua} (h : Voa t) (hm : Dia p = true) (hd : doP t p = some u) : Voa u := by
  obtain ⟨n1, n2⟩ := Fwb hm
  unfold LI.doP at hd
  split at hd
  · split at hd
    · cases hd
    · cases hd; exact h.put n1 (by simp)
  · split at hd
    · split at hd
      · cases hd; exact h.del
      · cases hd
    · split at hd
      · split at hd
        · rename_i h2 _
          cases hd; exact h.del.put (n2 h2) (h.get p.2.1)
        · cases hd
      · split at hd
        · rename_i h3
          have hh := Jha hm (.inl h3)
          split at hd
          · cases hd
            refine h.put n1 ?_
            intro x hx
            simp only [Gma, List.mem_append] at hx
            rcases hx with hx | hx | hx
            · exact h.get p.2.1 x (List.mem_of_mem_take hx)
            · exact Feb hh x hx
            · exact h.get p.2.1 x (List.mem_of_mem_drop hx)
          · cases hd
        · rename_i h0 h1 h2 h3
          have hk := Qaa hm
          have hh := Jha hm (.inr (by omega))
          split at hd
          · cases hd; exact h.put n1 (Feb hh)
          · cases hd
def Osb (x : Nia × Int) : Prop := Moa x.1 ∧ (x.2 = 0 → Ifb x.1)
theorem Osb.may {x : Nia × Int} (h : Osb x) : (x.2 != 0) = true ∨ ((x.2 != 0) = false ∧ (x.2 == 0) = true ∧ Qda (x.1, ()) = some (true, ())) := by
  by_cases h0 : x.2 = 0
  · refine .inr ⟨by simp [h0], by simp [h0], ?_⟩
    rw [Rsa x.1 h.1, (Lsa _).2 (h.2 h0)]
  · exact .inl (by simp [h0])
theorem Kjb {f : FuncId} {ash : List Shp} {F : dens ash Unit → Option (retS (.ty .bool) []).den} (h : nJb Tryz.prog th f ash (.ty .bool) [] F) {x : dens ash Unit} (e : F x = some (true, ())) :
    run Tryz.prog th (.call f (toLs (hEa.encSs [] ash _ x).1)) = some ⟨.normal, .sc (.bool true), default, {}⟩ := h x (true, ()) e
theorem Edb : Rep Tryz.prog 56 (fun l : List ByteArray => .slice (l.map (eEa .str))) (fun l => (∀ x ∈ l, x.size ≤ reachBytes) ∧ l.length * Tryz.prog.bytesOf 9 ≤ reachBytes) :=
  Rep.slice Tryz.underlying56 (Rep.str Tryz.underlying9)
theorem Kub : Rep Tryz.prog 98 (eEa (.pair .str (.pair (.list .str) .unit))) (fun f : ByteArray × List ByteArray × Unit => f.1.size ≤ reachBytes ∧ ((∀ x ∈ f.2.1, x.size ≤ reachBytes) ∧ f.2.1.length * Tryz.prog.bytesOf 9 ≤ reachBytes) ∧ True) :=
  Rep.struct Tryz.underlying98 (lGa.cons (Rep.str Tryz.underlying9) (lGa.cons Edb lGa.nil))
theorem Hzb : Rep Tryz.prog 45 (fun t : List (ByteArray × List ByteArray × Unit) => .slice (t.map (eEa (.pair .str (.pair (.list .str) .unit))))) (fun t => (∀ f ∈ t, f.1.size ≤ reachBytes ∧ ((∀ x ∈ f.2.1, x.size ≤ reachBytes) ∧ f.2.1.length * Tryz.prog.bytesOf 9 ≤ reachBytes) ∧ True) ∧ t.length * Tryz.prog.bytesOf 98 ≤ reachBytes) :=
  Rep.slice Tryz.underlying45 Kub
theorem Oyb : Tryz.prog.bytesOf 9 = 16 := by kernel_rfl
theorem Oub : Tryz.prog.bytesOf 98 = 40 := by kernel_rfl
theorem Tia : reachBytes ≤ 140737488355328 := by
  have := reachBytes_lt
  have h2 : (2 : Nat) ^ 47 = 140737488355328 := rfl
  omega
theorem Hvb {l : List ByteArray} (h : (∀ x ∈ l, x.size ≤ reachBytes) ∧ l.length * Tryz.prog.bytesOf 9 ≤ reachBytes) : Qnb l ∧ l.length < 4611686018427387903 := by
  have hr := Tia
  rw [Oyb] at h
  exact ⟨fun s hs => by have := h.1 s hs; omega, by omega⟩
theorem Fib {t : Aha} (h : (∀ f ∈ t, f.1.size ≤ reachBytes ∧ ((∀ x ∈ f.2.1, x.size ≤ reachBytes) ∧ f.2.1.length * Tryz.prog.bytesOf 9 ≤ reachBytes) ∧ True) ∧ t.length * Tryz.prog.bytesOf 98 ≤ reachBytes) : Vfa t ∧ t.length < 4611686018427387903 := by
  have hr := Tia
  refine ⟨fun f hf => ?_, ?_⟩
  · obtain ⟨h1, h2, _⟩ := h.1 f hf
    obtain ⟨h3, h4⟩ := Hvb h2
    exact ⟨by omega, h3, h4⟩
  · have := h.2
    rw [Oub] at this
    omega
theorem Rep.mono {P : Program} {t : TypeId} {α : Type} {enc : α → LV} {ok ok' : α → Prop} (r : Rep P t enc ok) (h : ∀ a, ok a → ok' a) : Rep P t enc ok' where
  get := fun h1 h2 => by
    obtain ⟨a, e, k⟩ := r.get h1 h2
    exact ⟨a, e, h a k⟩
theorem Zma : Rep Tryz.prog 3 (eEa (.int .i64)) (fun _ : Int => True) := Rep.mono (Rep.int Tryz.underlying3) fun _ _ => trivial
theorem Pha : Rep Tryz.prog 9 (eEa .str) (fun s : ByteArray => s.size ≤ reachBytes) := Rep.str Tryz.underlying9
theorem Pab : Rep Tryz.prog 31 (eEa (.pair (.int .i64) (.pair (.int .i64) .unit))) (fun _ : Id => True) :=
  Rep.mono (Rep.struct Tryz.underlying31 (lGa.cons Zma (lGa.cons Zma lGa.nil))) fun _ _ => trivial
theorem Kvb : Rep Tryz.prog 70 (eEa (.pair (.int .i64) (.pair (.list .str) (.pair (.list .str) .unit)))) (fun h : Ppa => h.2.1.length < 4611686018427387903 ∧ h.2.2.1.length < 4611686018427387903) :=
  Rep.mono (Rep.struct Tryz.underlying70 (lGa.cons Zma (lGa.cons Edb (lGa.cons Edb lGa.nil)))) fun _ h => ⟨(Hvb h.2.1).2, (Hvb h.2.2.1).2⟩
theorem Kwb : Rep Tryz.prog 72 (eEa (.pair (.int .i64) (.pair .str (.pair .str (.pair (.pair (.int .i64) (.pair (.list .str) (.pair (.list .str) .unit))) .unit))))) Dob :=
  Rep.mono (Rep.struct Tryz.underlying72 (lGa.cons Zma (lGa.cons Pha (lGa.cons Pha (lGa.cons Kvb lGa.nil))))) fun _ h => h.2.2.2.1
theorem Ovb : Tryz.prog.bytesOf 31 = 16 := by kernel_rfl
theorem Oxb : Tryz.prog.bytesOf 72 = 96 := by kernel_rfl
theorem Owb : Tryz.prog.bytesOf 40 = 80 := by kernel_rfl
theorem Pbb : Rep Tryz.prog 37 (eEa (.list (.pair (.int .i64) (.pair (.int .i64) .unit)))) (fun l : List Id => l.length < 4611686018427387903) :=
  Rep.mono (Rep.slice Tryz.underlying37 Pab) fun l h => by
    have hr := Tia
    have := h.2
    rw [Ovb] at this
    omega
theorem Jmb : Rep Tryz.prog 38 (eEa (.list (.pair (.int .i64) (.pair .str (.pair .str (.pair (.pair (.int .i64) (.pair (.list .str) (.pair (.list .str) .unit))) .unit)))))) (fun l : List Bua => (∀ p ∈ l, Dob p) ∧ l.length < 4611686018427387903) :=
  Rep.mono (Rep.slice Tryz.underlying38 Kwb) fun l h => by
    have hr := Tia
    have := h.2
    rw [Oxb] at this
    exact ⟨h.1, by omega⟩
theorem Jlb : Rep Tryz.prog 40 (eEa (.pair (.pair (.int .i64) (.pair (.int .i64) .unit)) (.pair (.list (.pair (.int .i64) (.pair (.int .i64) .unit))) (.pair .str (.pair (.list (.pair (.int .i64) (.pair .str (.pair .str (.pair (.pair (.int .i64) (.pair (.list .str) (.pair (.list .str) .unit))) .unit))))) .unit))))) Dpb :=
  Rep.mono (Rep.struct Tryz.underlying40 (lGa.cons Pab (lGa.cons Pbb (lGa.cons Pha (lGa.cons Jmb lGa.nil))))) fun _ h => ⟨h.2.2.2.1.2, h.2.2.2.1.1, h.2.1⟩
theorem Hyb : Rep Tryz.prog 22 (eEa (.list (.pair (.pair (.int .i64) (.pair (.int .i64) .unit)) (.pair (.list (.pair (.int .i64) (.pair (.int .i64) .unit))) (.pair .str (.pair (.list (.pair (.int .i64) (.pair .str (.pair .str (.pair (.pair (.int .i64) (.pair (.list .str) (.pair (.list .str) .unit))) .unit))))) .unit)))))) (fun l : List Ana => (∀ p ∈ l, Dpb p) ∧ l.length < 4611686018427387903) :=
  Rep.mono (Rep.slice Tryz.underlying22 Jlb) fun l h => by
    have hr := Tia
    have := h.2
    rw [Owb] at this
    exact ⟨h.1, by omega⟩
theorem Kxb : Rep Tryz.prog 47 (eEa (.pair (.int .i64) (.pair (.list (.pair (.pair (.int .i64) (.pair (.int .i64) .unit)) (.pair (.list (.pair (.int .i64) (.pair (.int .i64) .unit))) (.pair .str (.pair (.list (.pair (.int .i64) (.pair .str (.pair .str (.pair (.pair (.int .i64) (.pair (.list .str) (.pair (.list .str) .unit))) .unit))))) .unit))))) (.pair (.list (.pair .str (.pair (.list .str) .unit))) (.pair (.list (.pair .str (.pair (.list .str) .unit))) (.pair (.int .i64) .unit)))))) Kbb :=
  Rep.mono (Rep.struct Tryz.underlying47 (lGa.cons Zma (lGa.cons Hyb (lGa.cons Hzb (lGa.cons Hzb (lGa.cons Zma lGa.nil)))))) fun _ h =>
    ⟨h.2.1.2, h.2.1.1, (Fib h.2.2.1).1, (Fib h.2.2.1).2, (Fib h.2.2.2.1).1, (Fib h.2.2.2.1).2⟩
end Go.Proofs.YtpeaaophmddhnaaGreat.LI
