/-
  Small laws for reading what was carried out: tests, names, numbers, lists. Trees: what the program's functions come to. Lines and names, lists that are the same: what the functions come to. Names and lines that may be: what the functions come to. Trees with a file, and without one: what the functions come to. Trees: the document's Put and Del, the program's Del. The names of the files of two trees: what the functions come to. The document's names of two trees; whether a tree may be; whether it is light. Whether a tree may be, and whether it is light: what the functions come to. Light trees; the example; the two ways to names. The example of the chapter, and the laws of trees. Laws of trees: what is got of a tree with a file and of one without, and that rising trees of the same files are the same. What two lists have in common: what the functions come to. Edits and hunks: what the functions come to. News: what the functions come to. The laws NewsTells and NewsCost hold of what was carried out. Lists of strings, joined, and compared once more. Changes: what the functions come to. Trees that changes change: what the functions come to. What the changes from one tree to another one are like: pairs of equal lines, edits that are apart, changes of which none undoes the one ahead. The changes from one tree to another one change it into that. Changes turned back; the laws NewsTwo and NewsFiles hold of what was carried out. The law NewsGives holds of what was carried out. Patches that pass one another, and repositories: plain definitions. Hunks and changes that pass one another: what the functions come to. Lists of changes, and patches, that pass one another: what the functions come to. Patches that pass one another, and those that stay: what the functions come to. Patches and repositories: what the functions come to. Repositories that are light, and such that are the same: what the functions come to. The law RepoReverts holds of what was carried out. From a law's function to its row: which data its arguments are. Which data patches and repositories are.
-/
import Derived.Test.YtpeaaophmddhnaaGreatVRR0
import Derived.Sort.Walk0
import Derived.Test.YtpeaaophmddhnaaGreatRows
import Derived.Test.YtpeaaophmddhnaaGreatChecked
import Derived.ChangeOld
import Derived.ProofKit
import Derived.ShutString
set_option linter.unusedSimpArgs false
set_option linter.unusedVariables false
set_option maxRecDepth 100000
namespace Go.Proofs.YtpeaaophmddhnaaGreat.LI
open Go
open Go Go.RowKit
open KV (toL)
open KV.toL (toLs)
theorem Afa {α : Type} {p : Prop} [Decidable p] (h : p) (x y : Option α) : jKa (decide p) x y = x := by simp [jKa, h]
theorem Aia {α : Type} {p : Prop} [Decidable p] (h : ¬ p) (x y : Option α) : jKa (decide p) x y = y := by simp [jKa, h]
theorem Aja {α : Type} [h : Decidable True] (x y : Option α) : jKa (@decide True h) x y = x := Afa trivial x y
theorem Aca {α : Type} (x y : Option α) : jKa true x y = x := rfl
theorem Aea {α : Type} (x y : Option α) : jKa false x y = y := rfl
theorem Aoa {α : Type} (b : Bool) (x y : Option α) : jKa (!b) x y = jKa b y x := by cases b <;> rfl
theorem Aaa {α β : Type} (a : α) (f : α → Option β) : lIa (some a) f = f a := rfl
theorem Hia {α β γ : Type} (a : α) (f : α → Option γ) (g : β → Option γ) : bFb (.inl a) f g = f a := rfl
theorem Fpa {α β γ : Type} (a : β) (f : α → Option γ) (g : β → Option γ) : bFb (.inr a) f g = g a := rfl
theorem Bfa {n : Int} (h : -4611686018427387904 ≤ n) (h' : n < 4611686018427387904) : IntKind.wrap .i64 n = n := by rw [IntKind.wrap_i64]; omega
theorem Hla {i : Nat} (h : i < 4611686018427387903) : IntKind.wrap .i64 ((i : Int) + 1) = ((i + 1 : Nat) : Int) := by rw [IntKind.wrap_i64]; omega
theorem Keb {i : Nat} (h : 0 < i) (h' : i < 4611686018427387903) : IntKind.wrap .i64 ((i : Int) - 1) = ((i - 1 : Nat) : Int) := by rw [IntKind.wrap_i64]; omega
theorem Aha : bBa = 1099511627776 := rfl
theorem Aba {α : Type} {l : List α} {i : Nat} {a : α} {r : List α} (h : l.drop i = a :: r) : i < l.length ∧ (∀ d, l.getD i d = a) ∧ l.drop (i + 1) = r ∧ a ∈ l := by
  have hi : i < l.length := by
    by_cases hi : i < l.length
    · exact hi
    · rw [List.drop_eq_nil_of_le (by omega)] at h; cases h
  rw [List.drop_eq_getElem_cons hi] at h
  injection h with h1 h2
  refine ⟨hi, fun d => ?_, h2, h1 ▸ List.getElem_mem hi⟩
  rw [List.getD_eq_getElem?_getD, List.getElem?_eq_getElem hi, Option.getD_some, h1]
theorem Ada {α : Type} {l : List α} {i : Nat} (h : l.drop i = []) (hi : i ≤ l.length) : i = l.length := by
  rw [List.drop_eq_nil_iff] at h
  omega
theorem Uva (a b : ByteArray) : (ByteArray.toList a == ByteArray.toList b) = decide (a = b) := by
  rw [Bool.eq_iff_iff, beq_iff_eq, decide_eq_true_eq]
  constructor
  · intro h
    rw [Lib.toList_data, Lib.toList_data] at h
    exact ByteArray.ext (Array.toList_inj.1 h)
  · rintro rfl; rfl
def ltS (a b : ByteArray) : Prop := a.data.toList < b.data.toList
instance (a b : ByteArray) : Decidable (ltS a b) := inferInstanceAs (Decidable (a.data.toList < b.data.toList))
theorem Krb (a b : ByteArray) : Op.bytesLess (ByteArray.toList a) (ByteArray.toList b) = decide (ltS a b) := by
  rw [Go.Proofs.bytesLess_eq, Lib.toList_data, Lib.toList_data]; rfl
theorem Hta (a : ByteArray) : ¬ ltS a a := List.lt_irrefl _
theorem Gta {a b c : ByteArray} (h : ltS a b) (k : ltS b c) : ltS a c := List.lt_trans h k
theorem Yma {a b : ByteArray} (h : ltS a b) : ¬ ltS b a := fun k => Hta a (Gta h k)
theorem Lra (a b : ByteArray) : ltS a b ∨ a = b ∨ ltS b a := by
  by_cases h : ltS a b
  · exact .inl h
  · by_cases k : ltS b a
    · exact .inr (.inr k)
    · have h1 := List.not_lt.1 h
      have k1 := List.not_lt.1 k
      have := List.le_antisymm k1 h1
      exact .inr (.inl (ByteArray.ext (Array.toList_inj.1 this)))
theorem Rfb (a b : ByteArray) : (decide (ltS a b) || decide (a = b)) = !decide (ltS b a) := by
  rcases Lra a b with h | h | h
  · have := Yma h; simp [h, this]
  · subst h; simp [Hta]
  · have h1 := Yma h
    have h2 : ¬ a = b := fun e => Hta b (e ▸ h)
    simp [h, h1, h2]
theorem PP : (∀ {α : Type} [h : Decidable True] (x y : Option α), jKa (@decide True h) x y = x) ∧
    (∀ {α : Type} {p : Prop} [Decidable p] (_ : p) (x y : Option α), jKa (decide p) x y = x) ∧
    (∀ {α : Type} {p : Prop} [Decidable p] (_ : ¬ p) (x y : Option α), jKa (decide p) x y = y) ∧
    (∀ {α : Type} (x y : Option α), jKa true x y = x) ∧ (∀ {α : Type} (x y : Option α), jKa false x y = y) ∧
    (∀ {α : Type} (b : Bool) (x y : Option α), jKa (!b) x y = jKa b y x) ∧
    (∀ {α β : Type} (a : α) (f : α → Option β), lIa (some a) f = f a) ∧
    (∀ {α β γ : Type} (a : α) (f : α → Option γ) (g : β → Option γ), bFb (.inl a) f g = f a) ∧
    (∀ {α β γ : Type} (a : β) (f : α → Option γ) (g : β → Option γ), bFb (.inr a) f g = g a) ∧
    (∀ n : Nat, Int.toNat (n : Int) = n) ∧
    (∀ {i : Nat} (_ : i < 4611686018427387903), IntKind.wrap .i64 ((i : Int) + 1) = ((i + 1 : Nat) : Int)) ∧
    (∀ {i : Nat} (_ : 0 < i) (_ : i < 4611686018427387903), IntKind.wrap .i64 ((i : Int) - 1) = ((i - 1 : Nat) : Int)) ∧
    (∀ {α β : Type} (a : α) (f : α → Option β), (some a).bind f = f a) ∧ (∀ {α β : Type} (f : α → Option β), (none : Option α).bind f = none) ∧
    (∀ {α β γ : Type} (f : α → γ) (g : β → γ) (a : α), Sum.elim f g (.inl a) = f a) ∧ (∀ {α β γ : Type} (f : α → γ) (g : β → γ) (a : β), Sum.elim f g (.inr a) = g a) ∧
    (∀ {α : Type} (l m : List α), (l ++ m).length = l.length + m.length) ∧ (∀ {α : Type} (a : α) (l : List α), (a :: l).length = l.length + 1) ∧ (∀ {α : Type}, ([] : List α).length = 0) ∧
    (∀ a b : ByteArray, (ByteArray.toList a == ByteArray.toList b) = decide (a = b)) ∧ (∀ a b : ByteArray, Op.bytesLess (ByteArray.toList a) (ByteArray.toList b) = decide (ltS a b)) ∧
    (∀ a b : ByteArray, (decide (ltS a b) || decide (a = b)) = !decide (ltS b a)) ∧ (∀ b : Bool, (!!b) = b) :=
  ⟨Aja, Afa, Aia, Aca, Aea, Aoa, Aaa, Hia, Fpa, Int.toNat_natCast, Hla, Keb, fun _ _ => rfl, fun _ => rfl, fun _ _ _ => rfl, fun _ _ _ => rfl,
    fun _ _ => List.length_append, fun _ _ => List.length_cons, List.length_nil, Uva, Krb, Rfb, Bool.not_not⟩
mutual
theorem Qba : ∀ (t : Ty) (x : t.den), eqT t x x = true
  | .int _, _ => by simp [eqT]
  | .byte, _ => by simp [eqT]
  | .bool, _ => by simp [eqT]
  | .str, _ => by simp [eqT]
  | .list t, l => by rw [eqT]; exact Heb t l
  | .unit, _ => by simp [eqT]
  | .pair a b, p => by rw [eqT, Qba a, Qba b]; rfl
theorem Heb (t : Ty) : ∀ (l : List t.den), eqT.eqL t l l = true
  | [] => by rw [eqT.eqL]
  | x :: xs => by rw [eqT.eqL, Qba t x, Heb t xs]; rfl
end
abbrev Str := ByteArray
abbrev Acb := ByteArray × List ByteArray × Unit
abbrev Aga := List Acb
def Wee (t : Aga) : Prop := t.length ≤ 1000000000 ∧ ∀ f ∈ t, f.2.1.length ≤ 1000000000
theorem Mra (s : Str) (l : List Str) (h : l.length ≤ 1000000000) : Kxa (s, l, ()) = some ((s, l, ()), ()) := by
  have hM := Aha
  rw [Gsb]
  simp (disch := omega) only [Dmb, PP]
theorem Ska (t l0 : Aga) (hw : Wee t) : ∀ (r : Aga) (i : Nat) (l1 : Aga), t.drop i = r → i ≤ t.length → l1.length + r.length ≤ 1000000000 →
    Kja (l0, l1, t, (t.length : Int), (i : Int), ()) = some (l0, l1 ++ r, t, (t.length : Int), (t.length : Int), ())
  | [], i, l1, h, hi, _ => by
    have := Ada h hi
    subst this
    rw [Sja]
    simp (disch := omega) only [Oca, PP, List.append_nil]
  | f :: r, i, l1, h, hi, hl => by
    obtain ⟨h1, h2, h3, h4⟩ := Aba h
    have hb := hw.1
    have hf := hw.2 f h4
    have hM := Aha
    rw [Sja]
    simp only [List.length_cons] at hl
    simp (disch := omega) only [Oca, PP, h2, Mra]
    rw [Ska t l0 hw r (i + 1) _ h3 (by omega) (by simp; omega)]
    simp
theorem Kka (t : Aga) (hw : Wee t) : Ura (t, ()) = some (t, ()) := by
  rw [Grb]
  have := Ska t [] hw t 0 [] rfl (by omega) (by simpa using hw.1)
  simp only [Int.natCast_zero, List.nil_append] at this
  simp (disch := omega) only [Dlb, PP, this]
def at_ (t : Aga) (s : Str) : Nat := t.findIdx fun f => decide (f.1 = s)
theorem Bcb (t : Aga) (s : Str) (hb : t.length < 4611686018427387903) : ∀ (r : Aga) (i : Nat), t.drop i = r → i ≤ t.length →
    ∃ y, Ava (s, t, (t.length : Int), (i : Int), ()) = some y ∧ (match y with
      | .inl z => z.2.2.1 = ((i + r.findIdx (fun f => decide (f.1 = s)) : Nat) : Int) ∧ r.findIdx (fun f => decide (f.1 = s)) < r.length
      | .inr _ => r.findIdx (fun f => decide (f.1 = s)) = r.length)
  | [], i, h, hi => by
    have := Ada h hi
    subst this
    rw [Dxa]
    simp (disch := omega) only [Bla, PP]
    exact ⟨_, rfl, rfl⟩
  | f :: r, i, h, hi => by
    obtain ⟨h1, h2, h3, h4⟩ := Aba h
    rw [Dxa]
    by_cases hf : f.1 = s
    · simp (disch := omega) only [Bla, PP, h2, hf, List.findIdx_cons, decide_true, cond_true, Nat.add_zero]
      exact ⟨_, rfl, rfl, by omega⟩
    · simp (disch := omega) only [Bla, PP, h2, hf, List.findIdx_cons, decide_false, cond_false]
      obtain ⟨y, e, p⟩ := Bcb t s hb r (i + 1) h3 (by omega)
      refine ⟨y, e, ?_⟩
      cases y with
      | inl z => simp only at p ⊢; exact ⟨by rw [p.1]; omega, by omega⟩
      | inr z => simp only at p ⊢; omega
theorem Cwa (t : Aga) (s : Str) (hb : t.length < 4611686018427387903) : Jma (t, s, ()) = some ((at_ t s : Int), ()) := by
  rw [Dfb]
  obtain ⟨y, e, p⟩ := Bcb t s hb t 0 rfl (by omega)
  simp only [Int.natCast_zero] at e
  cases y with
  | inl z =>
    simp only [Nat.zero_add] at p
    simp (disch := omega) only [Soa, e, PP, p.1]
    rfl
  | inr z =>
    simp only at p
    simp only [Soa, e, PP, at_, p]
def Aza (t : Aga) (s : Str) : Option (List Str) := (t.find? fun f => decide (f.1 = s)).map fun f => f.2.1
theorem Yea (t : Aga) (s : Str) : Aza t s = if at_ t s < t.length then some (t.getD (at_ t s) (ByteArray.empty, [], ())).2.1 else none := by
  unfold Aza at_
  induction t with
  | nil => simp
  | cons f t ih =>
    rw [List.find?_cons, List.findIdx_cons]
    by_cases hf : f.1 = s
    · simp [hf]
    · simp only [hf, decide_false, cond_false, List.length_cons, Nat.add_lt_add_iff_right, List.getD_cons_succ]
      exact ih
theorem Eaa (t : Aga) (s : Str) (hw : Wee t) : Hja (t, s, ()) = some ((Aza t s).getD [], (Aza t s).isSome, ()) := by
  have hb := hw.1
  have hM := Aha
  rw [Gob]
  by_cases h : at_ t s < t.length
  · have hm : t.getD (at_ t s) (ByteArray.empty, [], ()) ∈ t := by
      rw [List.getD_eq_getElem?_getD, List.getElem?_eq_getElem h]; exact List.getElem_mem h
    have := hw.2 _ hm
    simp (disch := omega) only [Xea, Cwa, PP, Yea, h, if_true, Option.getD_some, Option.isSome_some]
  · simp (disch := omega) only [Xea, Cwa, PP, Yea, h, if_false, Option.getD_none, Option.isSome_none]
theorem Nka (m : List Str) : ∀ (r : List Str) (l : List Str) (i : Nat), l.drop i = r → i ≤ l.length → l.length = m.length → l.length < 4611686018427387903 →
    ∃ y, Gza (l, m, (i : Int), ()) = some y ∧ (match y with
      | .inl _ => l.drop i ≠ m.drop i
      | .inr _ => l.drop i = m.drop i)
  | [], l, i, h, hi, hl, hb => by
    have := Ada h hi
    subst this
    rw [Nja]
    simp (disch := omega) only [Hza, PP]
    exact ⟨_, rfl, by simp [hl]⟩
  | a :: r, l, i, h, hi, hl, hb => by
    obtain ⟨h1, h2, h3, h4⟩ := Aba h
    obtain ⟨b, s, hm⟩ : ∃ b s, m.drop i = b :: s := ⟨_, _, List.drop_eq_getElem_cons (by omega)⟩
    obtain ⟨m1, m2, m3, m4⟩ := Aba hm
    rw [Nja]
    by_cases hab : a = b
    · subst hab
      simp (disch := omega) only [Hza, PP, h2, m2, decide_true, Bool.not_true]
      obtain ⟨y, e, p⟩ := Nka m r l (i + 1) h3 (by omega) hl hb
      refine ⟨y, e, ?_⟩
      rw [h, hm]
      rw [h3, m3] at p
      cases y with
      | inl z => simpa using p
      | inr z => simpa using p
    · simp (disch := first | omega | assumption) only [Hza, PP, h2, m2]
      refine ⟨_, rfl, ?_⟩
      rw [h, hm]
      simp [hab]
theorem Haa (l m : List Str) (hb : l.length < 4611686018427387903) : Jka (l, m, ()) = some (decide (l = m), ()) := by
  rw [Ckb]
  by_cases hl : l.length = m.length
  · obtain ⟨y, e, p⟩ := Nka m l l 0 rfl (by omega) hl hb
    simp only [Int.natCast_zero] at e
    have hbn : ((l.length : Int) != (m.length : Int)) = false := by simp [hl]
    simp only [List.drop_zero] at p
    cases y with
    | inl z => simp only at p; simp only [Lza, hbn, e, PP, p, decide_false]
    | inr z => simp only at p; subst p; simp only [Lza, hbn, e, PP, decide_true]
  · have hbn : ((l.length : Int) != (m.length : Int)) = true := by simp; omega
    have : ¬ l = m := fun e => hl (by rw [e])
    simp only [Lza, hbn, PP, this, decide_false]
theorem Fla (m : List Str) : ∀ (r : List Str) (l : List Str) (i : Nat), l.drop i = r → i ≤ l.length → l.length = m.length → l.length < 4611686018427387903 →
    ∃ y, Bja (l, m, (l.length : Int), (i : Int), ()) = some y ∧ (match y with
      | .inl _ => l.drop i ≠ m.drop i
      | .inr _ => l.drop i = m.drop i)
  | [], l, i, h, hi, hl, hb => by
    have := Ada h hi
    subst this
    rw [Fka]
    simp (disch := omega) only [Bra, PP]
    exact ⟨_, rfl, by simp [hl]⟩
  | a :: r, l, i, h, hi, hl, hb => by
    obtain ⟨h1, h2, h3, h4⟩ := Aba h
    obtain ⟨b, s, hm⟩ : ∃ b s, m.drop i = b :: s := ⟨_, _, List.drop_eq_getElem_cons (by omega)⟩
    obtain ⟨m1, m2, m3, m4⟩ := Aba hm
    rw [Fka]
    by_cases hab : a = b
    · subst hab
      simp (disch := omega) only [Bra, PP, h2, m2, decide_true, Bool.not_true]
      obtain ⟨y, e, p⟩ := Fla m r l (i + 1) h3 (by omega) hl hb
      refine ⟨y, e, ?_⟩
      rw [h, hm]
      rw [h3, m3] at p
      cases y with
      | inl z => simpa using p
      | inr z => simpa using p
    · simp (disch := first | omega | assumption) only [Bra, PP, h2, m2]
      refine ⟨_, rfl, ?_⟩
      rw [h, hm]
      simp [hab]
theorem Dda (l m : List Str) (hb : l.length < 4611686018427387903) : Bwa (l, m, ()) = some (decide (l = m), ()) := by
  rw [Nwa]
  by_cases hl : l.length = m.length
  · obtain ⟨y, e, p⟩ := Fla m l l 0 rfl (by omega) hl hb
    simp only [Int.natCast_zero] at e
    have hbn : ((l.length : Int) != (m.length : Int)) = false := by simp [hl]
    simp only [List.drop_zero] at p
    cases y with
    | inl z => simp only at p; simp only [Cja, hbn, e, PP, p, decide_false]
    | inr z => simp only at p; subst p; simp only [Cja, hbn, e, PP, decide_true]
  · have hbn : ((l.length : Int) != (m.length : Int)) = true := by simp; omega
    have : ¬ l = m := fun e => hl (by rw [e])
    simp only [Cja, hbn, PP, this, decide_false]
theorem Hfb {f g : Acb} (h : f.1 = g.1) (k : f.2.1 = g.2.1) : f = g := by
  obtain ⟨a, b, ⟨⟩⟩ := f
  obtain ⟨c, d, ⟨⟩⟩ := g
  simp only at h k
  rw [h, k]
theorem Sia (f g : Acb) (hb : f.2.1.length < 4611686018427387903) : Mqa (f, g, ()) = some (decide (f = g), ()) := by
  rw [Abb]
  by_cases h : f.1 = g.1
  · by_cases k : f.2.1 = g.2.1
    · have := Hfb h k
      subst this
      simp (disch := omega) only [Kta, PP, decide_true, Dda]
    · have : ¬ f = g := fun e => k (by rw [e])
      simp (disch := omega) only [Kta, PP, h, decide_true, Dda, k, decide_false, this]
  · have : ¬ f = g := fun e => h (by rw [e])
    simp (disch := first | omega | assumption) only [Kta, PP, decide_false, this]
theorem Dwa (m l : Aga) (hw : Wee l) : ∀ (r : Aga) (i : Nat), l.drop i = r → i ≤ l.length → l.length = m.length →
    ∃ y, Aua (m, l, (l.length : Int), (i : Int), ()) = some y ∧ (match y with
      | .inl _ => l.drop i ≠ m.drop i
      | .inr _ => l.drop i = m.drop i)
  | [], i, h, hi, hl => by
    have := Ada h hi
    subst this
    rw [Dva]
    simp (disch := omega) only [Bka, PP]
    exact ⟨_, rfl, by simp [hl]⟩
  | a :: r, i, h, hi, hl => by
    have hb := hw.1
    obtain ⟨h1, h2, h3, h4⟩ := Aba h
    have ha := hw.2 a h4
    obtain ⟨b, s, hm⟩ : ∃ b s, m.drop i = b :: s := ⟨_, _, List.drop_eq_getElem_cons (by omega)⟩
    obtain ⟨m1, m2, m3, m4⟩ := Aba hm
    rw [Dva]
    have e1 : ((a.1, a.2.1, ()) : Acb) = a := rfl
    have e2 : ((b.1, b.2.1, ()) : Acb) = b := rfl
    by_cases hab : a = b
    · subst hab
      simp (disch := omega) only [Bka, PP, h2, m2, e1, Sia, decide_true]
      obtain ⟨y, e, p⟩ := Dwa m l hw r (i + 1) h3 (by omega) hl
      refine ⟨y, e, ?_⟩
      rw [h, hm]
      rw [h3, m3] at p
      cases y with
      | inl z => simpa using p
      | inr z => simpa using p
    · simp (disch := omega) only [Bka, PP, h2, m2, e1, e2, Sia, hab, decide_false]
      refine ⟨_, rfl, ?_⟩
      rw [h, hm]
      simp [hab]
theorem Wga (l m : Aga) (hw : Wee l) : Kia (l, m, ()) = some (decide (l = m), ()) := by
  rw [Fob]
  by_cases hl : l.length = m.length
  · obtain ⟨y, e, p⟩ := Dwa m l hw l 0 rfl (by omega) hl
    simp only [Int.natCast_zero] at e
    have hbn : ((l.length : Int) != (m.length : Int)) = false := by simp [hl]
    simp only [List.drop_zero] at p
    cases y with
    | inl z => simp only at p; simp only [Pya, hbn, e, PP, p, decide_false]
    | inr z => simp only at p; subst p; simp only [Pya, hbn, e, PP, decide_true]
  · have hbn : ((l.length : Int) != (m.length : Int)) = true := by simp; omega
    have : ¬ l = m := fun e => hl (by rw [e])
    simp only [Pya, hbn, PP, this, decide_false]
def Icb (c : UInt8) : Bool := (decide (97 ≤ c.toNat) && decide (c.toNat ≤ 122)) || (decide (48 ≤ c.toNat) && decide (c.toNat ≤ 57)) || decide (c.toNat = 46)
theorem Wfa (c : UInt8) : Uqa (c, ()) = some (Icb c, ()) := by
  rw [Fnb]
  have e : (((UInt8.toNat c : Nat) : Int) == 46) = decide (c.toNat = 46) := by
    rw [Bool.eq_iff_iff]; simp; omega
  by_cases h1 : 97 ≤ c.toNat <;> by_cases h2 : c.toNat ≤ 122 <;> by_cases h3 : 48 ≤ c.toNat <;> by_cases h4 : c.toNat ≤ 57 <;>
    first
    | (exfalso; omega)
    | simp (disch := omega) only [Akb, PP, e, Icb, h1, h2, h3, h4, decide_true, decide_false, Bool.true_and, Bool.false_and, Bool.true_or, Bool.false_or, Bool.or_false, Bool.or_true, Bool.and_false, Bool.and_true]
theorem Bob (c : UInt8) : UInt8.ofNat (UInt8.toNat c) = c := by simp
theorem Ixb (c : UInt8) : (decide ((0 : Int) ≤ ((UInt8.toNat c : Nat) : Int)) && decide (((UInt8.toNat c : Nat) : Int) < 256)) = true := by
  have := UInt8.toNat_lt c
  simp; omega
def Hua (s : Str) : Bool := decide (1 ≤ s.size) && decide (s.size ≤ 16) && s.data.toList.all Icb
theorem Una (s : Str) : s.data.toList.length = s.size := by simp
theorem Pua (s : Str) (hb : s.size < 4611686018427387903) : ∀ (r : List UInt8) (i : Nat), s.data.toList.drop i = r → i ≤ s.size →
    ∃ y, Ita (s, (s.size : Int), (i : Int), ()) = some y ∧ (match y with
      | .inl _ => r.all Icb = false
      | .inr z => r.all Icb = true ∧ z.1 = s)
  | [], i, h, hi => by
    have := Ada h (by rw [Una]; exact hi)
    rw [Una] at this
    subst this
    rw [Pta]
    simp (disch := omega) only [Jfa, PP]
    exact ⟨_, rfl, rfl, rfl⟩
  | c :: r, i, h, hi => by
    obtain ⟨h1, h2, h3, h4⟩ := Aba h
    rw [Una] at h1
    rw [Pta]
    cases hc : Icb c with
    | true =>
      simp (disch := omega) only [Jfa, PP, h2, Ixb, Bob, Wfa, hc]
      obtain ⟨y, e, p⟩ := Pua s hb r (i + 1) h3 (by omega)
      refine ⟨y, e, ?_⟩
      cases y with
      | inl z => simpa [hc] using p
      | inr z => simpa [hc] using p
    | false =>
      simp (disch := omega) only [Jfa, PP, h2, Ixb, Bob, Wfa, hc]
      exact ⟨_, rfl, by simp [hc]⟩
theorem Fjb (s : Str) : s = ByteArray.empty ↔ s.size = 0 := by
  constructor
  · rintro rfl; rfl
  · intro h
    apply ByteArray.ext
    apply Array.ext'
    have : s.data.toList = [] := List.eq_nil_of_length_eq_zero (by rw [Una]; exact h)
    rw [this]; rfl
theorem Cfa (s : Str) (hb : s.size < 4611686018427387903) : Kga (s, ()) = some (Hua s, ()) := by
  rw [Fmb]
  obtain ⟨y, e, p⟩ := Pua s hb s.data.toList 0 rfl (by omega)
  simp only [Int.natCast_zero] at e
  cases y with
  | inl z =>
    simp only at p
    simp only [Pxa, e, PP, Hua, p, Bool.and_false]
  | inr z =>
    obtain ⟨p, rfl⟩ := p
    have hd : decide (((z.1.size : Nat) : Int) ≤ 16) = decide (z.1.size ≤ 16) := by
      rw [decide_eq_decide]; omega
    by_cases h0 : z.1 = ByteArray.empty
    · have h1 := (Fjb _).1 h0
      have : Hua z.1 = false := by simp [Hua, h1]
      simp only [Pxa, e, PP, this]
      simp only [h0, decide_true, PP]
    · have h1 : 1 ≤ z.1.size := by
        have := mt (Fjb z.1).2 h0
        omega
      simp only [Pxa, e, PP, h0, decide_false, Hua, h1, decide_true, p, Bool.true_and, Bool.and_true, hd]
def Ifb (s : Str) : Bool := decide (s.size ≤ 80) && s.data.toList.all fun c => decide (c ≠ 10)
theorem Vxa : ∀ (l : List UInt8) (c : UInt8), -1 ≤ Lib.indexByte l c
  | [], c => by simp [Lib.indexByte]
  | b :: l, c => by
    have := Vxa l c
    simp only [Lib.indexByte]
    split
    · omega
    · split
      · omega
      · omega
theorem Tra : ∀ (l : List UInt8), decide (Lib.indexByte l 10 < 0) = l.all fun c => decide (c ≠ 10)
  | [] => rfl
  | b :: l => by
    have ih := Tra l
    have hge := Vxa l 10
    simp only [Lib.indexByte, List.all_cons, ← ih]
    by_cases hb : b = 10
    · subst hb; simp
    · simp only [beq_iff_eq, hb, if_false, ne_eq, not_false_eq_true, decide_true, Bool.true_and]
      split
      · rename_i h; rw [h]
      · rename_i h
        rw [Bool.eq_iff_iff, decide_eq_true_eq, decide_eq_true_eq]; omega
theorem Yza (s : Str) : Qta (s, ()) = some (Ifb s, ()) := by
  have e10 : Nat.toUInt8 (Int.toNat (((UInt8.toNat (UInt8.ofNat (Int.toNat 10))) : Nat) : Int)) = 10 := rfl
  have hi : Efa (s, UInt8.ofNat (Int.toNat 10), ()) = some (Lib.indexByte s.data.toList 10, ()) := by
    rw [Rca]
    simp only [Ksa, Ixb, PP, Bob, Gsa, Cma]
    rfl
  rw [Gmb]
  by_cases h : s.size ≤ 80
  · simp (disch := omega) only [Xba, PP, hi, Tra, Ifb, h, decide_true, Bool.true_and]
  · simp (disch := omega) only [Xba, PP, Ifb, h, decide_false, Bool.false_and]
theorem Upa (s : Str) : Qsa (s, ()) = some (!Ifb s, ()) := by
  rw [Dab]
  simp only [Xaa, Yza, PP]
def Zca (l : List Str) : Bool := decide (l.length ≤ 200) && l.all Ifb
theorem Dba (l : List Str) (hb : l.length < 4611686018427387903) : ∀ (r : List Str) (i : Nat), l.drop i = r → i ≤ l.length →
    ∃ y, Ala (l, (l.length : Int), (i : Int), ()) = some y ∧ (match y with
      | .inl z => r.all Ifb = false ∧ 0 ≤ z.2.1
      | .inr z => r.all Ifb = true)
  | [], i, h, hi => by
    have := Ada h hi
    subst this
    rw [Daa]
    simp (disch := omega) only [Aya, PP]
    exact ⟨_, rfl, rfl⟩
  | c :: r, i, h, hi => by
    obtain ⟨h1, h2, h3, h4⟩ := Aba h
    rw [Daa]
    cases hc : Ifb c with
    | true =>
      simp (disch := omega) only [Aya, PP, h2, Upa, hc, Bool.not_true]
      obtain ⟨y, e, p⟩ := Dba l hb r (i + 1) h3 (by omega)
      refine ⟨y, e, ?_⟩
      cases y with
      | inl z => simpa [hc] using p
      | inr z => simpa [hc] using p
    | false =>
      simp (disch := omega) only [Aya, PP, h2, Upa, hc, Bool.not_false]
      exact ⟨_, rfl, by simp [hc], by simp only; omega⟩
theorem Hxa (l : List Str) : Qra (l, ()) = some (Zca l, ()) := by
  rw [Glb]
  by_cases h : l.length ≤ 200
  · obtain ⟨y, e, p⟩ := Dba l (by omega) l 0 rfl (by omega)
    simp only [Int.natCast_zero] at e
    cases y with
    | inl z =>
      simp only at p
      have : decide (z.2.1 ≥ 0) = true := decide_eq_true p.2
      simp (disch := omega) only [Tda, PP, e, Zca, h, p.1, decide_true, Bool.true_and, this, Bool.not_true]
    | inr z =>
      simp only at p
      simp (disch := omega) only [Tda, PP, e, Zca, h, p, decide_true, Bool.true_and]
  · simp (disch := omega) only [Tda, PP, Zca, h, decide_false, Bool.false_and]
def gt_ (t : Aga) (s : Str) : Nat := t.findIdx fun f => decide (ltS s f.1)
def Nxa (t : Aga) (s : Str) (l : List Str) : Aga := if at_ t s < t.length then t.set (at_ t s) (s, l, ()) else t.take (gt_ t s) ++ (s, l, ()) :: t.drop (gt_ t s)
theorem Hgb (t : Aga) (s : Str) (hb : t.length < 4611686018427387903) : ∀ (r : Aga) (i : Nat), t.drop i = r → i ≤ t.length →
    ∃ y, Ara (t, s, (t.length : Int), (i : Int), ()) = some y ∧ (match y with
      | .inl z => z.1 = t ∧ z.2.1 = s ∧ z.2.2.1 = ((i + r.findIdx (fun f => decide (ltS s f.1)) : Nat) : Int) ∧ r.findIdx (fun f => decide (ltS s f.1)) < r.length
      | .inr z => z.1 = t ∧ z.2.1 = s ∧ r.findIdx (fun f => decide (ltS s f.1)) = r.length)
  | [], i, h, hi => by
    have := Ada h hi
    subst this
    rw [Dha]
    simp (disch := omega) only [Bga, PP]
    exact ⟨_, rfl, rfl, rfl, rfl⟩
  | f :: r, i, h, hi => by
    obtain ⟨h1, h2, h3, h4⟩ := Aba h
    rw [Dha]
    by_cases hf : ltS s f.1
    · simp (disch := omega) only [Bga, PP, h2, hf, List.findIdx_cons, decide_true, cond_true, Nat.add_zero]
      exact ⟨_, rfl, rfl, rfl, rfl, by omega⟩
    · simp (disch := omega) only [Bga, PP, h2, hf, List.findIdx_cons, decide_false, cond_false]
      obtain ⟨y, e, p⟩ := Hgb t s hb r (i + 1) h3 (by omega)
      refine ⟨y, e, ?_⟩
      cases y with
      | inl z => simp only at p ⊢; exact ⟨p.1, p.2.1, by rw [p.2.2.1]; omega, by omega⟩
      | inr z => simp only at p ⊢; exact ⟨p.1, p.2.1, by omega⟩
theorem Hhb (t : Aga) (n : Nat) (f : Acb) : oPb t (n : Int) [f] = t.take n ++ f :: t.drop n := by simp [oPb]
theorem Mpa (t : Aga) (s : Str) (l : List Str) (hw : Wee t) (hl : l.length ≤ 1000000000) : Moa (t, s, l, ()) = some (Nxa t s l, ()) := by
  have hb := hw.1
  have hM := Aha
  rw [Gqb]
  by_cases h : at_ t s < t.length
  · simp (disch := first | omega | assumption) only [Tea, PP, Kka, Cwa, Mra, List.length_set, Nxa, h, if_true]
  · obtain ⟨y, e, p⟩ := Hgb t s (by omega) t 0 rfl (by omega)
    simp only [Int.natCast_zero] at e
    cases y with
    | inl z =>
      obtain ⟨p1, p2, p3, p4⟩ := p
      simp only [Nat.zero_add] at p3
      rw [show (t.findIdx fun f => decide (ltS s f.1)) = gt_ t s from rfl] at p3 p4
      simp (disch := first | omega | assumption) only [Tea, PP, Kka, Cwa, e, p1, p2, p3, Qba, Mra, Hhb, Nxa, h, if_false]
    | inr z =>
      obtain ⟨p1, p2, p3⟩ := p
      rw [show (t.findIdx fun f => decide (ltS s f.1)) = gt_ t s from rfl] at p3
      simp (disch := first | omega | assumption) only [Tea, PP, Kka, Cwa, e, p1, p2, Qba, Mra, Hhb, Nxa, h, if_false, p3]
def Zda (t : Aga) (s : Str) : Aga := t.eraseIdx (at_ t s)
theorem Lbb (t : Aga) (n : Nat) (h : n < t.length) : t.take n ++ t.drop (n + 1) = t.eraseIdx n := (List.eraseIdx_eq_take_drop_succ t n).symm
theorem Uca {α : Type} (l : List α) (n : Nat) (ys : List α) (h : n + ys.length ≤ l.length) : (hYb l n ys).length = l.length := by
  simp only [hYb, List.length_append, List.length_take, List.length_drop]; omega
theorem Sya (t : Aga) (s : Str) (hw : Wee t) : Qua (t, s, ()) = some (Zda t s, ()) := by
  have hb := hw.1
  have hM := Aha
  rw [Gnb]
  by_cases h : at_ t s < t.length
  · have hne : (((at_ t s : Nat) : Int) == ((at_ t s + 1 : Nat) : Int)) = false := by simp; omega
    have h1 : (List.take (0 + (t.length - 0) - (0 + (at_ t s + 1))) (List.drop (0 + (at_ t s + 1)) t)) = t.drop (at_ t s + 1) := by
      rw [Nat.zero_add, Nat.zero_add, Nat.sub_zero]
      exact List.take_of_length_le (by simp)
    have hl1 : (t.drop (at_ t s + 1)).length = t.length - (at_ t s + 1) := List.length_drop
    simp (disch := first | omega | assumption) only [Xda, PP, Kka, Cwa, hne, h1]
    have hO : (hYb t (at_ t s) (t.drop (at_ t s + 1))).length = t.length := Uca _ _ _ (by omega)
    have hk : at_ t s + (t.drop (at_ t s + 1)).length = t.length - 1 := by omega
    have hO2 : ∀ d : Acb, (hYb (hYb t (at_ t s) (t.drop (at_ t s + 1))) (t.length - 1) (List.replicate (t.length - (t.length - 1)) d)).length = t.length := fun d => by
      rw [Uca _ _ _ (by rw [List.length_replicate, hO]; omega), hO]
    simp only [Nat.zero_add, Nat.add_zero, Nat.sub_zero, List.drop_zero]
    simp (disch := first | omega | assumption) only [hO, hk, hO2, PP]
    have e1 : hYb t (at_ t s) (t.drop (at_ t s + 1)) = t.take (at_ t s) ++ t.drop (at_ t s + 1) ++ t.drop (at_ t s + (t.drop (at_ t s + 1)).length) := rfl
    have e2 : ∀ (O r : List Acb), t.length - 1 ≤ O.length → (hYb O (t.length - 1) r).take (t.length - 1) = O.take (t.length - 1) := fun O r ho => by
      simp only [hYb, List.append_assoc]
      rw [List.take_append_of_le_length (by rw [List.length_take]; omega), List.take_take, Nat.min_self]
    rw [e2 _ _ (by omega), e1, List.take_append_of_le_length (by rw [List.length_append, List.length_take, hl1]; omega), List.take_of_length_le (by rw [List.length_append, List.length_take, hl1]; omega), Lbb t _ h]
    rfl
  · simp (disch := first | omega | assumption) only [Xda, PP, Kka, Cwa, Zda]
    rw [List.eraseIdx_of_length_le (by omega)]
theorem Vda (l0 ts : List Aga) (hb : ts.length < 4611686018427387903) : ∀ (r : List Aga) (i n : Nat), ts.drop i = r → i ≤ ts.length → n + r.flatten.length < 4611686018427387903 →
    Boa (l0, (n : Int), ts, (ts.length : Int), (i : Int), ()) = some (l0, ((n + r.flatten.length : Nat) : Int), ts, (ts.length : Int), (ts.length : Int), ())
  | [], i, n, h, hi, _ => by
    have := Ada h hi
    subst this
    rw [Gfa]
    simp (disch := omega) only [Dca, PP, List.flatten_nil, Nat.add_zero]
  | t :: r, i, n, h, hi, hn => by
    obtain ⟨h1, h2, h3, h4⟩ := Aba h
    simp only [List.flatten_cons, List.length_append] at hn
    have hw : IntKind.wrap .i64 ((n : Int) + (t.length : Int)) = ((n + t.length : Nat) : Int) := by rw [Bfa (by omega) (by omega)]; omega
    rw [Gfa]
    simp (disch := omega) only [Dca, PP, h2, hw]
    rw [Vda l0 ts hb r (i + 1) (n + t.length) h3 (by omega) (by omega)]
    simp only [List.flatten_cons, List.length_append, Nat.add_assoc]
theorem Taa (l0 : Aga) (ts : List Aga) (hb : ts.length < 4611686018427387903) : ∀ (r : List Aga) (i n : Nat) (row : Aga), ts.drop i = r → i ≤ ts.length → n + r.flatten.length ≤ row.length →
    ∃ row' : Aga, Bia (l0, row, 0, n, ts, (ts.length : Int), (i : Int), ()) = some (l0, row', 0, n + r.flatten.length, ts, (ts.length : Int), (ts.length : Int), ()) ∧ row'.length = row.length ∧ row'.take (n + r.flatten.length) = row.take n ++ r.flatten
  | [], i, n, row, h, hi, _ => by
    have := Ada h hi
    subst this
    rw [Fja]
    simp (disch := omega) only [Csa, PP, List.flatten_nil, Nat.add_zero, List.append_nil]
    exact ⟨row, rfl, rfl, rfl⟩
  | t :: r, i, n, row, h, hi, hn => by
    obtain ⟨h1, h2, h3, h4⟩ := Aba h
    simp only [List.flatten_cons, List.length_append] at hn
    have ho := Uca row n t (by omega)
    rw [Fja]
    simp (disch := omega) only [Csa, PP, h2, ho]
    obtain ⟨row', e, e1, e2⟩ := Taa l0 ts hb r (i + 1) (n + t.length) (hYb row n t) h3 (by omega) (by omega)
    refine ⟨row', ?_, by rw [e1, ho], ?_⟩
    · rw [e]; simp only [List.flatten_cons, List.length_append, Nat.add_assoc]
    · have e3 : (hYb row n t).take (n + t.length) = row.take n ++ t := by
        have : (row.take n ++ t).length = n + t.length := by rw [List.length_append, List.length_take]; omega
        rw [hYb, ← this]; exact List.take_left
      rw [e3] at e2
      simp only [List.flatten_cons, List.length_append]
      rw [← Nat.add_assoc, e2, List.append_assoc]
theorem Rea (l0 : Aga) (ts : List Aga) (hb : ts.length < 4611686018427387903) : ∀ (r : List Aga) (i : Nat), ts.drop i = r → i ≤ ts.length → r.flatten = [] →
    Bba (l0, [], ts, (ts.length : Int), (i : Int), ()) = some (l0, [], ts, (ts.length : Int), (ts.length : Int), ())
  | [], i, h, hi, _ => by
    have := Ada h hi
    subst this
    rw [Epa]
    simp (disch := omega) only [Cna, PP]
  | t :: r, i, h, hi, hn => by
    obtain ⟨h1, h2, h3, h4⟩ := Aba h
    have hM := Aha
    simp only [List.flatten_cons, List.append_eq_nil_iff] at hn
    obtain ⟨rfl, hn⟩ := hn
    rw [Epa]
    simp (disch := omega) only [Cna, PP, h2, List.append_nil]
    exact Rea l0 ts hb r (i + 1) h3 (by omega) hn
theorem Igb (ts : List Aga) (hb : ts.length < 1000000000) (hn : ts.flatten.length ≤ 1000000000000) : Cca (ts, ()) = some (ts.flatten, ()) := by
  have hM := Aha
  have e := Vda ts ts (by omega) ts 0 0 rfl (by omega) (by omega)
  simp only [Int.natCast_zero, Nat.zero_add] at e
  rw [Pqa]
  have hw0 : IntKind.wrap .i64 ((0 : Int) - ((0 : Nat) : Int)) = 0 := by rw [Bfa (by omega) (by omega)]; rfl
  have hw0' : IntKind.wrap .i64 ((0 : Int) - 0) = 0 := by rw [Bfa (by omega) (by omega)]; rfl
  have hw : IntKind.wrap .i64 (((ts.flatten.length : Nat) : Int) - 0) = ((ts.flatten.length : Nat) : Int) := by rw [Bfa (by omega) (by omega)]; omega
  by_cases h0 : ts.flatten.length = 0
  · have hf : ts.flatten = [] := List.eq_nil_of_length_eq_zero h0
    have e2 := Rea [] ts (by omega) ts 0 rfl (by omega) hf
    simp only [Int.natCast_zero] at e2
    simp (disch := omega) only [Fsa, e, PP, hw0, hw, e2]
    rw [hf]
  · obtain ⟨row', e2, e3, e4⟩ := Taa [] ts (by omega) ts 0 0 (List.replicate ts.flatten.length (ByteArray.empty, [], ())) rfl (by omega) (by simp)
    simp only [Int.natCast_zero, Nat.zero_add, List.take_zero, List.nil_append] at e2 e4
    simp only [List.length_replicate] at e3
    simp (disch := omega) only [Fsa, e, PP, hw0, hw0', hw, List.length_replicate, Nat.sub_zero, Int.natCast_zero, Int.toNat_zero, Nat.add_zero, e2, List.drop_zero, e4]
def Gcb (x : Str) (l : List Str) : Bool := l.any fun y => decide (y = x)
theorem Wla (x : Str) (l : List Str) : Gcb x l = true ↔ x ∈ l := by simp [Gcb]
def Gtb : List Str → List Str → List Str
  | seen, [] => seen
  | seen, x :: xs => bif Gcb x seen then Gtb seen xs else Gtb (seen ++ [x]) xs
theorem Mpb (a b : Str) : eqK .str a b = decide (b = a) := by
  show (ByteArray.toList a == ByteArray.toList b) = _
  rw [Uva, decide_eq_decide]
  exact eq_comm
theorem Ezb (s : Str) (p : Str × Bool) (m : List (Str × Bool)) : aLb .str .bool s (p :: m) = if p.1 = s then some 0 else (aLb .str .bool s m).map (· + 1) := by
  unfold aLb
  rw [List.findIdx?_cons, Mpb]
  by_cases h : p.1 = s <;> simp [h]
theorem Tga (s : Str) (p : Str × Bool) (m : List (Str × Bool)) : nMb .str .bool s false (p :: m) = if p.1 = s then p.2 else nMb .str .bool s false m := by
  unfold nMb
  rw [Ezb]
  by_cases h : p.1 = s
  · simp [h]
  · simp only [h, if_false]
    cases aLb .str .bool s m <;> simp
theorem Jwb (k : Str) (p : Str × Bool) (m : List (Str × Bool)) : qLb .str .bool k true (p :: m) = if p.1 = k then (k, true) :: m else p :: qLb .str .bool k true m := by
  unfold qLb
  rw [Ezb]
  by_cases h : p.1 = k
  · simp [h]
  · simp only [h, if_false]
    cases aLb .str .bool k m <;> simp
theorem Jgb (s k : Str) : ∀ (m : List (Str × Bool)), nMb .str .bool s false (qLb .str .bool k true m) = if k = s then true else nMb .str .bool s false m
  | [] => by
    have : qLb .str .bool k true [] = [(k, true)] := rfl
    rw [this, Tga]
  | p :: m => by
    rw [Jwb, Tga]
    by_cases h : p.1 = k
    · subst h
      simp only [if_true]
      rw [Tga]
      by_cases hs : p.1 = s <;> simp [hs]
    · simp only [h, if_false]
      rw [Tga, Jgb s k m]
      by_cases hs : p.1 = s
      · have : ¬ k = s := fun e => h (hs.trans e.symm)
        simp [hs, this]
      · simp [hs]
theorem Iwa (t : Aga) (hb : t.length ≤ 10000000000) : ∀ (r : Aga) (i : Nat) (o : List Str) (m : List (Str × Bool)), t.drop i = r → i ≤ t.length → o.length ≤ i → m.length ≤ i → (∀ s, nMb .str .bool s false m = Gcb s o) →
    ∃ m', Hka (o, m, t, (t.length : Int), (i : Int), ()) = some (Gtb o (r.map (·.1)), m', t, (t.length : Int), (t.length : Int), ())
  | [], i, o, m, h, hi, ho, hm, hs => by
    have := Ada h hi
    subst this
    rw [Nta]
    simp (disch := omega) only [Ida, PP]
    exact ⟨m, rfl⟩
  | f :: r, i, o, m, h, hi, ho, hm, hs => by
    obtain ⟨h1, h2, h3, h4⟩ := Aba h
    have hM := Aha
    rw [Nta]
    cases hf : Gcb f.1 o with
    | true =>
      simp (disch := omega) only [Ida, PP, h2, hs, hf, decide_true, Bool.not_true]
      obtain ⟨m', e⟩ := Iwa t hb r (i + 1) o m h3 (by omega) (by omega) (by omega) hs
      refine ⟨m', ?_⟩
      rw [e]
      simp only [List.map_cons, Gtb, hf, cond_true]
    | false =>
      simp (disch := omega) only [Ida, PP, h2, hs, hf, decide_false, Bool.not_false]
      obtain ⟨m', e⟩ := Iwa t hb r (i + 1) (o ++ [f.1]) (qLb .str .bool f.1 true m) h3 (by omega) (by simp; omega) (by
        unfold qLb; split
        · simp; omega
        · simp; omega) (fun s => by
        rw [Jgb, hs]
        by_cases hsf : f.1 = s
        · subst hsf; simp [Gcb]
        · simp [Gcb, hsf])
      refine ⟨m', ?_⟩
      rw [e]
      simp only [List.map_cons, Gtb, hf, cond_false]
theorem Wpa : ∀ (xs o : List Str), (Gtb o xs).length ≤ o.length + xs.length
  | [], o => by simp [Gtb]
  | x :: xs, o => by
    simp only [Gtb]
    cases Gcb x o with
    | true => have := Wpa xs o; simp; omega
    | false => have := Wpa xs (o ++ [x]); simp at this ⊢; omega
theorem Deb (a b : Aga) (ha : a.length ≤ 1000000000) (hb : b.length ≤ 1000000000) : Qva (a, b, ()) = some (lSa (Gtb [] ((a ++ b).map (·.1))), ()) := by
  have hM := Aha
  have hl : (a ++ b).length ≤ 10000000000 := by rw [List.length_append]; omega
  obtain ⟨m', e⟩ := Iwa (a ++ b) hl (a ++ b) 0 [] [] rfl (by omega) (by simp) (by simp) (fun s => rfl)
  simp only [Int.natCast_zero] at e
  have hc : Cca ([a, b], ()) = some (a ++ b, ()) := by
    have := Igb [a, b] (by simp) (by simp; omega)
    simpa using this
  have hu := Wpa ((a ++ b).map (·.1)) []
  simp only [List.length_map, List.length_nil, Nat.zero_add] at hu
  rw [Ddb]
  simp (disch := omega) only [Xga, hc, Aaa, e, Aja, Afa, List.length_nil, sDa]
def Lhb (l : List Str) (x : Str) : List Str := bif Gcb x l then l else l.take (l.findIdx fun y => decide (ltS x y)) ++ x :: l.drop (l.findIdx fun y => decide (ltS x y))
def Tlb (l : List Str) : Prop := ∀ s ∈ l, s.size < 4611686018427387903
def Gbb : Option Str → Aga → Bool
  | _, [] => true
  | q, f :: r => Hua f.1 && (Zca f.2.1 && ((match q with | some q => decide (ltS q f.1) | none => true) && Gbb (some f.1) r))
def Raa (t : Aga) : Bool := Gbb none t && decide (t.length ≤ 30)
def Wha (t : Aga) : Prop := ∀ f ∈ t, f.1.size < 4611686018427387903 ∧ Tlb f.2.1 ∧ f.2.1.length < 4611686018427387903
def Mxb (t : Aga) (i : Nat) : Option Str := if i = 0 then none else some (t.getD (i - 1) (ByteArray.empty, [], ())).1
theorem Yva (t : Aga) : Mxb t 0 = none := rfl
theorem Jvb (t : Aga) (i : Nat) {f : Acb} (h : ∀ d, t.getD i d = f) : Mxb t (i + 1) = some f.1 := by
  unfold Mxb; rw [if_neg (by omega), Nat.add_sub_cancel, h]
theorem Sha (t : Aga) (hs : Wha t) (hb : t.length < 4611686018427387903) : ∀ (r : Aga) (i : Nat), t.drop i = r → i ≤ t.length →
    ∃ y, Kha (t, t, (t.length : Int), (i : Int), ()) = some y ∧ (match y with
      | .inl _ => Gbb (Mxb t i) r = false
      | .inr z => Gbb (Mxb t i) r = true ∧ z.1 = t)
  | [], i, h, hi => by
    have := Ada h hi
    subst this
    rw [Sga]
    simp (disch := omega) only [Doa, PP]
    exact ⟨_, rfl, rfl, rfl⟩
  | f :: r, i, h, hi => by
    obtain ⟨h1, h2, h3, h4⟩ := Aba h
    obtain ⟨s1, s2, s3⟩ := hs f h4
    obtain ⟨y, e, p⟩ := Sha t hs hb r (i + 1) h3 (by omega)
    rw [Jvb t i h2] at p
    rw [Sga]
    cases hn : Hua f.1 with
    | false =>
      simp (disch := first | omega | assumption) only [Doa, PP, h2, Cfa, hn, Bool.not_false]
      exact ⟨_, rfl, by simp [Gbb, hn]⟩
    | true =>
      cases ha : Zca f.2.1 with
      | false =>
        simp (disch := first | omega | assumption) only [Doa, PP, h2, Cfa, hn, Bool.not_true, Hxa, ha, Bool.not_false]
        exact ⟨_, rfl, by simp [Gbb, hn, ha]⟩
      | true =>
        by_cases h0 : i = 0
        · subst h0
          have hb1 : 0 < t.length := h1
          have hw1 : IntKind.wrap .i64 ((0 : Int) + 1) = 1 := by rw [Bfa (by omega) (by omega)]; rfl
          simp only [Int.natCast_zero] at *
          simp (disch := first | omega | assumption) only [Doa, PP, h2, Cfa, hn, Bool.not_true, Hxa, ha, Int.toNat_zero, hw1]
          refine ⟨y, by simpa using e, ?_⟩
          cases y with
          | inl z => simp only at p; simp [Gbb, hn, ha, Yva, p]
          | inr z => simp only at p; simp [Gbb, hn, ha, Yva, p]
        · have hp : Mxb t i = some (t.getD (i - 1) (ByteArray.empty, [], ())).1 := by unfold Mxb; rw [if_neg h0]
          rw [hp]
          generalize hq : (t.getD (i - 1) (ByteArray.empty, [], ())).1 = q
          by_cases hlt : ltS q f.1
          · simp (disch := first | omega | assumption) only [Doa, PP, h2, Cfa, hn, Bool.not_true, Hxa, ha, hq, hlt, decide_true]
            refine ⟨y, e, ?_⟩
            cases y with
            | inl z => simp only at p; simp [Gbb, hn, ha, hlt, p]
            | inr z => simp only at p; simp [Gbb, hn, ha, hlt, p]
          · simp (disch := first | omega | assumption) only [Doa, PP, h2, Cfa, hn, Bool.not_true, Hxa, ha, hq, hlt, decide_false, Bool.not_false]
            exact ⟨_, rfl, by simp [Gbb, hn, ha, hlt]⟩
theorem Eba (t : Aga) (hs : Wha t) (hb : t.length < 4611686018427387903) : Kwa (t, ()) = some (Raa t, ()) := by
  rw [Gpb]
  obtain ⟨y, e, p⟩ := Sha t hs hb t 0 rfl (by omega)
  simp only [Int.natCast_zero, Yva] at e p
  cases y with
  | inl z =>
    simp only at p
    simp only [Xfa, e, PP, Raa, p, Bool.false_and]
  | inr z =>
    obtain ⟨p, rfl⟩ := p
    have hd : decide (((z.1.length : Nat) : Int) ≤ 30) = decide (z.1.length ≤ 30) := by
      rw [decide_eq_decide]; omega
    simp only [Xfa, e, PP, Raa, p, Bool.true_and, hd]
def Nfa (l : List Str) : Bool := l.all fun s => decide (s.size ≤ 200)
theorem Lla (l : List Str) (hb : l.length < 4611686018427387903) : ∀ (r : List Str) (i : Nat), l.drop i = r → i ≤ l.length →
    ∃ y, Faa (l, (i : Int), ()) = some y ∧ (match y with
      | .inl _ => Nfa r = false
      | .inr _ => Nfa r = true)
  | [], i, h, hi => by
    have := Ada h hi
    subst this
    rw [Lka]
    simp (disch := omega) only [Gha, PP]
    exact ⟨_, rfl, rfl⟩
  | c :: r, i, h, hi => by
    obtain ⟨h1, h2, h3, h4⟩ := Aba h
    rw [Lka]
    by_cases hc : c.size ≤ 200
    · simp (disch := omega) only [Gha, PP, h2]
      obtain ⟨y, e, p⟩ := Lla l hb r (i + 1) h3 (by omega)
      refine ⟨y, e, ?_⟩
      cases y with
      | inl z => simp only [Nfa] at p ⊢; simpa [hc] using p
      | inr z => simp only [Nfa] at p ⊢; simpa [hc] using p
    · simp (disch := omega) only [Gha, PP, h2]
      exact ⟨_, rfl, by simp [Nfa, hc]⟩
theorem Fba (l : List Str) (hb : l.length < 4611686018427387903) : Fta (l, 300, ()) = some (decide (l.length ≤ 300) && Nfa l, ()) := by
  rw [Zia]
  by_cases h : l.length ≤ 300
  · obtain ⟨y, e, p⟩ := Lla l hb l 0 rfl (by omega)
    simp only [Int.natCast_zero] at e
    cases y with
    | inl z => simp only at p; simp (disch := omega) only [Koa, PP, e, p, Bool.and_false]
    | inr z => simp only at p; simp (disch := omega) only [Koa, PP, e, p, h, decide_true, Bool.true_and]
  · simp (disch := omega) only [Koa, PP, h, decide_false, Bool.false_and]
def Paa (t : Aga) : Bool := t.all fun f => (decide (f.2.1.length ≤ 300) && Nfa f.2.1) && decide (f.1.size ≤ 100)
theorem Lna (t : Aga) (hs : Wha t) (hb : t.length < 4611686018427387903) : ∀ (r : Aga) (i : Nat), t.drop i = r → i ≤ t.length →
    ∃ y, Fca (t, (i : Int), ()) = some y ∧ (match y with
      | .inl _ => Paa r = false
      | .inr _ => Paa r = true)
  | [], i, h, hi => by
    have := Ada h hi
    subst this
    rw [Lma]
    simp (disch := omega) only [Dja, PP]
    exact ⟨_, rfl, rfl⟩
  | f :: r, i, h, hi => by
    obtain ⟨h1, h2, h3, h4⟩ := Aba h
    obtain ⟨s1, s2, s3⟩ := hs f h4
    rw [Lma]
    cases hl : (decide (f.2.1.length ≤ 300) && Nfa f.2.1) with
    | false =>
      simp (disch := omega) only [Dja, PP, h2, Fba, hl, Bool.not_false]
      exact ⟨_, rfl, by simp [Paa, hl]⟩
    | true =>
      by_cases hc : f.1.size ≤ 100
      · simp (disch := omega) only [Dja, PP, h2, Fba, hl, Bool.not_true]
        obtain ⟨y, e, p⟩ := Lna t hs hb r (i + 1) h3 (by omega)
        refine ⟨y, e, ?_⟩
        cases y with
        | inl z => simp only [Paa, List.all_cons, hl, hc, decide_true, Bool.true_and] at p ⊢; exact p
        | inr z => simp only [Paa, List.all_cons, hl, hc, decide_true, Bool.true_and] at p ⊢; exact p
      · simp (disch := omega) only [Dja, PP, h2, Fba, hl, Bool.not_true]
        exact ⟨_, rfl, by simp [Paa, hc]⟩
theorem Iea (t : Aga) (hs : Wha t) (hb : t.length < 4611686018427387903) : Jza (t, ()) = some (decide (t.length ≤ 40) && Paa t, ()) := by
  rw [Zla]
  by_cases h : t.length ≤ 40
  · obtain ⟨y, e, p⟩ := Lna t hs hb t 0 rfl (by omega)
    simp only [Int.natCast_zero] at e
    cases y with
    | inl z => simp only at p; simp (disch := omega) only [Kpa, PP, e, p, Bool.and_false]
    | inr z => simp only at p; simp (disch := omega) only [Kpa, PP, e, p, h, decide_true, Bool.true_and]
  · simp (disch := omega) only [Kpa, PP, h, decide_false, Bool.false_and]
theorem Jlb {t : Aga} (h1 : t.length ≤ 40) (h2 : Paa t = true) : t.length ≤ 40 ∧ Wee t ∧ Wha t := by
  rw [Paa, List.all_eq_true] at h2
  refine ⟨h1, ⟨by omega, fun f hf => ?_⟩, fun f hf => ?_⟩
  · have := h2 f hf
    simp only [Bool.and_eq_true, decide_eq_true_eq] at this
    omega
  · have := h2 f hf
    simp only [Bool.and_eq_true, decide_eq_true_eq, Nfa, List.all_eq_true] at this
    refine ⟨by omega, fun s hs => ?_, by omega⟩
    have := this.1.2 s hs
    omega
theorem Wee.set {t : Aga} (h : Wee t) (i : Nat) {f : Acb} (hf : f.2.1.length ≤ 1000000000) : Wee (t.set i f) := by
  refine ⟨by rw [List.length_set]; exact h.1, fun g hg => ?_⟩
  rcases List.mem_or_eq_of_mem_set hg with hg | rfl
  · exact h.2 g hg
  · exact hf
theorem Wee.put {t : Aga} (h : Wee t) (ht : t.length < 1000000000) (s : Str) {l : List Str} (hl : l.length ≤ 1000000000) : Wee (Nxa t s l) := by
  unfold Nxa
  split
  · exact h.set _ hl
  · refine ⟨?_, fun g hg => ?_⟩
    · rw [List.length_append, List.length_cons, List.length_take, List.length_drop]; omega
    · simp only [List.mem_append, List.mem_cons] at hg
      rcases hg with hg | rfl | hg
      · exact h.2 g (List.mem_of_mem_take hg)
      · exact hl
      · exact h.2 g (List.mem_of_mem_drop hg)
theorem Wee.del {t : Aga} (h : Wee t) (s : Str) : Wee (Zda t s) := by
  refine ⟨Nat.le_trans (by rw [Zda, List.length_eraseIdx]; split <;> omega) h.1, fun g hg => h.2 g (List.mem_of_mem_eraseIdx hg)⟩
theorem Myb (t : Aga) (s : Str) (l : List Str) : (Nxa t s l).length ≤ t.length + 1 := by
  unfold Nxa
  split
  · rw [List.length_set]; omega
  · rw [List.length_append, List.length_cons, List.length_take, List.length_drop]; omega
abbrev Tca (l : List Str) : Prop := l.Pairwise ltS
theorem Kob {l : List Str} {x y : Str} : y ∈ Lhb l x ↔ y ∈ l ∨ y = x := by
  unfold Lhb
  cases h : Gcb x l with
  | true =>
    have := (Wla x l).1 h
    simp only [cond_true]
    constructor
    · exact .inl
    · rintro (h | rfl) <;> assumption
  | false =>
    simp only [cond_false, List.mem_append, List.mem_cons]
    have := List.take_append_drop (l.findIdx fun y => decide (ltS x y)) l
    constructor
    · rintro (h | h | h)
      · exact .inl (List.mem_of_mem_take h)
      · exact .inr h
      · exact .inl (List.mem_of_mem_drop h)
    · rintro (h | h)
      · rw [← this, List.mem_append] at h
        rcases h with h | h
        · exact .inl h
        · exact .inr (.inr h)
      · exact .inr (.inl h)
theorem Gvb {x : Str} : ∀ {l : List Str}, Gcb x l = false → Tca l → (∀ y ∈ l.take (l.findIdx fun y => decide (ltS x y)), ltS y x) ∧ ∀ y ∈ l.drop (l.findIdx fun y => decide (ltS x y)), ltS x y
  | [], _, _ => by simp
  | o :: l, hm, hr => by
    simp only [Gcb, List.any_cons, Bool.or_eq_false_iff, decide_eq_false_iff_not] at hm
    obtain ⟨hr1, hr2⟩ := List.pairwise_cons.1 hr
    obtain ⟨i1, i2⟩ := Gvb (x := x) (l := l) hm.2 hr2
    rw [List.findIdx_cons]
    by_cases h : ltS x o
    · simp only [h, decide_true, cond_true, List.take_zero, List.drop_zero]
      refine ⟨by simp, fun y hy => ?_⟩
      rcases List.mem_cons.1 hy with rfl | hy
      · exact h
      · exact Gta h (hr1 y hy)
    · simp only [h, decide_false, cond_false, List.take_succ_cons, List.drop_succ_cons]
      refine ⟨fun y hy => ?_, i2⟩
      rcases List.mem_cons.1 hy with rfl | hy
      · rcases Lra y x with k | k | k
        · exact k
        · exact absurd k hm.1
        · exact absurd k h
      · exact i1 y hy
theorem Fyb {l : List Str} {x : Str} (h : Tca l) : Tca (Lhb l x) := by
  unfold Lhb
  cases hm : Gcb x l with
  | true => exact h
  | false =>
    obtain ⟨h1, h2⟩ := Gvb hm h
    simp only [cond_false]
    rw [Tca, List.pairwise_append]
    refine ⟨h.sublist (List.take_sublist _ _), List.pairwise_cons.2 ⟨h2, h.sublist (List.drop_sublist _ _)⟩, fun a ha b hb => ?_⟩
    rcases List.mem_cons.1 hb with rfl | hb
    · exact h1 a ha
    · exact Gta (h1 a ha) (h2 b hb)
theorem Lia : ∀ (xs l : List Str), Tca l → Tca (xs.foldl Lhb l) ∧ ∀ y, y ∈ xs.foldl Lhb l ↔ y ∈ l ∨ y ∈ xs
  | [], l, h => ⟨h, fun y => by simp⟩
  | x :: xs, l, h => by
    obtain ⟨h1, h2⟩ := Lia xs (Lhb l x) (Fyb h)
    refine ⟨h1, fun y => ?_⟩
    rw [List.foldl_cons, h2, Kob, List.mem_cons]
    constructor
    · rintro ((h | h) | h)
      · exact .inl h
      · exact .inr (.inl h)
      · exact .inr (.inr h)
    · rintro (h | h | h)
      · exact .inl (.inl h)
      · exact .inl (.inr h)
      · exact .inr h
theorem Zba : ∀ (xs o : List Str), o.Nodup → (Gtb o xs).Nodup ∧ ∀ y, y ∈ Gtb o xs ↔ y ∈ o ∨ y ∈ xs
  | [], o, h => ⟨h, fun y => by simp [Gtb]⟩
  | x :: xs, o, h => by
    simp only [Gtb]
    cases hm : Gcb x o with
    | true =>
      have hx := (Wla x o).1 hm
      obtain ⟨h1, h2⟩ := Zba xs o h
      refine ⟨h1, fun y => ?_⟩
      simp only [cond_true, h2, List.mem_cons]
      constructor
      · rintro (h | h)
        · exact .inl h
        · exact .inr (.inr h)
      · rintro (h | rfl | h)
        · exact .inl h
        · exact .inl hx
        · exact .inr h
    | false =>
      have hx : ¬ x ∈ o := fun h => by rw [(Wla x o).2 h] at hm; cases hm
      obtain ⟨h1, h2⟩ := Zba xs (o ++ [x]) (by rw [List.nodup_append]; exact ⟨h, by simp, fun a ha b hb => by simp at hb; subst hb; exact fun e => hx (e ▸ ha)⟩)
      refine ⟨h1, fun y => ?_⟩
      simp only [cond_false, h2, List.mem_append, List.mem_cons, List.not_mem_nil, or_false, or_assoc]
theorem Fib {l : List Str} (h : l.Nodup) : Tca (lSa l) := by
  have h1 : (lSa l).Pairwise fun a b => decide (a.data.toList ≤ b.data.toList) = true := oXa l
  have h2 : (lSa l).Nodup := (oFa l).nodup_iff.2 h
  refine (h1.and h2).imp fun {a b} hab => ?_
  obtain ⟨k1, k2⟩ := hab
  rw [decide_eq_true_eq] at k1
  rcases Lra a b with k | k | k
  · exact k
  · exact absurd k k2
  · exact absurd k (List.not_lt.2 k1)
theorem Kcb {l : List Str} {y : Str} : y ∈ lSa l ↔ y ∈ l := (oFa l).mem_iff
theorem Bjb : ∀ {l m : List Str}, Tca l → Tca m → (∀ y, y ∈ l ↔ y ∈ m) → l = m
  | [], [], _, _, _ => rfl
  | [], b :: m, _, _, h => by have := (h b).2 List.mem_cons_self; cases this
  | a :: l, [], _, _, h => by have := (h a).1 List.mem_cons_self; cases this
  | a :: l, b :: m, hl, hm, h => by
    obtain ⟨l1, l2⟩ := List.pairwise_cons.1 hl
    obtain ⟨m1, m2⟩ := List.pairwise_cons.1 hm
    have hab : a = b := by
      rcases List.mem_cons.1 ((h a).1 List.mem_cons_self) with e | e
      · exact e
      · rcases List.mem_cons.1 ((h b).2 List.mem_cons_self) with e' | e'
        · exact e'.symm
        · exact absurd (Gta (m1 a e) (l1 b e')) (Hta _)
    subst hab
    congr 1
    refine Bjb l2 m2 fun y => ?_
    have hy := h y
    simp only [List.mem_cons] at hy
    constructor
    · intro k
      rcases hy.1 (.inr k) with rfl | k'
      · exact absurd (l1 y k) (Hta _)
      · exact k'
    · intro k
      rcases hy.2 (.inr k) with rfl | k'
      · exact absurd (m1 y k) (Hta _)
      · exact k'
def Nha (a b : Aga) : List Str := lSa (Gtb [] ((a ++ b).map (·.1)))
theorem Yqa (a b : Aga) : ((a ++ b).map (·.1)).foldl Lhb [] = Nha a b := by
  obtain ⟨h1, h2⟩ := Lia ((a ++ b).map (·.1)) [] List.Pairwise.nil
  obtain ⟨h3, h4⟩ := Zba ((a ++ b).map (·.1)) [] List.nodup_nil
  refine Bjb h1 (Fib h3) fun y => ?_
  rw [h2, Nha, Kcb, h4]
theorem Jrb (a b : Aga) : (Nha a b).length ≤ a.length + b.length := by
  rw [Nha, sDa]
  have := Wpa ((a ++ b).map (·.1)) []
  simpa using this
abbrev RT (t : Aga) : Prop := t.Pairwise fun f g => ltS f.1 g.1
theorem Byb (s : Str) : Aza [] s = none := rfl
theorem Baa (f : Acb) (t : Aga) (s : Str) : Aza (f :: t) s = if f.1 = s then some f.2.1 else Aza t s := by
  unfold Aza
  rw [List.find?_cons]
  by_cases h : f.1 = s <;> simp [h]
theorem Fsb (f : Acb) (t : Aga) (s : Str) : at_ (f :: t) s = if f.1 = s then 0 else at_ t s + 1 := by
  unfold at_
  rw [List.findIdx_cons]
  by_cases h : f.1 = s <;> simp [h]
theorem Jhb (f : Acb) (t : Aga) (s : Str) : gt_ (f :: t) s = if ltS s f.1 then 0 else gt_ t s + 1 := by
  unfold gt_
  rw [List.findIdx_cons]
  by_cases h : ltS s f.1 <;> simp [h]
theorem Iub (t : Aga) (s : Str) : at_ t s < t.length ↔ (Aza t s).isSome = true := by
  rw [Yea]
  by_cases h : at_ t s < t.length <;> simp [h]
theorem Eva : ∀ {t : Aga} {s : Str}, (∀ f ∈ t, f.1 ≠ s) → Aza t s = none
  | [], _, _ => rfl
  | f :: t, s, h => by
    rw [Baa, if_neg (h f List.mem_cons_self)]
    exact Eva fun g hg => h g (List.mem_cons_of_mem _ hg)
theorem Bxb : ∀ {t : Aga} {f : Acb}, f ∈ t → (Aza t f.1).isSome = true
  | g :: t, f, h => by
    rw [Baa]
    split
    · rfl
    · rcases List.mem_cons.1 h with rfl | h
      · rename_i hn; exact absurd rfl hn
      · exact Bxb h
theorem Fwb : ∀ {t : Aga} {s : Str} {l : List Str}, Aza t s = some l → (s, l, ()) ∈ t
  | f :: t, s, l, h => by
    rw [Baa] at h
    split at h
    · rename_i e; subst e; cases h; exact List.mem_cons_self
    · exact List.mem_cons_of_mem _ (Fwb h)
theorem Nga {a b : Str} (h : ltS a b) : a ≠ b := fun e => Hta b (e ▸ h)
theorem Jyb (s : Str) (l : List Str) : Nxa [] s l = [(s, l, ())] := by simp [Nxa, at_, gt_]
theorem Hmb (f : Acb) (t : Aga) (s : Str) (l : List Str) (h : f.1 = s) : Nxa (f :: t) s l = (s, l, ()) :: t := by
  unfold Nxa
  rw [Fsb, if_pos h, if_pos (by simp)]; rfl
theorem Lkb (f : Acb) (t : Aga) (s : Str) (l : List Str) (h : ltS f.1 s) : Nxa (f :: t) s l = f :: Nxa t s l := by
  unfold Nxa
  rw [Fsb, if_neg (Nga h), Jhb, if_neg (Yma h), List.length_cons]
  by_cases k : at_ t s < t.length
  · rw [if_pos (by omega), if_pos k]; rfl
  · rw [if_neg (by omega), if_neg k]; rfl
theorem Ljb (f : Acb) (t : Aga) (s : Str) (l : List Str) (hr : RT (f :: t)) (h : ltS s f.1) : Nxa (f :: t) s l = (s, l, ()) :: f :: t := by
  have hn : Aza (f :: t) s = none := Eva fun g hg => by
    rcases List.mem_cons.1 hg with rfl | hg
    · exact (Nga h).symm
    · exact (Nga (Gta h ((List.pairwise_cons.1 hr).1 g hg))).symm
  have ha : ¬ at_ (f :: t) s < (f :: t).length := by rw [Iub, hn]; simp
  unfold Nxa
  rw [if_neg ha, Jhb, if_pos h]; rfl
theorem Jxb : ∀ {t : Aga} {s : Str} {l : List Str} {g : Acb}, g ∈ Nxa t s l → g = (s, l, ()) ∨ g ∈ t := by
  intro t s l g h
  unfold Nxa at h
  split at h
  · rcases List.mem_or_eq_of_mem_set h with h | h
    · exact .inr h
    · exact .inl h
  · simp only [List.mem_append, List.mem_cons] at h
    rcases h with h | h | h
    · exact .inr (List.mem_of_mem_take h)
    · exact .inl h
    · exact .inr (List.mem_of_mem_drop h)
theorem Vaa : ∀ {t : Aga} (s : Str) (l : List Str), RT t → RT (Nxa t s l)
  | [], s, l, _ => by rw [Jyb]; exact List.pairwise_singleton _ _
  | f :: t, s, l, hr => by
    obtain ⟨h1, h2⟩ := List.pairwise_cons.1 hr
    rcases Lra f.1 s with h | h | h
    · rw [Lkb _ _ _ _ h]
      refine List.pairwise_cons.2 ⟨fun g hg => ?_, Vaa s l h2⟩
      rcases Jxb hg with rfl | hg
      · exact h
      · exact h1 g hg
    · rw [Hmb _ _ _ _ h]
      refine List.pairwise_cons.2 ⟨fun g hg => ?_, h2⟩
      rw [← h]; exact h1 g hg
    · rw [Ljb _ _ _ _ hr h]
      refine List.pairwise_cons.2 ⟨fun g hg => ?_, hr⟩
      rcases List.mem_cons.1 hg with rfl | hg
      · exact h
      · exact Gta h (h1 g hg)
theorem Tha : ∀ {t : Aga} (s : Str) (l : List Str) (x : Str), RT t → Aza (Nxa t s l) x = if x = s then some l else Aza t x
  | [], s, l, x, _ => by
    rw [Jyb, Baa]
    by_cases h : x = s
    · rw [if_pos h.symm, if_pos h]
    · rw [if_neg fun e => h e.symm, if_neg h]
  | f :: t, s, l, x, hr => by
    obtain ⟨h1, h2⟩ := List.pairwise_cons.1 hr
    rcases Lra f.1 s with h | h | h
    · rw [Lkb _ _ _ _ h, Baa, Tha s l x h2, Baa]
      by_cases k : f.1 = x
      · rw [if_pos k, if_pos k, if_neg fun e => Nga h (k.trans e)]
      · rw [if_neg k, if_neg k]
    · rw [Hmb _ _ _ _ h, Baa, Baa]
      by_cases k : x = s
      · rw [if_pos k.symm, if_pos k]
      · rw [if_neg fun e => k e.symm, if_neg k, if_neg fun e => k (e.symm.trans h)]
    · rw [Ljb _ _ _ _ hr h, Baa]
      by_cases k : x = s
      · rw [if_pos k.symm, if_pos k]
      · rw [if_neg fun e => k e.symm, if_neg k]
theorem Mnb (s : Str) : Zda [] s = [] := rfl
theorem Kkb (f : Acb) (t : Aga) (s : Str) : Zda (f :: t) s = if f.1 = s then t else f :: Zda t s := by
  unfold Zda
  rw [Fsb]
  by_cases h : f.1 = s
  · rw [if_pos h, if_pos h]; rfl
  · rw [if_neg h, if_neg h]; rfl
theorem Mmb {t : Aga} {s : Str} {g : Acb} (h : g ∈ Zda t s) : g ∈ t := List.mem_of_mem_eraseIdx h
theorem Hsb {t : Aga} (s : Str) (h : RT t) : RT (Zda t s) := h.sublist (List.eraseIdx_sublist _ _)
theorem Bzb : ∀ {t : Aga} (s x : Str), RT t → Aza (Zda t s) x = if x = s then none else Aza t x
  | [], s, x, _ => by rw [Mnb, Byb]; split <;> rfl
  | f :: t, s, x, hr => by
    obtain ⟨h1, h2⟩ := List.pairwise_cons.1 hr
    rw [Kkb, Baa]
    by_cases h : f.1 = s
    · rw [if_pos h]
      by_cases k : x = s
      · rw [if_pos k]
        exact Eva fun g hg e => Nga (h1 g hg) ((h.trans k.symm).trans e.symm)
      · rw [if_neg k, if_neg fun e => k (e.symm.trans h)]
    · rw [if_neg h, Baa, Bzb s x h2]
      by_cases k : f.1 = x
      · rw [if_pos k, if_pos k, if_neg fun e => h (k.trans e)]
      · rw [if_neg k, if_neg k]
theorem Mlb (t : Aga) (s : Str) : (Zda t s).length ≤ t.length := by
  rw [Zda, List.length_eraseIdx]; split <;> omega
theorem Hob : ∀ {t u : Aga}, RT t → RT u → (∀ x, Aza t x = Aza u x) → t = u
  | [], [], _, _, _ => rfl
  | [], g :: u, _, _, h => by
    have := h g.1; rw [Byb, Baa, if_pos rfl] at this; cases this
  | f :: t, [], _, _, h => by
    have := h f.1; rw [Byb, Baa, if_pos rfl] at this; cases this
  | f :: t, g :: u, ht, hu, h => by
    obtain ⟨t1, t2⟩ := List.pairwise_cons.1 ht
    obtain ⟨u1, u2⟩ := List.pairwise_cons.1 hu
    have hfg : f.1 = g.1 := by
      rcases Lra f.1 g.1 with k | k | k
      · have e : Aza (g :: u) f.1 = none := Eva fun a ha => by
          rcases List.mem_cons.1 ha with rfl | ha
          · exact (Nga k).symm
          · exact (Nga (Gta k (u1 a ha))).symm
        have := h f.1
        rw [e, Baa, if_pos rfl] at this; cases this
      · exact k
      · have e : Aza (f :: t) g.1 = none := Eva fun a ha => by
          rcases List.mem_cons.1 ha with rfl | ha
          · exact (Nga k).symm
          · exact (Nga (Gta k (t1 a ha))).symm
        have := h g.1
        rw [e, Baa, if_pos rfl] at this; cases this
    have hl := h f.1
    rw [Baa, if_pos rfl, Baa, if_pos hfg.symm] at hl
    have e : f = g := Hfb hfg (Option.some.inj hl)
    subst e
    congr 1
    refine Hob t2 u2 fun x => ?_
    have hx := h x
    rw [Baa, Baa] at hx
    by_cases k : f.1 = x
    · rw [Eva fun a ha e => Nga (t1 a ha) (k.trans e.symm), Eva fun a ha e => Nga (u1 a ha) (k.trans e.symm)]
    · rwa [if_neg k, if_neg k] at hx
theorem Hib : ∀ {t : Aga} {q : Option Str}, Gbb q t = true ↔ (∀ f ∈ t, Hua f.1 = true ∧ Zca f.2.1 = true) ∧ RT t ∧ ∀ a, q = some a → ∀ f ∈ t, ltS a f.1
  | [], q => by simp [Gbb]
  | f :: t, q => by
    have ih := Hib (t := t) (q := some f.1)
    rw [show Gbb q (f :: t) = (Hua f.1 && (Zca f.2.1 && ((match q with | some q => decide (ltS q f.1) | none => true) && Gbb (some f.1) t))) from by cases q <;> rfl, Bool.and_eq_true, Bool.and_eq_true, Bool.and_eq_true, ih, show RT (f :: t) ↔ _ from List.pairwise_cons]
    constructor
    · rintro ⟨h1, h2, h3, h4, h5, h6⟩
      refine ⟨fun g hg => ?_, ⟨h6 _ rfl, h5⟩, fun a ha g hg => ?_⟩
      · rcases List.mem_cons.1 hg with rfl | hg
        · exact ⟨h1, h2⟩
        · exact h4 g hg
      · subst ha
        simp only [decide_eq_true_eq] at h3
        rcases List.mem_cons.1 hg with rfl | hg
        · exact h3
        · exact Gta h3 (h6 _ rfl g hg)
    · rintro ⟨h1, ⟨h2, h3⟩, h4⟩
      refine ⟨(h1 f List.mem_cons_self).1, (h1 f List.mem_cons_self).2, ?_, fun g hg => h1 g (List.mem_cons_of_mem _ hg), h3, fun a ha g hg => ?_⟩
      · cases q with
        | none => rfl
        | some a => exact decide_eq_true (h4 a rfl f List.mem_cons_self)
      · cases ha; exact h2 g hg
theorem Tta {t : Aga} : Raa t = true ↔ (∀ f ∈ t, Hua f.1 = true ∧ Zca f.2.1 = true) ∧ RT t ∧ t.length ≤ 30 := by
  rw [Raa, Bool.and_eq_true, Hib, decide_eq_true_eq]
  constructor
  · rintro ⟨⟨h1, h2, _⟩, h3⟩; exact ⟨h1, h2, h3⟩
  · rintro ⟨h1, h2, h3⟩; exact ⟨⟨h1, h2, by simp⟩, h3⟩
theorem Bgb {t : Aga} (h : Raa t = true) : RT t := (Tta.1 h).2.1
def Jda (a b : List Str) (i : Nat) : List Int := (List.range (b.length + 1)).map fun j => ((sRa (a.drop i) (b.drop j) : Nat) : Int)
theorem Hfa (a b : List Str) (i : Nat) : (Jda a b i).length = b.length + 1 := by simp [Jda]
theorem Jha (a b : List Str) (i j : Nat) (h : j ≤ b.length) (d : Int) : (Jda a b i).getD j d = ((sRa (a.drop i) (b.drop j) : Nat) : Int) := by
  rw [Jda, List.getD_eq_getElem?_getD, List.getElem?_map, List.getElem?_range (by omega)]; rfl
theorem Czb (a b : List Str) : (lIb a b).length = a.length + 1 := by simp [lIb]
theorem Cyb (a b : List Str) (i : Nat) (h : i ≤ a.length) (d : List Int) : (lIb a b).getD i d = Jda a b i := by
  rw [lIb, List.getD_eq_getElem?_getD, List.getElem?_map, List.getElem?_range (by omega)]; rfl
theorem Yya (a b : List Str) (i : Nat) (h : a.length ≤ i) : Jda a b i = List.replicate (b.length + 1) 0 := by
  unfold Jda
  rw [List.drop_eq_nil_of_le h]
  simp only [cIb, Int.natCast_zero]
  apply List.ext_getElem <;> simp
theorem Kmb {α : Type} (x y : List α) (k : Nat) (d : α) (h : k < x.length) : (x ++ y).getD k d = x.getD k d := by
  rw [List.getD_eq_getElem?_getD, List.getElem?_append_left h, ← List.getD_eq_getElem?_getD]
theorem Jdb {α : Type} (x y : List α) (k : Nat) (d : α) (h : x.length ≤ k) : (x ++ y).getD k d = y.getD (k - x.length) d := by
  rw [List.getD_eq_getElem?_getD, List.getElem?_append_right h, ← List.getD_eq_getElem?_getD]
theorem Jeb {α : Type} (x : List α) (i k : Nat) (d : α) : (x.drop i).getD k d = x.getD (i + k) d := by
  rw [List.getD_eq_getElem?_getD, List.getElem?_drop, ← List.getD_eq_getElem?_getD]
theorem Jfb {α : Type} (x : List α) (i k : Nat) (d : α) (h : k < i) : (x.take i).getD k d = x.getD k d := by
  rw [List.getD_eq_getElem?_getD, List.getElem?_take, if_pos h, ← List.getD_eq_getElem?_getD]
def Job {α : Type} (k : Nat) (x y : List α) : List α := x.take k ++ y.drop k
theorem Wma {α : Type} (k : Nat) (x y : List α) (h : x.length = y.length) : (Job k x y).length = x.length := by
  simp only [Job, List.length_append, List.length_take, List.length_drop]; omega
theorem Tua {α : Type} (k j : Nat) (x y : List α) (h : x.length = y.length) (hk : k ≤ x.length) (d : α) : (Job k x y).getD j d = if j < k then x.getD j d else y.getD j d := by
  unfold Job
  split
  · rename_i hj
    rw [Kmb _ _ _ _ (by rw [List.length_take]; omega), Jfb _ _ _ _ hj]
  · rename_i hj
    rw [Jdb _ _ _ _ (by rw [List.length_take]; omega), Jeb, List.length_take]
    congr 1; omega
theorem Jpb {α : Type} (x y : List α) : Job 0 x y = y := by simp [Job]
theorem Kub {α : Type} (k : Nat) (x y : List α) (h : x.length = y.length) (hk : k < x.length) (d : α) : (Job (k + 1) x y).set k (y.getD k d) = Job k x y := by
  apply List.ext_getElem?
  intro i
  have h1 := Wma (k + 1) x y h
  have h2 := Wma k x y h
  rw [List.getElem?_set, h1]
  split
  · rename_i he
    subst he
    have := Tua k k x y h (by omega) d
    rw [if_neg (by omega), List.getD_eq_getElem?_getD, List.getElem?_eq_getElem (by omega)] at this
    rw [List.getElem?_eq_getElem (by omega)]
    simpa using this.symm
  · rename_i he
    by_cases hi : i < x.length
    · have a1 := Tua (k + 1) i x y h (by omega) d
      have a2 := Tua k i x y h (by omega) d
      rw [List.getD_eq_getElem?_getD, List.getElem?_eq_getElem (by omega)] at a1 a2
      rw [List.getElem?_eq_getElem (by omega), List.getElem?_eq_getElem (by omega)]
      simp only [Option.getD_some] at a1 a2
      rw [a1, a2]
      by_cases hik : i < k
      · rw [if_pos (by omega), if_pos hik]
      · rw [if_neg (by omega), if_neg hik]
    · rw [List.getElem?_eq_none (by omega), List.getElem?_eq_none (by omega)]
theorem Yca {a : List Str} {i : Nat} (h : i < a.length) : a.drop i = a.getD i ByteArray.empty :: a.drop (i + 1) := by
  rw [List.drop_eq_getElem_cons h, List.getD_eq_getElem?_getD, List.getElem?_eq_getElem h]; rfl
theorem Kpb (a b : List Str) (i j : Nat) (hi : i < a.length) (hj : j < b.length) (u v : Int) : (Jda a b i).getD j u = if a.getD i ByteArray.empty = b.getD j ByteArray.empty then (Jda a b (i + 1)).getD (j + 1) v + 1 else
    bif decide ((Jda a b (i + 1)).getD j v < (Jda a b i).getD (j + 1) v) then (Jda a b i).getD (j + 1) v else (Jda a b (i + 1)).getD j v := by
  rw [Jha _ _ _ _ (by omega), Jha _ _ _ _ (by omega), Jha _ _ _ _ (by omega), Jha _ _ _ _ (by omega), Yca hi, Yca hj, xXa]
  split
  · omega
  · split
    · rename_i h; rw [decide_eq_false (by omega)]; rfl
    · rename_i h; rw [decide_eq_true (by omega)]; rfl
theorem Ndb (a b : List Str) (i j : Nat) (d : Int) (hd : d = 0) (hl : b.length < 1000000000) : 0 ≤ (Jda a b i).getD j d ∧ (Jda a b i).getD j d ≤ a.length := by
  by_cases h : j ≤ b.length
  · rw [Jha _ _ _ _ h]
    have := vWa (a.drop i) (b.drop j)
    rw [List.length_drop] at this
    omega
  · rw [List.getD_eq_getElem?_getD, List.getElem?_eq_none (by rw [Hfa]; omega)]
    subst hd
    simp
theorem Rta (t : List (List Int)) (z : List Int) (a b : List Str) (ha : a.length ≤ 1000000000) (hb : b.length < 1000000000) (i : Nat) (hi : i < a.length) : ∀ (k : Nat), k ≤ b.length →
    Hsa (t, z, Job k (Jda a b (i + 1)) (Jda a b i), a, b, Jda a b (i + 1), (i : Int), (k : Int) - 1, ()) = some (t, z, Jda a b i, a, b, Jda a b (i + 1), (i : Int), -1, ())
  | 0, hk => by
    rw [Kza, Jpb]
    simp (disch := omega) only [Fua, PP]
    rfl
  | k + 1, hk => by
    have hl1 := Hfa a b (i + 1)
    have hl2 := Hfa a b i
    have hl := Wma (k + 1) (Jda a b (i + 1)) (Jda a b i) (by omega)
    have e0 : (((k + 1 : Nat) : Int) - 1) = (k : Int) := by omega
    have hw : IntKind.wrap .i64 ((k : Int) + 1) = ((k + 1 : Nat) : Int) := Hla (by omega)
    have hw2 : IntKind.wrap .i64 ((k : Int) - 1) = (k : Int) - 1 := Bfa (by omega) (by omega)
    have ih := Rta t z a b ha hb i hi k (by omega)
    have hm : ∀ d, (Job (k + 1) (Jda a b (i + 1)) (Jda a b i)).getD (k + 1) d = (Jda a b i).getD (k + 1) d := fun d => by rw [Tua _ _ _ _ (by omega) (by omega), if_neg (by omega)]
    have hx : ∀ d, a.getD i d = a.getD i ByteArray.empty := fun d => by
      rw [List.getD_eq_getElem?_getD, List.getD_eq_getElem?_getD, List.getElem?_eq_getElem (by omega)]; rfl
    have hy : ∀ d, b.getD k d = b.getD k ByteArray.empty := fun d => by
      rw [List.getD_eq_getElem?_getD, List.getD_eq_getElem?_getD, List.getElem?_eq_getElem (by omega)]; rfl
    have hs := Kub k (Jda a b (i + 1)) (Jda a b i) (by omega) (by omega) 0
    have hst := Kpb a b i k hi (by omega) 0 0
    have hbd := Ndb a b (i + 1) (k + 1) 0 rfl hb
    have hw3 : IntKind.wrap .i64 ((Jda a b (i + 1)).getD (k + 1) 0 + 1) = (Jda a b (i + 1)).getD (k + 1) 0 + 1 := Bfa (by omega) (by omega)
    have hd : ∀ d : Int, (Ty.dfl (Ty.int IntKind.i64) : Int) = 0 := fun _ => rfl
    rw [Kza, e0]
    by_cases heq : a.getD i ByteArray.empty = b.getD k ByteArray.empty
    · rw [if_pos heq] at hst
      simp (disch := omega) only [Fua, PP, hw, hw2, hm, hl, List.length_set, List.set_set, heq, decide_true, hx, hy]
      simp only [hd 0, hw3]
      simp only [← hst, hs]
      exact ih
    · rw [if_neg heq] at hst
      simp (disch := omega) only [Fua, PP, hw, hw2, hm, hl, List.length_set, heq, decide_false, hx, hy]
      simp only [hd 0, ← hst, hs]
      exact ih
theorem Etb {α : Type} (x y : List α) (h : x.length = y.length) : hYb x 0 y = y := by
  simp [hYb, h]
theorem Rsa (a b : List Str) (ha : a.length ≤ 1000000000) (hb : b.length < 1000000000) : ∀ (k : Nat), k ≤ a.length + 1 → ∀ z : List Int,
    ∃ z' x, Kea (List.replicate k [] ++ (lIb a b).drop k, z, a, b, Jda a b k, (k : Int) - 1, ()) = some (lIb a b, z', a, b, x, -1, ())
  | 0, hk, z => by
    rw [Rra]
    simp (disch := omega) only [Oaa, PP]
    exact ⟨_, _, rfl⟩
  | k + 1, hk, z => by
    have hM := Aha
    have hl := Hfa a b (k + 1)
    have e0 : (((k + 1 : Nat) : Int) - 1) = (k : Int) := by omega
    have hw : IntKind.wrap .i64 ((b.length : Int) + 1) = ((b.length + 1 : Nat) : Int) := Hla (by omega)
    have hw2 : IntKind.wrap .i64 ((k : Int) - 1) = (k : Int) - 1 := Bfa (by omega) (by omega)
    have hw4 : IntKind.wrap .i64 ((b.length : Int) - 1) = (b.length : Int) - 1 := Bfa (by omega) (by omega)
    have ho : ∀ x : List Int, x.length = b.length + 1 → hYb x 0 ((Jda a b (k + 1)).take (x.length - 0)) = Jda a b (k + 1) := fun x hx => by
      rw [List.take_of_length_le (by omega), Etb _ _ (by omega)]
    have h9 : ∃ row, row = Jda a b k ∧ ∃ j, Hsa (List.replicate (k + 1) [] ++ (lIb a b).drop (k + 1), z, Jda a b (k + 1), a, b, Jda a b (k + 1), (k : Int), (b.length : Int) - 1, ()) = some (List.replicate (k + 1) [] ++ (lIb a b).drop (k + 1), z, row, a, b, Jda a b (k + 1), (k : Int), j, ()) := by
      by_cases hka : k < a.length
      · refine ⟨_, rfl, -1, ?_⟩
        have := Rta (List.replicate (k + 1) [] ++ (lIb a b).drop (k + 1)) z a b ha hb k hka b.length (Nat.le_refl _)
        have hmx : Job b.length (Jda a b (k + 1)) (Jda a b k) = Jda a b (k + 1) := by
          apply List.ext_getElem?
          intro i
          have l1 := Wma b.length (Jda a b (k + 1)) (Jda a b k) (by rw [Hfa, Hfa])
          have l2 := Hfa a b k
          by_cases hi : i < b.length + 1
          · have q1 := Tua b.length i (Jda a b (k + 1)) (Jda a b k) (by rw [Hfa, Hfa]) (by omega) 0
            rw [List.getElem?_eq_getElem (by omega), List.getElem?_eq_getElem (by omega)]
            rw [List.getD_eq_getElem?_getD, List.getElem?_eq_getElem (by omega)] at q1
            simp only [Option.getD_some] at q1
            rw [q1]
            by_cases hib : i < b.length
            · rw [if_pos hib, List.getD_eq_getElem?_getD, List.getElem?_eq_getElem (by omega)]; rfl
            · have : i = b.length := by omega
              subst this
              rw [if_neg (by omega), Jha _ _ _ _ (Nat.le_refl _)]
              have q2 := Jha a b (k + 1) b.length (Nat.le_refl _) 0
              rw [List.getD_eq_getElem?_getD, List.getElem?_eq_getElem (by omega)] at q2
              simp only [Option.getD_some] at q2
              rw [q2]
              rw [List.drop_eq_nil_of_le (Nat.le_refl b.length), xYa, xYa]
          · rw [List.getElem?_eq_none (by omega), List.getElem?_eq_none (by omega)]
        rw [hmx] at this
        exact this
      · refine ⟨Jda a b (k + 1), by rw [Yya _ _ _ (by omega), Yya _ _ _ (by omega)], (b.length : Int) - 1, ?_⟩
        rw [Kza]
        by_cases hb0 : b.length = 0
        · simp (disch := omega) only [Fua, PP]
        · simp (disch := omega) only [Fua, PP]
    obtain ⟨row, hrow, j, e9⟩ := h9
    subst hrow
    have htl := Czb a b
    have hset : (List.replicate (k + 1) [] ++ (lIb a b).drop (k + 1)).set k (Jda a b k) = List.replicate k [] ++ (lIb a b).drop k := by
      have e1 : List.replicate (k + 1) ([] : List Int) = List.replicate k [] ++ [[]] := List.replicate_succ'
      have e2 : (lIb a b).drop k = Jda a b k :: (lIb a b).drop (k + 1) := by
        rw [List.drop_eq_getElem_cons (by omega)]
        have := Cyb a b k (by omega) []
        rw [List.getD_eq_getElem?_getD, List.getElem?_eq_getElem (by omega)] at this
        simp only [Option.getD_some] at this
        rw [this]
      rw [e1, e2, List.append_assoc, List.set_append_right _ _ (by simp), List.length_replicate, Nat.sub_self]
      rfl
    obtain ⟨z', x, ih⟩ := Rsa a b ha hb k (by omega) z
    refine ⟨z', x, ?_⟩
    have hll : (List.replicate (k + 1) ([] : List Int) ++ (lIb a b).drop (k + 1)).length = a.length + 1 := by
      rw [List.length_append, List.length_replicate, List.length_drop, htl]; omega
    rw [Rra, e0]
    simp (disch := first | omega | (simp only [List.length_replicate]; omega)) only [Oaa, Aja, Afa, Aaa, Int.toNat_natCast, hw, hw2, hw4, List.length_replicate, ho, Nat.sub_zero, hl, e9, hll, List.length_set, hset, Option.bind_some, Sum.elim_inl, List.take_of_length_le, Etb]
    exact ih
theorem Gab (a b : List Str) (ha : a.length ≤ 1000000000) (hb : b.length < 1000000000) : Wka (a, b, ()) = some (lIb a b, ()) := by
  have hM := Aha
  obtain ⟨z', x, e⟩ := Rsa a b ha hb (a.length + 1) (Nat.le_refl _) (List.replicate (b.length + 1) 0)
  rw [Yya _ _ _ (by omega), List.drop_eq_nil_of_le (by rw [Czb]; exact Nat.le_refl _), List.append_nil] at e
  have e0 : (((a.length + 1 : Nat) : Int) - 1) = (a.length : Int) := by omega
  rw [e0] at e
  have hw : IntKind.wrap .i64 ((b.length : Int) + 1) = ((b.length + 1 : Nat) : Int) := Hla (by omega)
  have hw2 : IntKind.wrap .i64 ((a.length : Int) + 1) = ((a.length + 1 : Nat) : Int) := Hla (by omega)
  rw [Fzb]
  simp (disch := first | omega | (simp only [List.length_replicate]; omega)) only [Dgb, Aja, Afa, Aaa, Int.toNat_natCast, hw, hw2, e]
abbrev Frb := Int × Int × Unit
def Cya : List Str → List Str → Int → Int → List Frb
  | x :: xs, y :: ys, i, j => if x = y then (i, j, ()) :: Cya xs ys (i + 1) (j + 1) else if sRa (x :: xs) ys ≤ sRa xs (y :: ys) then Cya xs (y :: ys) (i + 1) j else Cya (x :: xs) ys i (j + 1)
  | _, _, _, _ => []
termination_by a b => a.length + b.length
theorem Hva (b : List Str) (i j : Int) : Cya [] b i j = [] := by rw [Cya]; intros; simp_all
theorem Mga (a : List Str) (i j : Int) : Cya a [] i j = [] := by cases a <;> (rw [Cya]; intros; simp_all)
theorem Mfa (x y : Str) (xs ys : List Str) (i j : Int) : Cya (x :: xs) (y :: ys) i j = if x = y then (i, j, ()) :: Cya xs ys (i + 1) (j + 1) else if sRa (x :: xs) ys ≤ sRa xs (y :: ys) then Cya xs (y :: ys) (i + 1) j else Cya (x :: xs) ys i (j + 1) := by rw [Cya]
theorem Eub {a b : List Str} {i j : Nat} (hi : i < a.length) (hj : j < b.length) : Cya (a.drop i) (b.drop j) i j = if a.getD i ByteArray.empty = b.getD j ByteArray.empty then ((i : Int), (j : Int), ()) :: Cya (a.drop (i + 1)) (b.drop (j + 1)) ((i + 1 : Nat) : Int) ((j + 1 : Nat) : Int)
    else if (Jda a b i).getD (j + 1) 0 ≤ (Jda a b (i + 1)).getD j 0 then Cya (a.drop (i + 1)) (b.drop j) ((i + 1 : Nat) : Int) j else Cya (a.drop i) (b.drop (j + 1)) i ((j + 1 : Nat) : Int) := by
  rw [Jha _ _ _ _ (by omega), Jha _ _ _ _ (by omega), Yca hi, Yca hj, Mfa]
  simp only [Int.natCast_add, Int.natCast_one, Int.ofNat_le]
theorem Egb {α : Type} (l : List α) (k : Nat) (h : k < l.length) (d d' : α) : l.getD k d = l.getD k d' := by
  rw [List.getD_eq_getElem?_getD, List.getD_eq_getElem?_getD, List.getElem?_eq_getElem h]; rfl
theorem Eob (a b : List Str) (ha : a.length ≤ 1000000000) (hb : b.length < 1000000000) : ∀ (n i j : Nat) (l : List Frb), (a.length - i) + (b.length - j) ≤ n → i ≤ a.length → j ≤ b.length → l.length ≤ i →
    ∃ x y, Fea (l, a, b, lIb a b, (i : Int), (j : Int), ()) = some (l ++ Cya (a.drop i) (b.drop j) i j, a, b, lIb a b, x, y, ()) := by
  have hM := Aha
  intro n
  induction n with
  | zero =>
    intro i j l hn hi hj hl
    have e1 : i = a.length := by omega
    subst e1
    rw [Eda]
    simp (disch := omega) only [Bsa, PP]
    rw [List.drop_eq_nil_of_le (Nat.le_refl _), Hva, List.append_nil]
    exact ⟨_, _, rfl⟩
  | succ n ih =>
    intro i j l hn hi hj hl
    by_cases hia : i = a.length
    · subst hia
      rw [Eda]
      simp (disch := omega) only [Bsa, PP]
      rw [List.drop_eq_nil_of_le (Nat.le_refl _), Hva, List.append_nil]
      exact ⟨_, _, rfl⟩
    · by_cases hjb : j = b.length
      · subst hjb
        rw [Eda]
        simp (disch := omega) only [Bsa, PP]
        rw [List.drop_eq_nil_of_le (Nat.le_refl b.length), Mga, List.append_nil]
        exact ⟨_, _, rfl⟩
      · have hw : IntKind.wrap .i64 ((i : Int) + 1) = ((i + 1 : Nat) : Int) := Hla (by omega)
        have hw2 : IntKind.wrap .i64 ((j : Int) + 1) = ((j + 1 : Nat) : Int) := Hla (by omega)
        have hx := Egb a i (by omega)
        have hy := Egb b j (by omega)
        have ht1 := Cyb a b i (by omega)
        have ht2 := Cyb a b (i + 1) (by omega)
        have hr1 := Hfa a b i
        have hr2 := Hfa a b (i + 1)
        have htl := Czb a b
        rw [Eda, Eub (by omega) (by omega)]
        by_cases heq : a.getD i ByteArray.empty = b.getD j ByteArray.empty
        · obtain ⟨x, y, e⟩ := ih (i + 1) (j + 1) (l ++ [((i : Int), (j : Int), ())]) (by omega) (by omega) (by omega) (by simp; omega)
          refine ⟨x, y, ?_⟩
          simp (disch := omega) only [Bsa, PP, hw, hw2, heq, decide_true, e, if_true]
          rw [List.append_assoc]; rfl
        · rw [if_neg heq]
          by_cases hc : (Jda a b i).getD (j + 1) 0 ≤ (Jda a b (i + 1)).getD j 0
          · obtain ⟨x, y, e⟩ := ih (i + 1) j l (by omega) (by omega) (by omega) (by omega)
            refine ⟨x, y, ?_⟩
            rw [if_pos hc]
            simp (disch := omega) only [Bsa, PP, hw, hw2, heq, decide_false, ht1, ht2, e]
          · obtain ⟨x, y, e⟩ := ih i (j + 1) l (by omega) (by omega) (by omega) (by omega)
            refine ⟨x, y, ?_⟩
            rw [if_neg hc]
            simp (disch := omega) only [Bsa, PP, hw, hw2, heq, decide_false, ht1, ht2, e]
theorem Oza (a b : List Str) (ha : a.length ≤ 1000000000) (hb : b.length < 1000000000) : Tsa (a, b, ()) = some (Cya a b 0 0, ()) := by
  obtain ⟨x, y, e⟩ := Eob a b ha hb _ 0 0 [] (Nat.le_refl _) (by omega) (by omega) (by simp)
  simp only [Int.natCast_zero, List.drop_zero, List.nil_append] at e
  rw [Enb]
  simp (disch := omega) only [Afb, PP, Gab a b ha hb, e]
abbrev Ihb := Int × Int × List Str × Unit
abbrev Qwa := Int × List Str × List Str × Unit
abbrev Bxa := Int × Str × Str × Qwa × Unit
def Cra (b : List Str) : List Frb → Int → Int → List Ihb
  | [], _, _ => []
  | p :: ps, i, j => (if p.1 > i ∨ p.2.1 > j then [(i, p.1 - i, (b.drop j.toNat).take (p.2.1.toNat - j.toNat), ())] else []) ++ Cra b ps (p.1 + 1) (p.2.1 + 1)
def OkE (n m : Nat) : List Frb → Int → Int → Prop
  | [], _, _ => True
  | p :: ps, i, j => i ≤ p.1 ∧ p.1 ≤ n ∧ j ≤ p.2.1 ∧ p.2.1 ≤ m ∧ OkE n m ps (p.1 + 1) (p.2.1 + 1)
theorem Lta (n m : Nat) : ∀ (a b : List Str) (i j : Int), i + a.length ≤ n → j + b.length ≤ m → OkE n m (Cya a b i j ++ [((n : Int), (m : Int), ())]) i j
  | [], b, i, j, h1, h2 => by rw [Hva]; simp only [List.length_nil, List.nil_append, OkE] at *; exact ⟨by omega, by omega, by omega, by omega, trivial⟩
  | x :: xs, [], i, j, h1, h2 => by rw [Mga]; simp only [List.length_nil, List.nil_append, OkE] at *; exact ⟨by omega, by omega, by omega, by omega, trivial⟩
  | x :: xs, y :: ys, i, j, h1, h2 => by
    rw [Mfa]
    simp only [List.length_cons] at h1 h2
    split
    · rw [List.cons_append]
      exact ⟨by simp, by simp; omega, by simp, by simp; omega, Lta n m xs ys (i + 1) (j + 1) (by omega) (by omega)⟩
    · have pNb : ∀ (ps : List Frb) (i j i' j' : Int), i' ≤ i → j' ≤ j → OkE n m ps i j → OkE n m ps i' j' := fun ps i j i' j' hi hj h => by
        cases ps with
        | nil => trivial
        | cons p ps => exact ⟨by have := h.1; omega, h.2.1, by have := h.2.2.1; omega, h.2.2.2⟩
      split
      · exact pNb _ _ _ _ _ (by omega) (by omega) (Lta n m xs (y :: ys) (i + 1) j (by omega) (by simp only [List.length_cons]; omega))
      · exact pNb _ _ _ _ _ (by omega) (by omega) (Lta n m (x :: xs) ys i (j + 1) (by simp only [List.length_cons]; omega) (by omega))
termination_by a b => a.length + b.length
theorem Lsa : ∀ (a b : List Str) (i j : Int), (Cya a b i j).length ≤ a.length
  | [], b, i, j => by rw [Hva]; simp
  | x :: xs, [], i, j => by rw [Mga]; simp
  | x :: xs, y :: ys, i, j => by
    have h1 := Lsa xs ys (i + 1) (j + 1)
    have h2 := Lsa xs (y :: ys) (i + 1) j
    have h3 := Lsa (x :: xs) ys i (j + 1)
    rw [Mfa]
    simp only [List.length_cons] at *
    split
    · simp only [List.length_cons]; omega
    · split <;> omega
termination_by a b => a.length + b.length
def Vqa (a b : List Str) : List Ihb := Cra b (Cya a b 0 0 ++ [((a.length : Int), (b.length : Int), ())]) 0 0
theorem Iua (n : Nat) (ps : List Frb) (a b : List Str) (q : Frb) (hn : n ≤ 1000000000) (hb : b.length ≤ 1000000000) (hp : ps.length ≤ 2000000000) : ∀ (r : List Frb) (k : Nat) (l : List Ihb) (i j : Int), ps.drop k = r → k ≤ ps.length → l.length ≤ k → 0 ≤ i → 0 ≤ j → OkE n b.length (r ++ [q]) i j →
    ∃ l' x y, Gna (l, b, i, j, a, ps, (ps.length : Int), (k : Int), ()) = some (l', b, x, y, a, ps, (ps.length : Int), (ps.length : Int), ()) ∧ l' ++ Cra b [q] x y = l ++ Cra b (r ++ [q]) i j ∧ OkE n b.length [q] x y ∧ 0 ≤ x ∧ 0 ≤ y ∧ l'.length ≤ ps.length
  | [], k, l, i, j, h, hk, hl, hi, hj, ho => by
    have := Ada h hk
    subst this
    rw [Naa]
    simp (disch := omega) only [Eta, PP]
    exact ⟨_, _, _, rfl, rfl, ho, hi, hj, hl⟩
  | p :: r, k, l, i, j, h, hk, hl, hi, hj, ho => by
    obtain ⟨h1, h2, h3, h4⟩ := Aba h
    obtain ⟨o1, o2, o3, o4, o5⟩ := ho
    have hM := Aha
    have hw1 : IntKind.wrap .i64 (p.1 + 1) = p.1 + 1 := Bfa (by omega) (by omega)
    have hw2 : IntKind.wrap .i64 (p.2.1 + 1) = p.2.1 + 1 := Bfa (by omega) (by omega)
    have hw3 : IntKind.wrap .i64 (p.1 - i) = p.1 - i := Bfa (by omega) (by omega)
    have ht : ((b.drop j.toNat).take (p.2.1.toNat - j.toNat)).length ≤ 1000000000 := by rw [List.length_take, List.length_drop]; omega
    rw [Naa, List.cons_append, Cra]
    by_cases hc : p.1 > i ∨ p.2.1 > j
    · obtain ⟨l', x, y, e, e2, e3⟩ := Iua n ps a b q hn hb hp r (k + 1) (l ++ [(i, p.1 - i, (b.drop j.toNat).take (p.2.1.toNat - j.toNat), ())]) (p.1 + 1) (p.2.1 + 1) h3 (by omega) (by simp; omega) (by omega) (by omega) o5
      refine ⟨l', x, y, ?_, by rw [e2, if_pos hc, List.append_assoc], e3⟩
      by_cases hc1 : p.1 > i
      · simp (disch := omega) only [Eta, PP, h2, hw1, hw2, hw3, e]
      · simp (disch := omega) only [Eta, PP, h2, hw1, hw2, hw3, e]
    · obtain ⟨l', x, y, e, e2, e3⟩ := Iua n ps a b q hn hb hp r (k + 1) l (p.1 + 1) (p.2.1 + 1) h3 (by omega) (by omega) (by omega) (by omega) o5
      refine ⟨l', x, y, ?_, by rw [e2, if_neg hc, List.nil_append], e3⟩
      simp (disch := omega) only [Eta, PP, h2, hw1, hw2, hw3, e]
theorem Brb (a b : List Str) (ha : a.length ≤ 1000000000) (hb : b.length < 1000000000) : Qaa (a, b, ()) = some (Vqa a b, ()) := by
  have hM := Aha
  have hpl := Lsa a b 0 0
  obtain ⟨l', x, y, e, e2, e3, e4, e5, e6⟩ := Iua a.length (Cya a b 0 0) a b ((a.length : Int), (b.length : Int), ()) ha (by omega) (by omega) _ 0 [] 0 0 rfl (by omega) (by simp) (by omega) (by omega) (Lta a.length b.length a b 0 0 (by omega) (by omega))
  simp only [Int.natCast_zero, List.nil_append] at e e2
  obtain ⟨o1, o2, o3, o4, _⟩ := e3
  simp only at o1 o3
  have hw3 : IntKind.wrap .i64 ((a.length : Int) - x) = (a.length : Int) - x := Bfa (by omega) (by omega)
  have ht : ((b.drop y.toNat).take (b.length - y.toNat)).length ≤ 1000000000 := by rw [List.length_take, List.length_drop]; omega
  have he : Vqa a b = l' ++ Cra b [((a.length : Int), (b.length : Int), ())] x y := by rw [e2]; rfl
  rw [Bqb, he, Cra]
  by_cases hc1 : (a.length : Int) > x
  · rw [if_pos (.inl hc1)]
    simp (disch := omega) only [Lwa, PP, Oza a b ha hb, e, hw3, Cra]
    rfl
  · by_cases hc2 : (b.length : Int) > y
    · rw [if_pos (.inr hc2)]
      simp (disch := omega) only [Lwa, PP, Oza a b ha hb, e, hw3, Cra]
      rfl
    · rw [if_neg (by simp only; omega)]
      simp (disch := omega) only [Lwa, PP, Oza a b ha hb, e, hw3, Cra]
      simp
def Jxa (a : List Str) : List Ihb → Int → List Qwa
  | [], _ => []
  | e :: es, by_ => (e.1 + by_, (a.drop e.1.toNat).take ((e.1 + e.2.1).toNat - e.1.toNat), e.2.2.1, ()) :: Jxa a es (by_ + e.2.2.1.length - e.2.1)
def Sub (a : List Str) (e : Ihb) : Prop := 0 ≤ e.1 ∧ 0 ≤ e.2.1 ∧ e.1 + e.2.1 ≤ a.length ∧ e.2.2.1.length ≤ 1000000000
theorem Ccb (a : List Str) (es : List Ihb) (ha : a.length ≤ 1000000000) (he : ∀ e ∈ es, Sub a e) (hs : es.length ≤ 1000000001) : ∀ (r : List Ihb) (k : Nat) (l : List Qwa) (by_ : Int), es.drop k = r → k ≤ es.length → l.length ≤ k → -(k * 1000000000 : Int) ≤ by_ → by_ ≤ k * 1000000000 →
    ∃ x y, Lja (l, a, by_, es, (es.length : Int), (k : Int), ()) = some (l ++ Jxa a r by_, a, x, es, (es.length : Int), y, ()) := by
  intro r
  induction r with
  | nil =>
    intro k l by_ h hk hl hb1 hb2
    have := Ada h hk
    subst this
    rw [Toa]
    simp (disch := omega) only [Sna, PP, Jxa, List.append_nil]
    exact ⟨_, _, rfl⟩
  | cons e r ih =>
    intro k l by_ h hk hl hb1 hb2
    obtain ⟨h1, h2, h3, h4⟩ := Aba h
    obtain ⟨o1, o2, o3, o4⟩ := he e h4
    have hM := Aha
    have hw1 : IntKind.wrap .i64 (e.1 + e.2.1) = e.1 + e.2.1 := Bfa (by omega) (by omega)
    have hw2 : IntKind.wrap .i64 (e.1 + by_) = e.1 + by_ := Bfa (by omega) (by omega)
    have hw3 : IntKind.wrap .i64 ((e.2.2.1.length : Int) - e.2.1) = (e.2.2.1.length : Int) - e.2.1 := Bfa (by omega) (by omega)
    have hw4 : IntKind.wrap .i64 (by_ + ((e.2.2.1.length : Int) - e.2.1)) = by_ + e.2.2.1.length - e.2.1 := by rw [Bfa (by omega) (by omega)]; omega
    have ht : ((a.drop e.1.toNat).take ((e.1 + e.2.1).toNat - e.1.toNat)).length ≤ 1000000000 := by rw [List.length_take, List.length_drop]; omega
    obtain ⟨x, y, e9⟩ := ih (k + 1) (l ++ [(e.1 + by_, (a.drop e.1.toNat).take ((e.1 + e.2.1).toNat - e.1.toNat), e.2.2.1, ())]) (by_ + e.2.2.1.length - e.2.1) h3 (by omega) (by simp; omega) (by omega) (by omega)
    refine ⟨x, y, ?_⟩
    rw [Toa, Jxa]
    simp (disch := omega) only [Sna, PP, h2, hw1, hw2, hw3, hw4, e9]
    rw [List.append_assoc]; rfl
theorem Eeb (n : Nat) (a b : List Str) (ha : n ≤ a.length) (hb : b.length ≤ 1000000000) : ∀ (ps : List Frb) (i j : Int), 0 ≤ i → 0 ≤ j → OkE n b.length ps i j → ∀ e ∈ Cra b ps i j, Sub a e
  | [], i, j, hi, hj, ho, e, he => by simp [Cra] at he
  | p :: ps, i, j, hi, hj, ho, e, he => by
    obtain ⟨o1, o2, o3, o4, o5⟩ := ho
    rw [Cra, List.mem_append] at he
    rcases he with he | he
    · split at he
      · simp only [List.mem_singleton] at he
        subst he
        refine ⟨hi, by simp only; omega, by simp only; omega, ?_⟩
        simp only [List.length_take, List.length_drop]; omega
      · simp at he
    · exact Eeb n a b ha hb ps _ _ (by omega) (by omega) o5 e he
theorem Azb (b : List Str) : ∀ (ps : List Frb) (i j : Int), (Cra b ps i j).length ≤ ps.length
  | [], i, j => by simp [Cra]
  | p :: ps, i, j => by
    have := Azb b ps (p.1 + 1) (p.2.1 + 1)
    rw [Cra, List.length_append, List.length_cons]
    split <;> simp <;> omega
theorem Jab (a b : List Str) (hb : b.length ≤ 1000000000) : ∀ e ∈ Vqa a b, Sub a e := Eeb a.length a b (Nat.le_refl _) hb _ 0 0 (by omega) (by omega) (Lta a.length b.length a b 0 0 (by omega) (by omega))
theorem Bab (a b : List Str) : (Vqa a b).length ≤ a.length + 1 := by
  have h1 := Azb b (Cya a b 0 0 ++ [((a.length : Int), (b.length : Int), ())]) 0 0
  have h2 := Lsa a b 0 0
  rw [List.length_append] at h1
  simp only [Vqa, List.length_cons, List.length_nil] at *
  omega
def Nea (a b : List Str) : List Qwa := Jxa a (Vqa a b) 0
theorem Hub (a b : List Str) (ha : a.length ≤ 1000000000) (hb : b.length < 1000000000) : Yia (a, b, ()) = some (Nea a b, ()) := by
  have hel := Bab a b
  obtain ⟨x, y, e⟩ := Ccb a (Vqa a b) ha (Jab a b (by omega)) (by omega) _ 0 [] 0 rfl (by omega) (by simp) (by simp) (by simp)
  simp only [Int.natCast_zero, List.nil_append] at e
  rw [Htb]
  simp (disch := omega) only [Gub, PP, Brb a b ha hb, e]
  rfl
theorem Bdb (a : List Str) : ∀ (es : List Ihb) (x : Int), (Jxa a es x).length = es.length
  | [], _ => rfl
  | e :: es, x => by rw [Jxa, List.length_cons, List.length_cons, Bdb a es]
def Mid (t : Aga) : Prop := t.length ≤ 1000 ∧ ∀ f ∈ t, f.2.1.length ≤ 1000
theorem Mid.wee {t : Aga} (h : Mid t) : Wee t := ⟨by have := h.1; omega, fun f hf => by have := h.2 f hf; omega⟩
theorem Mid.get {t : Aga} (h : Mid t) (s : Str) : ((Aza t s).getD []).length ≤ 1000 := by
  rw [Yea]
  split
  · rename_i hlt
    simp only [Option.getD_some]
    have := h.2 (t.getD (at_ t s) (ByteArray.empty, [], ())) (by rw [List.getD_eq_getElem?_getD, List.getElem?_eq_getElem hlt]; exact List.getElem_mem _)
    exact this
  · simp
abbrev noH : Qwa := (0, [], [], ())
def Ifa (s : Str) (hs : List Qwa) : List Bxa := hs.map fun h => (3, s, ByteArray.empty, h, ())
def Ola (a b : Aga) (s : Str) : List Bxa := (if (Aza a s).isSome then [] else [(0, s, ByteArray.empty, noH, ())]) ++ (Ifa s (Nea ((Aza a s).getD []) ((Aza b s).getD [])) ++
  (if (Aza b s).isSome then [] else [(1, s, ByteArray.empty, noH, ())]))
theorem Pda (s : Str) (b : Bool) (hs : List Qwa) (hl : hs.length ≤ 1000000000) : ∀ (r : List Qwa) (k : Nat) (l : List Bxa), hs.drop k = r → k ≤ hs.length → l.length ≤ 10000000000 + k →
    Gaa (l, s, b, hs, (hs.length : Int), (k : Int), ()) = some (l ++ Ifa s r, s, b, hs, (hs.length : Int), (hs.length : Int), ())
  | [], k, l, h, hk, hb => by
    have := Ada h hk
    subst this
    rw [Pca]
    simp (disch := omega) only [Lxa, PP, Ifa, List.map_nil, List.append_nil]
  | x :: r, k, l, h, hk, hb => by
    obtain ⟨h1, h2, h3, h4⟩ := Aba h
    have hM := Aha
    have ih := Pda s b hs hl r (k + 1) (l ++ [(3, s, ByteArray.empty, x, ())]) h3 (by omega) (by simp; omega)
    rw [Pca]
    simp (disch := omega) only [Lxa, PP, h2]
    refine ih.trans ?_
    rw [List.append_assoc]; rfl
theorem Beb (a b : List Str) : (Nea a b).length ≤ a.length + 1 := by
  rw [Nea, Bdb]; exact Bab a b
theorem Jbb (a b : Aga) (ha : Mid a) (s : Str) : (Ola a b s).length ≤ 1003 := by
  have h1 := Beb ((Aza a s).getD []) ((Aza b s).getD [])
  have h2 := ha.get s
  simp only [Ola, List.length_append, Ifa, List.length_map]
  split <;> split <;> simp <;> omega
theorem Twa (a b : Aga) (ha : Mid a) (hb : Mid b) (ns : List Str) (hn : ns.length ≤ 1000000) : ∀ (r : List Str) (k : Nat) (l : List Bxa), ns.drop k = r → k ≤ ns.length → l.length ≤ k * 1003 →
    Jja (l, a, b, ns, (ns.length : Int), (k : Int), ()) = some (l ++ r.flatMap (Ola a b), a, b, ns, (ns.length : Int), (ns.length : Int), ())
  | [], k, l, h, hk, hl => by
    have := Ada h hk
    subst this
    rw [Tva]
    simp (disch := omega) only [Hpa, PP, List.flatMap_nil, List.append_nil]
  | s :: r, k, l, h, hk, hl => by
    obtain ⟨h1, h2, h3, h4⟩ := Aba h
    have hM := Aha
    have g1 := ha.get s
    have g2 := hb.get s
    have hfl := Jbb a b ha s
    have hhl := Beb ((Aza a s).getD []) ((Aza b s).getD [])
    have ih := Twa a b ha hb ns hn r (k + 1) (l ++ Ola a b s) h3 (by omega) (by rw [List.length_append]; omega)
    have eA := Eaa a s ha.wee
    have eB := Eaa b s hb.wee
    have eH := Hub ((Aza a s).getD []) ((Aza b s).getD []) (by omega) (by omega)
    have eL := fun b2 l (hl : l.length ≤ 10000000000) => Pda s b2 (Nea ((Aza a s).getD []) ((Aza b s).getD [])) (by omega) _ 0 l rfl (by omega) (by omega)
    simp only [Int.natCast_zero, List.drop_zero] at eL
    have hpl : (Ifa s (Nea ((Aza a s).getD []) ((Aza b s).getD []))).length ≤ 1001 := by rw [Ifa, List.length_map]; omega
    have fin : ∀ l', l' = l ++ Ola a b s → Jja (l', a, b, ns, (ns.length : Int), ((k + 1 : Nat) : Int), ()) = some (l ++ (s :: r).flatMap (Ola a b), a, b, ns, (ns.length : Int), (ns.length : Int), ()) := fun l' hl' => by
      rw [hl', ih, List.flatMap_cons, List.append_assoc]
    rw [Tva]
    cases hA : (Aza a s).isSome with
    | true =>
      cases hB : (Aza b s).isSome with
      | true =>
        simp (disch := first | omega | (simp only [List.length_append, List.length_cons, List.length_nil]; omega)) only [Hpa, PP, h2, eA, eB, eH, eL, hA, hB]
        refine fin _ ?_; simp [Ola, hA, hB]
      | false =>
        simp (disch := first | omega | (simp only [List.length_append, List.length_cons, List.length_nil]; omega)) only [Hpa, PP, h2, eA, eB, eH, eL, hA, hB]
        refine fin _ ?_; simp [Ola, hA, hB]
    | false =>
      cases hB : (Aza b s).isSome with
      | true =>
        simp (disch := first | omega | (simp only [List.length_append, List.length_cons, List.length_nil]; omega)) only [Hpa, PP, h2, eA, eB, eH, eL, hA, hB]
        refine fin _ ?_; simp [Ola, hA, hB]
      | false =>
        simp (disch := first | omega | (simp only [List.length_append, List.length_cons, List.length_nil]; omega)) only [Hpa, PP, h2, eA, eB, eH, eL, hA, hB]
        refine fin _ ?_; simp [Ola, hA, hB]
def Erb (a b : Aga) : List Bxa := (Nha a b).flatMap (Ola a b)
theorem Iab (a b : Aga) (ha : Mid a) (hb : Mid b) (sa : Wha a) (sb : Wha b) : Cdb (a, b, ()) = some (if Raa a && Raa b then Erb a b else [], if Raa a && Raa b then 0 else 1, ()) := by
  have hl := Jrb a b
  have h1 := ha.1
  have h2 := hb.1
  have eN := Deb a b (by omega) (by omega)
  have eL := Twa a b ha hb (Nha a b) (by omega) _ 0 [] rfl (by omega) (by simp)
  simp only [Int.natCast_zero, List.nil_append, List.drop_zero] at eL
  rw [Hzb]
  cases hA : Raa a with
  | false =>
    simp (disch := omega) only [Wja, PP, Eba a sa (by omega), hA]
    rfl
  | true =>
    cases hB : Raa b with
    | false =>
      simp (disch := omega) only [Wja, PP, Eba a sa (by omega), Eba b sb (by omega), hA, hB]
      rfl
    | true =>
      rw [show lSa (Gtb [] ((a ++ b).map (·.1))) = Nha a b from rfl] at eN
      simp (disch := omega) only [Wja, PP, Eba a sa (by omega), Eba b sb (by omega), hA, hB, eN, eL]
      rfl
def Zfa (p : Bxa) : Prop := p.2.2.2.1.2.1.length < 4611686018427387903 ∧ p.2.2.2.1.2.2.1.length < 4611686018427387903
theorem Bta {α : Type} [DecidableEq α] (a b : α) : (a == b) = decide (a = b) := by by_cases h : a = b <;> simp [h]
theorem Cmb (p q : Qwa) (h1 : p.2.1.length < 4611686018427387903) (h2 : p.2.2.1.length < 4611686018427387903) : Qja (p, q, ()) = some (decide (p = q), ()) := by
  rw [Clb]
  obtain ⟨pa, po, pn, pu⟩ := p
  obtain ⟨qa, qo, qn, qu⟩ := q
  simp only at h1 h2
  by_cases e1 : po = qo
  · subst e1
    by_cases e2 : pn = qn
    · subst e2
      simp (disch := first | omega | assumption) only [Joa, PP, Haa, decide_true, Bta]
      simp
    · simp (disch := first | omega | assumption) only [Joa, PP, Haa, decide_true, Bta, e2, decide_false]
      simp [e2]
  · by_cases e2 : pn = qn
    · subst e2
      simp (disch := first | omega | assumption) only [Joa, PP, Haa, decide_true, Bta, e1, decide_false]
      simp [e1]
    · simp (disch := first | omega | assumption) only [Joa, PP, Haa, decide_true, Bta, e1, e2, decide_false]
      simp [e1]
instance decPrim1 : DecidableEq (Qwa × Unit) := inferInstance
instance decPrim2 : DecidableEq (Str × Qwa × Unit) := inferInstance
instance decPrim3 : DecidableEq (Str × Str × Qwa × Unit) := inferInstance
instance decPrim : DecidableEq Bxa := inferInstanceAs (DecidableEq (Int × Str × Str × Qwa × Unit))
theorem Crb (p q : Bxa) (h : Zfa p) : Qla (p, q, ()) = some (decide (p = q), ()) := by
  obtain ⟨pk, pn, pt, ph, pu⟩ := p
  obtain ⟨qk, qn, qt, qh, qu⟩ := q
  have e := Cmb ph qh h.1 h.2
  rw [Cqb]
  by_cases e1 : ph = qh
  · subst e1
    by_cases e2 : pk = qk
    · subst e2
      by_cases e3 : pn = qn
      · subst e3
        simp (disch := first | omega | assumption) only [Jpa, PP, e, Bta, decide_true]
        simp
      · simp (disch := first | omega | assumption) only [Jpa, PP, e, e3, Bta, decide_true, decide_false]
        simp [e3]
    · simp (disch := first | omega | assumption) only [Jpa, PP, e, e2, Bta, decide_true, decide_false]
      simp [e2]
  · simp (disch := first | omega | assumption) only [Jpa, PP, e, e1, Bta, decide_true, decide_false]
    simp [e1]
theorem Noa (m l : List Bxa) (hs : ∀ p ∈ l, Zfa p) (hb : l.length < 4611686018427387903) : ∀ (r : List Bxa) (k : Nat), l.drop k = r → k ≤ l.length → l.length = m.length →
    ∃ y, Hca (l, m, (k : Int), ()) = some y ∧ (match y with
      | .inl _ => r ≠ m.drop k
      | .inr _ => r = m.drop k)
  | [], k, h, hk, hlm => by
    have := Ada h hk
    subst this
    rw [Nna]
    simp (disch := omega) only [Iaa, PP]
    exact ⟨_, rfl, by rw [hlm, List.drop_length]⟩
  | x :: r, k, h, hk, hlm => by
    obtain ⟨h1, h2, h3, h4⟩ := Aba h
    have h5 : k < m.length := by omega
    have hm : m.drop k = m.getD k (0, ByteArray.empty, ByteArray.empty, (0, [], [], ()), ()) :: m.drop (k + 1) := by
      rw [List.drop_eq_getElem_cons h5, List.getD_eq_getElem?_getD, List.getElem?_eq_getElem h5]; rfl
    obtain ⟨y, ih, p⟩ := Noa m l hs hb r (k + 1) h3 (by omega) hlm
    have e := Crb x (m.getD k (0, ByteArray.empty, ByteArray.empty, (0, [], [], ()), ())) (hs x h4)
    rw [Nna, hm]
    by_cases hx : x = m.getD k (0, ByteArray.empty, ByteArray.empty, (0, [], [], ()), ())
    · simp only [hx, decide_true] at e
      simp (disch := omega) only [Iaa, PP, h2, hx, e]
      refine ⟨y, ih, ?_⟩
      cases y with
      | inl _ => exact fun he => p (List.cons.inj he).2
      | inr _ => simp only at p ⊢; rw [p]
    · rw [decide_eq_false hx] at e
      simp (disch := omega) only [Iaa, PP, h2, e]
      exact ⟨_, rfl, fun he => hx (List.cons.inj he).1⟩
theorem Cpb (l m : List Bxa) (hs : ∀ p ∈ l, Zfa p) (hb : l.length < 4611686018427387903) : Qka (l, m, ()) = some (decide (l = m), ()) := by
  rw [Cob]
  by_cases hl : l.length = m.length
  · obtain ⟨y, e, p⟩ := Noa m l hs hb l 0 rfl (by omega) hl
    simp only [Int.natCast_zero, List.drop_zero] at e p
    have : ((l.length : Int) != (m.length : Int)) = false := by rw [hl]; simp
    cases y with
    | inl z =>
      simp (disch := omega) only [Mba, PP, this, e]
      rw [decide_eq_false p]
    | inr z =>
      simp (disch := omega) only [Mba, PP, this, e]
      rw [decide_eq_true p]
  · have : ((l.length : Int) != (m.length : Int)) = true := by simp; omega
    simp only [Mba, this, Aca]
    rw [decide_eq_false fun h => hl (by rw [h])]
theorem Yda {α β : Type} (f : α → List β) (c : Nat) : ∀ (l : List α), (∀ x ∈ l, (f x).length ≤ c) → (l.flatMap f).length ≤ l.length * c
  | [], _ => by simp
  | x :: l, h => by
    have h1 := Yda f c l fun y hy => h y (List.mem_cons_of_mem _ hy)
    have h2 := h x List.mem_cons_self
    rw [List.flatMap_cons, List.length_append, List.length_cons, Nat.add_mul]
    omega
theorem Sza (l0 ts : List (List Str)) (hb : ts.length < 4611686018427387903) : ∀ (r : List (List Str)) (i n : Nat), ts.drop i = r → i ≤ ts.length → n + r.flatten.length < 4611686018427387903 →
    Bca (l0, (n : Int), ts, (ts.length : Int), (i : Int), ()) = some (l0, ((n + r.flatten.length : Nat) : Int), ts, (ts.length : Int), (ts.length : Int), ())
  | [], i, n, h, hi, _ => by
    have := Ada h hi
    subst this
    rw [Eqa]
    simp (disch := omega) only [Coa, PP, List.flatten_nil, Nat.add_zero]
  | t :: r, i, n, h, hi, hn => by
    obtain ⟨h1, h2, h3, h4⟩ := Aba h
    simp only [List.flatten_cons, List.length_append] at hn
    have hw : IntKind.wrap .i64 ((n : Int) + (t.length : Int)) = ((n + t.length : Nat) : Int) := by rw [Bfa (by omega) (by omega)]; omega
    rw [Eqa]
    simp (disch := omega) only [Coa, PP, h2, hw]
    rw [Sza l0 ts hb r (i + 1) (n + t.length) h3 (by omega) (by omega)]
    simp only [List.flatten_cons, List.length_append, Nat.add_assoc]
theorem Rda (l0 : List Str) (ts : List (List Str)) (hb : ts.length < 4611686018427387903) : ∀ (r : List (List Str)) (i n : Nat) (row : List Str), ts.drop i = r → i ≤ ts.length → n + r.flatten.length ≤ row.length →
    ∃ row' : List Str, Ata (l0, row, 0, n, ts, (ts.length : Int), (i : Int), ()) = some (l0, row', 0, n + r.flatten.length, ts, (ts.length : Int), (ts.length : Int), ()) ∧ row'.length = row.length ∧ row'.take (n + r.flatten.length) = row.take n ++ r.flatten
  | [], i, n, row, h, hi, _ => by
    have := Ada h hi
    subst this
    rw [Dta]
    simp (disch := omega) only [Cga, PP, List.flatten_nil, Nat.add_zero, List.append_nil]
    exact ⟨row, rfl, rfl, rfl⟩
  | t :: r, i, n, row, h, hi, hn => by
    obtain ⟨h1, h2, h3, h4⟩ := Aba h
    simp only [List.flatten_cons, List.length_append] at hn
    have ho := Uca row n t (by omega)
    rw [Dta]
    simp (disch := omega) only [Cga, PP, h2, ho]
    obtain ⟨row', e, e1, e2⟩ := Rda l0 ts hb r (i + 1) (n + t.length) (hYb row n t) h3 (by omega) (by omega)
    refine ⟨row', ?_, by rw [e1, ho], ?_⟩
    · rw [e]; simp only [List.flatten_cons, List.length_append, Nat.add_assoc]
    · have e3 : (hYb row n t).take (n + t.length) = row.take n ++ t := by
        have : (row.take n ++ t).length = n + t.length := by rw [List.length_append, List.length_take]; omega
        rw [hYb, ← this]; exact List.take_left
      rw [e3] at e2
      simp only [List.flatten_cons, List.length_append]
      rw [← Nat.add_assoc, e2, List.append_assoc]
theorem Nya (l0 : List Str) (ts : List (List Str)) (hb : ts.length < 4611686018427387903) : ∀ (r : List (List Str)) (i : Nat), ts.drop i = r → i ≤ ts.length → r.flatten = [] →
    Aqa (l0, [], ts, (ts.length : Int), (i : Int), ()) = some (l0, [], ts, (ts.length : Int), (ts.length : Int), ())
  | [], i, h, hi, _ => by
    have := Ada h hi
    subst this
    rw [Dga]
    simp (disch := omega) only [Bza, PP]
  | t :: r, i, h, hi, hn => by
    obtain ⟨h1, h2, h3, h4⟩ := Aba h
    have hM := Aha
    simp only [List.flatten_cons, List.append_eq_nil_iff] at hn
    obtain ⟨rfl, hn⟩ := hn
    rw [Dga]
    simp (disch := omega) only [Bza, PP, h2, List.append_nil]
    exact Nya l0 ts hb r (i + 1) h3 (by omega) hn
theorem Hpb (ts : List (List Str)) (hb : ts.length < 1000000000) (hn : ts.flatten.length ≤ 1000000000000) : Cka (ts, ()) = some (ts.flatten, ()) := by
  have hM := Aha
  have e := Sza ts ts (by omega) ts 0 0 rfl (by omega) (by omega)
  simp only [Int.natCast_zero, Nat.zero_add] at e
  rw [Mla]
  have hw0 : IntKind.wrap .i64 ((0 : Int) - ((0 : Nat) : Int)) = 0 := by rw [Bfa (by omega) (by omega)]; rfl
  have hw0' : IntKind.wrap .i64 ((0 : Int) - 0) = 0 := by rw [Bfa (by omega) (by omega)]; rfl
  have hw : IntKind.wrap .i64 (((ts.flatten.length : Nat) : Int) - 0) = ((ts.flatten.length : Nat) : Int) := by rw [Bfa (by omega) (by omega)]; omega
  by_cases h0 : ts.flatten.length = 0
  · have hf : ts.flatten = [] := List.eq_nil_of_length_eq_zero h0
    have e2 := Nya [] ts (by omega) ts 0 rfl (by omega) hf
    simp only [Int.natCast_zero] at e2
    simp (disch := omega) only [Dna, e, PP, hw0, hw, e2]
    rw [hf]
  · obtain ⟨row', e2, e3, e4⟩ := Rda [] ts (by omega) ts 0 0 (List.replicate ts.flatten.length ByteArray.empty) rfl (by omega) (by simp)
    simp only [Int.natCast_zero, Nat.zero_add, List.take_zero, List.nil_append] at e2 e4
    simp only [List.length_replicate] at e3
    simp (disch := omega) only [Dna, e, PP, hw0, hw0', hw, List.length_replicate, Nat.sub_zero, Int.natCast_zero, Int.toNat_zero, Nat.add_zero, e2, List.drop_zero, e4]
theorem Esa (m : List Str) : ∀ (r : List Str) (l : List Str) (i : Nat), l.drop i = r → i ≤ l.length → l.length = m.length → l.length < 4611686018427387903 →
    ∃ y, Bda (l, m, (l.length : Int), (i : Int), ()) = some y ∧ (match y with
      | .inl _ => l.drop i ≠ m.drop i
      | .inr _ => l.drop i = m.drop i)
  | [], l, i, h, hi, hl, hb => by
    have := Ada h hi
    subst this
    rw [Era]
    simp (disch := omega) only [Bpa, PP]
    exact ⟨_, rfl, by simp [hl]⟩
  | a :: r, l, i, h, hi, hl, hb => by
    obtain ⟨h1, h2, h3, h4⟩ := Aba h
    obtain ⟨b, s, hm⟩ : ∃ b s, m.drop i = b :: s := ⟨_, _, List.drop_eq_getElem_cons (by omega)⟩
    obtain ⟨m1, m2, m3, m4⟩ := Aba hm
    rw [Era]
    by_cases hab : a = b
    · subst hab
      simp (disch := omega) only [Bpa, PP, h2, m2, decide_true, Bool.not_true]
      obtain ⟨y, e, p⟩ := Esa m r l (i + 1) h3 (by omega) hl hb
      refine ⟨y, e, ?_⟩
      rw [h, hm]
      rw [h3, m3] at p
      cases y with
      | inl z => simpa using p
      | inr z => simpa using p
    · simp (disch := first | omega | assumption) only [Bpa, PP, h2, m2]
      refine ⟨_, rfl, ?_⟩
      rw [h, hm]
      simp [hab]
theorem Mna (l m : List Str) (hb : l.length < 4611686018427387903) : Cla (l, m, ()) = some (decide (l = m), ()) := by
  rw [Mma]
  by_cases hl : l.length = m.length
  · obtain ⟨y, e, p⟩ := Esa m l l 0 rfl (by omega) hl hb
    simp only [Int.natCast_zero] at e
    have hbn : ((l.length : Int) != (m.length : Int)) = false := by simp [hl]
    simp only [List.drop_zero] at p
    cases y with
    | inl z => simp only at p; simp only [Caa, hbn, e, PP, p, decide_false]
    | inr z => simp only at p; subst p; simp only [Caa, hbn, e, PP, decide_true]
  · have hbn : ((l.length : Int) != (m.length : Int)) = true := by simp; omega
    have : ¬ l = m := fun e => hl (by rw [e])
    simp only [Caa, hbn, PP, this, decide_false]
theorem Cva (p : Bxa) : ((p.1, p.2.1, p.2.2.1, (p.2.2.2.1.1, p.2.2.2.1.2.1, p.2.2.2.1.2.2.1, ()), ()) : Bxa) = p := rfl
theorem Tqa (h : Qwa) : ((h.1, h.2.1, h.2.2.1, ()) : Qwa) = h := rfl
def Neb (h : Qwa) : Qwa := (h.1, h.2.2.1, h.2.1, ())
def Zaa (p : Bxa) : Bxa :=
  if p.1 = 0 then (1, p.2.1, p.2.2.1, p.2.2.2.1, ()) else if p.1 = 1 then (0, p.2.1, p.2.2.1, p.2.2.2.1, ()) else if p.1 = 2 then (p.1, p.2.2.1, p.2.1, p.2.2.2.1, ()) else (p.1, p.2.1, p.2.2.1, Neb p.2.2.2.1, ())
theorem Ieb (p : Bxa) : Zaa (Zaa p) = p := by
  obtain ⟨k, n, t, h, u⟩ := p
  unfold Zaa
  by_cases h0 : k = 0
  · subst h0; simp
  · by_cases h1 : k = 1
    · subst h1; simp
    · by_cases h2 : k = 2
      · subst h2; simp
      · simp [h0, h1, h2, Neb]
def Nhb (h : Qwa) : Prop := h.2.1.length ≤ 1000000000000 ∧ h.2.2.1.length ≤ 1000000000000
theorem Eib (h : Qwa) (hb : Nhb h) : Tpa (h, ()) = some (Neb h, ()) := by
  have hM := Aha
  obtain ⟨h1, h2⟩ := hb
  rw [Ehb]
  simp (disch := omega) only [Aeb, Aja, Afa]
  rfl
abbrev Hqb (p : Bxa) : Prop := Nhb p.2.2.2.1
theorem Fbb (p : Bxa) (hb : Hqb p) : Uha (p, ()) = some (Zaa p, ()) := by
  obtain ⟨k, n, t, h, u⟩ := p
  rw [Fab]
  unfold Zaa
  by_cases h0 : k = 0
  · simp only [Lca, Bta, h0, decide_true, Aca, if_true]
  · by_cases h1 : k = 1
    · subst h1
      simp only [Lca, Bta, decide_true, Aca, if_true]
      rfl
    · by_cases h2 : k = 2
      · subst h2
        simp only [Lca, Bta, decide_true, Aca, if_true]
        rfl
      · simp only [Lca, Bta, h0, h1, h2, decide_true, decide_false, Aca, Aea, if_true, if_false, Tqa, Eib h hb, Aaa]
def Usa (l : List Bxa) : List Bxa := l.reverse.map Zaa
theorem Idb (l : List Bxa) : Usa (Usa l) = l := by
  simp only [Usa, ← List.map_reverse, List.reverse_reverse, List.map_map]
  have : Zaa ∘ Zaa = id := funext Ieb
  rw [this, List.map_id]
theorem Mrb {α : Type} (l : List α) (k : Nat) (h : k < l.length) : ∃ x, (∀ d, l.getD k d = x) ∧ l.take (k + 1) = l.take k ++ [x] ∧ x ∈ l := by
  refine ⟨l[k], fun d => by rw [List.getD_eq_getElem?_getD, List.getElem?_eq_getElem h]; rfl, ?_, List.getElem_mem h⟩
  rw [List.take_add_one, List.getElem?_eq_getElem h]; rfl
theorem Ona (l : List Bxa) (hl : l.length ≤ 1000000000) (hb : ∀ p ∈ l, Hqb p) : ∀ (k : Nat) (acc : List Bxa), k ≤ l.length → acc.length + k ≤ 1000000000 →
    Apa (acc, l, (k : Int) - 1, ()) = some (acc ++ Usa (l.take k), l, -1, ())
  | 0, acc, hk, ha => by
    rw [Dfa]
    simp (disch := omega) only [Bya, PP, List.take_zero, Usa, List.reverse_nil, List.map_nil, List.append_nil]
    rfl
  | k + 1, acc, hk, ha => by
    have hM := Aha
    have e0 : (((k + 1 : Nat) : Int) - 1) = (k : Int) := by omega
    have hw : IntKind.wrap .i64 ((k : Int) - 1) = (k : Int) - 1 := Bfa (by omega) (by omega)
    obtain ⟨x, hx', ht, hmem⟩ := Mrb l k (by omega)
    have ih := Ona l hl hb k (acc ++ [Zaa x]) (by omega) (by simp; omega)
    have hT := Fbb x (hb x hmem)
    rw [Dfa, e0]
    simp (disch := omega) only [Bya, PP, hw, hx', Cva, hT]
    refine Eq.trans ih ?_
    rw [ht, Usa, Usa, List.reverse_append, List.map_append, List.append_assoc]; rfl
theorem Vra (l : List Bxa) (hl : l.length ≤ 1000000000) (hb : ∀ p ∈ l, Hqb p) : Oma (l, ()) = some (Usa l, ()) := by
  have e := Ona l hl hb l.length [] (Nat.le_refl _) (by simp; omega)
  rw [List.take_length, List.nil_append] at e
  have hw : IntKind.wrap .i64 ((l.length : Int) - 1) = (l.length : Int) - 1 := Bfa (by omega) (by omega)
  rw [Efb]
  simp (disch := omega) only [Adb, PP, hw, e]
def Zua (h : Qwa) : Bool := (decide (0 ≤ h.1) && decide (h.1 ≤ 1048576)) && (Zca h.2.1 && Zca h.2.2.1)
def Edb (p : Bxa) : Bool := decide (p.2.2.2.1.1 = 0) && decide (p.2.2.2.1.2.1.length + p.2.2.2.1.2.2.1.length = 0)
def Hga (p : Bxa) : Bool := Hua p.2.1 && decide (p.2.2.1 = ByteArray.empty)
def Jga (p : Bxa) : Bool :=
  if p.1 = 0 ∨ p.1 = 1 then Hga p && Edb p
  else if p.1 = 2 then (Hua p.2.1 && Hua p.2.2.1) && (decide (p.2.1 ≠ p.2.2.1) && Edb p)
  else if p.1 = 3 then Hga p && Zua p.2.2.2.1
  else if p.1 = 4 then (Hga p && Zua p.2.2.2.1) && decide (p.2.2.2.1.1 = 0)
  else false
structure Kla (p : Bxa) : Prop where
  n : p.2.1.size < 4611686018427387903
  t : p.2.2.1.size < 4611686018427387903
  o : p.2.2.2.1.2.1.length ≤ 1000000000000
  w : p.2.2.2.1.2.2.1.length ≤ 1000000000000
theorem Kla.s {p : Bxa} (h : Kla p) : Zfa p := ⟨by have := h.o; omega, by have := h.w; omega⟩
theorem Kla.b {p : Bxa} (h : Kla p) : Hqb p := ⟨h.o, h.w⟩
theorem Yha (h : Qwa) : Tna (h, ()) = some (Zua h, ()) := by
  rw [Fxb]
  by_cases h0 : 0 ≤ h.1
  · by_cases h1 : h.1 ≤ 1048576
    · cases h2 : Zca h.2.1 with
      | true =>
        simp (disch := omega) only [Nza, Afa, Hxa, Aaa, Aca, h2, Zua, h0, h1, decide_true, Bool.true_and]
      | false =>
        simp (disch := omega) only [Nza, Afa, Hxa, Aaa, Aea, h2, Zua, Bool.false_and, Bool.and_false]
    · simp (disch := omega) only [Nza, Afa, Aia, Aea, Zua, h1, decide_false, Bool.and_false, Bool.false_and]
  · simp (disch := omega) only [Nza, Afa, Aia, Aea, Zua, h0, decide_false, Bool.false_and]
theorem Fhb (p : Bxa) (h : Kla p) : Cba (p, ()) = some (Hga p, ()) := by
  rw [Poa]
  have := h.n
  cases hn : Hua p.2.1 with
  | true => simp (disch := omega) only [Fra, Cfa, Aaa, hn, Aca, Uva, Hga, Bool.true_and]
  | false => simp (disch := omega) only [Fra, Cfa, Aaa, hn, Aea, Uva, Hga, Bool.false_and]
theorem Ivb (p : Bxa) (h : Kla p) : Cza (p, ()) = some (Edb p, ()) := by
  rw [Ssa]
  have h1 := h.o
  have h2 := h.w
  have hw : IntKind.wrap .i64 ((p.2.2.2.1.2.1.length : Int) + (p.2.2.2.1.2.2.1.length : Int)) = ((p.2.2.2.1.2.1.length + p.2.2.2.1.2.2.1.length : Nat) : Int) := by rw [Bfa (by omega) (by omega)]; omega
  have hd : decide (((p.2.2.2.1.2.1.length + p.2.2.2.1.2.2.1.length : Nat) : Int) = 0) = decide (p.2.2.2.1.2.1.length + p.2.2.2.1.2.2.1.length = 0) := decide_eq_decide.2 (by omega)
  by_cases h0 : p.2.2.2.1.1 = 0
  · simp only [Hqa, Bta, h0, decide_true, Aca, hw, hd, Edb, Bool.true_and]
  · simp only [Hqa, Bta, h0, decide_false, Aea, Edb, Bool.false_and]
theorem Hxb (p : Bxa) (h : Kla p) : Bva (p, ()) = some (Hga p && Edb p, ()) := by
  rw [Nua]
  have e1 := Fhb p h
  have e2 := Ivb p h
  unfold Iya
  rw [Cva, e1, e2]
  cases Hga p <;> rfl
theorem Yoa (p : Bxa) (h : Kla p) : Bqa (p, ()) = some (Hga p && Zua p.2.2.2.1, ()) := by
  rw [Mia]
  have e1 := Fhb p h
  have e2 := Yha p.2.2.2.1
  unfold Iia
  rw [Cva, Tqa, e1, e2]
  cases Hga p <;> rfl
theorem Jnb (p : Bxa) (h : Kla p) : Dea (p, ()) = some ((Hga p && Zua p.2.2.2.1) && decide (p.2.2.2.1.1 = 0), ()) := by
  rw [Pna]
  have e1 := Yoa p h
  unfold Jna
  rw [Cva, e1]
  simp only [Bta]
  cases (Hga p && Zua p.2.2.2.1) <;> rfl
theorem Hyb (p : Bxa) (h : Kla p) : Cua (p, ()) = some ((Hua p.2.1 && Hua p.2.2.1) && (decide (p.2.1 ≠ p.2.2.1) && Edb p), ()) := by
  rw [Nva]
  have h1 := h.n
  have h2 := h.t
  have e2 := Ivb p h
  unfold Iza
  rw [Cva, Cfa _ (by omega), Cfa _ (by omega), e2, Uva]
  by_cases hd : p.2.1 = p.2.2.1
  · cases Hua p.2.1 <;> cases Hua p.2.2.1 <;> simp [Aaa, jKa, hd]
  · cases Hua p.2.1 <;> cases Hua p.2.2.1 <;> simp [Aaa, jKa, hd]
theorem Ywa (p : Bxa) (h : Kla p) : Uga (p, ()) = some (Jga p, ()) := by
  rw [Gfb]
  unfold Dib
  simp only [Cva, Hxb p h, Hyb p h, Yoa p h, Jnb p h, Aaa]
  unfold Jga
  by_cases k0 : p.1 = 0
  · simp (disch := omega) only [Afa, k0, true_or, if_true]
  · by_cases k1 : p.1 = 1
    · simp (disch := omega) only [Afa, Aia, k1, or_true, if_true]
    · by_cases k2 : p.1 = 2
      · rw [if_neg (by omega), if_pos k2]
        simp (disch := omega) only [Afa, Aia]
      · by_cases k3 : p.1 = 3
        · rw [if_neg (by omega), if_neg k2, if_pos k3]
          simp (disch := omega) only [Afa, Aia]
        · by_cases k4 : p.1 = 4
          · rw [if_neg (by omega), if_neg k2, if_neg k3, if_pos k4]
            simp (disch := omega) only [Afa, Aia]
          · rw [if_neg (by omega), if_neg k2, if_neg k3, if_neg k4]
            by_cases kn : 0 ≤ p.1
            · simp (disch := omega) only [Afa, Aia]
            · simp (disch := omega) only [Afa, Aia]
def isAt (l : List Str) (at0 : Int) (old : List Str) : Bool := decide (0 ≤ at0) && decide ((l.drop at0.toNat).take old.length = old) && decide (at0 ≤ l.length)
def Psa (l : List Str) (h : Qwa) : List Str := l.take h.1.toNat ++ (h.2.2.1 ++ l.drop (h.1.toNat + h.2.1.length))
theorem Aab (l : List Str) (at0 : Int) (old : List Str) (h1 : l.length ≤ 1000000000000) (h2 : at0 ≤ 1048576) (h3 : old.length < 1000000000000000000) : Mka (l, at0, old, ()) = some (isAt l at0 old, ()) := by
  rw [Zza]
  unfold isAt
  by_cases c1 : 0 ≤ at0
  · by_cases c2 : at0 ≤ l.length
    · have hw1 : IntKind.wrap .i64 ((l.length : Int) - at0) = (l.length : Int) - at0 := Bfa (by omega) (by omega)
      have hw2 : IntKind.wrap .i64 (at0 + (old.length : Int)) = at0 + (old.length : Int) := Bfa (by omega) (by omega)
      by_cases c3 : (old.length : Int) ≤ (l.length : Int) - at0
      · have e : (at0 + (old.length : Int)).toNat - at0.toNat = old.length := by omega
        have hb : ((l.drop at0.toNat).take old.length).length < 4611686018427387903 := by rw [List.length_take]; omega
        simp (disch := omega) only [Ija, Aja, Afa, hw1, hw2, Aaa, e, Mna _ _ hb]
        simp [c1, c2]
      · have hne : ¬ ((l.drop at0.toNat).take old.length = old) := fun he => by
          have := congrArg List.length he
          rw [List.length_take, List.length_drop] at this
          omega
        simp (disch := omega) only [Ija, Aja, Afa, Aia, hw1]
        simp [hne]
    · simp (disch := omega) only [Ija, Aja, Afa, Aia]
      simp [c2]
  · simp (disch := omega) only [Ija, Aja, Afa, Aia]
    simp [c1]
theorem Ffb (l : List Str) (at0 : Int) (old : List Str) (h1 : l.length ≤ 1000000000000) (h2 : at0 ≤ 1048576) (h3 : old.length < 1000000000000000000) : Hnb (l, at0, old, ()) = some (isAt l at0 old, ()) := by
  rw [Kbb]
  simp only [Irb, Aab l at0 old h1 h2 h3, Aaa]
theorem Gkb (l : List Str) (h : Qwa) (h1 : l.length ≤ 100000000000) (h2 : h.1 ≤ 1048576) (h3 : h.2.1.length < 1000000000000000000) (h4 : h.2.2.1.length ≤ 100000000000) :
    Woa (l, h.1, h.2.1, h.2.2.1, ()) = some (if isAt l h.1 h.2.1 = true then Psa l h else [], isAt l h.1 h.2.1, ()) := by
  rw [Gjb]
  cases hc : isAt l h.1 h.2.1 with
  | false =>
    simp (disch := omega) only [Wza, Ffb l h.1 h.2.1 (by omega) h2 h3, Aaa, hc, Aoa, Aea, Bool.false_eq_true, if_false]
  | true =>
    have hc' := hc
    simp only [isAt, Bool.and_eq_true, decide_eq_true_eq] at hc'
    obtain ⟨⟨c1, c2⟩, c3⟩ := hc'
    have hl : h.1 + h.2.1.length ≤ l.length := by
      have := congrArg List.length c2
      rw [List.length_take, List.length_drop] at this
      omega
    have hw : IntKind.wrap .i64 (h.1 + (h.2.1.length : Int)) = h.1 + (h.2.1.length : Int) := Bfa (by omega) (by omega)
    have hn : (h.1 + (h.2.1.length : Int)).toNat = h.1.toNat + h.2.1.length := by omega
    have ht : (l.drop (h.1.toNat + h.2.1.length)).take (l.length - (h.1.toNat + h.2.1.length)) = l.drop (h.1.toNat + h.2.1.length) := List.take_of_length_le (by rw [List.length_drop]; omega)
    have eC := Hpb [l.take h.1.toNat, h.2.2.1, l.drop (h.1.toNat + h.2.1.length)] (by simp) (by simp; omega)
    simp (disch := omega) only [Wza, Ffb l h.1 h.2.1 (by omega) h2 h3, Aaa, hc, Aoa, Aca, Aja, Afa, if_true, hw, hn, ht, Nat.sub_zero, List.drop_zero, eC]
    simp [Psa]
theorem Yna {h : Qwa} (hm : Zua h = true) : 0 ≤ h.1 ∧ h.1 ≤ 1048576 ∧ h.2.1.length ≤ 200 ∧ h.2.2.1.length ≤ 200 := by
  simp only [Zua, Zca, Bool.and_eq_true, decide_eq_true_eq] at hm
  exact ⟨hm.1.1, hm.1.2, hm.2.1.1, hm.2.2.1⟩
theorem Cbb (l : List Str) (h : Qwa) (h1 : l.length ≤ 100000000000) : Qea (l, h, ()) = some (if Zua h = true ∧ isAt l h.1 h.2.1 = true then Psa l h else [], if Zua h = true then (if isAt l h.1 h.2.1 = true then 0 else 5) else 1, ()) := by
  rw [Cab]
  unfold Wta
  rw [Tqa, Yha]
  cases hm : Zua h with
  | false => simp only [Aaa, Aoa, Aea]; simp
  | true =>
    obtain ⟨a1, a2, a3, a4⟩ := Yna hm
    have eS := Gkb l h h1 a2 (by omega) (by omega)
    rw [eS]
    cases hc : isAt l h.1 h.2.1 with
    | false => simp only [Aaa, Aoa, Aea, Aca]; simp
    | true => simp only [Aaa, Aoa, Aea, Aca]; simp
def doP (t : Aga) (p : Bxa) : Option Aga :=
  if p.1 = 0 then (if (Aza t p.2.1).isSome then none else some (Nxa t p.2.1 []))
  else if p.1 = 1 then (if Aza t p.2.1 = some [] then some (Zda t p.2.1) else none)
  else if p.1 = 2 then (if (Aza t p.2.1).isSome = true ∧ (Aza t p.2.2.1).isSome = false then some (Nxa (Zda t p.2.1) p.2.2.1 ((Aza t p.2.1).getD [])) else none)
  else if p.1 = 3 then (if (Aza t p.2.1).isSome = true ∧ isAt ((Aza t p.2.1).getD []) p.2.2.2.1.1 p.2.2.2.1.2.1 = true then some (Nxa t p.2.1 (Psa ((Aza t p.2.1).getD []) p.2.2.2.1)) else none)
  else (if Aza t p.2.1 = some p.2.2.2.1.2.1 then some (Nxa t p.2.1 p.2.2.2.1.2.2.1) else none)
def Hma (t : Aga) (p : Bxa) : Aga × Int := if Jga p = true then (match doP t p with
  | some u => (u, 0)
  | none => ([], 5)) else ([], 1)
def Fit (n m : Nat) (t : Aga) : Prop := t.length ≤ n ∧ ∀ f ∈ t, f.2.1.length ≤ m
theorem Fit.wee {n m : Nat} {t : Aga} (h : Fit n m t) (hn : n ≤ 1000000000) (hm : m ≤ 1000000000) : Wee t := ⟨Nat.le_trans h.1 hn, fun f hf => Nat.le_trans (h.2 f hf) hm⟩
theorem Fit.get {n m : Nat} {t : Aga} (h : Fit n m t) (s : Str) : ((Aza t s).getD []).length ≤ m := by
  rw [Yea]
  split
  · rename_i hlt
    simp only [Option.getD_some]
    exact h.2 (t.getD (at_ t s) (ByteArray.empty, [], ())) (by rw [List.getD_eq_getElem?_getD, List.getElem?_eq_getElem hlt]; exact List.getElem_mem _)
  · simp
theorem Fit.put {n m : Nat} {t : Aga} (h : Fit n m t) (s : Str) {l : List Str} (hl : l.length ≤ m) : Fit (n + 1) m (Nxa t s l) := by
  refine ⟨Nat.le_trans (Myb t s l) (by have := h.1; omega), fun f hf => ?_⟩
  rcases Jxb hf with rfl | hf
  · exact hl
  · exact h.2 f hf
theorem Fit.del {n m : Nat} {t : Aga} (h : Fit n m t) (s : Str) : Fit n m (Zda t s) := ⟨Nat.le_trans (Mlb t s) h.1, fun f hf => h.2 f (Mmb hf)⟩
theorem Fit.mono {n m n' m' : Nat} {t : Aga} (h : Fit n m t) (hn : n ≤ n') (hm : m ≤ m') : Fit n' m' t := ⟨Nat.le_trans h.1 hn, fun f hf => Nat.le_trans (h.2 f hf) hm⟩
theorem Fkb (l : List Str) (h : Qwa) : (Psa l h).length ≤ l.length + h.2.2.1.length := by
  simp only [Psa, List.length_append, List.length_take, List.length_drop]; omega
theorem Qfa {p : Bxa} (h : Jga p = true) (h3 : p.1 = 3 ∨ p.1 = 4) : Zua p.2.2.2.1 = true := by
  unfold Jga at h
  rw [if_neg (by omega), if_neg (by omega)] at h
  split at h
  · simp only [Bool.and_eq_true] at h; exact h.2
  · split at h
    · simp only [Bool.and_eq_true] at h; exact h.1.2
    · cases h
theorem Bfb {p : Bxa} (h : Jga p = true) : 0 ≤ p.1 ∧ p.1 < 5 := by
  unfold Jga at h
  split at h
  · omega
  · split at h
    · omega
    · split at h
      · omega
      · split at h
        · omega
        · cases h
theorem Mob {n m : Nat} {t u : Aga} {p : Bxa} (h : Fit n m t) (hm : Jga p = true) (hd : doP t p = some u) : Fit (n + 1) (m + 200) u := by
  unfold doP at hd
  split at hd
  · split at hd
    · cases hd
    · cases hd; exact (h.mono (Nat.le_refl _) (by omega)).put _ (by simp)
  · split at hd
    · split at hd
      · cases hd; exact (h.del _).mono (by omega) (by omega)
      · cases hd
    · split at hd
      · split at hd
        · cases hd; exact ((h.del _).mono (Nat.le_refl _) (by omega)).put _ (by have := h.get p.2.1; omega)
        · cases hd
      · split at hd
        · rename_i h3
          have hh := Yna (Qfa hm (.inl h3))
          split at hd
          · cases hd; exact (h.mono (Nat.le_refl _) (by omega)).put _ (by have := Fkb ((Aza t p.2.1).getD []) p.2.2.2.1; have := h.get p.2.1; omega)
          · cases hd
        · rename_i h0 h1 h2 h3
          have hk := Bfb hm
          have hh := Yna (Qfa hm (.inr (by omega)))
          split at hd
          · cases hd; exact (h.mono (Nat.le_refl _) (by omega)).put _ (by omega)
          · cases hd
def Zea (o : Option Aga) : Aga × Int := match o with
  | some u => (u, 0)
  | none => ([], 5)
theorem Rcb {t : Aga} {p : Bxa} (h : p.1 = 0) : doP t p = if (Aza t p.2.1).isSome then none else some (Nxa t p.2.1 []) := by unfold doP; rw [if_pos h]
theorem Rdb {t : Aga} {p : Bxa} (h : p.1 = 1) : doP t p = if Aza t p.2.1 = some [] then some (Zda t p.2.1) else none := by unfold doP; rw [if_neg (by omega), if_pos h]
theorem Tfb {t : Aga} {p : Bxa} (h : p.1 = 2) : doP t p = if (Aza t p.2.1).isSome = true ∧ (Aza t p.2.2.1).isSome = false then some (Nxa (Zda t p.2.1) p.2.2.1 ((Aza t p.2.1).getD [])) else none := by unfold doP; rw [if_neg (by omega), if_neg (by omega), if_pos h]
theorem Reb {t : Aga} {p : Bxa} (h : p.1 = 3) : doP t p = if (Aza t p.2.1).isSome = true ∧ isAt ((Aza t p.2.1).getD []) p.2.2.2.1.1 p.2.2.2.1.2.1 = true then some (Nxa t p.2.1 (Psa ((Aza t p.2.1).getD []) p.2.2.2.1)) else none := by unfold doP; rw [if_neg (by omega), if_neg (by omega), if_neg (by omega), if_pos h]
theorem Tgb {t : Aga} {p : Bxa} (h : 4 ≤ p.1) : doP t p = if Aza t p.2.1 = some p.2.2.2.1.2.1 then some (Nxa t p.2.1 p.2.2.2.1.2.2.1) else none := by unfold doP; rw [if_neg (by omega), if_neg (by omega), if_neg (by omega), if_neg (by omega)]
theorem Qwb (t : Aga) (p : Bxa) (hw : Wee t) (k0 : p.1 = 0) : Gxa (p, t, ()) = some ((Zea (doP t p)).1, (Zea (doP t p)).2, ()) := by
  rw [Uia, Rcb k0]
  simp only [Msa, Eaa t p.2.1 hw, Aaa, Mpa t p.2.1 [] hw (by simp)]
  cases (Aza t p.2.1).isSome <;> rfl
theorem Tjb (t : Aga) (p : Bxa) (hw : Wee t) (k1 : p.1 = 1) : Iga (p, t, ()) = some ((Zea (doP t p)).1, (Zea (doP t p)).2, ()) := by
  rw [Uza, Rdb k1]
  simp only [Oba, Eaa t p.2.1 hw, Aaa, Sya t p.2.1 hw]
  cases hg : Aza t p.2.1 with
  | none => simp [jKa, Zea]
  | some l =>
    cases l with
    | nil => simp [jKa, Zea]
    | cons x l =>
      have h1 : ((((x :: l).length : Nat) : Int)) > 0 := by simp only [List.length_cons]; omega
      simp only [Option.getD_some, Option.isSome_some, Aoa, Aca]
      rw [Afa h1]
      simp [Zea]
theorem Mtb (t : Aga) (p : Bxa) (hw : Wee t) (hl : ((Aza t p.2.1).getD []).length ≤ 1000000000) (k2 : p.1 = 2) : Foa (p, t, ()) = some ((Zea (doP t p)).1, (Zea (doP t p)).2, ()) := by
  rw [Sta, Tfb k2]
  simp only [Lda, Eaa t p.2.1 hw, Eaa t p.2.2.1 hw, Aaa, Sya t p.2.1 hw, Mpa (Zda t p.2.1) p.2.2.1 ((Aza t p.2.1).getD []) (hw.del _) hl]
  cases (Aza t p.2.1).isSome <;> cases (Aza t p.2.2.1).isSome <;> simp [jKa, Zea]
theorem Ldb (t : Aga) (p : Bxa) (hw : Wee t) (hl : ((Aza t p.2.1).getD []).length ≤ 100000000) (k3 : p.1 = 3) (hm : Zua p.2.2.2.1 = true) : Eea (p, t, ()) = some ((Zea (doP t p)).1, (Zea (doP t p)).2, ()) := by
  have hs := Fkb ((Aza t p.2.1).getD []) p.2.2.2.1
  have ha := Yna hm
  have eH := Cbb ((Aza t p.2.1).getD []) p.2.2.2.1 (by omega)
  have eP := Mpa t p.2.1 (Psa ((Aza t p.2.1).getD []) p.2.2.2.1) hw (by omega)
  rw [Rba, Reb k3]
  simp only [Kra, Tqa, Eaa t p.2.1 hw, Aaa, eH, hm, true_and, if_true]
  cases hg : (Aza t p.2.1).isSome with
  | false => simp [jKa, Zea]
  | true =>
    cases hc : isAt ((Aza t p.2.1).getD []) p.2.2.2.1.1 p.2.2.2.1.2.1 with
    | false => simp [jKa, Zea]
    | true => simp [jKa, Zea, Aaa, eP]
theorem Rib (t : Aga) (p : Bxa) (hw : Wee t) (hl : ((Aza t p.2.1).getD []).length ≤ 100000000) (k4 : 4 ≤ p.1) (hm : p.2.2.2.1.2.2.1.length ≤ 1000000000) : Gya (p, t, ()) = some ((Zea (doP t p)).1, (Zea (doP t p)).2, ()) := by
  rw [Uja, Tgb k4]
  simp only [Mta, Eaa t p.2.1 hw, Aaa, Dda ((Aza t p.2.1).getD []) p.2.2.2.1.2.1 (by omega), Mpa t p.2.1 p.2.2.2.1.2.2.1 hw hm]
  cases hg : Aza t p.2.1 with
  | none => simp [jKa, Zea]
  | some l =>
    by_cases he : l = p.2.2.2.1.2.1
    · subst he; simp [jKa, Zea, Aaa]
    · simp [jKa, Zea, he]
theorem Thb {α : Type} (t : Ty) (u : t.den) (x y : Option α) : jKa (eqT t u u) x y = x := by rw [Qba]; rfl
theorem Asb {t : Aga} {p : Bxa} (h : Jga p = true) : Hma t p = Zea (doP t p) := by
  unfold Hma Zea
  rw [if_pos h]
theorem Cjb (t : Aga) (p : Bxa) (ht : Fit 1000000 100000000 t) (hp : Kla p) : Qia (t, p, ()) = some ((Hma t p).1, (Hma t p).2, ()) := by
  have hw := ht.wee (by omega) (by omega)
  have g := ht.get p.2.1
  rw [Cib]
  unfold Wwa
  simp only [Cva, Ywa p hp, Aaa, Thb, Aja]
  cases hm : Jga p with
  | false => simp [jKa, Hma, hm]
  | true =>
    have hk := Bfb hm
    rw [Asb hm]
    simp only [Aoa, Aca]
    by_cases k0 : p.1 = 0
    · rw [Afa (by omega), Qwb t p hw k0]; rfl
    · by_cases k1 : p.1 = 1
      · rw [Aia (by omega), Afa (by omega), Tjb t p hw k1]; rfl
      · by_cases k2 : p.1 = 2
        · rw [Aia (by omega), Aia (by omega), Afa (by omega), Mtb t p hw (by omega) k2]; rfl
        · by_cases k3 : p.1 = 3
          · rw [Aia (by omega), Aia (by omega), Aia (by omega), Afa (by omega), Ldb t p hw g k3 (Qfa hm (.inl k3))]; rfl
          · have ha := Yna (Qfa hm (.inr (by omega)))
            rw [Aia (by omega), Aia (by omega), Aia (by omega), Aia (by omega), Afa (by omega), Rib t p hw g (by omega) (by omega)]; rfl
def Ina : Aga → List Bxa → Aga × Int
  | t, [] => (t, 0)
  | t, p :: l => if (Hma t p).2 = 0 then Ina (Hma t p).1 l else ([], (Hma t p).2)
theorem Isb {t u : Aga} {p : Bxa} (h : Hma t p = (u, 0)) : Jga p = true ∧ doP t p = some u := by
  unfold Hma at h
  split at h
  · rename_i hm
    split at h
    · rename_i v hv
      have := (Prod.mk.inj h).1
      subst this
      exact ⟨hm, hv⟩
    · have := (Prod.mk.inj h).2
      simp at this
  · have := (Prod.mk.inj h).2
    simp at this
theorem Arb {n m : Nat} {t : Aga} {p : Bxa} (h : Fit n m t) (h0 : (Hma t p).2 = 0) : Fit (n + 1) (m + 200) (Hma t p).1 := by
  obtain ⟨h1, h2⟩ := Isb (t := t) (p := p) (u := (Hma t p).1) (by rw [← h0])
  exact Mob h h1 h2
theorem Nca (l : List Bxa) (hl : l.length ≤ 100000) (hp : ∀ p ∈ l, Kla p) : ∀ (r : List Bxa) (i : Nat) (t : Aga), l.drop i = r → i ≤ l.length → Fit (100000 + i) (10000000 + i * 200) t →
    ∃ y, Goa (t, l, (l.length : Int), (i : Int), ()) = some y ∧ (match y with
      | .inl z => Ina t r = ([], z.2.2.2.2.2.2.2.1) ∧ z.2.2.2.2.2.2.2.1 ≠ 0
      | .inr z => Ina t r = (z.1, 0))
  | [], i, t, h, hi, hf => by
    have := Ada h hi
    subst this
    rw [Nba]
    simp (disch := omega) only [Hya, Afa, Aia]
    exact ⟨_, rfl, rfl⟩
  | p :: r, i, t, h, hi, hf => by
    obtain ⟨h1, h2, h3, h4⟩ := Aba h
    have eA := Cjb t p (hf.mono (by omega) (by omega)) (hp p h4)
    rw [Nba]
    by_cases h0 : (Hma t p).2 = 0
    · have hf2 := Arb hf h0
      obtain ⟨y, e, q⟩ := Nca l hl hp r (i + 1) (Hma t p).1 h3 (by omega) (hf2.mono (by omega) (by omega))
      refine ⟨y, ?_, ?_⟩
      · have hne : ((Hma t p).2 != 0) = false := by simp [h0]
        simp (disch := omega) only [Hya, Afa, Aja, Int.toNat_natCast, h2, Cva, eA, Aaa, hne, Aea, Hla, Option.bind_some, Sum.elim_inl, e]
      · cases y with
        | inl z => simp only [Ina, if_pos h0]; exact q
        | inr z => simp only [Ina, if_pos h0]; exact q
    · have hne : ((Hma t p).2 != 0) = true := by simp [h0]
      simp (disch := omega) only [Hya, Afa, Aja, Int.toNat_natCast, h2, Cva, eA, Aaa, hne, Aca, Option.bind_some, Sum.elim_inr]
      refine ⟨_, rfl, ?_⟩
      exact ⟨by simp only [Ina, if_neg h0], h0⟩
theorem Bub (t : Aga) (l : List Bxa) (ht : Fit 100000 10000000 t) (hl : l.length ≤ 100000) (hp : ∀ p ∈ l, Kla p) : Qca (t, l, ()) = some ((Ina t l).1, (Ina t l).2, ()) := by
  obtain ⟨y, e, q⟩ := Nca l hl hp l 0 t rfl (by omega) (ht.mono (by omega) (by omega))
  simp only [Int.natCast_zero] at e
  rw [Btb]
  cases y with
  | inl z => simp only at q; simp only [Sma, e, Aaa, Hia, q.1]
  | inr z => simp only at q; simp only [Sma, e, Aaa, Fpa, q]
abbrev eS : Str := ByteArray.empty
def AlP (a b : List Str) : List Frb → Nat → Nat → Prop
  | [], i, j => i < a.length → j < b.length → a.getD i eS ≠ b.getD j eS
  | p :: ps, i, j => ∃ k q : Nat, p = ((k : Int), (q : Int), ()) ∧ i ≤ k ∧ k < a.length ∧ j ≤ q ∧ q < b.length ∧ a.getD k eS = b.getD q eS ∧ (k ≠ i ∨ q ≠ j → a.getD i eS ≠ b.getD j eS) ∧ AlP a b ps (k + 1) (q + 1)
theorem AlP.left {a b : List Str} {ps : List Frb} {i j : Nat} (h : AlP a b ps (i + 1) j) (hn : a.getD i eS ≠ b.getD j eS) : AlP a b ps i j := by
  cases ps with
  | nil => exact fun _ _ => hn
  | cons p ps =>
    obtain ⟨k, q, h1, h2, h3, h4, h5, h6, _, h8⟩ := h
    exact ⟨k, q, h1, by omega, h3, h4, h5, h6, fun _ => hn, h8⟩
theorem AlP.right {a b : List Str} {ps : List Frb} {i j : Nat} (h : AlP a b ps i (j + 1)) (hn : a.getD i eS ≠ b.getD j eS) : AlP a b ps i j := by
  cases ps with
  | nil => exact fun _ _ => hn
  | cons p ps =>
    obtain ⟨k, q, h1, h2, h3, h4, h5, h6, _, h8⟩ := h
    exact ⟨k, q, h1, h2, h3, by omega, h5, h6, fun _ => hn, h8⟩
theorem Lcb (a b : List Str) : ∀ (n i j : Nat), (a.length - i) + (b.length - j) ≤ n → AlP a b (Cya (a.drop i) (b.drop j) i j) i j := by
  intro n
  induction n with
  | zero =>
    intro i j h
    rw [List.drop_eq_nil_of_le (by omega), Hva]
    intro h1 h2
    omega
  | succ n ih =>
    intro i j h
    by_cases hi : i < a.length
    · by_cases hj : j < b.length
      · rw [Eub hi hj]
        split
        · rename_i he
          exact ⟨i, j, rfl, Nat.le_refl _, hi, Nat.le_refl _, hj, he, fun h => by omega, ih (i + 1) (j + 1) (by omega)⟩
        · rename_i he
          split
          · exact (ih (i + 1) j (by omega)).left he
          · exact (ih i (j + 1) (by omega)).right he
      · rw [show b.drop j = [] from List.drop_eq_nil_of_le (by omega), Mga]
        intro h1 h2; omega
    · rw [List.drop_eq_nil_of_le (by omega), Hva]
      intro h1 h2; omega
def Stb : List Ihb → Prop
  | e :: e' :: l => e.1 + e.2.1 < e'.1 ∧ Stb (e' :: l)
  | _ => True
theorem Stb.cons {e : Ihb} {l : List Ihb} (h : Stb l) (h1 : ∀ e' ∈ l, e.1 + e.2.1 < e'.1) : Stb (e :: l) := by
  cases l with
  | nil => trivial
  | cons e' l => exact ⟨h1 e' List.mem_cons_self, h⟩
theorem Eqb {a b : Aga} {s : Str} (h : s ∈ Nha a b) : ((Aza a s).isSome || (Aza b s).isSome) = true := by
  have : s ∈ (a ++ b).map (·.1) := by
    rw [← Yqa] at h
    have := (Lia ((a ++ b).map (·.1)) [] List.Pairwise.nil).2 s
    rw [this] at h
    simpa using h
  obtain ⟨f, hf, rfl⟩ := List.mem_map.1 this
  rcases List.mem_append.1 hf with hf | hf
  · rw [Bxb hf]; rfl
  · rw [Bxb hf, Bool.or_true]
theorem Gdb (a b : Aga) : (Nha a b).Nodup := by
  rw [← Yqa]
  have h := (Lia ((a ++ b).map (·.1)) [] List.Pairwise.nil).1
  exact List.Pairwise.imp (fun {x y} hxy => Nga hxy) h
def Yja : List Str → List Qwa → List Str → Prop
  | l, [], m => l = m
  | l, h :: hs, m => isAt l h.1 h.2.1 = true ∧ Yja (Psa l h) hs m
theorem Flb {b : List Str} {q : Nat} (h : q < b.length) : b.take (q + 1) = b.take q ++ [b.getD q eS] := by
  rw [List.take_add_one, List.getElem?_eq_getElem h, List.getD_eq_getElem?_getD, List.getElem?_eq_getElem h]; rfl
theorem Izb (a b : List Str) (i j k q : Nat) (hi : i ≤ k) (hk : k ≤ a.length) (hj : j ≤ q) (hq : q ≤ b.length) :
    isAt (b.take j ++ a.drop i) (j : Int) ((a.drop i).take (k - i)) = true ∧ Psa (b.take j ++ a.drop i) ((j : Int), (a.drop i).take (k - i), (b.drop j).take (q - j), ()) = b.take q ++ a.drop k := by
  have hl : (b.take j).length = j := by rw [List.length_take]; omega
  have hl2 : ((a.drop i).take (k - i)).length = k - i := by rw [List.length_take, List.length_drop]; omega
  constructor
  · simp only [isAt, Bool.and_eq_true, decide_eq_true_eq]
    refine ⟨⟨by omega, ?_⟩, ?_⟩
    · rw [Int.toNat_natCast, List.drop_left' hl, hl2]
    · rw [List.length_append, hl]; omega
  · simp only [Psa, Int.toNat_natCast, hl2]
    have e1 : (b.take j ++ a.drop i).take j = b.take j := by
      rw [List.take_append_of_le_length (by omega), List.take_of_length_le (by omega)]
    have e2 : (b.take j ++ a.drop i).drop (j + (k - i)) = a.drop k := by
      rw [List.drop_append, hl, List.drop_eq_nil_of_le (by omega), List.nil_append, List.drop_drop]
      congr 1; omega
    have e3 : b.take j ++ (b.drop j).take (q - j) = b.take q := by
      have := List.take_append_drop j (b.take q)
      rw [List.take_take, Nat.min_eq_left hj, List.drop_take] at this
      exact this
    rw [e1, e2, ← List.append_assoc, e3]
theorem Hdb (a b : List Str) : ∀ (ps : List Frb) (i j : Nat), i ≤ a.length → j ≤ b.length → AlP a b ps i j →
    Yja (b.take j ++ a.drop i) (Jxa a (Cra b (ps ++ [((a.length : Int), (b.length : Int), ())]) i j) ((j : Int) - i)) b
  | [], i, j, hi, hj, h => by
    rw [List.nil_append, Cra, Cra, List.append_nil]
    have hE := Izb a b i j a.length b.length hi (Nat.le_refl _) hj (Nat.le_refl _)
    split
    · rw [Jxa, Jxa]
      simp only at hE ⊢
      have e1 : ((i : Int) + ((j : Int) - (i : Int))) = (j : Int) := by omega
      have e2 : ((i : Int) + ((a.length : Int) - (i : Int))).toNat - (i : Int).toNat = a.length - i := by omega
      have e3 : (b.length : Int).toNat - (j : Int).toNat = b.length - j := by omega
      rw [e1, e2, e3, Int.toNat_natCast, Int.toNat_natCast]
      refine ⟨hE.1, ?_⟩
      rw [hE.2]
      simp [Yja]
    · rename_i hc
      simp only at hc
      rw [Jxa]
      show b.take j ++ a.drop i = b
      rw [List.take_of_length_le (by omega), List.drop_eq_nil_of_le (by omega), List.append_nil]
  | p :: ps, i, j, hi, hj, h => by
    obtain ⟨k, q, rfl, h2, h3, h4, h5, h6, h7, h8⟩ := h
    have ih := Hdb a b ps (k + 1) (q + 1) (by omega) (by omega) h8
    have hE := Izb a b i j k q h2 (by omega) h4 (by omega)
    have hsame : b.take q ++ a.drop k = b.take (q + 1) ++ a.drop (k + 1) := by
      rw [Flb h5, Yca h3, h6, List.append_assoc]; rfl
    simp only [Int.natCast_add, Int.natCast_one] at ih
    rw [List.cons_append, Cra]
    split
    · rw [List.singleton_append, Jxa]
      simp only at hE ⊢
      have e1 : ((i : Int) + ((j : Int) - (i : Int))) = (j : Int) := by omega
      have e2 : ((i : Int) + ((k : Int) - (i : Int))).toNat - (i : Int).toNat = k - i := by omega
      have e3 : (q : Int).toNat - (j : Int).toNat = q - j := by omega
      have e4 : ((b.drop j).take (q - j)).length = q - j := by rw [List.length_take, List.length_drop]; omega
      have e5 : ((j : Int) - (i : Int) + ((q - j : Nat) : Int) - ((k : Int) - (i : Int))) = ((q : Int) + 1 - ((k : Int) + 1)) := by omega
      rw [e1, e2, e3, Int.toNat_natCast, Int.toNat_natCast, e4, e5]
      refine ⟨hE.1, ?_⟩
      rw [hE.2, hsame]
      exact ih
    · rename_i hc
      simp only at hc
      have hk : k = i := by omega
      have hq : q = j := by omega
      subst hk; subst hq
      rw [List.nil_append]
      have e5 : ((q : Int) - (k : Int)) = ((q : Int) + 1 - ((k : Int) + 1)) := by omega
      rw [e5, hsame]
      exact ih
theorem Knb (a b : List Str) : Yja a (Nea a b) b := by
  have hal := Lcb a b _ 0 0 (Nat.le_refl _)
  simp only [List.drop_zero, Int.natCast_zero] at hal
  have := Hdb a b _ 0 0 (by omega) (by omega) hal
  simp only [List.take_zero, List.drop_zero, List.nil_append, Int.natCast_zero, Int.sub_self] at this
  exact this
theorem Hab {l m : List Str} (h : Zca l = true) (hs : ∀ x ∈ m, x ∈ l) (hl : m.length ≤ l.length) : Zca m = true := by
  simp only [Zca, Bool.and_eq_true, decide_eq_true_eq, List.all_eq_true] at h ⊢
  exact ⟨by omega, fun x hx => h.2 x (hs x hx)⟩
theorem Spa {n m : Nat} {a b : List Str} (hb : b.length = m) : ∀ {ps : List Frb} {i j : Int} {x : Int}, 0 ≤ i → 0 ≤ j → x = j - i → OkE n m ps i j → ∀ h ∈ Jxa a (Cra b ps i j) x, 0 ≤ h.1 ∧ h.1 ≤ m ∧ (∀ s ∈ h.2.1, s ∈ a) ∧ (∀ s ∈ h.2.2.1, s ∈ b) ∧ h.2.2.1.length ≤ b.length ∧ h.2.1.length ≤ a.length
  | [], _, _, _, _, _, _, _, h, hm => by simp [Cra, Jxa] at hm
  | p :: ps, i, j, x, hi, hj, hx, ho, h, hm => by
    obtain ⟨o1, o2, o3, o4, o5⟩ := ho
    rw [Cra] at hm
    split at hm
    · rw [List.singleton_append, Jxa] at hm
      rcases List.mem_cons.1 hm with rfl | hm
      · refine ⟨by simp only; omega, by simp only; omega, fun s hs => List.mem_of_mem_drop (List.mem_of_mem_take hs), fun s hs => List.mem_of_mem_drop (List.mem_of_mem_take hs), ?_, ?_⟩
        · simp only [List.length_take, List.length_drop]; omega
        · simp only [List.length_take, List.length_drop]; omega
      · refine Spa hb (by omega) (by omega) ?_ o5 h hm
        simp only [List.length_take, List.length_drop]
        omega
    · rename_i hc
      rw [List.nil_append] at hm
      exact Spa hb (by omega) (by omega) (by omega) o5 h hm
theorem Hvb {a b : List Str} (ha : Zca a = true) (hb : Zca b = true) {h : Qwa} (hm : h ∈ Nea a b) : Zua h = true := by
  obtain ⟨h1, h2, h3, h4, h5, h6⟩ := Spa (n := a.length) rfl (Int.le_refl 0) (Int.le_refl 0) rfl (Lta a.length b.length a b 0 0 (by omega) (by omega)) h hm
  have hb' := hb
  simp only [Zca, Bool.and_eq_true, decide_eq_true_eq] at hb'
  simp only [Zua, Bool.and_eq_true, decide_eq_true_eq]
  exact ⟨⟨h1, by omega⟩, Hab ha h3 h6, Hab hb h4 h5⟩
theorem Gzb {t : Aga} (h : Raa t = true) (s : Str) : Zca ((Aza t s).getD []) = true := by
  cases hg : Aza t s with
  | none => rfl
  | some l => exact ((Tta.1 h).1 _ (Fwb hg)).2
theorem Hjb {t : Aga} (h : Raa t = true) {s : Str} (hs : (Aza t s).isSome = true) : Hua s = true := by
  cases hg : Aza t s with
  | none => rw [hg] at hs; cases hs
  | some l => exact ((Tta.1 h).1 _ (Fwb hg)).1
theorem Bsb {t u : Aga} {p : Bxa} {l : List Bxa} (hm : Jga p = true) (hd : doP t p = some u) : Ina t (p :: l) = Ina u l := by
  have : Hma t p = (u, 0) := by rw [Asb hm, hd]; rfl
  simp only [Ina, this, if_true]
theorem Bhb (s : Str) (hs : Hua s = true) : ∀ (hks : List Qwa) (t : Aga) (l m : List Str) (rest : List Bxa), (∀ h ∈ hks, Zua h = true) → RT t → Aza t s = some l → Yja l hks m →
    ∃ u, Ina t (Ifa s hks ++ rest) = Ina u rest ∧ RT u ∧ Aza u s = some m ∧ ∀ x, x ≠ s → Aza u x = Aza t x
  | [], t, l, m, rest, _, hr, hg, ho => ⟨t, rfl, hr, by rw [hg]; exact congrArg some ho, fun _ _ => rfl⟩
  | h :: hks, t, l, m, rest, hm, hr, hg, ho => by
    obtain ⟨o1, o2⟩ := ho
    have hp : Jga (3, s, ByteArray.empty, h, ()) = true := by
      simp [Jga, Hga, hs, hm h List.mem_cons_self]
    have hd : doP t (3, s, ByteArray.empty, h, ()) = some (Nxa t s (Psa l h)) := by
      rw [Reb rfl]
      simp only [hg, Option.isSome_some, Option.getD_some, o1, and_self, if_true]
    have hr2 := Vaa s (Psa l h) hr
    have hg2 : Aza (Nxa t s (Psa l h)) s = some (Psa l h) := by rw [Tha _ _ _ hr, if_pos rfl]
    obtain ⟨u, e1, e2, e3, e4⟩ := Bhb s hs hks (Nxa t s (Psa l h)) (Psa l h) m rest (fun h' hh => hm h' (List.mem_cons_of_mem _ hh)) hr2 hg2 o2
    refine ⟨u, ?_, e2, e3, fun x hx => by rw [e4 x hx, Tha _ _ _ hr, if_neg hx]⟩
    show Ina t ((3, s, ByteArray.empty, h, ()) :: (Ifa s hks ++ rest)) = _
    rw [Bsb hp hd, e1]
theorem Hcb {k : Int} {s : Str} (hk : k = 0 ∨ k = 1) (hs : Hua s = true) : Jga (k, s, ByteArray.empty, noH, ()) = true := by
  rcases hk with rfl | rfl <;> simp [Jga, Hga, Edb, hs]
theorem Mqb {a b : Aga} (ma : Raa a = true) (mb : Raa b = true) {s : Str} (hs : ((Aza a s).isSome || (Aza b s).isSome) = true) (t : Aga) (rest : List Bxa) (hr : RT t) (hg : Aza t s = Aza a s) :
    ∃ u, Ina t (Ola a b s ++ rest) = Ina u rest ∧ RT u ∧ Aza u s = Aza b s ∧ ∀ x, x ≠ s → Aza u x = Aza t x := by
  have hn : Hua s = true := by
    cases hA : (Aza a s).isSome with
    | true => exact Hjb ma hA
    | false => rw [hA, Bool.false_or] at hs; exact Hjb mb hs
  have hmay : ∀ h ∈ Nea ((Aza a s).getD []) ((Aza b s).getD []), Zua h = true := fun h hh => Hvb (Gzb ma s) (Gzb mb s) hh
  have h1 : ∃ t1, Ina t (Ola a b s ++ rest) = Ina t1 (Ifa s (Nea ((Aza a s).getD []) ((Aza b s).getD [])) ++ ((if (Aza b s).isSome then [] else [(1, s, ByteArray.empty, noH, ())]) ++ rest)) ∧ RT t1 ∧ Aza t1 s = some ((Aza a s).getD []) ∧ ∀ x, x ≠ s → Aza t1 x = Aza t x := by
    unfold Ola
    cases hA : Aza a s with
    | some l =>
      refine ⟨t, ?_, hr, by rw [hg, hA]; rfl, fun _ _ => rfl⟩
      simp only [Option.isSome_some, if_true, List.nil_append, List.append_assoc]
    | none =>
      refine ⟨Nxa t s [], ?_, Vaa s [] hr, by rw [Tha _ _ _ hr, if_pos rfl]; rfl, fun x hx => by rw [Tha _ _ _ hr, if_neg hx]⟩
      have hd : doP t (0, s, ByteArray.empty, noH, ()) = some (Nxa t s []) := by
        rw [Rcb rfl]
        simp only [hg, hA, Option.isSome_none, Bool.false_eq_true, if_false]
      have hf := fun l => Bsb (l := l) (Hcb (.inl rfl) hn) hd
      simp only [Option.isSome_none, Bool.false_eq_true, if_false, List.append_assoc, List.singleton_append]
      exact (hf _).trans (congrArg (Ina (Nxa t s [])) (List.append_assoc _ _ _))
  obtain ⟨t1, e1, r1, g1, x1⟩ := h1
  obtain ⟨t2, e2, r2, g2, x2⟩ := Bhb s hn _ t1 _ _ ((if (Aza b s).isSome then [] else [(1, s, ByteArray.empty, noH, ())]) ++ rest) hmay r1 g1 (Knb ((Aza a s).getD []) ((Aza b s).getD []))
  cases hB : Aza b s with
  | some l =>
    refine ⟨t2, ?_, r2, by rw [g2, hB]; rfl, fun x hx => by rw [x2 x hx, x1 x hx]⟩
    rw [e1, e2, hB]
    rfl
  | none =>
    rw [hB] at g2
    refine ⟨Zda t2 s, ?_, Hsb s r2, by rw [Bzb _ _ r2, if_pos rfl], fun x hx => by rw [Bzb _ _ r2, if_neg hx, x2 x hx, x1 x hx]⟩
    rw [e1, e2, hB]
    simp only [Option.isSome_none, Bool.false_eq_true, if_false, List.singleton_append]
    refine Bsb (Hcb (.inr rfl) hn) ?_
    rw [Rdb rfl]
    simp only [g2, Option.getD_none, if_true]
theorem Hkb {a b : Aga} (ma : Raa a = true) (mb : Raa b = true) : ∀ (ns : List Str) (t : Aga) (rest : List Bxa), ns.Nodup → (∀ s ∈ ns, ((Aza a s).isSome || (Aza b s).isSome) = true) → RT t → (∀ s ∈ ns, Aza t s = Aza a s) →
    ∃ u, Ina t (ns.flatMap (Ola a b) ++ rest) = Ina u rest ∧ RT u ∧ (∀ s ∈ ns, Aza u s = Aza b s) ∧ ∀ x, x ∉ ns → Aza u x = Aza t x
  | [], t, rest, _, _, hr, _ => ⟨t, rfl, hr, fun s hs => by simp at hs, fun _ _ => rfl⟩
  | s :: ns, t, rest, hn, hs, hr, hg => by
    obtain ⟨n1, n2⟩ := List.nodup_cons.1 hn
    obtain ⟨t1, e1, r1, g1, x1⟩ := Mqb ma mb (hs s List.mem_cons_self) t (ns.flatMap (Ola a b) ++ rest) hr (hg s List.mem_cons_self)
    obtain ⟨t2, e2, r2, g2, x2⟩ := Hkb ma mb ns t1 rest n2 (fun x hx => hs x (List.mem_cons_of_mem _ hx)) r1 (fun x hx => by
      rw [x1 x (fun he => n1 (he ▸ hx))]; exact hg x (List.mem_cons_of_mem _ hx))
    refine ⟨t2, by rw [List.flatMap_cons, List.append_assoc, e1, e2], r2, fun x hx => ?_, fun x hx => ?_⟩
    · rcases List.mem_cons.1 hx with rfl | hx
      · rw [x2 x n1, g1]
      · exact g2 x hx
    · rw [x2 x (fun h => hx (List.mem_cons_of_mem _ h)), x1 x (fun h => hx (h ▸ List.mem_cons_self))]
theorem Epb {a b : Aga} {s : Str} (h : s ∉ Nha a b) : Aza a s = none ∧ Aza b s = none := by
  have hm : ∀ f, f ∈ a ∨ f ∈ b → f.1 ≠ s := fun f hf he => by
    apply h
    rw [← Yqa, (Lia ((a ++ b).map (·.1)) [] List.Pairwise.nil).2 s]
    exact .inr (List.mem_map.2 ⟨f, List.mem_append.2 hf, he⟩)
  exact ⟨Eva fun f hf => hm f (.inl hf), Eva fun f hf => hm f (.inr hf)⟩
theorem Mub {a b : Aga} (ma : Raa a = true) (mb : Raa b = true) (rest : List Bxa) : Ina a (Erb a b ++ rest) = Ina b rest := by
  obtain ⟨u, e, r, g, x⟩ := Hkb ma mb (Nha a b) a rest (Gdb a b) (fun s hs => Eqb hs) (Bgb ma) fun _ _ => rfl
  have : u = b := Hob r (Bgb mb) fun s => by
    by_cases h : s ∈ Nha a b
    · exact g s h
    · rw [x s h, (Epb h).1, (Epb h).2]
  rw [Erb, e, this]
theorem Jqb {s : Str} (h : Hua s = true) : s.size ≤ 16 := by
  simp only [Hua, Bool.and_eq_true, decide_eq_true_eq] at h
  exact h.1.2
theorem Bbb (b : List Str) (n : Int) : ∀ (l : List Str) (i : Int), n = i + l.length → Cra b (Cya l l i i ++ [(n, n, ())]) i i = []
  | [], i, h => by
    rw [Hva, List.nil_append, Cra, Cra, if_neg (by simp at h; simp only; omega)]; rfl
  | x :: xs, i, h => by
    rw [Mfa, if_pos rfl, List.cons_append, Cra, if_neg (by simp only; omega), List.nil_append]
    exact Bbb b n xs (i + 1) (by rw [h, List.length_cons]; omega)
theorem Hwb (l : List Str) : Nea l l = [] := by
  rw [Nea, Vqa, Bbb l _ l 0 (by omega)]
  rfl
theorem Bwb (p : Bxa) (h : Kla p) : Qda (p, ()) = some (!Jga p, ()) := by
  rw [Bvb]
  simp only [Wsa, Cva, Ywa p h, Aaa]
theorem Dza (l : List Bxa) (hb : l.length < 4611686018427387903) (hw : ∀ p ∈ l, Kla p) : ∀ (r : List Bxa) (i : Nat), l.drop i = r → i ≤ l.length →
    ∃ y, Awa (l, (l.length : Int), (i : Int), ()) = some y ∧ (match y with
      | .inl z => r.all Jga = false ∧ 0 ≤ z.2.1
      | .inr _ => r.all Jga = true)
  | [], i, h, hi => by
    have := Ada h hi
    subst this
    rw [Dya]
    simp (disch := omega) only [Bma, PP]
    exact ⟨_, rfl, rfl⟩
  | p :: r, i, h, hi => by
    obtain ⟨h1, h2, h3, h4⟩ := Aba h
    have e := Bwb p (hw p h4)
    rw [Dya]
    cases hm : Jga p with
    | false =>
      rw [hm] at e
      simp (disch := omega) only [Bma, PP, h2, Cva, e, Bool.not_false]
      refine ⟨_, rfl, ?_⟩
      exact ⟨by rw [List.all_cons, hm, Bool.false_and], by simp only; omega⟩
    | true =>
      rw [hm] at e
      simp (disch := omega) only [Bma, PP, h2, Cva, e, Bool.not_true]
      obtain ⟨y, e', q⟩ := Dza l hb hw r (i + 1) h3 (by omega)
      refine ⟨y, e', ?_⟩
      cases y with
      | inl z => simp only [List.all_cons, hm, Bool.true_and] at q ⊢; exact q
      | inr z => simp only [List.all_cons, hm, Bool.true_and] at q ⊢; exact q
theorem Fvb (l : List Bxa) (hb : l.length < 4611686018427387903) (hw : ∀ p ∈ l, Kla p) : Tfa (l, ()) = some (l.all Jga, ()) := by
  obtain ⟨y, e, q⟩ := Dza l hb hw l 0 rfl (by omega)
  simp only [Int.natCast_zero] at e
  rw [Fub]
  cases y with
  | inl z =>
    simp only at q
    simp (disch := omega) only [Wra, PP, e, q.1]
    rw [decide_eq_true q.2]; rfl
  | inr z =>
    simp only at q
    simp (disch := omega) only [Wra, PP, e, q]
theorem Rjb {p : Bxa} (h : Kla p) : Kla (Zaa p) := by
  unfold Zaa
  split
  · exact ⟨h.n, h.t, h.o, h.w⟩
  · split
    · exact ⟨h.n, h.t, h.o, h.w⟩
    · split
      · exact ⟨h.t, h.n, h.o, h.w⟩
      · exact ⟨h.n, h.t, h.w, h.o⟩
theorem Nfb {l : List Bxa} (h : ∀ p ∈ l, Kla p) : ∀ p ∈ Usa l, Kla p := fun p hp => by
  simp only [Usa, List.mem_map, List.mem_reverse] at hp
  obtain ⟨q, hq, rfl⟩ := hp
  exact Rjb (h q hq)
theorem Kdb (l : List Bxa) : (Usa l).length = l.length := by simp [Usa]
theorem Jsb (a : Aga) : Erb a a = [] := by
  unfold Erb
  rw [List.flatMap_eq_nil_iff]
  intro s hs
  have h := Eqb hs
  rw [Bool.or_self] at h
  simp only [Ola, h, if_true, Hwb, Ifa, List.map_nil, List.append_nil]
theorem Jtb {a b : Aga} (ma : Raa a = true) (mb : Raa b = true) : Erb a b = [] ↔ a = b := by
  constructor
  · intro h
    have := Mub ma mb []
    rw [h] at this
    exact (Prod.mk.inj this).1
  · rintro rfl; exact Jsb a
abbrev Id := Int × Int × Unit
abbrev Ama := Id × List Id × Str × List Bxa × Unit
abbrev Sla := Int × List Ama × Aga × Aga × Int × Unit
instance (s : Str) (l : List Str) : Decidable (s ∈ l) := decidable_of_iff (Gcb s l = true) (Wla s l)
inductive Khb {α : Type} (R : α → α → Prop) : List α → List α → Prop
  | nil : Khb R [] []
  | cons {x y : α} {l m : List α} : R x y → Khb R l m → Khb R (x :: l) (y :: m)
def Rkb (p : Ama) (l : List Bxa) : Ama := (p.1, p.2.1, p.2.2.1, l, ())
def Kqb (a b : Id) : Bool := decide (a.1 < b.1) || (decide (a.1 = b.1) && decide (a.2.1 < b.2.1))
def Ksb (x : Id) : Bool := decide (0 ≤ x.1) && decide (x.1 < 8) && decide (1 ≤ x.2.1) && decide (x.2.1 ≤ 1048576)
def Yta : List Id → Bool
  | a :: b :: l => Kqb a b && Yta (b :: l)
  | _ => true
def Ktb (p : Ama) : Bool :=
  Ksb p.1 && decide (p.2.1.length ≤ 60) && p.2.1.all (fun x => Ksb x && decide (x ≠ p.1)) && Yta p.2.1 && Ifb p.2.2.1 && decide (p.2.2.2.1.length ≤ 200) && p.2.2.2.1.all Jga
def Kjb (l : List Ama) : List Bxa := l.flatMap fun p => p.2.2.2.1
def Rga (t : Aga) (l : List Ama) : Aga × Int := Ina t (Kjb l)
def Uwa (l : List Ama) (id : Id) : Option Nat := l.findIdx? fun p => decide (p.1 = id)
def Fpb : List Id → List Ama → Int → Int → Bool
  | _, [], _, _ => true
  | ids, p :: l, who, made => Ktb p && decide (p.1 ∉ ids) && !(decide (p.1.1 = who) && decide (made < p.1.2.1)) && Fpb (ids ++ [p.1]) l who made
def Ypa (r : Sla) : Bool :=
  decide (0 ≤ r.1) && decide (r.1 < 8) && decide (r.2.1.length ≤ 60) && decide (0 ≤ r.2.2.2.2.1) && decide (r.2.2.2.2.1 ≤ 1048576) && Fpb [] r.2.1 r.1 r.2.2.2.2.1
    && decide ((Rga [] r.2.1).2 = 0) && decide ((Rga [] r.2.1).1 = r.2.2.1) && Raa r.2.2.1 && Raa r.2.2.2.1
def Esb (r : Sla) : List Bxa := if Ypa r = true then Erb r.2.2.1 r.2.2.2.1 else []
theorem Gxb {α : Type} {R : α → α → Prop} {l m : List α} (h : Khb R l m) : ∀ {y}, y ∈ m → ∃ x ∈ l, R x y := by
  induction h with
  | nil => intro y hy; cases hy
  | cons a1 a2 ih =>
    intro y hy
    rcases List.mem_cons.1 hy with rfl | hy
    · exact ⟨_, List.mem_cons_self, a1⟩
    · obtain ⟨x, hx, hr⟩ := ih hy; exact ⟨x, List.mem_cons_of_mem _ hx, hr⟩
structure Tba (p : Bxa) : Prop where
  n : p.2.1.size ≤ 100
  t : p.2.2.1.size ≤ 100
  o : p.2.2.2.1.2.1.length ≤ 300
  w : p.2.2.2.1.2.2.1.length ≤ 300
theorem Tba.w' {p : Bxa} (h : Tba p) : Kla p := ⟨by have := h.n; omega, by have := h.t; omega, by have := h.o; omega, by have := h.w; omega⟩
structure Nib (p q : Bxa) : Prop where
  k : p.1 = q.1
  m : Jga p = true → Jga q = true
  l : Tba p → Tba q
theorem Nib.trans {p q r : Bxa} (h : Nib p q) (k : Nib q r) : Nib p r := ⟨h.k.trans k.k, k.m ∘ h.m, k.l ∘ h.l⟩
structure Kin (p q : Ama) : Prop where
  id : p.1 = q.1
  deps : p.2.1 = q.2.1
  text : p.2.2.1 = q.2.2.1
  l : Khb Nib p.2.2.2.1 q.2.2.2.1
theorem Aob {α : Type} {R : α → α → Prop} (ht : ∀ {x y z}, R x y → R y z → R x z) : ∀ {a b c : List α}, Khb R a b → Khb R b c → Khb R a c
  | _, _, _, .nil, .nil => .nil
  | _, _, _, .cons a b, .cons c d => .cons (ht a c) (Aob (R := R) (fun h k => ht h k) b d)
theorem Blb {α : Type} {R : α → α → Prop} : ∀ {a b : List α}, Khb R a b → a.length = b.length
  | _, _, .nil => rfl
  | _, _, .cons _ b => by simp [Blb b]
theorem Kin.trans {p q r : Ama} (h : Kin p q) (k : Kin q r) : Kin p r := ⟨h.id.trans k.id, h.deps.trans k.deps, h.text.trans k.text, Aob (fun a b => a.trans b) h.l k.l⟩
theorem Kin.may {p q : Ama} (h : Kin p q) (k : Ktb p = true) : Ktb q = true := by
  unfold Ktb at k ⊢
  rw [← h.id, ← h.deps, ← h.text, ← Blb h.l]
  simp only [Bool.and_eq_true] at k ⊢
  refine ⟨k.1, ?_⟩
  have := k.2
  rw [List.all_eq_true] at this ⊢
  intro y hy
  obtain ⟨x, hx, hr⟩ := Gxb h.l hy
  exact hr.m (this x hx)
theorem Fqb (who made : Int) : ∀ (l : List Ama) (ids : List Id), Fpb ids l who made = true ↔ (∀ p ∈ l, Ktb p = true ∧ (p.1.1 = who → p.1.2.1 ≤ made)) ∧ (l.map (·.1)).Nodup ∧ ∀ p ∈ l, p.1 ∉ ids
  | [], ids => by simp [Fpb]
  | p :: l, ids => by
    have ih := Fqb who made l (ids ++ [p.1])
    unfold Fpb
    rw [Bool.and_eq_true, ih]
    simp only [Bool.and_eq_true, decide_eq_true_eq, Bool.not_eq_true', Bool.and_eq_false_iff, decide_eq_false_iff_not, List.mem_cons, forall_eq_or_imp, List.map_cons, List.nodup_cons, List.mem_append, List.mem_map, not_or, List.not_mem_nil, not_false_eq_true, and_true, List.mem_singleton]
    constructor
    · rintro ⟨⟨⟨a, b⟩, c⟩, d, e, f⟩
      refine ⟨⟨⟨a, fun h => ?_⟩, d⟩, ⟨?_, e⟩, b, fun q hq => (f q hq).1⟩
      · rcases c with c | c
        · exact absurd h c
        · omega
      · rintro ⟨q, hq, h⟩; exact (f q hq).2 h
    · rintro ⟨⟨⟨a, b⟩, c⟩, ⟨d, e⟩, f, g⟩
      refine ⟨⟨⟨a, f⟩, ?_⟩, c, e, fun q hq => ⟨g q hq, fun h => d ⟨q, hq, h⟩⟩⟩
      by_cases h : p.1.1 = who
      · right; have := b h; omega
      · left; exact h
structure Rlb (r : Sla) : Prop where
  w0 : 0 ≤ r.1
  w1 : r.1 < 8
  n : r.2.1.length ≤ 60
  m0 : 0 ≤ r.2.2.2.2.1
  m1 : r.2.2.2.2.1 ≤ 1048576
  p : ∀ p ∈ r.2.1, Ktb p = true ∧ (p.1.1 = r.1 → p.1.2.1 ≤ r.2.2.2.2.1)
  u : (r.2.1.map (·.1)).Nodup
  a : Rga [] r.2.1 = (r.2.2.1, 0)
  b : Raa r.2.2.1 = true
  k : Raa r.2.2.2.1 = true
theorem Pba (r : Sla) : Ypa r = true ↔ Rlb r := by
  unfold Ypa
  simp only [Bool.and_eq_true, decide_eq_true_eq, Fqb]
  constructor
  · rintro ⟨⟨⟨⟨⟨⟨⟨⟨⟨a, b⟩, c⟩, d⟩, e⟩, f, g, _⟩, h⟩, i⟩, j⟩, k⟩
    exact ⟨a, b, c, d, e, f, g, Prod.ext i h, j, k⟩
  · rintro ⟨a, b, c, d, e, f, g, h, i, j⟩
    exact ⟨⟨⟨⟨⟨⟨⟨⟨⟨a, b⟩, c⟩, d⟩, e⟩, f, g, by simp⟩, by rw [h]⟩, by rw [h]⟩, i⟩, j⟩
abbrev noR : Sla := (0, [], [], [], 0, ())
def Laa (r : Sla) (t : Aga) : Sla := (r.1, r.2.1, r.2.2.1, t, r.2.2.2.2.1, ())
def Ftb (r : Sla) (t : Aga) : Sla × Int := if Ypa r = true ∧ Raa t = true then (Laa r t, 0) else (noR, 1)
def Vca (r : Sla) : Sla × Int := if Ypa r = true then (Laa r r.2.2.1, 0) else (noR, 1)
def Tib (r : Sla) : Prop := 60 ≤ r.2.1.length ∨ 1048576 ≤ r.2.2.2.2.1
instance (r : Sla) : Decidable (Tib r) := inferInstanceAs (Decidable (_ ∨ _))
theorem Ibb {r : Sla} (h : Rlb r) : Esb r = Erb r.2.2.1 r.2.2.2.1 := by rw [Esb, if_pos ((Pba r).2 h)]
theorem Lgb {r : Sla} (h : Rlb r) {t : Aga} (ht : Raa t = true) : Rlb (Laa r t) := ⟨h.w0, h.w1, h.n, h.m0, h.m1, h.p, h.u, h.a, h.b, ht⟩
def Njb (h : Qwa) : Prop := h.2.1.length ≤ 300 ∧ h.2.2.1.length ≤ 300
theorem Tba.h {p : Bxa} (h : Tba p) : Njb p.2.2.2.1 := ⟨h.o, h.w⟩
theorem Cxa (x : Id) : ((x.1, x.2.1, ()) : Id) = x := rfl
theorem Bua (x : Ama) : (((x.1.1, x.1.2.1, ()), x.2.1, x.2.2.1, x.2.2.2.1, ()) : Ama) = x := rfl
theorem Jia (x : Ama) : ((x.1, x.2.1, x.2.2.1, x.2.2.2.1, ()) : Ama) = x := rfl
theorem Iwb (a b c d : Int) : (a == c && (b == d && true)) = decide (((a, b, ()) : Id) = (c, d, ())) := by
  simp only [Bool.and_true, Bta, Prod.mk.injEq, and_true, Bool.decide_and]
theorem Isa (l : List Id) (s : Id) (hb : l.length < 4611686018427387903) : ∀ (r : List Id) (i : Nat), l.drop i = r → i ≤ l.length →
    ∃ y, Cea (s.1, s.2.1, l, (l.length : Int), (i : Int), ()) = some y ∧ (match y with
      | .inl z => 0 ≤ z.2.2.2.1 ∧ s ∈ r
      | .inr _ => s ∉ r)
  | [], i, h, hi => by
    have := Ada h hi
    subst this
    rw [Ira]
    simp (disch := omega) only [Cta, PP]
    exact ⟨_, rfl, by simp⟩
  | f :: r, i, h, hi => by
    obtain ⟨h1, h2, h3, h4⟩ := Aba h
    rw [Ira]
    by_cases hf : s = f
    · simp (disch := first | omega | exact hf) only [Cta, PP, h2, Iwb, Cxa]
      exact ⟨_, rfl, by simp only; omega, by simp [hf]⟩
    · simp (disch := first | omega | exact hf) only [Cta, PP, h2, Iwb, Cxa]
      obtain ⟨y, e, p⟩ := Isa l s hb r (i + 1) h3 (by omega)
      refine ⟨y, e, ?_⟩
      cases y with
      | inl z => simp only at p ⊢; exact ⟨p.1, List.mem_cons_of_mem _ p.2⟩
      | inr z => simp only [List.mem_cons, not_or] at p ⊢; exact ⟨hf, p⟩
theorem Dua (l : List Id) (s : Id) (hb : l.length < 4611686018427387903) : Cda (l, s, ()) = some (decide (s ∈ l), ()) := by
  obtain ⟨y, e, p⟩ := Isa l s hb l 0 rfl (by omega)
  simp only [Int.natCast_zero] at e
  have e2 : ∃ n : Int, Hha (l, s, ()) = some (n, ()) ∧ (0 ≤ n ↔ s ∈ l) := by
    rw [Uoa]
    unfold Mua
    simp only [e, Aaa]
    cases y with
    | inl z => simp only at p; simp only [Hia]; exact ⟨_, rfl, ⟨fun _ => p.2, fun _ => p.1⟩⟩
    | inr z => simp only at p; simp only [Fpa]; exact ⟨_, rfl, ⟨fun h => by omega, fun h => absurd h p⟩⟩
  obtain ⟨n, e2, hn⟩ := e2
  rw [Pra]
  unfold Jqa
  simp only [Cxa, e2, Aaa]
  exact congrArg (fun b => some (b, ())) (decide_eq_decide.2 hn)
structure Ixa (p : Ama) : Prop where
  l : ∀ c ∈ p.2.2.2.1, Tba c
  n : p.2.2.2.1.length ≤ 1000
  d : p.2.1.length ≤ 1000
  t : p.2.2.1.size ≤ 1000
theorem Kin.light {p q : Ama} (h : Kin p q) (k : Ixa p) : Ixa q := by
  refine ⟨fun c hc => ?_, by rw [← Blb h.l]; exact k.n, by rw [← h.deps]; exact k.d, by rw [← h.text]; exact k.t⟩
  obtain ⟨x, hx, hr⟩ := Gxb h.l hc
  exact hr.l (k.l x hx)
theorem Ixa.b {p : Ama} (h : Ixa p) : ∀ c ∈ p.2.2.2.1, Hqb c := fun c hc => (h.l c hc).w'.b
theorem Dcb (p : Ama) (l : List Bxa) (h : p.2.1.length ≤ 1000) : Fqa (p, l, ()) = some (Rkb p l, ()) := by
  have hM := Aha
  rw [Sxa]
  simp (disch := omega) only [Lea, PP, Cxa]
  rfl
def Kib {α : Type} (l c : List α) (i : Nat) : Prop := c.length = l.length ∧ ∀ x, c[x]? = if x < i ∨ l.length ≤ x + i then l.reverse[x]? else l[x]?
theorem Kib.zero {α : Type} (l : List α) : Kib l l 0 := by
  refine ⟨rfl, fun x => ?_⟩
  split
  · rename_i h
    rw [List.getElem?_eq_none (by omega), List.getElem?_eq_none (by simp; omega)]
  · rfl
theorem Kib.end {α : Type} {l c : List α} {i : Nat} (h : Kib l c i) (hi : l.length ≤ 2 * i + 1) : c = l.reverse := by
  apply List.ext_getElem?
  intro x
  rw [h.2 x]
  split
  · rfl
  · rename_i hx
    have : x < l.length := by omega
    rw [List.getElem?_reverse this]
    congr 1
    omega
theorem Ega (q : Ama) (hq : Ixa q) : Jla ([], q, ()) = some ([], q, true, ()) := by
  have e1 := Vra q.2.2.2.1 (by have := hq.n; omega) hq.b
  have hb2 : ∀ c ∈ Usa q.2.2.2.1, Hqb c := fun c hc => (Nfb (fun p hp => (hq.l p hp).w') c hc).b
  have e2 := Vra (Usa q.2.2.2.1) (by rw [Kdb]; have := hq.n; omega) hb2
  rw [Idb] at e2
  have e3 := Dcb q q.2.2.2.1 hq.d
  rw [show Rkb q q.2.2.2.1 = q from rfl] at e3
  have hw1 : IntKind.wrap .i64 (((([] : List Ama).length : Nat) : Int) - 1) = -1 := by rw [Bfa (by simp) (by simp)]; rfl
  have e4 : Aka ([], [], q.1.1, q.1.2.1, q.2.1, q.2.2.1, q.2.2.2.1, [], -1, ()) = some (.inr ([], [], q.1.1, q.1.2.1, q.2.1, q.2.2.1, q.2.2.2.1, [], -1, ())) := by
    rw [Iva]
    simp (disch := omega) only [Dma, PP]
  have e5 : Bea ([], [], q.1.1, q.1.2.1, q.2.1, q.2.2.1, q.2.2.2.1, [], 0, -1, ()) = some ([], [], q.1.1, q.1.2.1, q.2.1, q.2.2.1, q.2.2.2.1, [], 0, -1, ()) := by
    rw [Kma]
    simp (disch := omega) only [Fva, PP]
  rw [Dbb]
  unfold Xca
  simp only [hw1]
  simp (disch := simp) only [Aja, Afa, Bua, Jia, Cxa, e1, e2, e3, e4, e5, hw1, Aaa, Fpa]
theorem Mea (ids : List Id) (l s a : List Ama) (hl : l.length ≤ 100000) : Cqa (s, a, ids, l, (l.length : Int), (l.length : Int), ()) = some (s, a, ids, l, (l.length : Int), (l.length : Int), ()) := by
  rw [Gla]
  simp (disch := omega) only [Fna, PP]
theorem Oka (ids : List Id) (hi0 : ids.length ≤ 1000000) (l : List Ama) (hl : l.length ≤ 100000) (hw : ∀ p ∈ l, Ixa p) (b : List Ama) (hb : b = [] ∨ ∃ p, b = [p] ∧ p.1 ∈ ids) : ∀ (r : List Ama) (i : Nat) (s : List Ama), l.drop i = r ++ b → i ≤ l.length → s.length + r.length ≤ 100000 → (∀ p ∈ r, p.1 ∉ ids) →
    Cqa (s, [], ids, l, (l.length : Int), (i : Int), ()) = some (s ++ r, b, ids, l, (l.length : Int), (l.length : Int), ())
  | [], i, s, h, hi, hn, hr => by
    rw [List.append_nil]
    rcases hb with rfl | ⟨p, rfl, hp⟩
    · have := Ada h hi
      subst this
      exact Mea ids l s [] hl
    · obtain ⟨h1, h2, h3, h4⟩ := Aba h
      have hM := Aha
      have e1 := Dua ids p.1 (by omega)
      rw [decide_eq_true hp] at e1
      have e2 := Ega p (hw p h4)
      have hil := Ada h3 (by omega)
      rw [Gla]
      simp (disch := omega) only [Fna, PP, h2, Bua, Jia, Cxa, e1, e2]
      rw [hil]
      exact Mea ids l s [p] hl
  | p :: r, i, s, h, hi, hn, hr => by
    obtain ⟨h1, h2, h3, h4⟩ := Aba h
    have hM := Aha
    have e1 := Dua ids p.1 (by omega)
    rw [decide_eq_false (hr p List.mem_cons_self)] at e1
    have e2 := Ega p (hw p h4)
    simp only [List.length_cons] at hn
    have ih := Oka ids hi0 l hl hw b hb r (i + 1) (s ++ [p]) h3 (by omega) (by simp; omega) (fun q hq => hr q (List.mem_cons_of_mem _ hq))
    rw [Gla]
    simp (disch := omega) only [Fna, PP, h2, Bua, Jia, Cxa, e1, e2, ih, List.nil_append]
    simp
theorem Mza (l : List Ama) (hl : l.length ≤ 1000000) (hw : ∀ p ∈ l, Ixa p) : ∀ (r : List Ama) (i : Nat) (acc : List Ama), l.drop i = r → i ≤ l.length → acc.length + r.length ≤ 1000000 →
    Gma (acc, l, (l.length : Int), (i : Int), ()) = some (acc ++ r, l, (l.length : Int), (l.length : Int), ())
  | [], i, acc, h, hi, ha => by
    have := Ada h hi
    subst this
    rw [Mya]
    simp (disch := omega) only [Kya, PP, List.append_nil]
  | p :: r, i, acc, h, hi, ha => by
    obtain ⟨h1, h2, h3, h4⟩ := Aba h
    have hM := Aha
    have e1 := Ega p (hw p h4)
    simp only [List.length_cons] at ha
    rw [Mya]
    simp (disch := omega) only [Kya, PP, h2, Bua, Jia, Cxa, e1]
    rw [Mza l hl hw r (i + 1) _ h3 (by omega) (by simp; omega)]
    simp
theorem Bnb (l : List Ama) (hl : l.length ≤ 1000000) (hw : ∀ p ∈ l, Ixa p) : Pza (l, ()) = some (l, ()) := by
  have e := Mza l hl hw l 0 [] rfl (by omega) (by simp; omega)
  simp only [Int.natCast_zero, List.nil_append] at e
  rw [Bmb]
  simp (disch := omega) only [Wqa, PP, e]
theorem Qxa (ids : List Id) (hi0 : ids.length ≤ 1000000) (a b : List Ama) (hl : (a ++ b).length ≤ 100000) (hw : ∀ p ∈ a ++ b, Ixa p) (hb : b = [] ∨ ∃ p, b = [p] ∧ p.1 ∈ ids) (ha : ∀ p ∈ a, p.1 ∉ ids) : Mda (a ++ b, ids, ()) = some (a, b, ()) := by
  have e0 := Bnb (a ++ b) (by omega) hw
  have hM := Aha
  rw [Zha]
  match hab : a ++ b with
  | [] =>
    rw [hab] at e0
    obtain ⟨rfl, rfl⟩ := List.append_eq_nil_iff.1 hab
    have e1 : Cha ([], [], ids, [], ((([] : List Ama).length : Nat) : Int), ()) = some (.inr ([], [], ids, [], 0, ())) := by
      rw [Hra]
      simp (disch := simp) only [Gga, PP]
      rfl
    simp only [List.length_nil, Int.natCast_zero] at e1
    simp (disch := omega) only [Kna, PP, e0, Int.natCast_zero, e1]
  | p :: r =>
    rw [hab] at e0 hl hw
    have hp := hw p List.mem_cons_self
    have e1 := Dua ids p.1 (by omega)
    have e2 := Ega p hp
    have g0 : ∀ d, (p :: r).getD 0 d = p := fun d => rfl
    simp only [List.length_cons] at hl
    by_cases hc : p.1 ∈ ids
    · rw [decide_eq_true hc] at e1
      have e3 : Cha ([], [], ids, p :: r, (((p :: r).length : Nat) : Int), ()) = some (.inl ([], [p], ids, p :: r, (((p :: r).length : Nat) : Int), ())) := by
        rw [Hra]
        simp (disch := first | omega | (simp only [List.length_cons]; omega)) only [Gga, Aja, Afa, Aia, Aca, Aea, Aoa, Aaa, Int.toNat_zero, g0, Bua, Jia, Cxa, e1, e2, Option.bind_some, Sum.elim_inr, List.nil_append, List.length_cons, List.length_nil]
      cases a with
      | cons x a => rw [List.cons_append] at hab; exact absurd hc ((List.cons.inj hab).1 ▸ ha x List.mem_cons_self)
      | nil =>
        rcases hb with rfl | ⟨q, rfl, hq⟩
        · simp at hab
        · rw [List.nil_append] at hab
          obtain ⟨rfl, rfl⟩ := List.cons.inj hab
          have ih := Mea ids [q] [] [q] (by simp)
          simp only [List.length_cons, List.length_nil, Nat.zero_add, Int.natCast_one] at ih e3
          simp (disch := omega) only [Kna, PP, e0]
          simp (disch := omega) only [Nat.zero_add, Int.natCast_one, PP, e3, ih]
    · rw [decide_eq_false hc] at e1
      have e3 : Cha ([], [], ids, p :: r, (((p :: r).length : Nat) : Int), ()) = some (.inl ([p], [], ids, p :: r, (((p :: r).length : Nat) : Int), ())) := by
        rw [Hra]
        simp (disch := first | omega | (simp only [List.length_cons]; omega)) only [Gga, Aja, Afa, Aia, Aca, Aea, Aoa, Aaa, Int.toNat_zero, g0, Bua, Jia, Cxa, e1, e2, Option.bind_some, Sum.elim_inr, List.nil_append, List.length_cons, List.length_nil]
      cases a with
      | nil =>
        rcases hb with rfl | ⟨q, rfl, hq⟩
        · simp at hab
        · rw [List.nil_append] at hab
          exact absurd hq ((List.cons.inj hab).1 ▸ hc)
      | cons x a =>
        rw [List.cons_append] at hab
        obtain ⟨rfl, rfl⟩ := List.cons.inj hab
        have ih := Oka ids hi0 (x :: (a ++ b)) (by simp only [List.length_cons]; omega) hw b hb a 1 [x] rfl (by simp) (by simp at hl ⊢; omega) (fun q hq => ha q (List.mem_cons_of_mem _ hq))
        simp only [Int.natCast_one] at ih
        simp (disch := omega) only [Kna, PP, e0]
        simp only [List.length_cons, List.length_append] at e3 ih
        simp (disch := omega) only [PP, e3, ih, List.singleton_append]
theorem Yua (x : Id) : Ufa (x, ()) = some (Ksb x, ()) := by
  rw [Geb]
  unfold Dhb Ksb
  by_cases h1 : 0 ≤ x.1
  · by_cases h2 : x.1 < 8
    · by_cases h3 : 1 ≤ x.2.1
      · simp only [ge_iff_le, h1, h2, h3, decide_true, Aca, Bool.true_and]
      · simp only [ge_iff_le, h1, h2, h3, decide_true, decide_false, Aca, Aea, Bool.true_and, Bool.false_and]
    · simp only [ge_iff_le, h1, h2, decide_true, decide_false, Aca, Aea, Bool.true_and, Bool.false_and]
  · simp only [ge_iff_le, h1, decide_false, Aea, Bool.false_and]
theorem Chb (a b : Id) : Qha (a, b, ()) = some (Kqb a b, ()) := by
  rw [Cgb]
  unfold Wva Kqb
  by_cases h1 : a.1 < b.1
  · simp only [h1, decide_true, Aca, Bool.true_or]
  · by_cases h2 : a.1 = b.1
    · simp only [Bta, h1, h2, decide_true, decide_false, Aca, Aea, Bool.false_or, Bool.true_and, Int.lt_irrefl]
    · simp only [Bta, h1, h2, decide_true, decide_false, Aca, Aea, Bool.false_or, Bool.false_and]
def Ngb (x0 x : Id) : Bool := Ksb x && decide (x ≠ x0)
theorem Jva (a b : Id) : (a.1 == b.1 && (a.2.1 == b.2.1 && true)) = decide (a = b) := by
  rw [Iwb]
theorem Wda (p : Ama) (l : List Id) (hb : l.length < 4611686018427387903) : ∀ (r : List Id) (i : Nat), l.drop i = r → i ≤ l.length →
    (r.all (Ngb p.1) = true ∧ Ana (p.1.1, p.1.2.1, p.2.1, p.2.2.1, p.2.2.2.1, l, (l.length : Int), (i : Int), ()) = some (.inr (p.1.1, p.1.2.1, p.2.1, p.2.2.1, p.2.2.2.1, l, (l.length : Int), (l.length : Int), ()))) ∨
    (r.all (Ngb p.1) = false ∧ ∃ z, Ana (p.1.1, p.1.2.1, p.2.1, p.2.2.1, p.2.2.2.1, l, (l.length : Int), (i : Int), ()) = some (.inl z) ∧ 0 ≤ z.2.2.2.2.2.2.1)
  | [], i, h, hi => by
    have := Ada h hi
    subst this
    rw [Fma]
    simp (disch := omega) only [Axa, PP]
    exact .inl ⟨by rfl, trivial⟩
  | f :: r, i, h, hi => by
    obtain ⟨h1, h2, h3, h4⟩ := Aba h
    have e1 := Yua f
    rw [Fma]
    cases hm : Ksb f with
    | false =>
      rw [hm] at e1
      simp (disch := omega) only [Axa, PP, h2, Cxa, e1]
      exact .inr ⟨by simp [Ngb, hm], _, rfl, by simp only; omega⟩
    | true =>
      rw [hm] at e1
      by_cases hf : f = p.1
      · simp (disch := first | omega | exact hf) only [Axa, PP, h2, Cxa, e1, Jva]
        exact .inr ⟨by simp [Ngb, hf], _, rfl, by simp only; omega⟩
      · simp (disch := first | omega | exact hf) only [Axa, PP, h2, Cxa, e1, Jva]
        have ih := Wda p l hb r (i + 1) h3 (by omega)
        have ho : Ngb p.1 f = true := by simp [Ngb, hm, hf]
        rcases ih with ⟨a, b⟩ | ⟨a, b⟩
        · exact .inl ⟨by rw [List.all_cons, ho, a]; rfl, b⟩
        · exact .inr ⟨by rw [List.all_cons, ho, a]; rfl, b⟩
theorem Sda (p : Ama) (l : List Id) (hb : l.length < 4611686018427387903) : ∀ (r : List Id) (i : Nat), l.drop i = r → i ≤ l.length →
    (Yta (l.drop (i - 1)) = true ∧ Cia (p.1.1, p.1.2.1, p.2.1, p.2.2.1, p.2.2.2.1, l, (l.length : Int), (i : Int), ()) = some (.inr (p.1.1, p.1.2.1, p.2.1, p.2.2.1, p.2.2.2.1, l, (l.length : Int), (l.length : Int), ()))) ∨
    (Yta (l.drop (i - 1)) = false ∧ ∃ z, Cia (p.1.1, p.1.2.1, p.2.1, p.2.2.1, p.2.2.2.1, l, (l.length : Int), (i : Int), ()) = some (.inl z))
  | [], i, h, hi => by
    have := Ada h hi
    subst this
    rw [Lua]
    simp (disch := omega) only [Dka, PP]
    refine .inl ⟨?_, trivial⟩
    have hl : (l.drop (l.length - 1)).length ≤ 1 := by simp; omega
    match hd : l.drop (l.length - 1) with
    | [] => rfl
    | [x] => rfl
    | x :: y :: t => rw [hd] at hl; simp at hl
  | f :: r, i, h, hi => by
    obtain ⟨h1, h2, h3, h4⟩ := Aba h
    rw [Lua]
    have ih := Sda p l hb r (i + 1) h3 (by omega)
    rw [Nat.add_sub_cancel, h] at ih
    by_cases h0 : i = 0
    · subst h0
      simp (disch := omega) only [Dka, PP]
      rw [Nat.zero_sub, h]
      exact ih
    · obtain ⟨j, rfl⟩ : ∃ j, i = j + 1 := ⟨i - 1, by omega⟩
      have hg : l.drop j = l.getD j (0, 0, ()) :: f :: r := by
        rw [List.drop_eq_getElem_cons (by omega), h, List.getD_eq_getElem?_getD, List.getElem?_eq_getElem (by omega)]
        rfl
      have hg' : ∀ d, l.getD j d = l.getD j (0, 0, ()) := fun d => by rw [List.getD_eq_getElem?_getD, List.getD_eq_getElem?_getD, List.getElem?_eq_getElem (by omega)]; rfl
      have e0 : (((j + 1 : Nat) : Int) - 1) = (j : Int) := by omega
      have hw1 : IntKind.wrap .i64 (((j + 1 : Nat) : Int) - 1) = (j : Int) := by rw [Bfa (by omega) (by omega)]; omega
      have e1 := Chb (l.getD j (0, 0, ())) f
      rw [Nat.add_sub_cancel, hg]
      cases hl : Kqb (l.getD j (0, 0, ())) f with
      | false =>
        rw [hl] at e1
        simp (disch := omega) only [Dka, Aja, Afa, Aia, Aca, Aea, Aoa, Aaa, hw1, Int.toNat_natCast, h2, Cxa, e1, Option.bind_some, Sum.elim_inr]
        exact .inr ⟨by rw [Yta, hl]; rfl, _, rfl⟩
      | true =>
        rw [hl] at e1
        simp (disch := omega) only [Dka, Aja, Afa, Aia, Aca, Aea, Aoa, Aaa, hw1, Hla, Int.toNat_natCast, h2, Cxa, e1, Option.bind_some, Sum.elim_inl]
        rcases ih with ⟨a, b⟩ | ⟨a, b⟩
        · exact .inl ⟨by rw [Yta, hl, a]; rfl, b⟩
        · exact .inr ⟨by rw [Yta, hl, a]; rfl, b⟩
theorem Eyb (p : Ama) (hp : Ixa p) : Uea (p, ()) = some (Ktb p, ()) := by
  have e1 := Yua p.1
  have e4 := Yza p.2.2.1
  have hd := hp.d
  have hn := hp.n
  have e5 := Fvb p.2.2.2.1 (by omega) (fun c hc => (hp.l c hc).w')
  rw [Exb]
  unfold Ahb Ktb
  simp only [Cxa, e1, Aaa]
  cases h1 : Ksb p.1 with
  | false => simp only [Aea, Bool.false_and]
  | true =>
    by_cases h2 : p.2.1.length ≤ 60
    · rcases Wda p p.2.1 (by omega) p.2.1 0 rfl (by omega) with ⟨a, b⟩ | ⟨a, z, b, hz⟩
      · simp only [Int.natCast_zero] at b
        have a' : (p.2.1.all fun x => Ksb x && decide (x ≠ p.1)) = true := a
        rcases Sda p p.2.1 (by omega) p.2.1 0 rfl (by omega) with ⟨c, d⟩ | ⟨c, z, d⟩
        · simp only [Int.natCast_zero, Nat.zero_sub, List.drop_zero] at c d
          cases h3 : Ifb p.2.2.1 with
          | false =>
            rw [h3] at e4
            simp (disch := omega) only [Aca, Aea, Afa, Aia, b, d, e4, Aaa, Hia, Fpa, Bool.and_false, Bool.false_and, c, h2, a', decide_true, Bool.true_and]
          | true =>
            rw [h3] at e4
            by_cases h4 : p.2.2.2.1.length ≤ 200
            · simp (disch := omega) only [Aca, Aea, Afa, Aia, b, d, e4, e5, Aaa, Hia, Fpa, c, h2, a', h4, decide_true, Bool.true_and]
            · simp (disch := omega) only [Aca, Aea, Afa, Aia, b, d, e4, e5, Aaa, Hia, Fpa, c, h2, a', h4, decide_true, decide_false, Bool.true_and, Bool.false_and]
        · simp only [Int.natCast_zero, Nat.zero_sub, List.drop_zero] at c d
          simp (disch := omega) only [Aca, Aea, Afa, Aia, b, d, Aaa, Hia, Fpa, Bool.and_false, Bool.false_and, c, h2, a', decide_true, Bool.true_and]
      · simp only [Int.natCast_zero] at b
        have a' : (p.2.1.all fun x => Ksb x && decide (x ≠ p.1)) = false := a
        have hz' : decide (z.2.2.2.2.2.2.1 ≥ 0) = true := by simpa using hz
        simp (disch := omega) only [Aca, Aea, Afa, Aoa, hz', b, Aaa, Hia, Fpa, Bool.and_false, Bool.false_and, a']
    · simp (disch := omega) only [Aca, Aea, Afa, Aia, h2, decide_false, Bool.and_false, Bool.false_and]
def Jcb (l : List Ama) (id : Id) : Int := match Uwa l id with
  | some n => n
  | none => -1
theorem Pma (l : List Ama) (s : Id) (hb : l.length < 4611686018427387903) : ∀ (r : List Ama) (i : Nat), l.drop i = r → i ≤ l.length →
    ∃ y, Asa (s.1, s.2.1, l, (l.length : Int), (i : Int), ()) = some y ∧ (match y with
      | .inl z => ∃ n, Uwa r s = some n ∧ z.2.2.2.1 = ((i + n : Nat) : Int)
      | .inr _ => Uwa r s = none)
  | [], i, h, hi => by
    have := Ada h hi
    subst this
    rw [Dia]
    simp (disch := omega) only [Bha, PP]
    exact ⟨_, rfl, rfl⟩
  | f :: r, i, h, hi => by
    obtain ⟨h1, h2, h3, h4⟩ := Aba h
    rw [Dia]
    by_cases hf : f.1 = s
    · simp (disch := first | omega | exact hf) only [Bha, PP, h2, Jva]
      exact ⟨_, rfl, 0, by simp [Uwa, List.findIdx?_cons, hf], by simp⟩
    · simp (disch := first | omega | exact hf) only [Bha, PP, h2, Jva]
      obtain ⟨y, e, p⟩ := Pma l s hb r (i + 1) h3 (by omega)
      refine ⟨y, e, ?_⟩
      have hc : Uwa (f :: r) s = (Uwa r s).map (· + 1) := by simp [Uwa, List.findIdx?_cons, hf]
      cases y with
      | inl z =>
        simp only at p ⊢
        obtain ⟨n, p1, p2⟩ := p
        exact ⟨n + 1, by rw [hc, p1]; rfl, by rw [p2]; omega⟩
      | inr z => simp only at p ⊢; rw [hc, p]; rfl
theorem Cfb (l : List Ama) (s : Id) (hb : l.length < 4611686018427387903) : Qga (l, s, ()) = some (Jcb l s, ()) := by
  obtain ⟨y, e, p⟩ := Pma l s hb l 0 rfl (by omega)
  simp only [Int.natCast_zero] at e
  rw [Ceb]
  unfold Wua Jcb
  simp only [e, Aaa]
  cases y with
  | inl z =>
    simp only at p
    obtain ⟨n, p1, p2⟩ := p
    simp only [Hia, p1, p2, Nat.zero_add]
  | inr z => simp only at p; simp only [Fpa, p]
theorem Klb (l : List Ama) (i : Nat) (p : Ama) (h : l.drop i = p :: l.drop (i + 1)) (hi : i < l.length) : Jcb l p.1 < (i : Int) ↔ p.1 ∈ (l.take i).map (·.1) := by
  have hs : Uwa l p.1 = (Uwa (l.take i) p.1).or (some i) := by
    conv => lhs; rw [← List.take_append_drop i l, h]
    unfold Uwa
    rw [List.findIdx?_append, List.findIdx?_cons, if_pos (by simp)]
    simp only [Option.map_some, Nat.zero_add, List.length_take, Nat.min_eq_left (Nat.le_of_lt hi)]
  unfold Jcb
  rw [hs]
  cases ht : Uwa (l.take i) p.1 with
  | none =>
    simp only [Option.none_or, Int.lt_irrefl, false_iff]
    unfold Uwa at ht
    rw [List.findIdx?_eq_none_iff] at ht
    rw [List.mem_map]
    rintro ⟨x, hx, e⟩
    have := ht x hx
    simp [e] at this
  | some n =>
    simp only [Option.some_or]
    unfold Uwa at ht
    rw [List.findIdx?_eq_some_iff_getElem] at ht
    obtain ⟨hn, he, _⟩ := ht
    have hlt : n < i := by simp at hn; omega
    constructor
    · intro _
      rw [List.mem_map]
      exact ⟨_, List.getElem_mem hn, by simpa using he⟩
    · intro _; omega
theorem Pla (l : List Ama) (hl : l.length ≤ 1000000) (hw : ∀ p ∈ l, p.2.2.2.1.length ≤ 1000) : ∀ (r : List Ama) (i : Nat) (acc : List Bxa), l.drop i = r → i ≤ l.length → acc.length + r.length * 1000 ≤ 1000000000 →
    Iqa (acc, l, (l.length : Int), (i : Int), ()) = some (acc ++ Kjb r, l, (l.length : Int), (l.length : Int), ())
  | [], i, acc, h, hi, ha => by
    have := Ada h hi
    subst this
    rw [Pka]
    simp (disch := omega) only [Lya, PP, Kjb, List.flatMap_nil, List.append_nil]
  | p :: r, i, acc, h, hi, ha => by
    obtain ⟨h1, h2, h3, h4⟩ := Aba h
    have hM := Aha
    have hp := hw p h4
    simp only [List.length_cons] at ha
    rw [Pka]
    simp (disch := omega) only [Lya, PP, h2]
    rw [Pla l hl hw r (i + 1) _ h3 (by omega) (by simp; omega)]
    simp [Kjb]
theorem Ewb (l : List Ama) (hl : l.length ≤ 1000000) (hw : ∀ p ∈ l, p.2.2.2.1.length ≤ 1000) : Uda (l, ()) = some (Kjb l, ()) := by
  have e := Pla l hl hw l 0 [] rfl (by omega) (by simp; omega)
  simp only [Int.natCast_zero, List.nil_append] at e
  rw [Evb]
  simp (disch := omega) only [Agb, PP, e]
theorem Gyb (l : List Ama) (hw : ∀ p ∈ l, p.2.2.2.1.length ≤ 1000) : (Kjb l).length ≤ l.length * 1000 := Yda _ 1000 l hw
theorem Hrb {l : List Ama} (hw : ∀ p ∈ l, Ixa p) : ∀ c ∈ Kjb l, Tba c := by
  intro c hc
  obtain ⟨p, hp, h⟩ := List.mem_flatMap.1 hc
  exact (hw p hp).l c h
theorem Zwa (t : Aga) (l : List Ama) (ht : Fit 100000 10000000 t) (hl : l.length ≤ 100) (hw : ∀ p ∈ l, Ixa p) : Mha (t, l, ()) = some ((Rga t l).1, (Rga t l).2, ()) := by
  have hn : ∀ p ∈ l, p.2.2.2.1.length ≤ 1000 := fun p hp => (hw p hp).n
  have e1 := Ewb l (by omega) hn
  have hlen := Gyb l hn
  have e2 := Bub t (Kjb l) ht (by omega) (fun c hc => (Hrb hw c hc).w')
  rw [Zva]
  simp only [Via, e1, e2, Aaa]
  rfl
theorem Jmb {s : Str} (h : Ifb s = true) : s.size ≤ 80 := by
  simp only [Ifb, Bool.and_eq_true, decide_eq_true_eq] at h; exact h.1
structure Wia (t : Aga) : Prop where
  m : Mid t
  s : Wha t
theorem Wia.w {t : Aga} (h : Wia t) : Wee t := ⟨by have := h.m.1; omega, fun f hf => by have := h.m.2 f hf; omega⟩
theorem Wia.n {t : Aga} (h : Wia t) : t.length < 4611686018427387903 := by have := h.m.1; omega
theorem Wia.may {t : Aga} (h : Raa t = true) : Wia t := by
  obtain ⟨h1, h2, h3⟩ := Tta.1 h
  refine ⟨⟨by omega, fun f hf => ?_⟩, fun f hf => ?_⟩
  · have := (h1 f hf).2
    simp only [Zca, Bool.and_eq_true, decide_eq_true_eq] at this
    omega
  · obtain ⟨a, b⟩ := h1 f hf
    have a' := Jqb a
    simp only [Zca, Bool.and_eq_true, decide_eq_true_eq, List.all_eq_true] at b
    exact ⟨by omega, fun s hs => by have := Jmb (b.2 s hs); omega, by omega⟩
structure Rfa (r : Sla) : Prop where
  l : ∀ p ∈ r.2.1, Ixa p
  n : r.2.1.length ≤ 1000
  b : Wia r.2.2.1
  w : Wia r.2.2.2.1
theorem Wna (r : Sla) : ((r.1, r.2.1, r.2.2.1, r.2.2.2.1, r.2.2.2.2.1, ()) : Sla) = r := rfl
theorem Sfa (r : Sla) (hr : Rfa r) : ∀ (m : List Ama) (i : Nat), r.2.1.drop i = m → i ≤ r.2.1.length →
    (Fpb ((r.2.1.take i).map (·.1)) m r.1 r.2.2.2.2.1 = true ∧ Hwa (r.1, r.2.1, r.2.2.1, r.2.2.2.1, r.2.2.2.2.1, r.2.1, (r.2.1.length : Int), (i : Int), ()) = some (.inr (r.1, r.2.1, r.2.2.1, r.2.2.2.1, r.2.2.2.2.1, r.2.1, (r.2.1.length : Int), (r.2.1.length : Int), ()))) ∨
    (Fpb ((r.2.1.take i).map (·.1)) m r.1 r.2.2.2.2.1 = false ∧ ∃ z, Hwa (r.1, r.2.1, r.2.2.1, r.2.2.2.1, r.2.2.2.2.1, r.2.1, (r.2.1.length : Int), (i : Int), ()) = some (.inl z))
  | [], i, h, hi => by
    have := Ada h hi
    have hn := hr.n
    subst this
    rw [Sea]
    simp (disch := omega) only [Dla, PP]
    exact .inl ⟨by rfl, trivial⟩
  | p :: m, i, h, hi => by
    obtain ⟨h1, h2, h3, h4⟩ := Aba h
    have hn := hr.n
    have e1 := Eyb p (hr.l p h4)
    have e2 := Cfb r.2.1 p.1 (by omega)
    have hlt := Klb r.2.1 i p (by rw [h, h3]) h1
    have ih := Sfa r hr m (i + 1) h3 (by omega)
    have ht : (r.2.1.take (i + 1)).map (·.1) = (r.2.1.take i).map (·.1) ++ [p.1] := by
      have hg : r.2.1[i]? = some p := by
        have := congrArg (·[0]?) h
        simpa using this
      rw [List.take_add_one, hg]; simp
    rw [ht] at ih
    rw [Sea, Fpb]
    cases hm : Ktb p with
    | false =>
      rw [hm] at e1
      simp (disch := omega) only [Dla, PP, h2, Bua, Cxa, e1]
      exact .inr ⟨rfl, _, rfl⟩
    | true =>
      rw [hm] at e1
      by_cases hf : Jcb r.2.1 p.1 < (i : Int)
      · simp (disch := omega) only [Dla, PP, h2, Bua, Cxa, e1, e2]
        have : p.1 ∈ (r.2.1.take i).map (·.1) := hlt.1 hf
        exact .inr ⟨by simp only [this, not_true_eq_false, decide_false, Bool.and_false, Bool.false_and], _, rfl⟩
      · have hno : p.1 ∉ (r.2.1.take i).map (·.1) := fun k => hf (hlt.2 k)
        by_cases hw : p.1.1 = r.1
        · by_cases hmd : r.2.2.2.2.1 < p.1.2.1
          · simp (disch := first | omega | exact hw) only [Dla, PP, h2, Bua, Cxa, e1, e2, Bta]
            exact .inr ⟨by simp [hw, hmd], _, rfl⟩
          · simp (disch := first | omega | exact hw) only [Dla, PP, h2, Bua, Cxa, e1, e2, Bta]
            simp only [hno, hmd, not_false_eq_true, decide_true, decide_false, Bool.and_false, Bool.not_false, Bool.true_and]
            exact ih
        · simp (disch := first | omega | exact hw) only [Dla, PP, h2, Bua, Cxa, e1, e2, Bta]
          simp only [hno, hw, not_false_eq_true, decide_true, decide_false, Bool.false_and, Bool.not_false, Bool.true_and]
          exact ih
theorem Sua (r : Sla) (hr : Rfa r) : Qpa (r, ()) = some (Ypa r, ()) := by
  have hn := hr.n
  rw [Ghb]
  unfold Djb Ypa
  by_cases h0 : 0 ≤ r.1
  · by_cases h1 : r.1 < 8
    · by_cases h2 : r.2.1.length ≤ 60
      · by_cases h3 : 0 ≤ r.2.2.2.2.1
        · by_cases h4 : r.2.2.2.2.1 ≤ 1048576
          · have hA := Zwa [] r.2.1 ⟨by simp, by simp⟩ (by omega) hr.l
            have hB := Eba r.2.2.1 hr.b.s hr.b.n
            have hW := Eba r.2.2.2.1 hr.w.s hr.w.n
            rcases Sfa r hr r.2.1 0 rfl (by omega) with ⟨a, b⟩ | ⟨a, z, b⟩
            · simp only [Int.natCast_zero, List.take_zero, List.map_nil] at a b
              simp (disch := omega) only [Afa, Aia, b, Aaa, Fpa, hA, a, h0, h1, h2, h3, h4, decide_true, Bool.true_and, Bta]
              by_cases h5 : (Rga [] r.2.1).2 = 0
              · have eS : Kia ((Rga [] r.2.1).1, r.2.2.1, ()) = some (decide ((Rga [] r.2.1).1 = r.2.2.1), ()) := by
                  have ht : Wee (Rga [] r.2.1).1 := by
                    have hal := Gyb r.2.1 (fun p hp => (hr.l p hp).n)
                    have fit : ∀ (l : List Bxa) (t : Aga) (n m : Nat), Fit n m t → Fit (n + l.length) (m + l.length * 200) (Ina t l).1 := by
                      intro l
                      induction l with
                      | nil => intro t n m h; exact h.mono (by simp) (by simp)
                      | cons p l ih =>
                        intro t n m h
                        unfold Ina
                        split
                        · rename_i h0
                          exact (ih _ _ _ (Arb h h0)).mono (by simp; omega) (by simp; omega)
                        · exact ⟨by simp, by simp⟩
                    have := fit (Kjb r.2.1) [] 0 0 ⟨by simp, by simp⟩
                    exact this.wee (by omega) (by omega)
                  exact Wga _ _ ht
                simp only [h5, decide_true, Aca, eS, Aaa, Bool.true_and]
                by_cases h6 : (Rga [] r.2.1).1 = r.2.2.1
                · simp only [h6, decide_true, Aca, hB, Aaa, Bool.true_and]
                  cases h7 : Raa r.2.2.1 with
                  | false => simp only [Aea, Bool.false_and]
                  | true => simp only [Aca, hW, Aaa, Bool.true_and]
                · simp only [h6, decide_false, Aea, Bool.false_and]
              · simp only [h5, decide_false, Aea, Bool.false_and]
            · simp only [Int.natCast_zero, List.take_zero, List.map_nil] at a b
              simp (disch := omega) only [Afa, Aia, b, Aaa, Hia, a, Bool.and_false, Bool.false_and]
          · simp (disch := omega) only [Afa, Aia, h4, decide_false, Bool.and_false, Bool.false_and]
        · simp (disch := omega) only [Afa, Aia, h3, decide_false, Bool.and_false, Bool.false_and]
      · simp (disch := omega) only [Afa, Aia, h2, decide_false, Bool.and_false, Bool.false_and]
    · simp (disch := omega) only [Afa, Aia, h1, decide_false, Bool.and_false, Bool.false_and]
  · simp (disch := omega) only [Afa, Aia, h0, decide_false, Bool.and_false, Bool.false_and]
theorem Iyb {t : Aga} (h : Raa t = true) : Zda t ByteArray.empty = t := by
  have hn : Aza t ByteArray.empty = none := Eva fun f hf e => by
    have := ((Tta.1 h).1 f hf).1
    rw [e] at this
    simp [Hua] at this
  have : ¬ at_ t ByteArray.empty < t.length := by
    rw [Iub, hn]; simp
  unfold Zda
  exact List.eraseIdx_of_length_le (by omega)
theorem Sva {t : Aga} (h : Raa t = true) : Qqa (t, ()) = some (t, ()) := by
  have e := Sya t ByteArray.empty (Wia.may h).w
  rw [Iyb h] at e
  rw [Gib]
  simp only [Dkb, e, Aaa]
theorem Feb (r : Sla) (hr : Rfa r) : Uma (r, ()) = some (Esb r, ()) := by
  have e1 := Sua r hr
  have e2 := Iab r.2.2.1 r.2.2.2.1 hr.b.m hr.w.m hr.b.s hr.w.s
  rw [Fdb]
  unfold Ajb Esb
  simp only [Wna, e1, Aaa, Aoa]
  cases h : Ypa r with
  | false => simp only [Aea, Bool.false_eq_true, if_false]
  | true =>
    have hm := (Pba r).1 h
    rw [hm.b, hm.k] at e2
    simp only [Bool.and_self, if_true] at e2
    simp only [Aca, e2, Aaa, if_true]
theorem Wea (r : Sla) (t : Aga) (hr : Rfa r) (ht : Wia t) : Ppa (r, t, ()) = some ((Ftb r t).1, (Ftb r t).2, ()) := by
  have e1 := Sua r hr
  have e2 := Eba t ht.s ht.n
  have e3 := Qxa [] (by simp) r.2.1 [] (by have := hr.n; simp; omega) (by simpa using hr.l) (.inl rfl) (by simp)
  rw [List.append_nil] at e3
  rw [Fcb]
  unfold Aib Ftb
  simp only [Wna, e1, Aaa, Aoa]
  cases h : Ypa r with
  | false => simp only [Aea, Bool.false_eq_true, false_and, if_false]
  | true =>
    cases h2 : Raa t with
    | false => simp only [Aea, Aca, e2, h2, Aaa, Bool.false_eq_true, and_false, if_false]
    | true =>
      have hm := (Pba r).1 h
      simp only [Aca, e2, h2, e3, Aaa, Sva hm.b, Sva hm.k, Sva h2, Aja, and_self, if_true]
      rfl
theorem Zya (r : Sla) (hr : Rfa r) : Mja (r, ()) = some ((Vca r).1, (Vca r).2, ()) := by
  have e := Wea r r.2.2.1 hr hr.b
  have h : Ftb r r.2.2.1 = Vca r := by
    unfold Ftb Vca
    by_cases h : Ypa r = true
    · rw [if_pos ⟨h, ((Pba r).1 h).b⟩, if_pos h]
    · rw [if_neg (fun k => h k.1), if_neg h]
  rw [h] at e
  rw [Zxa]
  simp only [Vja, Wna, e, Aaa]
def Yla (h : Qwa) : Bool := (decide (h.2.1.length ≤ 300) && Nfa h.2.1) && (decide (h.2.2.1.length ≤ 300) && Nfa h.2.2.1)
def Uya (p : Bxa) : Bool := Yla p.2.2.2.1 && (decide (p.2.1.size ≤ 100) && decide (p.2.2.1.size ≤ 100))
def Kgb (l : List Bxa) : Bool := l.all fun p => Uya p && decide (p.2.2.2.1.1 ≤ 524288)
def Uxa (p : Ama) : Bool := (decide (p.2.2.2.1.length ≤ 10) && Kgb p.2.2.2.1) && (decide (p.2.1.length ≤ 100) && decide (p.2.2.1.size ≤ 200))
def Kfb (l : List Ama) : Bool := l.all Uxa
structure Zga (p : Ama) : Prop where
  n : p.2.2.2.1.length < 4611686018427387903
  l : ∀ c ∈ p.2.2.2.1, Zfa c
  d : p.2.1.length < 4611686018427387903
structure Mkb (r : Sla) : Prop where
  n : r.2.1.length < 4611686018427387903
  l : ∀ p ∈ r.2.1, Zga p
  b : Wha r.2.2.1
  bn : r.2.2.1.length < 4611686018427387903
  w : Wha r.2.2.2.1
  wn : r.2.2.2.1.length < 4611686018427387903
theorem Zka (h : Qwa) (h1 : h.2.1.length < 4611686018427387903) (h2 : h.2.2.1.length < 4611686018427387903) : Jya (h, ()) = some (Yla h, ()) := by
  rw [Zja]
  have e1 := Fba h.2.1 h1
  have e2 := Fba h.2.2.1 h2
  simp only [Vea, e1, e2, Aaa, Yla]
  cases (decide (h.2.1.length ≤ 300) && Nfa h.2.1) <;> rfl
theorem Bpb (a b : Nat) : decide ((a : Int) ≤ (b : Int)) = decide (a ≤ b) := by rw [decide_eq_decide]; omega
theorem Zna (p : Bxa) (h : Zfa p) : Kaa (p, ()) = some (Uya p, ()) := by
  rw [Zma]
  have e1 := Zka p.2.2.2.1 h.1 h.2
  have e2 : decide ((p.2.2.1.size : Int) ≤ 100) = decide (p.2.2.1.size ≤ 100) := Bpb p.2.2.1.size 100
  have e3 : decide ((p.2.1.size : Int) ≤ 100) = decide (p.2.1.size ≤ 100) := Bpb p.2.1.size 100
  unfold Vfa Uya
  simp only [Tqa, e1, e2, e3, Aaa]
  cases Yla p.2.2.2.1 with
  | false => simp only [Aea, Bool.false_and]
  | true =>
    by_cases hn : p.2.1.size ≤ 100
    · simp only [Aca, hn, decide_true, Bool.true_and]
    · simp only [Aca, Aea, hn, decide_false, Bool.true_and, Bool.false_and]
theorem Owa (l : List Bxa) (hs : ∀ p ∈ l, Zfa p) (hb : l.length < 4611686018427387903) : ∀ (r : List Bxa) (i : Nat), l.drop i = r → i ≤ l.length →
    ∃ y, Ioa (l, (i : Int), ()) = some y ∧ (match y with
      | .inl _ => Kgb r = false
      | .inr _ => Kgb r = true)
  | [], i, h, hi => by
    have := Ada h hi
    subst this
    rw [Ova]
    simp (disch := omega) only [Gia, PP]
    exact ⟨_, rfl, rfl⟩
  | f :: r, i, h, hi => by
    obtain ⟨h1, h2, h3, h4⟩ := Aba h
    have e1 := Zna f (hs f h4)
    rw [Ova]
    cases hl : Uya f with
    | false =>
      rw [hl] at e1
      simp (disch := omega) only [Gia, PP, h2, Cva, e1]
      exact ⟨_, rfl, by simp [Kgb, hl]⟩
    | true =>
      rw [hl] at e1
      by_cases hc : f.2.2.2.1.1 ≤ 524288
      · simp (disch := omega) only [Gia, PP, h2, Cva, e1]
        obtain ⟨y, e, p⟩ := Owa l hs hb r (i + 1) h3 (by omega)
        refine ⟨y, e, ?_⟩
        cases y with
        | inl z => simp only [Kgb, List.all_cons, hl, hc, decide_true, Bool.true_and] at p ⊢; exact p
        | inr z => simp only [Kgb, List.all_cons, hl, hc, decide_true, Bool.true_and] at p ⊢; exact p
      · simp (disch := omega) only [Gia, PP, h2, Cva, e1]
        exact ⟨_, rfl, by simp [Kgb, hc]⟩
theorem Ekb (l : List Bxa) (hs : ∀ p ∈ l, Zfa p) (hb : l.length < 4611686018427387903) : Oua (l, 10, ()) = some (decide (l.length ≤ 10) && Kgb l, ()) := by
  rw [Ejb]
  by_cases h : l.length ≤ 10
  · obtain ⟨y, e, p⟩ := Owa l hs hb l 0 rfl (by omega)
    simp only [Int.natCast_zero] at e
    cases y with
    | inl z => simp only at p; simp (disch := omega) only [Pva, PP, e, p, Bool.and_false]
    | inr z => simp only at p; simp (disch := omega) only [Pva, PP, e, p, h, decide_true, Bool.true_and]
  · simp (disch := omega) only [Pva, PP, h, decide_false, Bool.false_and]
theorem Zpa (p : Ama) (h : Zga p) : Kba (p, 10, ()) = some (Uxa p, ()) := by
  rw [Zoa]
  have e1 := Ekb p.2.2.2.1 h.l h.n
  have e2 : decide ((p.2.2.1.size : Int) ≤ 200) = decide (p.2.2.1.size ≤ 200) := Bpb p.2.2.1.size 200
  have e3 : decide ((p.2.1.length : Int) ≤ 100) = decide (p.2.1.length ≤ 100) := Bpb p.2.1.length 100
  unfold Vga Uxa
  simp only [e1, e2, e3, Aaa]
  cases (decide (p.2.2.2.1.length ≤ 10) && Kgb p.2.2.2.1) with
  | false => simp only [Aea, Bool.false_and]
  | true =>
    by_cases hn : p.2.1.length ≤ 100
    · simp only [Aca, hn, decide_true, Bool.true_and]
    · simp only [Aca, Aea, hn, decide_false, Bool.true_and, Bool.false_and]
theorem Oya (l : List Ama) (hs : ∀ p ∈ l, Zga p) (hb : l.length < 4611686018427387903) : ∀ (r : List Ama) (i : Nat), l.drop i = r → i ≤ l.length →
    ∃ y, Ipa (l, (i : Int), ()) = some y ∧ (match y with
      | .inl _ => Kfb r = false
      | .inr _ => Kfb r = true)
  | [], i, h, hi => by
    have := Ada h hi
    subst this
    rw [Oxa]
    simp (disch := omega) only [Jea, PP]
    exact ⟨_, rfl, rfl⟩
  | f :: r, i, h, hi => by
    obtain ⟨h1, h2, h3, h4⟩ := Aba h
    have e1 := Zpa f (hs f h4)
    rw [Oxa]
    cases hl : Uxa f with
    | false =>
      rw [hl] at e1
      simp (disch := omega) only [Jea, PP, h2, Bua, Cxa, e1]
      exact ⟨_, rfl, by simp [Kfb, hl]⟩
    | true =>
      rw [hl] at e1
      simp (disch := omega) only [Jea, PP, h2, Bua, Cxa, e1]
      obtain ⟨y, e, p⟩ := Oya l hs hb r (i + 1) h3 (by omega)
      refine ⟨y, e, ?_⟩
      cases y with
      | inl z => simp only [Kfb, List.all_cons, hl, Bool.true_and] at p ⊢; exact p
      | inr z => simp only [Kfb, List.all_cons, hl, Bool.true_and] at p ⊢; exact p
theorem Emb (l : List Ama) (n : Nat) (hn : n ≤ 1000) (hs : ∀ p ∈ l, Zga p) (hb : l.length < 4611686018427387903) : Loa (l, (n : Int), ()) = some (decide (l.length ≤ n) && Kfb l, ()) := by
  rw [Elb]
  by_cases h : l.length ≤ n
  · obtain ⟨y, e, p⟩ := Oya l hs hb l 0 rfl (by omega)
    simp only [Int.natCast_zero] at e
    cases y with
    | inl z => simp only at p; simp (disch := omega) only [Pwa, PP, e, p, Bool.and_false]
    | inr z => simp only at p; simp (disch := omega) only [Pwa, PP, e, p, h, decide_true, Bool.true_and]
  · simp (disch := omega) only [Pwa, PP, h, decide_false, Bool.false_and]
theorem Jkb {p : Bxa} (h : Uya p = true) : Tba p := by
  simp only [Uya, Yla, Bool.and_eq_true, decide_eq_true_eq] at h
  exact ⟨h.2.1, h.2.2, h.1.1.1, h.1.2.1⟩
theorem Jjb {p : Ama} (h : Uxa p = true) : Ixa p ∧ p.2.2.2.1.length ≤ 10 := by
  simp only [Uxa, Kgb, Bool.and_eq_true, decide_eq_true_eq, List.all_eq_true] at h
  exact ⟨⟨fun c hc => Jkb (h.1.2 c hc).1, by omega, by omega, by omega⟩, h.1.1⟩
def Swa (t : Aga) : Bool := t.all fun f => decide (f.2.1.length ≤ 40)
theorem Lqa (t : Aga) (hb : t.length < 4611686018427387903) : ∀ (r : Aga) (i : Nat), t.drop i = r → i ≤ t.length →
    ∃ y, Fda (t, (i : Int), ()) = some y ∧ (match y with
      | .inl _ => Swa r = false
      | .inr _ => Swa r = true)
  | [], i, h, hi => by
    have := Ada h hi
    subst this
    rw [Lpa]
    simp (disch := omega) only [Gja, PP]
    exact ⟨_, rfl, rfl⟩
  | f :: r, i, h, hi => by
    obtain ⟨h1, h2, h3, h4⟩ := Aba h
    rw [Lpa]
    by_cases hc : f.2.1.length ≤ 40
    · simp (disch := omega) only [Gja, PP, h2]
      obtain ⟨y, e, p⟩ := Lqa t hb r (i + 1) h3 (by omega)
      refine ⟨y, e, ?_⟩
      cases y with
      | inl z => simp only [Swa, List.all_cons, hc, decide_true, Bool.true_and] at p ⊢; exact p
      | inr z => simp only [Swa, List.all_cons, hc, decide_true, Bool.true_and] at p ⊢; exact p
    · simp (disch := omega) only [Gja, PP, h2]
      exact ⟨_, rfl, by simp [Swa, hc]⟩
def Lba (t : Aga) : Bool := (decide (t.length ≤ 40) && Paa t) && (decide (t.length ≤ 6) && Swa t)
theorem Rqa (t : Aga) (hs : Wha t) (hb : t.length < 4611686018427387903) : Kda (t, ()) = some (Lba t, ()) := by
  rw [Zta]
  cases hl : (decide (t.length ≤ 40) && Paa t) with
  | false => simp (disch := first | omega | assumption) only [Iha, PP, Iea, hl, Bool.not_false, Lba, Bool.false_and]
  | true =>
    by_cases h6 : t.length ≤ 6
    · obtain ⟨y, e, p⟩ := Lqa t hb t 0 rfl (by omega)
      simp only [Int.natCast_zero] at e
      cases y with
      | inl z => simp only at p; simp (disch := first | omega | assumption) only [Iha, PP, Iea, hl, Bool.not_true, Lba, e, p, Bool.true_and, Bool.and_false]
      | inr z => simp only at p; simp (disch := first | omega | assumption) only [Iha, PP, Iea, hl, Bool.not_true, Lba, e, p, h6, decide_true, Bool.true_and]
    · simp (disch := first | omega | assumption) only [Iha, PP, Iea, hl, Bool.not_true, Lba, h6, decide_false, Bool.true_and, Bool.false_and]
theorem Fgb {t : Aga} (h : Lba t = true) : Wia t ∧ t.length ≤ 6 ∧ ∀ f ∈ t, f.2.1.length ≤ 40 := by
  simp only [Lba, Swa, Bool.and_eq_true, decide_eq_true_eq, List.all_eq_true] at h
  obtain ⟨h1, h2, h3⟩ := Jlb h.1.1 h.1.2
  exact ⟨⟨⟨by omega, fun f hf => by have := h.2.2 f hf; omega⟩, h3⟩, h.2.1, h.2.2⟩
def Yka (r : Sla) : Bool := (decide (r.2.1.length ≤ 10) && Kfb r.2.1) && (Lba r.2.2.1 && Lba r.2.2.2.1)
theorem Zra (r : Sla) (h : Mkb r) : Kca (r, ()) = some (Yka r, ()) := by
  rw [Zqa]
  have e1 : Loa (r.2.1, 10, ()) = some (decide (r.2.1.length ≤ 10) && Kfb r.2.1, ()) := Emb r.2.1 10 (by omega) h.l h.n
  have e2 := Rqa r.2.2.1 h.b h.bn
  have e3 := Rqa r.2.2.2.1 h.w h.wn
  simp only [Vha, e1, e2, e3, Aaa, Yka]
  cases (decide (r.2.1.length ≤ 10) && Kfb r.2.1) <;> cases Lba r.2.2.1 <;> rfl
theorem Jib {r : Sla} (h : Yka r = true) : Rfa r ∧ r.2.1.length ≤ 10 := by
  simp only [Yka, Kfb, Bool.and_eq_true, decide_eq_true_eq, List.all_eq_true] at h
  exact ⟨⟨fun p hp => (Jjb (h.1.2 p hp)).1, by omega, (Fgb h.2.1).1, (Fgb h.2.2).1⟩, h.1.1⟩
instance : DecidableEq Bxa := instDecidableEqProd
instance : DecidableEq Ama := instDecidableEqProd
instance : DecidableEq (List Ama) := inferInstance
instance : DecidableEq (Aga × Aga × Int × Unit) := instDecidableEqProd
instance : DecidableEq (List Ama × Aga × Aga × Int × Unit) := instDecidableEqProd
instance : DecidableEq Sla := instDecidableEqProd
theorem Ixa.s {p : Ama} (h : Ixa p) : Zga p := ⟨by have := h.n; omega, fun c hc => (h.l c hc).w'.s, by have := h.d; omega⟩
theorem Nsa (p q : Ama) (l m : List Id) (hl : l.length < 4611686018427387903) (hlm : l.length = m.length) : ∀ (r : List Id) (i : Nat), l.drop i = r → i ≤ l.length →
    ∃ y, Hea (p.1.1, p.1.2.1, l, p.2.2.1, p.2.2.2.1, q.1.1, q.1.2.1, m, q.2.2.1, q.2.2.2.1, (i : Int), ()) = some y ∧ (match y with
      | .inl _ => l.drop i ≠ m.drop i
      | .inr _ => l.drop i = m.drop i)
  | [], i, h, hi => by
    have := Ada h hi
    subst this
    rw [Nra]
    simp (disch := omega) only [Ica, PP]
    exact ⟨_, rfl, by simp only; rw [List.drop_length, hlm, List.drop_length]⟩
  | f :: r, i, h, hi => by
    obtain ⟨h1, h2, h3, h4⟩ := Aba h
    have hm : m.drop i = m[i] :: m.drop (i + 1) := List.drop_eq_getElem_cons (by omega)
    obtain ⟨m1, m2, m3, m4⟩ := Aba hm
    rw [Nra, h, hm]
    by_cases hf : f = m[i]
    · simp (disch := first | omega | exact hf) only [Ica, PP, h2, m2, Jva]
      obtain ⟨y, e, p⟩ := Nsa p q l m hl hlm r (i + 1) h3 (by omega)
      rw [h3] at p
      refine ⟨y, e, ?_⟩
      cases y with
      | inl z => simp only at p ⊢; intro k; exact p (List.cons.inj k).2
      | inr z => simp only at p ⊢; rw [hf, p]
    · simp (disch := first | omega | exact hf) only [Ica, PP, h2, m2, Jva]
      exact ⟨_, rfl, fun k => hf (List.cons.inj k).1⟩
theorem Cvb (p q : Ama) (h : Zga p) : Qna (p, q, ()) = some (decide (p = q), ()) := by
  have e1 := Cpb p.2.2.2.1 q.2.2.2.1 h.l h.n
  rw [Cub]
  unfold Wxa
  simp only [e1, Aaa, Jva, Uva]
  by_cases hL : p.2.2.2.1 = q.2.2.2.1
  · by_cases hI : p.1 = q.1
    · by_cases hT : p.2.2.1 = q.2.2.1
      · by_cases hD : p.2.1.length = q.2.1.length
        · obtain ⟨y, e, k⟩ := Nsa p q p.2.1 q.2.1 h.d hD p.2.1 0 rfl (by omega)
          simp only [Int.natCast_zero, List.drop_zero] at e k
          have hbn : ((p.2.1.length : Int) != (q.2.1.length : Int)) = false := by simp [hD]
          simp only [hL, hI, hT, decide_true, hbn, Aoa, Aca, Aea]
          rw [hL, hI, hT] at e
          simp only [e, Aaa]
          obtain ⟨pi, pd, pt, pl, pu⟩ := p
          obtain ⟨qi, qd, qt, ql, qu⟩ := q
          simp only at hL hI hT hD e k
          subst hL hI hT
          cases y with
          | inl z => simp only at k; simp only [Hia]; simp [k]
          | inr z => simp only at k; subst k; simp only [Fpa]; simp
        · have hbn : ((p.2.1.length : Int) != (q.2.1.length : Int)) = true := by simp; omega
          have hne : p ≠ q := fun k => hD (by rw [k])
          simp only [hL, hI, hT, decide_true, hbn, Aoa, Aca, Aea, hne, decide_false]
      · have hne : p ≠ q := fun k => hT (by rw [k])
        simp only [hL, hI, hT, decide_true, decide_false, Aoa, Aca, Aea, hne]
    · have hne : p ≠ q := fun k => hI (by rw [k])
      simp only [hL, hI, decide_true, decide_false, Aoa, Aca, Aea, hne]
  · have hne : p ≠ q := fun k => hL (by rw [k])
    simp only [hL, decide_false, Aoa, Aea, hne]
theorem Nqa (l m : List Ama) (hs : ∀ p ∈ l, Zga p) (hl : l.length < 4611686018427387903) (hlm : l.length = m.length) : ∀ (r : List Ama) (i : Nat), l.drop i = r → i ≤ l.length →
    ∃ y, Hda (l, m, (i : Int), ()) = some y ∧ (match y with
      | .inl _ => l.drop i ≠ m.drop i
      | .inr _ => l.drop i = m.drop i)
  | [], i, h, hi => by
    have := Ada h hi
    subst this
    rw [Npa]
    simp (disch := omega) only [Iba, PP]
    exact ⟨_, rfl, by simp only; rw [List.drop_length, hlm, List.drop_length]⟩
  | f :: r, i, h, hi => by
    obtain ⟨h1, h2, h3, h4⟩ := Aba h
    have hm : m.drop i = m[i] :: m.drop (i + 1) := List.drop_eq_getElem_cons (by omega)
    obtain ⟨m1, m2, m3, m4⟩ := Aba hm
    have e1 := Cvb f m[i] (hs f h4)
    rw [Npa, h, hm]
    by_cases hf : f = m[i]
    · rw [decide_eq_true hf] at e1
      simp (disch := omega) only [Iba, PP, h2, m2, Bua, Cxa, e1]
      obtain ⟨y, e, p⟩ := Nqa l m hs hl hlm r (i + 1) h3 (by omega)
      rw [h3] at p
      refine ⟨y, e, ?_⟩
      cases y with
      | inl z => simp only at p ⊢; intro k; exact p (List.cons.inj k).2
      | inr z => simp only at p ⊢; rw [hf, p]
    · rw [decide_eq_false hf] at e1
      simp (disch := omega) only [Iba, PP, h2, m2, Bua, Cxa, e1]
      exact ⟨_, rfl, fun k => hf (List.cons.inj k).1⟩
theorem Ctb (l m : List Ama) (hs : ∀ p ∈ l, Zga p) (hl : l.length < 4611686018427387903) : Qma (l, m, ()) = some (decide (l = m), ()) := by
  rw [Csb]
  by_cases hlm : l.length = m.length
  · obtain ⟨y, e, p⟩ := Nqa l m hs hl hlm l 0 rfl (by omega)
    simp only [Int.natCast_zero, List.drop_zero] at e p
    have hbn : ((l.length : Int) != (m.length : Int)) = false := by simp [hlm]
    cases y with
    | inl z => simp only at p; simp only [Mca, hbn, e, PP, p, decide_false]
    | inr z => simp only at p; subst p; simp only [Mca, hbn, e, PP, decide_true]
  · have hbn : ((l.length : Int) != (m.length : Int)) = true := by simp; omega
    have : ¬ l = m := fun e => hlm (by rw [e])
    simp only [Mca, hbn, PP, this, decide_false]
theorem Nma (l m : Aga) (hw : Wee l) (hlm : l.length = m.length) : ∀ (r : Aga) (i : Nat), l.drop i = r → i ≤ l.length →
    ∃ y, Hba (l, m, (i : Int), ()) = some y ∧ (match y with
      | .inl _ => l.drop i ≠ m.drop i
      | .inr _ => l.drop i = m.drop i)
  | [], i, h, hi => by
    have := Ada h hi
    have hb := hw.1
    subst this
    rw [Nla]
    simp (disch := omega) only [Eua, PP]
    exact ⟨_, rfl, by simp only; rw [List.drop_length, hlm, List.drop_length]⟩
  | f :: r, i, h, hi => by
    obtain ⟨h1, h2, h3, h4⟩ := Aba h
    have hb := hw.1
    have hm : m.drop i = m[i] :: m.drop (i + 1) := List.drop_eq_getElem_cons (by omega)
    obtain ⟨m1, m2, m3, m4⟩ := Aba hm
    have e1 := Haa f.2.1 m[i].2.1 (by have := hw.2 f h4; omega)
    rw [Nla, h, hm]
    by_cases hf : f.2.1 = m[i].2.1
    · rw [decide_eq_true hf] at e1
      by_cases hn : f.1 = m[i].1
      · simp (disch := first | omega | exact hn) only [Eua, PP, h2, m2, e1]
        obtain ⟨y, e, p⟩ := Nma l m hw hlm r (i + 1) h3 (by omega)
        rw [h3] at p
        refine ⟨y, e, ?_⟩
        have hfm : f = m[i] := by
          obtain ⟨a, b, c⟩ := f
          exact Prod.ext hn (Prod.ext hf rfl)
        cases y with
        | inl z => simp only at p ⊢; intro k; exact p (List.cons.inj k).2
        | inr z => simp only at p ⊢; rw [hfm, p]
      · simp (disch := first | omega | exact hn) only [Eua, PP, h2, m2, e1]
        exact ⟨_, rfl, fun k => hn (by rw [(List.cons.inj k).1])⟩
    · rw [decide_eq_false hf] at e1
      simp (disch := omega) only [Eua, PP, h2, m2, e1]
      exact ⟨_, rfl, fun k => hf (by rw [(List.cons.inj k).1])⟩
theorem Ula (l m : Aga) (hw : Wee l) : Lva (l, m, ()) = some (decide (l = m), ()) := by
  rw [Cnb]
  by_cases hlm : l.length = m.length
  · obtain ⟨y, e, p⟩ := Nma l m hw hlm l 0 rfl (by omega)
    simp only [Int.natCast_zero, List.drop_zero] at e p
    have hbn : ((l.length : Int) != (m.length : Int)) = false := by simp [hlm]
    cases y with
    | inl z => simp only at p; simp only [Maa, hbn, e, PP, p, decide_false]
    | inr z => simp only at p; subst p; simp only [Maa, hbn, e, PP, decide_true]
  · have hbn : ((l.length : Int) != (m.length : Int)) = true := by simp; omega
    have : ¬ l = m := fun e => hlm (by rw [e])
    simp only [Maa, hbn, PP, this, decide_false]
theorem Cxb (a b : Sla) (ha : Rfa a) : Qoa (a, b, ()) = some (decide (a = b), ()) := by
  have e1 := Ctb a.2.1 b.2.1 (fun p hp => (ha.l p hp).s) (by have := ha.n; omega)
  have e2 := Ula a.2.2.1 b.2.2.1 ha.b.w
  have e3 := Ula a.2.2.2.1 b.2.2.2.1 ha.w.w
  rw [Cwb]
  simp only [Wya, e1, e2, e3, Aaa, Bta]
  obtain ⟨a1, a2, a3, a4, a5, au⟩ := a
  obtain ⟨b1, b2, b3, b4, b5, bu⟩ := b
  by_cases h1 : a2 = b2
  · by_cases h2 : a3 = b3
    · by_cases h3 : a4 = b4
      · by_cases h4 : a1 = b1
        · simp [h1, h2, h3, h4, Aca]
        · simp [h1, h2, h3, h4, Aca, Aea]
      · simp [h1, h2, h3, Aca, Aea]
    · simp [h1, h2, Aca, Aea]
  · simp [h1, Aea]
theorem Rfa.set {r : Sla} (h : Rfa r) {t : Aga} (ht : Wia t) : Rfa (Laa r t) := ⟨h.l, h.n, h.b, ht⟩
theorem Qza (r : Sla) (hr : Mkb r) : Eca (r, ()) = some (true, ()) := by
  have e1 := Zra r hr
  rw [Qya]
  unfold Kqa
  simp only [Zsa, Aaa, Wna, e1, Aoa, Aca]
  cases hl : Yka r with
  | false => simp only [Aea]
  | true =>
    obtain ⟨lr, _⟩ := Jib hl
    have e2 := Sua r lr
    simp only [Aca, e2, Aaa]
    cases hm : Ypa r with
    | false => simp only [Aea]
    | true =>
      have mr := (Pba r).1 hm
      have e3 := Zya r lr
      have e4 := Wea r r.2.2.2.1 lr lr.w
      have hv : Vca r = (Laa r r.2.2.1, 0) := by unfold Vca; rw [if_pos hm]
      have hd : Ftb r r.2.2.2.1 = (Laa r r.2.2.2.1, 0) := by unfold Ftb; rw [if_pos ⟨hm, mr.k⟩]
      have hs : Laa r r.2.2.2.1 = r := rfl
      rw [hv] at e3
      rw [hd, hs] at e4
      have e5 := Cxb r r lr
      have e6 := Feb (Laa r r.2.2.1) (lr.set lr.b)
      have hn : Esb (Laa r r.2.2.1) = [] := by
        rw [Ibb (Lgb mr mr.b)]
        exact (Jtb mr.b mr.b).2 rfl
      have e7 := Wga r.2.2.1 r.2.2.1 lr.b.w
      rw [hn] at e6
      have e7' : Kia ((Laa r r.2.2.1).2.2.2.1, r.2.2.1, ()) = some (decide (r.2.2.1 = r.2.2.1), ()) := e7
      simp only [Aca, e3, e4, Aaa, e5, e6, e7', decide_true, List.length_nil]
      rfl
theorem Msb {f : FuncId} {ash : List Shp} {F : dens ash Unit → Option (retS (.ty .bool) []).den} (h : nJb Tryz.prog th f ash (.ty .bool) [] F) {x : dens ash Unit} (e : F x = some (true, ())) :
    run Tryz.prog th (.call f (toLs (hEa.encSs [] ash _ x).1)) = some ⟨.normal, .sc (.bool true), default, {}⟩ := h x (true, ()) e
theorem Ggb : Rep Tryz.prog 56 (fun l : List ByteArray => .slice (l.map (eEa .str))) (fun l => (∀ x ∈ l, x.size ≤ reachBytes) ∧ l.length * Tryz.prog.bytesOf 9 ≤ reachBytes) :=
  Rep.slice Tryz.underlying56 (Rep.str Tryz.underlying9)
theorem Mzb : Rep Tryz.prog 98 (eEa (.pair .str (.pair (.list .str) .unit))) (fun f : ByteArray × List ByteArray × Unit => f.1.size ≤ reachBytes ∧ ((∀ x ∈ f.2.1, x.size ≤ reachBytes) ∧ f.2.1.length * Tryz.prog.bytesOf 9 ≤ reachBytes) ∧ True) :=
  Rep.struct Tryz.underlying98 (lGa.cons (Rep.str Tryz.underlying9) (lGa.cons Ggb lGa.nil))
theorem Kab : Rep Tryz.prog 45 (fun t : List (ByteArray × List ByteArray × Unit) => .slice (t.map (eEa (.pair .str (.pair (.list .str) .unit))))) (fun t => (∀ f ∈ t, f.1.size ≤ reachBytes ∧ ((∀ x ∈ f.2.1, x.size ≤ reachBytes) ∧ f.2.1.length * Tryz.prog.bytesOf 9 ≤ reachBytes) ∧ True) ∧ t.length * Tryz.prog.bytesOf 98 ≤ reachBytes) :=
  Rep.slice Tryz.underlying45 Mzb
theorem Rbb : Tryz.prog.bytesOf 9 = 16 := by kernel_rfl
theorem Qxb : Tryz.prog.bytesOf 98 = 40 := by kernel_rfl
theorem Uka : reachBytes ≤ 140737488355328 := by
  have := reachBytes_lt
  have h2 : (2 : Nat) ^ 47 = 140737488355328 := rfl
  omega
theorem Jub {l : List ByteArray} (h : (∀ x ∈ l, x.size ≤ reachBytes) ∧ l.length * Tryz.prog.bytesOf 9 ≤ reachBytes) : Tlb l ∧ l.length < 4611686018427387903 := by
  have hr := Uka
  rw [Rbb] at h
  exact ⟨fun s hs => by have := h.1 s hs; omega, by omega⟩
theorem Hlb {t : Aga} (h : (∀ f ∈ t, f.1.size ≤ reachBytes ∧ ((∀ x ∈ f.2.1, x.size ≤ reachBytes) ∧ f.2.1.length * Tryz.prog.bytesOf 9 ≤ reachBytes) ∧ True) ∧ t.length * Tryz.prog.bytesOf 98 ≤ reachBytes) : Wha t ∧ t.length < 4611686018427387903 := by
  have hr := Uka
  refine ⟨fun f hf => ?_, ?_⟩
  · obtain ⟨h1, h2, _⟩ := h.1 f hf
    obtain ⟨h3, h4⟩ := Jub h2
    exact ⟨by omega, h3, h4⟩
  · have := h.2
    rw [Qxb] at this
    omega
theorem Rep.mono {P : Program} {t : TypeId} {α : Type} {enc : α → LV} {ok ok' : α → Prop} (r : Rep P t enc ok) (h : ∀ a, ok a → ok' a) : Rep P t enc ok' where
  get := fun h1 h2 => by
    obtain ⟨a, e, k⟩ := r.get h1 h2
    exact ⟨a, e, h a k⟩
theorem Bib : Rep Tryz.prog 3 (eEa (.int .i64)) (fun _ : Int => True) := Rep.mono (Rep.int Tryz.underlying3) fun _ _ => trivial
theorem Yxa : Rep Tryz.prog 9 (eEa .str) (fun s : ByteArray => s.size ≤ reachBytes) := Rep.str Tryz.underlying9
theorem Rgb : Rep Tryz.prog 31 (eEa (.pair (.int .i64) (.pair (.int .i64) .unit))) (fun _ : Id => True) :=
  Rep.mono (Rep.struct Tryz.underlying31 (lGa.cons Bib (lGa.cons Bib lGa.nil))) fun _ _ => trivial
theorem Nab : Rep Tryz.prog 70 (eEa (.pair (.int .i64) (.pair (.list .str) (.pair (.list .str) .unit)))) (fun h : Qwa => h.2.1.length < 4611686018427387903 ∧ h.2.2.1.length < 4611686018427387903) :=
  Rep.mono (Rep.struct Tryz.underlying70 (lGa.cons Bib (lGa.cons Ggb (lGa.cons Ggb lGa.nil)))) fun _ h => ⟨(Jub h.2.1).2, (Jub h.2.2.1).2⟩
theorem Nbb : Rep Tryz.prog 72 (eEa (.pair (.int .i64) (.pair .str (.pair .str (.pair (.pair (.int .i64) (.pair (.list .str) (.pair (.list .str) .unit))) .unit))))) Zfa :=
  Rep.mono (Rep.struct Tryz.underlying72 (lGa.cons Bib (lGa.cons Yxa (lGa.cons Yxa (lGa.cons Nab lGa.nil))))) fun _ h => h.2.2.2.1
theorem Qyb : Tryz.prog.bytesOf 31 = 16 := by kernel_rfl
theorem Rab : Tryz.prog.bytesOf 72 = 96 := by kernel_rfl
theorem Qzb : Tryz.prog.bytesOf 40 = 80 := by kernel_rfl
theorem Rhb : Rep Tryz.prog 37 (eEa (.list (.pair (.int .i64) (.pair (.int .i64) .unit)))) (fun l : List Id => l.length < 4611686018427387903) :=
  Rep.mono (Rep.slice Tryz.underlying37 Rgb) fun l h => by
    have hr := Uka
    have := h.2
    rw [Qyb] at this
    omega
theorem Lfb : Rep Tryz.prog 38 (eEa (.list (.pair (.int .i64) (.pair .str (.pair .str (.pair (.pair (.int .i64) (.pair (.list .str) (.pair (.list .str) .unit))) .unit)))))) (fun l : List Bxa => (∀ p ∈ l, Zfa p) ∧ l.length < 4611686018427387903) :=
  Rep.mono (Rep.slice Tryz.underlying38 Nbb) fun l h => by
    have hr := Uka
    have := h.2
    rw [Rab] at this
    exact ⟨h.1, by omega⟩
theorem Leb : Rep Tryz.prog 40 (eEa (.pair (.pair (.int .i64) (.pair (.int .i64) .unit)) (.pair (.list (.pair (.int .i64) (.pair (.int .i64) .unit))) (.pair .str (.pair (.list (.pair (.int .i64) (.pair .str (.pair .str (.pair (.pair (.int .i64) (.pair (.list .str) (.pair (.list .str) .unit))) .unit))))) .unit))))) Zga :=
  Rep.mono (Rep.struct Tryz.underlying40 (lGa.cons Rgb (lGa.cons Rhb (lGa.cons Yxa (lGa.cons Lfb lGa.nil))))) fun _ h => ⟨h.2.2.2.1.2, h.2.2.2.1.1, h.2.1⟩
theorem Jzb : Rep Tryz.prog 22 (eEa (.list (.pair (.pair (.int .i64) (.pair (.int .i64) .unit)) (.pair (.list (.pair (.int .i64) (.pair (.int .i64) .unit))) (.pair .str (.pair (.list (.pair (.int .i64) (.pair .str (.pair .str (.pair (.pair (.int .i64) (.pair (.list .str) (.pair (.list .str) .unit))) .unit))))) .unit)))))) (fun l : List Ama => (∀ p ∈ l, Zga p) ∧ l.length < 4611686018427387903) :=
  Rep.mono (Rep.slice Tryz.underlying22 Leb) fun l h => by
    have hr := Uka
    have := h.2
    rw [Qzb] at this
    exact ⟨h.1, by omega⟩
theorem Ncb : Rep Tryz.prog 47 (eEa (.pair (.int .i64) (.pair (.list (.pair (.pair (.int .i64) (.pair (.int .i64) .unit)) (.pair (.list (.pair (.int .i64) (.pair (.int .i64) .unit))) (.pair .str (.pair (.list (.pair (.int .i64) (.pair .str (.pair .str (.pair (.pair (.int .i64) (.pair (.list .str) (.pair (.list .str) .unit))) .unit))))) .unit))))) (.pair (.list (.pair .str (.pair (.list .str) .unit))) (.pair (.list (.pair .str (.pair (.list .str) .unit))) (.pair (.int .i64) .unit)))))) Mkb :=
  Rep.mono (Rep.struct Tryz.underlying47 (lGa.cons Bib (lGa.cons Jzb (lGa.cons Kab (lGa.cons Kab (lGa.cons Bib lGa.nil)))))) fun _ h =>
    ⟨h.2.1.2, h.2.1.1, (Hlb h.2.2.1).1, (Hlb h.2.2.1).2, (Hlb h.2.2.2.1).1, (Hlb h.2.2.2.1).2⟩
end Go.Proofs.YtpeaaophmddhnaaGreat.LI
