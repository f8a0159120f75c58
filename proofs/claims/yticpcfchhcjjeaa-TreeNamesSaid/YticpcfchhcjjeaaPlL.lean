/-
  Laws of trees: what is got of a tree with a file and of one without, and that rising trees of the same files are the same.
-/
import Derived.Test.YticpcfchhcjjeaaPlM
namespace Go.Proofs.Yticpcfchhcjjeaa.LI
open Go
set_option linter.unusedSimpArgs false

/-- Names rise. -/
abbrev RT (t : Tree) : Prop := t.Pairwise fun f g => ltS f.1 g.1
theorem getT_nil (s : Str) : getT [] s = none := rfl
theorem getT_cons (f : File) (t : Tree) (s : Str) : getT (f :: t) s = if f.1 = s then some f.2.1 else getT t s := by
  unfold getT
  rw [List.find?_cons]
  by_cases h : f.1 = s <;> simp [h]
theorem at_cons (f : File) (t : Tree) (s : Str) : at_ (f :: t) s = if f.1 = s then 0 else at_ t s + 1 := by
  unfold at_
  rw [List.findIdx_cons]
  by_cases h : f.1 = s <;> simp [h]
theorem gt_cons (f : File) (t : Tree) (s : Str) : gt_ (f :: t) s = if ltS s f.1 then 0 else gt_ t s + 1 := by
  unfold gt_
  rw [List.findIdx_cons]
  by_cases h : ltS s f.1 <;> simp [h]
theorem at_some (t : Tree) (s : Str) : at_ t s < t.length ↔ (getT t s).isSome = true := by
  rw [getT_at]
  by_cases h : at_ t s < t.length <;> simp [h]
theorem getT_none : ∀ {t : Tree} {s : Str}, (∀ f ∈ t, f.1 ≠ s) → getT t s = none
  | [], _, _ => rfl
  | f :: t, s, h => by
    rw [getT_cons, if_neg (h f List.mem_cons_self)]
    exact getT_none fun g hg => h g (List.mem_cons_of_mem _ hg)
theorem getT_mem : ∀ {t : Tree} {f : File}, f ∈ t → (getT t f.1).isSome = true
  | g :: t, f, h => by
    rw [getT_cons]
    split
    · rfl
    · rcases List.mem_cons.1 h with rfl | h
      · rename_i hn; exact absurd rfl hn
      · exact getT_mem h
theorem getT_in : ∀ {t : Tree} {s : Str} {l : List Str}, getT t s = some l → (s, l, ()) ∈ t
  | f :: t, s, l, h => by
    rw [getT_cons] at h
    split at h
    · rename_i e; subst e; cases h; exact List.mem_cons_self
    · exact List.mem_cons_of_mem _ (getT_in h)
theorem ltS_ne {a b : Str} (h : ltS a b) : a ≠ b := fun e => ltS_irrefl b (e ▸ h)
/-! ### with a file -/
theorem put_nil (s : Str) (l : List Str) : putT [] s l = [(s, l, ())] := by simp [putT, at_, gt_]
theorem put_same (f : File) (t : Tree) (s : Str) (l : List Str) (h : f.1 = s) : putT (f :: t) s l = (s, l, ()) :: t := by
  unfold putT
  rw [at_cons, if_pos h, if_pos (by simp)]; rfl
theorem put_lt (f : File) (t : Tree) (s : Str) (l : List Str) (h : ltS f.1 s) : putT (f :: t) s l = f :: putT t s l := by
  unfold putT
  rw [at_cons, if_neg (ltS_ne h), gt_cons, if_neg (ltS_asymm h), List.length_cons]
  by_cases k : at_ t s < t.length
  · rw [if_pos (by omega), if_pos k]; rfl
  · rw [if_neg (by omega), if_neg k]; rfl
theorem put_gt (f : File) (t : Tree) (s : Str) (l : List Str) (hr : RT (f :: t)) (h : ltS s f.1) : putT (f :: t) s l = (s, l, ()) :: f :: t := by
  have hn : getT (f :: t) s = none := getT_none fun g hg => by
    rcases List.mem_cons.1 hg with rfl | hg
    · exact (ltS_ne h).symm
    · exact (ltS_ne (ltS_trans h ((List.pairwise_cons.1 hr).1 g hg))).symm
  have ha : ¬ at_ (f :: t) s < (f :: t).length := by rw [at_some, hn]; simp
  unfold putT
  rw [if_neg ha, gt_cons, if_pos h]; rfl
theorem put_mem : ∀ {t : Tree} {s : Str} {l : List Str} {g : File}, g ∈ putT t s l → g = (s, l, ()) ∨ g ∈ t := by
  intro t s l g h
  unfold putT at h
  split at h
  · rcases List.mem_or_eq_of_mem_set h with h | h
    · exact .inr h
    · exact .inl h
  · simp only [List.mem_append, List.mem_cons] at h
    rcases h with h | h | h
    · exact .inr (List.mem_of_mem_take h)
    · exact .inl h
    · exact .inr (List.mem_of_mem_drop h)
theorem put_rising : ∀ {t : Tree} (s : Str) (l : List Str), RT t → RT (putT t s l)
  | [], s, l, _ => by rw [put_nil]; exact List.pairwise_singleton _ _
  | f :: t, s, l, hr => by
    obtain ⟨h1, h2⟩ := List.pairwise_cons.1 hr
    rcases ltS_total f.1 s with h | h | h
    · rw [put_lt _ _ _ _ h]
      refine List.pairwise_cons.2 ⟨fun g hg => ?_, put_rising s l h2⟩
      rcases put_mem hg with rfl | hg
      · exact h
      · exact h1 g hg
    · rw [put_same _ _ _ _ h]
      refine List.pairwise_cons.2 ⟨fun g hg => ?_, h2⟩
      rw [← h]; exact h1 g hg
    · rw [put_gt _ _ _ _ hr h]
      refine List.pairwise_cons.2 ⟨fun g hg => ?_, hr⟩
      rcases List.mem_cons.1 hg with rfl | hg
      · exact h
      · exact ltS_trans h (h1 g hg)
theorem get_putT : ∀ {t : Tree} (s : Str) (l : List Str) (x : Str), RT t → getT (putT t s l) x = if x = s then some l else getT t x
  | [], s, l, x, _ => by
    rw [put_nil, getT_cons]
    by_cases h : x = s
    · rw [if_pos h.symm, if_pos h]
    · rw [if_neg fun e => h e.symm, if_neg h]
  | f :: t, s, l, x, hr => by
    obtain ⟨h1, h2⟩ := List.pairwise_cons.1 hr
    rcases ltS_total f.1 s with h | h | h
    · rw [put_lt _ _ _ _ h, getT_cons, get_putT s l x h2, getT_cons]
      by_cases k : f.1 = x
      · rw [if_pos k, if_pos k, if_neg fun e => ltS_ne h (k.trans e)]
      · rw [if_neg k, if_neg k]
    · rw [put_same _ _ _ _ h, getT_cons, getT_cons]
      by_cases k : x = s
      · rw [if_pos k.symm, if_pos k]
      · rw [if_neg fun e => k e.symm, if_neg k, if_neg fun e => k (e.symm.trans h)]
    · rw [put_gt _ _ _ _ hr h, getT_cons]
      by_cases k : x = s
      · rw [if_pos k.symm, if_pos k]
      · rw [if_neg fun e => k e.symm, if_neg k]
theorem put_len' (t : Tree) (s : Str) (l : List Str) : (putT t s l).length = if (getT t s).isSome then t.length else t.length + 1 := by
  unfold putT
  by_cases h : at_ t s < t.length
  · rw [if_pos h, if_pos ((at_some t s).1 h), List.length_set]
  · rw [if_neg h, if_neg (fun e => h ((at_some t s).2 e)), List.length_append, List.length_cons, List.length_take, List.length_drop]; omega
/-! ### without a file -/
theorem del_nil (s : Str) : delT [] s = [] := rfl
theorem del_cons (f : File) (t : Tree) (s : Str) : delT (f :: t) s = if f.1 = s then t else f :: delT t s := by
  unfold delT
  rw [at_cons]
  by_cases h : f.1 = s
  · rw [if_pos h, if_pos h]; rfl
  · rw [if_neg h, if_neg h]; rfl
theorem del_mem {t : Tree} {s : Str} {g : File} (h : g ∈ delT t s) : g ∈ t := List.mem_of_mem_eraseIdx h
theorem del_rising {t : Tree} (s : Str) (h : RT t) : RT (delT t s) := h.sublist (List.eraseIdx_sublist _ _)
theorem get_delT : ∀ {t : Tree} (s x : Str), RT t → getT (delT t s) x = if x = s then none else getT t x
  | [], s, x, _ => by rw [del_nil, getT_nil]; split <;> rfl
  | f :: t, s, x, hr => by
    obtain ⟨h1, h2⟩ := List.pairwise_cons.1 hr
    rw [del_cons, getT_cons]
    by_cases h : f.1 = s
    · rw [if_pos h]
      by_cases k : x = s
      · rw [if_pos k]
        exact getT_none fun g hg e => ltS_ne (h1 g hg) ((h.trans k.symm).trans e.symm)
      · rw [if_neg k, if_neg fun e => k (e.symm.trans h)]
    · rw [if_neg h, getT_cons, get_delT s x h2]
      by_cases k : f.1 = x
      · rw [if_pos k, if_pos k, if_neg fun e => h (k.trans e)]
      · rw [if_neg k, if_neg k]
theorem del_len (t : Tree) (s : Str) : (delT t s).length ≤ t.length := by
  rw [delT, List.length_eraseIdx]; split <;> omega
/-! ### the same -/
theorem tree_ext : ∀ {t u : Tree}, RT t → RT u → (∀ x, getT t x = getT u x) → t = u
  | [], [], _, _, _ => rfl
  | [], g :: u, _, _, h => by
    have := h g.1; rw [getT_nil, getT_cons, if_pos rfl] at this; cases this
  | f :: t, [], _, _, h => by
    have := h f.1; rw [getT_nil, getT_cons, if_pos rfl] at this; cases this
  | f :: t, g :: u, ht, hu, h => by
    obtain ⟨t1, t2⟩ := List.pairwise_cons.1 ht
    obtain ⟨u1, u2⟩ := List.pairwise_cons.1 hu
    have hfg : f.1 = g.1 := by
      rcases ltS_total f.1 g.1 with k | k | k
      · have e : getT (g :: u) f.1 = none := getT_none fun a ha => by
          rcases List.mem_cons.1 ha with rfl | ha
          · exact (ltS_ne k).symm
          · exact (ltS_ne (ltS_trans k (u1 a ha))).symm
        have := h f.1
        rw [e, getT_cons, if_pos rfl] at this; cases this
      · exact k
      · have e : getT (f :: t) g.1 = none := getT_none fun a ha => by
          rcases List.mem_cons.1 ha with rfl | ha
          · exact (ltS_ne k).symm
          · exact (ltS_ne (ltS_trans k (t1 a ha))).symm
        have := h g.1
        rw [e, getT_cons, if_pos rfl] at this; cases this
    have hl := h f.1
    rw [getT_cons, if_pos rfl, getT_cons, if_pos hfg.symm] at hl
    have e : f = g := file_ext hfg (Option.some.inj hl)
    subst e
    congr 1
    refine tree_ext t2 u2 fun x => ?_
    have hx := h x
    rw [getT_cons, getT_cons] at hx
    by_cases k : f.1 = x
    · rw [getT_none fun a ha e => ltS_ne (t1 a ha) (k.trans e.symm), getT_none fun a ha e => ltS_ne (u1 a ha) (k.trans e.symm)]
    · rwa [if_neg k, if_neg k] at hx
/-! ### whether it may be -/
theorem mayR_iff : ∀ {t : Tree} {q : Option Str}, mayR q t = true ↔ (∀ f ∈ t, nameP f.1 = true ∧ allP f.2.1 = true) ∧ RT t ∧ ∀ a, q = some a → ∀ f ∈ t, ltS a f.1
  | [], q => by simp [mayR]
  | f :: t, q => by
    have ih := mayR_iff (t := t) (q := some f.1)
    rw [show mayR q (f :: t) = (nameP f.1 && (allP f.2.1 && ((match q with | some q => decide (ltS q f.1) | none => true) && mayR (some f.1) t))) from by cases q <;> rfl, Bool.and_eq_true, Bool.and_eq_true, Bool.and_eq_true, ih, show RT (f :: t) ↔ _ from List.pairwise_cons]
    constructor
    · rintro ⟨h1, h2, h3, h4, h5, h6⟩
      refine ⟨fun g hg => ?_, ⟨h6 _ rfl, h5⟩, fun a ha g hg => ?_⟩
      · rcases List.mem_cons.1 hg with rfl | hg
        · exact ⟨h1, h2⟩
        · exact h4 g hg
      · subst ha
        simp only [decide_eq_true_eq] at h3
        rcases List.mem_cons.1 hg with rfl | hg
        · exact h3
        · exact ltS_trans h3 (h6 _ rfl g hg)
    · rintro ⟨h1, ⟨h2, h3⟩, h4⟩
      refine ⟨(h1 f List.mem_cons_self).1, (h1 f List.mem_cons_self).2, ?_, fun g hg => h1 g (List.mem_cons_of_mem _ hg), h3, fun a ha g hg => ?_⟩
      · cases q with
        | none => rfl
        | some a => exact decide_eq_true (h4 a rfl f List.mem_cons_self)
      · cases ha; exact h2 g hg
theorem mayT_iff {t : Tree} : mayT t = true ↔ (∀ f ∈ t, nameP f.1 = true ∧ allP f.2.1 = true) ∧ RT t ∧ t.length ≤ 30 := by
  rw [mayT, Bool.and_eq_true, mayR_iff, decide_eq_true_eq]
  constructor
  · rintro ⟨⟨h1, h2, _⟩, h3⟩; exact ⟨h1, h2, h3⟩
  · rintro ⟨h1, h2, h3⟩; exact ⟨⟨h1, h2, by simp⟩, h3⟩
theorem may_del {t : Tree} (s : Str) (h : mayT t = true) : mayT (delT t s) = true := by
  rw [mayT_iff] at *
  obtain ⟨h1, h2, h3⟩ := h
  exact ⟨fun f hf => h1 f (del_mem hf), del_rising s h2, Nat.le_trans (del_len t s) h3⟩
theorem may_put {t : Tree} (s : Str) (l : List Str) (h : mayT t = true) (hs : nameP s = true) (hl : allP l = true) : mayT (putT t s l) = ((getT t s).isSome || decide (t.length < 30)) := by
  rw [Bool.eq_iff_iff, mayT_iff, put_len']
  rw [mayT_iff] at h
  obtain ⟨h1, h2, h3⟩ := h
  constructor
  · rintro ⟨_, _, k⟩
    cases hg : (getT t s).isSome with
    | true => rfl
    | false => rw [hg, if_neg (by simp)] at k; simp; omega
  · intro k
    refine ⟨fun f hf => ?_, put_rising s l h2, ?_⟩
    · rcases put_mem hf with rfl | hf
      · exact ⟨hs, hl⟩
      · exact h1 f hf
    · cases hg : (getT t s).isSome with
      | true => simpa using h3
      | false => rw [hg] at k; simp at k; simp; omega
theorem may_rising {t : Tree} (h : mayT t = true) : RT t := (mayT_iff.1 h).2.1
theorem del_put {t : Tree} (s : Str) (l : List Str) (h : RT t) (hn : getT t s = none) : delT (putT t s l) s = t := by
  refine tree_ext (del_rising _ (put_rising _ _ h)) h fun x => ?_
  rw [get_delT _ _ (put_rising _ _ h), get_putT _ _ _ h]
  by_cases k : x = s
  · rw [if_pos k, k, hn]
  · rw [if_neg k, if_neg k]
theorem put_put {t : Tree} (a b : Str) (l m : List Str) (h : RT t) (hn : a ≠ b) : putT (putT t a l) b m = putT (putT t b m) a l := by
  refine tree_ext (put_rising _ _ (put_rising _ _ h)) (put_rising _ _ (put_rising _ _ h)) fun x => ?_
  rw [get_putT _ _ _ (put_rising _ _ h), get_putT _ _ _ h, get_putT _ _ _ (put_rising _ _ h), get_putT _ _ _ h]
  by_cases k : x = b
  · rw [if_pos k, if_pos k, if_neg fun e => hn (e.symm.trans k)]
  · rw [if_neg k, if_neg k]
theorem del_del_put {t : Tree} (a b : Str) (l m : List Str) (h : RT t) : delT (delT (putT (putT t a l) b m) a) b = delT (delT t a) b := by
  have r1 := put_rising a l h
  have r2 := put_rising b m r1
  have r3 := del_rising a r2
  refine tree_ext (del_rising _ r3) (del_rising _ (del_rising _ h)) fun x => ?_
  rw [get_delT _ _ r3, get_delT _ _ r2, get_putT _ _ _ r1, get_putT _ _ _ h, get_delT _ _ (del_rising _ h), get_delT _ _ h]
  by_cases k : x = b
  · rw [if_pos k, if_pos k]
  · rw [if_neg k, if_neg k, if_neg k]
    by_cases k' : x = a
    · rw [if_pos k', if_pos k']
    · rw [if_neg k', if_neg k', if_neg k']
end Go.Proofs.Yticpcfchhcjjeaa.LI
