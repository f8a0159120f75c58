/-
  What logical values say of the machine's values, and what stays of it. No program is named here.
-/
import Derived.Test.YticpcfchhcjjeaaGreatLiC
import Derived.Laws.AppendOwn
namespace Go.Proofs.YticpcfchhcjjeaaGreat.LI
open Go Go.RowKit

/-- What is known of memory: of each block a part in front that changes no more; the boxes' blocks; where each row lies; the loops' blocks. -/
structure G where
  fz : Nat → List Value
  box : List Nat
  phys : Nat → Nat → Option Value
  loop : List Nat
  map : List Nat

def fnRel (g : G) (fn fn' : Fn) : Prop :=
  match fn with
  | .yield l => ∃ b, g.loop[l]? = some b ∧ fn' = .yield b
  | fn => fn' = fn

mutual
def VRel (g : G) : LV → Value → Prop
  | .undef, _ => True
  | .sc u, v => v = u ∧ plainV u = true
  | .nils, v => v = .slice none 0 0
  | .slice es, v => ∃ a cap, v = .slice a es.length cap ∧ es.length ≤ cap ∧
      (es = [] ∨ ∃ b off sz, 0 < sz ∧ a = some ⟨b, off, none⟩ ∧ EsRel g es sz ((g.fz b).drop off))
  | .nslice es, v => ∃ a cap, v = .slice (some a) es.length cap ∧ es.length ≤ cap ∧
      (es = [] ∨ ∃ b off sz, 0 < sz ∧ some a = some ⟨b, off, none⟩ ∧ EsRel g es sz ((g.fz b).drop off))
  | .mref r n, v => g.phys r n = some v ∧ ∃ a cap, v = .slice a n cap
  | .mview r n lo hi sz, v => ∃ a cap a', g.phys r n = some (.slice a n cap) ∧ v = .slice a' (hi - lo) (cap - lo) ∧ lo ≤ hi ∧ hi ≤ n ∧ (lo < cap → a' = a.map (·.add (lo * sz)))
  | .mapr m, v => ∃ k, g.map[m]? = some k ∧ v = .map (some k)
  | .agg cs, v => ∃ arr, v = .agg arr ∧ VsRel g cs arr.toList ∧ ∀ u ∈ arr.toList, u.oneCell' = true
  | .tuple vs, v => ∃ arr, v = .tuple arr ∧ VsRel g vs arr.toList
  | .bptr b off, v => ∃ k, g.box[b]? = some k ∧ v = .pointer (some ⟨k, off, none⟩)
  | .pptr cs, v => ∃ b off us rest, v = .pointer (some ⟨b, off, none⟩) ∧ cs ≠ [] ∧ (g.fz b).drop off = us ++ rest ∧ VsRel g cs us ∧ ∀ u ∈ us, u.oneCell' = true
  | .rptr r n i sz off, v => ∃ k cap, g.phys r n = some (.slice (some ⟨k, 0, none⟩) n cap) ∧ v = .pointer (some ⟨k, i * sz + off, none⟩)
  | .func fn fst caps, v => ∃ fn' f' c', v = .func fn' f' c' ∧ fnRel g fn fn' ∧ VsRel g fst f'.toList ∧ VsRel g caps c'.toList
def VsRel (g : G) : List LV → List Value → Prop
  | [], vs => vs = []
  | x :: xs, vs => ∃ v vs', vs = v :: vs' ∧ VRel g x v ∧ VsRel g xs vs'
def EsRel (g : G) : List LV → Nat → List Value → Prop
  | [], _, _ => True
  | e :: es, sz, vs => (∃ u, VRel g e u ∧ u.cells.toList = vs.take sz ∧ u.cells.size = sz ∧ ∀ c ∈ u.cells.toList, c.oneCell' = true) ∧ EsRel g es sz (vs.drop sz)
end

structure G.le (g g' : G) : Prop where
  fz : ∀ b, g.fz b <+: g'.fz b
  box : g.box <+: g'.box
  phys : ∀ r n v, g.phys r n = some v → g'.phys r n = some v
  loop : g.loop <+: g'.loop
  map : g.map <+: g'.map

theorem G.le.refl (g : G) : g.le g := ⟨fun _ => List.prefix_refl _, List.prefix_refl _, fun _ _ _ h => h, List.prefix_refl _, List.prefix_refl _⟩
theorem G.le.trans {a b c : G} (h : a.le b) (k : b.le c) : a.le c :=
  ⟨fun x => (h.fz x).trans (k.fz x), h.box.trans k.box, fun _ _ _ e => k.phys _ _ _ (h.phys _ _ _ e), h.loop.trans k.loop, h.map.trans k.map⟩

theorem pre_get {α : Type} {l l' : List α} (h : l <+: l') {i : Nat} {x : α} (hx : l[i]? = some x) : l'[i]? = some x := by
  obtain ⟨t, rfl⟩ := h
  rw [List.getElem?_append_left (List.getElem?_eq_some_iff.1 hx).1]
  exact hx
theorem pre_drop {α : Type} {l l' : List α} (h : l <+: l') (n : Nat) : l.drop n <+: l'.drop n := by
  obtain ⟨t, rfl⟩ := h
  rw [List.drop_append]
  exact List.prefix_append _ _

theorem fnRel_mono {g g' : G} (h : g.loop <+: g'.loop) {fn fn' : Fn} (hr : fnRel g fn fn') : fnRel g' fn fn' := by
  cases fn with
  | yield l => obtain ⟨b, h1, h2⟩ := hr; exact ⟨b, pre_get h h1, h2⟩
  | _ => exact hr

mutual
theorem VRel_mono {g g' : G} (h : g.le g') : ∀ (x : LV) (v : Value), VRel g x v → VRel g' x v
  | .undef, _, _ => by simp [VRel]
  | .sc u, v, hr => by simpa [VRel] using hr
  | .nils, v, hr => by simpa [VRel] using hr
  | .slice es, v, hr => by
    simp only [VRel] at hr ⊢
    obtain ⟨a, cap, rfl, hl, he⟩ := hr
    refine ⟨a, cap, rfl, hl, ?_⟩
    rcases he with he | ⟨b, off, sz, h0, h1, h2⟩
    · exact .inl he
    · exact .inr ⟨b, off, sz, h0, h1, EsRel_mono h es sz _ _ (pre_drop (h.fz b) off) h2⟩
  | .nslice es, v, hr => by
    simp only [VRel] at hr ⊢
    obtain ⟨a, cap, rfl, hl, he⟩ := hr
    refine ⟨a, cap, rfl, hl, ?_⟩
    rcases he with he | ⟨b, off, sz, h0, h1, h2⟩
    · exact .inl he
    · exact .inr ⟨b, off, sz, h0, h1, EsRel_mono h es sz _ _ (pre_drop (h.fz b) off) h2⟩
  | .mref r n, v, hr => by
    simp only [VRel] at hr ⊢
    exact ⟨h.phys _ _ _ hr.1, hr.2⟩
  | .mview r n lo hi sz, v, hr => by
    simp only [VRel] at hr ⊢
    obtain ⟨a, cap, a', h1, h2⟩ := hr
    exact ⟨a, cap, a', h.phys _ _ _ h1, h2⟩
  | .mapr m, v, hr => by
    simp only [VRel] at hr ⊢
    obtain ⟨k, h1, h2⟩ := hr
    exact ⟨k, pre_get h.map h1, h2⟩
  | .agg cs, v, hr => by
    simp only [VRel] at hr ⊢
    obtain ⟨arr, h1, h2, h3⟩ := hr
    exact ⟨arr, h1, VsRel_mono h cs _ h2, h3⟩
  | .tuple vs, v, hr => by
    simp only [VRel] at hr ⊢
    obtain ⟨arr, h1, h2⟩ := hr
    exact ⟨arr, h1, VsRel_mono h vs _ h2⟩
  | .bptr b off, v, hr => by
    simp only [VRel] at hr ⊢
    obtain ⟨k, h1, h2⟩ := hr
    exact ⟨k, pre_get h.box h1, h2⟩
  | .pptr cs, v, hr => by
    simp only [VRel] at hr ⊢
    obtain ⟨b, off, us, rest, h1, h2, h3, h4⟩ := hr
    obtain ⟨t, ht⟩ := pre_drop (h.fz b) off
    exact ⟨b, off, us, rest ++ t, h1, h2, by rw [← ht, h3, List.append_assoc], VsRel_mono h cs _ h4.1, h4.2⟩
  | .rptr r n i sz off, v, hr => by
    simp only [VRel] at hr ⊢
    obtain ⟨k, cap, h1, h2⟩ := hr
    exact ⟨k, cap, h.phys _ _ _ h1, h2⟩
  | .func fn fst caps, v, hr => by
    simp only [VRel] at hr ⊢
    obtain ⟨fn', f', c', h1, h2, h3, h4⟩ := hr
    exact ⟨fn', f', c', h1, fnRel_mono h.loop h2, VsRel_mono h fst _ h3, VsRel_mono h caps _ h4⟩
theorem VsRel_mono {g g' : G} (h : g.le g') : ∀ (xs : List LV) (vs : List Value), VsRel g xs vs → VsRel g' xs vs
  | [], vs, hr => by simpa [VsRel] using hr
  | x :: xs, vs, hr => by
    simp only [VsRel] at hr ⊢
    obtain ⟨v, vs', h1, h2, h3⟩ := hr
    exact ⟨v, vs', h1, VRel_mono h x _ h2, VsRel_mono h xs _ h3⟩
theorem EsRel_mono {g g' : G} (h : g.le g') : ∀ (es : List LV) (sz : Nat) (vs vs' : List Value), vs <+: vs' → EsRel g es sz vs → EsRel g' es sz vs'
  | [], sz, vs, vs', hp, hr => by simp [EsRel]
  | e :: es, sz, vs, vs', hp, hr => by
    simp only [EsRel] at hr ⊢
    obtain ⟨⟨u, h1, h2, h3⟩, h4⟩ := hr
    refine ⟨⟨u, VRel_mono h e _ h1, ?_, h3⟩, EsRel_mono h es sz _ _ (pre_drop hp sz) h4⟩
    have hlen : (vs.take sz).length = sz := by rw [← h2, Array.length_toList, h3.1]
    obtain ⟨t, rfl⟩ := hp
    rw [h2, List.take_append_of_le_length]
    rw [List.length_take] at hlen
    omega
end

mutual
/-- What refers to no store stays, whatever becomes of the store's places. -/
theorem VRel_free {g g' : G} (h : ∀ b, g.fz b <+: g'.fz b) : ∀ (x : LV) (v : Value), refFree x = true → VRel g x v → VRel g' x v
  | .undef, _, _, _ => by simp [VRel]
  | .sc u, v, _, hr => by simpa [VRel] using hr
  | .nils, v, _, hr => by simpa [VRel] using hr
  | .slice es, v, hf, hr => by
    simp only [VRel] at hr ⊢
    simp only [refFree] at hf
    obtain ⟨a, cap, rfl, hl, he⟩ := hr
    refine ⟨a, cap, rfl, hl, ?_⟩
    rcases he with he | ⟨b, off, sz, h0, h1, h2⟩
    · exact .inl he
    · exact .inr ⟨b, off, sz, h0, h1, EsRel_free h es sz _ _ hf (pre_drop (h b) off) h2⟩
  | .nslice es, v, hf, hr => by
    simp only [VRel] at hr ⊢
    simp only [refFree] at hf
    obtain ⟨a, cap, rfl, hl, he⟩ := hr
    refine ⟨a, cap, rfl, hl, ?_⟩
    rcases he with he | ⟨b, off, sz, h0, h1, h2⟩
    · exact .inl he
    · exact .inr ⟨b, off, sz, h0, h1, EsRel_free h es sz _ _ hf (pre_drop (h b) off) h2⟩
  | .mref r n, v, hf, hr => by simp [refFree] at hf
  | .mview r n lo hi sz, v, hf, hr => by simp [refFree] at hf
  | .mapr m, v, hf, hr => by simp [refFree] at hf
  | .agg cs, v, hf, hr => by
    simp only [VRel] at hr ⊢
    simp only [refFree] at hf
    obtain ⟨arr, h1, h2, h3⟩ := hr
    exact ⟨arr, h1, VsRel_free h cs _ hf h2, h3⟩
  | .tuple vs, v, hf, hr => by
    simp only [VRel] at hr ⊢
    simp only [refFree] at hf
    obtain ⟨arr, h1, h2⟩ := hr
    exact ⟨arr, h1, VsRel_free h vs _ hf h2⟩
  | .bptr b off, v, hf, hr => by simp [refFree] at hf
  | .pptr cs, v, hf, hr => by
    simp only [VRel] at hr ⊢
    simp only [refFree] at hf
    obtain ⟨b, off, us, rest, h1, h2, h3, h4⟩ := hr
    obtain ⟨t, ht⟩ := pre_drop (h b) off
    exact ⟨b, off, us, rest ++ t, h1, h2, by rw [← ht, h3, List.append_assoc], VsRel_free h cs _ hf h4.1, h4.2⟩
  | .rptr r n i sz off, v, hf, hr => by simp [refFree] at hf
  | .func fn fst caps, v, hf, hr => by
    simp only [VRel] at hr ⊢
    simp only [refFree, Bool.and_eq_true] at hf
    obtain ⟨fn', f', c', h1, h2, h3, h4⟩ := hr
    refine ⟨fn', f', c', h1, ?_, VsRel_free h fst _ hf.1.2 h3, VsRel_free h caps _ hf.2 h4⟩
    cases fn with
    | yield l => simp at hf
    | _ => exact h2
theorem VsRel_free {g g' : G} (h : ∀ b, g.fz b <+: g'.fz b) : ∀ (xs : List LV) (vs : List Value), refFree.refFreeL xs = true → VsRel g xs vs → VsRel g' xs vs
  | [], vs, _, hr => by simpa [VsRel] using hr
  | x :: xs, vs, hf, hr => by
    simp only [VsRel] at hr ⊢
    simp only [refFree.refFreeL, Bool.and_eq_true] at hf
    obtain ⟨v, vs', h1, h2, h3⟩ := hr
    exact ⟨v, vs', h1, VRel_free h x _ hf.1 h2, VsRel_free h xs _ hf.2 h3⟩
theorem EsRel_free {g g' : G} (h : ∀ b, g.fz b <+: g'.fz b) : ∀ (es : List LV) (sz : Nat) (vs vs' : List Value), refFree.refFreeL es = true → vs <+: vs' → EsRel g es sz vs → EsRel g' es sz vs'
  | [], sz, vs, vs', _, hp, hr => by simp [EsRel]
  | e :: es, sz, vs, vs', hf, hp, hr => by
    simp only [EsRel] at hr ⊢
    simp only [refFree.refFreeL, Bool.and_eq_true] at hf
    obtain ⟨⟨u, h1, h2, h3⟩, h4⟩ := hr
    refine ⟨⟨u, VRel_free h e _ hf.1 h1, ?_, h3⟩, EsRel_free h es sz _ _ hf.2 (pre_drop hp sz) h4⟩
    have hlen : (vs.take sz).length = sz := by rw [← h2, Array.length_toList, h3.1]
    obtain ⟨t, rfl⟩ := hp
    rw [h2, List.take_append_of_le_length]
    rw [List.length_take] at hlen
    omega
end

/-- The store's places cut off behind these numbers. -/
def G.cut (g : G) (n : Sz) : G := { fz := g.fz, box := g.box.take n.nb, phys := fun r k => if r < n.nr then g.phys r k else none, loop := g.loop.take n.nl, map := g.map.take n.nm }
theorem take_get {α : Type} {l : List α} {n i : Nat} {x : α} (h : l[i]? = some x) (hi : i < n) : (l.take n)[i]? = some x := by
  rw [List.getElem?_take]; simp [hi, h]

mutual
theorem VRel_cut {g : G} (n : Sz) : ∀ (x : LV) (v : Value), below n x = true → VRel g x v → VRel (g.cut n) x v
  | .undef, _, _, _ => by simp [VRel]
  | .sc u, v, _, hr => by simpa [VRel] using hr
  | .nils, v, _, hr => by simpa [VRel] using hr
  | .slice es, v, hf, hr => by
    simp only [VRel] at hr ⊢
    simp only [below] at hf
    obtain ⟨a, cap, rfl, hl, he⟩ := hr
    refine ⟨a, cap, rfl, hl, ?_⟩
    rcases he with he | ⟨b, off, sz, h0, h1, h2⟩
    · exact .inl he
    · exact .inr ⟨b, off, sz, h0, h1, EsRel_cut n es sz _ hf h2⟩
  | .nslice es, v, hf, hr => by
    simp only [VRel] at hr ⊢
    simp only [below] at hf
    obtain ⟨a, cap, rfl, hl, he⟩ := hr
    refine ⟨a, cap, rfl, hl, ?_⟩
    rcases he with he | ⟨b, off, sz, h0, h1, h2⟩
    · exact .inl he
    · exact .inr ⟨b, off, sz, h0, h1, EsRel_cut n es sz _ hf h2⟩
  | .mref r k, v, hf, hr => by
    simp only [VRel] at hr ⊢
    simp only [below, decide_eq_true_eq] at hf
    exact ⟨by simp [G.cut, hf, hr.1], hr.2⟩
  | .mview r k lo hi sz, v, hf, hr => by
    simp only [VRel] at hr ⊢
    simp only [below, decide_eq_true_eq] at hf
    obtain ⟨a, cap, a', h1, h2⟩ := hr
    exact ⟨a, cap, a', by simp [G.cut, hf, h1], h2⟩
  | .mapr m, v, hf, hr => by
    simp only [VRel] at hr ⊢
    simp only [below, decide_eq_true_eq] at hf
    obtain ⟨q, h1, h2⟩ := hr
    exact ⟨q, take_get h1 hf, h2⟩
  | .agg cs, v, hf, hr => by
    simp only [VRel] at hr ⊢
    simp only [below] at hf
    obtain ⟨arr, h1, h2, h3⟩ := hr
    exact ⟨arr, h1, VsRel_cut n cs _ hf h2, h3⟩
  | .tuple vs, v, hf, hr => by
    simp only [VRel] at hr ⊢
    simp only [below] at hf
    obtain ⟨arr, h1, h2⟩ := hr
    exact ⟨arr, h1, VsRel_cut n vs _ hf h2⟩
  | .bptr b off, v, hf, hr => by
    simp only [VRel] at hr ⊢
    simp only [below, decide_eq_true_eq] at hf
    obtain ⟨k, h1, h2⟩ := hr
    exact ⟨k, take_get h1 hf, h2⟩
  | .pptr cs, v, hf, hr => by
    simp only [VRel] at hr ⊢
    simp only [below] at hf
    obtain ⟨b, off, us, rest, h1, h2, h3, h4⟩ := hr
    exact ⟨b, off, us, rest, h1, h2, h3, VsRel_cut n cs _ hf h4.1, h4.2⟩
  | .rptr r k i sz off, v, hf, hr => by
    simp only [VRel] at hr ⊢
    simp only [below, decide_eq_true_eq] at hf
    obtain ⟨q, cap, h1, h2⟩ := hr
    exact ⟨q, cap, by simp [G.cut, hf, h1], h2⟩
  | .func fn fst caps, v, hf, hr => by
    simp only [VRel] at hr ⊢
    simp only [below, Bool.and_eq_true] at hf
    obtain ⟨fn', f', c', h1, h2, h3, h4⟩ := hr
    refine ⟨fn', f', c', h1, ?_, VsRel_cut n fst _ hf.1.2 h3, VsRel_cut n caps _ hf.2 h4⟩
    cases fn with
    | yield l =>
      obtain ⟨b, hb, hv⟩ := h2
      simp only [decide_eq_true_eq] at hf
      exact ⟨b, take_get hb hf.1.1, hv⟩
    | _ => exact h2
theorem VsRel_cut {g : G} (n : Sz) : ∀ (xs : List LV) (vs : List Value), below.belowL n xs = true → VsRel g xs vs → VsRel (g.cut n) xs vs
  | [], vs, _, hr => by simpa [VsRel] using hr
  | x :: xs, vs, hf, hr => by
    simp only [VsRel] at hr ⊢
    simp only [below.belowL, Bool.and_eq_true] at hf
    obtain ⟨v, vs', h1, h2, h3⟩ := hr
    exact ⟨v, vs', h1, VRel_cut n x _ hf.1 h2, VsRel_cut n xs _ hf.2 h3⟩
theorem EsRel_cut {g : G} (n : Sz) : ∀ (es : List LV) (sz : Nat) (vs : List Value), below.belowL n es = true → EsRel g es sz vs → EsRel (g.cut n) es sz vs
  | [], sz, vs, _, hr => by simp [EsRel]
  | e :: es, sz, vs, hf, hr => by
    simp only [EsRel] at hr ⊢
    simp only [below.belowL, Bool.and_eq_true] at hf
    obtain ⟨⟨u, h1, h2, h3⟩, h4⟩ := hr
    exact ⟨⟨u, VRel_cut n e _ hf.1 h1, h2, h3⟩, EsRel_cut n es sz _ hf.2 h4⟩
end

/-! ### lists of values -/
theorem VsRel_length {g : G} : ∀ {xs : List LV} {vs : List Value}, VsRel g xs vs → vs.length = xs.length
  | [], vs, h => by simp only [VsRel] at h; simp [h]
  | x :: xs, vs, h => by
    simp only [VsRel] at h
    obtain ⟨v, vs', rfl, _, h3⟩ := h
    simp [VsRel_length h3]
theorem VsRel_get {g : G} : ∀ {xs : List LV} {vs : List Value}, VsRel g xs vs → ∀ {i : Nat} {x : LV}, xs[i]? = some x → ∃ v, vs[i]? = some v ∧ VRel g x v
  | [], vs, h, i, x, hx => by simp at hx
  | y :: xs, vs, h, i, x, hx => by
    simp only [VsRel] at h
    obtain ⟨v, vs', rfl, h2, h3⟩ := h
    cases i with
    | zero => simp at hx; subst hx; exact ⟨v, rfl, h2⟩
    | succ i => simpa using VsRel_get h3 (i := i) (by simpa using hx)
theorem VsRel_append {g : G} : ∀ {xs ys : List LV} {vs ws : List Value}, VsRel g xs vs → VsRel g ys ws → VsRel g (xs ++ ys) (vs ++ ws)
  | [], ys, vs, ws, h, k => by simp only [VsRel] at h; subst h; exact k
  | x :: xs, ys, vs, ws, h, k => by
    simp only [VsRel] at h
    obtain ⟨v, vs', rfl, h2, h3⟩ := h
    simp only [List.cons_append, VsRel]
    exact ⟨v, vs' ++ ws, rfl, h2, VsRel_append h3 k⟩
theorem VsRel_take {g : G} : ∀ {xs : List LV} {vs : List Value} (n : Nat), VsRel g xs vs → VsRel g (xs.take n) (vs.take n)
  | xs, vs, 0, _ => by simp [VsRel]
  | [], vs, n + 1, h => by simp only [VsRel] at h; simp [VsRel, h]
  | x :: xs, vs, n + 1, h => by
    simp only [VsRel] at h
    obtain ⟨v, vs', rfl, h2, h3⟩ := h
    simp only [List.take_succ_cons, VsRel]
    exact ⟨v, vs'.take n, rfl, h2, VsRel_take n h3⟩
theorem VsRel_drop {g : G} : ∀ {xs : List LV} {vs : List Value} (n : Nat), VsRel g xs vs → VsRel g (xs.drop n) (vs.drop n)
  | xs, vs, 0, h => by simpa using h
  | [], vs, n + 1, h => by simp only [VsRel] at h; simp [VsRel, h]
  | x :: xs, vs, n + 1, h => by
    simp only [VsRel] at h
    obtain ⟨v, vs', rfl, h2, h3⟩ := h
    simpa using VsRel_drop n h3
theorem VsRel_map {α : Type} {g : G} (f : α → LV) (f' : α → Value) : ∀ (l : List α), (∀ x ∈ l, VRel g (f x) (f' x)) → VsRel g (l.map f) (l.map f')
  | [], _ => by simp [VsRel]
  | x :: l, h => by
    simp only [List.map_cons, VsRel]
    exact ⟨_, _, rfl, h x List.mem_cons_self, VsRel_map f f' l (fun y hy => h y (List.mem_cons_of_mem _ hy))⟩
theorem VsRel_one {g : G} {x : LV} {v : Value} (h : VRel g x v) : VsRel g [x] [v] := by
  simp only [VsRel]; exact ⟨v, [], rfl, h, rfl⟩
theorem VsRel_split {g : G} : ∀ {xs ys : List LV} {vs : List Value}, VsRel g (xs ++ ys) vs → ∃ a b, vs = a ++ b ∧ VsRel g xs a ∧ VsRel g ys b
  | [], ys, vs, h => ⟨[], vs, rfl, by simp [VsRel], h⟩
  | x :: xs, ys, vs, h => by
    simp only [List.cons_append, VsRel] at h
    obtain ⟨v, vs', rfl, h2, h3⟩ := h
    obtain ⟨a, b, rfl, h4, h5⟩ := VsRel_split h3
    exact ⟨v :: a, b, rfl, by simp only [VsRel]; exact ⟨v, a, rfl, h2, h4⟩, h5⟩

/-- What may lie in memory lies there cell by cell. -/
theorem cells_rel {g : G} {x : LV} {v : Value} (h : VRel g x v) (hs : storable x = true) : VsRel g x.cells v.cells.toList ∧ ∀ u ∈ v.cells.toList, u.oneCell' = true := by
  cases x with
  | undef => simp [storable] at hs
  | tuple vs => simp [storable] at hs
  | agg cs =>
    simp only [VRel] at h
    obtain ⟨arr, rfl, h2, h3⟩ := h
    exact ⟨h2, h3⟩
  | sc u =>
    have h' := h
    simp only [VRel] at h'
    obtain ⟨rfl, hp⟩ := h'
    cases v with
    | pointer a => cases a <;> simp [plainV] at hp; exact ⟨VsRel_one h, by simp [Value.cells, Value.oneCell']⟩
    | map r => cases r <;> simp [plainV] at hp; exact ⟨VsRel_one h, by simp [Value.cells, Value.oneCell']⟩
    | _ => first | (simp [plainV] at hp; done) | exact ⟨VsRel_one h, by simp [Value.cells, Value.oneCell']⟩
  | nils => have h' := h; simp only [VRel] at h'; subst h'; exact ⟨VsRel_one h, by simp [Value.cells, Value.oneCell']⟩
  | slice es => have h' := h; simp only [VRel] at h'; obtain ⟨a, cap, rfl, _⟩ := h'; exact ⟨VsRel_one h, by simp [Value.cells, Value.oneCell']⟩
  | nslice es => have h' := h; simp only [VRel] at h'; obtain ⟨a, cap, rfl, _⟩ := h'; exact ⟨VsRel_one h, by simp [Value.cells, Value.oneCell']⟩
  | mview r n lo hi sz => have h' := h; simp only [VRel] at h'; obtain ⟨a, cap, a', _, rfl, _⟩ := h'; exact ⟨VsRel_one h, by simp [Value.cells, Value.oneCell']⟩
  | mapr m => have h' := h; simp only [VRel] at h'; obtain ⟨k, _, rfl⟩ := h'; exact ⟨VsRel_one h, by simp [Value.cells, Value.oneCell']⟩
  | mref r n => have h' := h; simp only [VRel] at h'; obtain ⟨_, a, cap, rfl⟩ := h'; exact ⟨VsRel_one h, by simp [Value.cells, Value.oneCell']⟩
  | bptr b off => have h' := h; simp only [VRel] at h'; obtain ⟨a, _, rfl⟩ := h'; exact ⟨VsRel_one h, by simp [Value.cells, Value.oneCell']⟩
  | pptr cs => have h' := h; simp only [VRel] at h'; obtain ⟨a, b, c, d, rfl, _⟩ := h'; exact ⟨VsRel_one h, by simp [Value.cells, Value.oneCell']⟩
  | rptr r n i sz off => have h' := h; simp only [VRel] at h'; obtain ⟨a, b, _, rfl⟩ := h'; exact ⟨VsRel_one h, by simp [Value.cells, Value.oneCell']⟩
  | func fn fst caps => have h' := h; simp only [VRel] at h'; obtain ⟨a, b, c, rfl, _⟩ := h'; exact ⟨VsRel_one h, by simp [Value.cells, Value.oneCell']⟩

theorem EsRel_one {g : G} : ∀ {xs : List LV} {sz : Nat} {vs : List Value}, EsRel g xs sz vs → vs.length = xs.length * sz → ∀ c ∈ vs, c.oneCell' = true
  | [], sz, vs, h, hl, c, hc => by
    have : vs = [] := List.eq_nil_of_length_eq_zero (by simpa using hl)
    subst this; simp at hc
  | x :: xs, sz, vs, h, hl, c, hc => by
    simp only [EsRel] at h
    obtain ⟨⟨u, h1, h2, h3, h5⟩, h4⟩ := h
    rw [← List.take_append_drop sz vs] at hc
    rcases List.mem_append.1 hc with hc | hc
    · exact h5 c (by rw [h2]; exact hc)
    · exact EsRel_one h4 (by rw [List.length_drop, hl, List.length_cons, Nat.add_mul]; omega) c hc

end Go.Proofs.YticpcfchhcjjeaaGreat.LI
