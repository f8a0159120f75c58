/-
  Answers whose rows are handed over. No program is named here.
-/
import Derived.Test.YticpcfchhcjjeaaGreatLiSG
namespace Go.Proofs.YticpcfchhcjjeaaGreat.LI
open Go Go.RowKit
set_option linter.unusedSimpArgs false
set_option linter.unusedVariables false
section
variable {P : Program} {Θ : Th} {w0 w : World} {f0 : Nat → List Value} {ms : List Nat} {σ : St} {g : G}

/-- Rows that are picked out, with their values. -/
structure Picked (w0 : World) (g : G) (w : World) (rows : List Row) (us : List Value) : Prop where
  len : us.length = rows.length
  row : ∀ (i : Nat) (row : Row) (v : Value), rows[i]? = some row → us[i]? = some v → ∃ vs, w.ownsRow w0.heap.size row.e row.sz v row.xs.length vs ∧ EsRel g row.xs row.sz vs ∧ 0 < row.sz ∧ refFree.refFreeL row.xs = true ∧
    ∀ k, v.ownBlock = some k → g.fz k <+: vs ∧ (row.wr = true → g.fz k = [])
  apart : ∀ (i j : Nat) (v v' : Value), i ≠ j → us[i]? = some v → us[j]? = some v' → v.ownBlock = none ∨ v.ownBlock ≠ v'.ownBlock
/-- The store that holds these rows alone. -/
def G.only' (g : G) (rows : List Row) (us : List Value) : G :=
  { fz := g.fz, box := [], phys := fun r n => if (rows[r]?).map (fun row => row.xs.length) = some n then us[r]? else none, loop := [], map := [] }
theorem Picked.srel (hb : Below w0.heap.size w0 w) (hf : ∀ b, b < w0.heap.size → g.fz b = f0 b) (hz : FzOK g w) {rows : List Row} {us : List Value} (h : Picked w0 g w rows us) : SRel w0 f0 [] { rows := rows } (g.only' rows us) w where
  below := hb
  f0 := hf
  fz := hz
  boxl := rfl
  box := fun i cells k c1 _ => by simp at c1
  nodup := by simp [G.only']
  row := fun r row hr => by
    have hl : r < us.length := by rw [h.len]; exact (List.getElem?_eq_some_iff.1 hr).1
    obtain ⟨vs, h1, h2, h3, h4, h5⟩ := h.row r row us[r] hr (List.getElem?_eq_getElem hl)
    have hr' : rows[r]? = some row := hr
    refine ⟨us[r], vs, by simp [G.only', hr', List.getElem?_eq_getElem hl], h1, ?_, h3, fun k hk => ⟨by simp [G.only'], (h5 k hk).1, (h5 k hk).2⟩⟩
    exact EsRel_free (g := g) (g' := g.only' rows us) (fun b => List.prefix_refl _) _ _ _ _ h4 (List.prefix_refl _) h2
  apart := fun r r' row row' v v' hne h1 h2 p1 p2 => by
    have g1 : us[r]? = some v := by
      simp only [G.only'] at p1
      split at p1
      · exact p1
      · cases p1
    have g2 : us[r']? = some v' := by
      simp only [G.only'] at p2
      split at p2
      · exact p2
      · cases p2
    exact h.apart r r' v v' hne g1 g2
  phys := fun r n v hv => by
    simp only [G.only'] at hv
    split at hv
    · rename_i hc
      obtain ⟨row, hr, hn⟩ := Option.map_eq_some_iff.1 hc
      exact ⟨row, hr, by omega⟩
    · cases hv
  loopl := rfl
  loop := fun l lr k c1 _ => by simp at c1
  lnodup := by simp [G.only']
  mapl := rfl
  map := fun m q k c1 _ => by simp at c1
  qnodup := by simp [G.only']
  marks := fun k hk => by simp at hk
  mnodup := by simp

/-- Where the picked rows come from. -/
def From (σ : St) (g : G) (used : List Nat) (us : List Value) : Prop :=
  ∀ (i : Nat) (v : Value), us[i]? = some v → v.ownBlock = none ∨ ∃ r ∈ used, ∃ row v0, σ.rows[r]? = some row ∧ g.phys r row.xs.length = some v0 ∧ v0.ownBlock = v.ownBlock

theorem Picked.snoc {rows : List Row} {us : List Value} (h : Picked w0 g w rows us) {row : Row} {v : Value} {vs : List Value} (h1 : w.ownsRow w0.heap.size row.e row.sz v row.xs.length vs) (h2 : EsRel g row.xs row.sz vs) (h3 : 0 < row.sz) (h4 : refFree.refFreeL row.xs = true)
    (h5 : ∀ k, v.ownBlock = some k → g.fz k <+: vs ∧ (row.wr = true → g.fz k = [])) (h6 : ∀ (i : Nat) (u : Value), us[i]? = some u → u.ownBlock = none ∨ u.ownBlock ≠ v.ownBlock) : Picked w0 g w (rows ++ [row]) (us ++ [v]) where
  len := by simp [h.len]
  row := fun i row' v' hr hv => by
    by_cases hi : i < rows.length
    · rw [List.getElem?_append_left hi] at hr
      rw [List.getElem?_append_left (by rw [h.len]; exact hi)] at hv
      exact h.row i row' v' hr hv
    · rw [List.getElem?_append_right (by omega)] at hr
      rw [List.getElem?_append_right (by rw [h.len]; omega)] at hv
      rw [h.len] at hv
      have hz : i - rows.length = 0 := by
        have := (List.getElem?_eq_some_iff.1 hr).1
        simp at this; omega
      rw [hz] at hr hv
      simp at hr hv
      subst hr hv
      exact ⟨vs, h1, h2, h3, h4, h5⟩
  apart := fun i j v1 v2 hne hi hj => by
    have cases' : ∀ (i : Nat) (u : Value), (us ++ [v])[i]? = some u → (i < us.length ∧ us[i]? = some u) ∨ (i = us.length ∧ u = v) := fun i u hu => by
      by_cases hl : i < us.length
      · rw [List.getElem?_append_left hl] at hu; exact .inl ⟨hl, hu⟩
      · rw [List.getElem?_append_right (by omega)] at hu
        have hz : i - us.length = 0 := by
          have := (List.getElem?_eq_some_iff.1 hu).1
          simp at this; omega
        rw [hz] at hu
        simp at hu
        exact .inr ⟨by omega, hu.symm⟩
    rcases cases' i v1 hi with ⟨hl1, hi'⟩ | ⟨e1, rfl⟩
    · rcases cases' j v2 hj with ⟨hl2, hj'⟩ | ⟨e2, rfl⟩
      · exact h.apart i j v1 v2 hne hi' hj'
      · exact h6 i v1 hi'
    · rcases cases' j v2 hj with ⟨hl2, hj'⟩ | ⟨e2, rfl⟩
      · rcases h6 j v2 hj' with h7 | h7
        · cases hv : v1.ownBlock with
          | none => exact .inl rfl
          | some k => exact .inr (by rw [h7]; simp)
        · exact .inr (fun e => h7 e.symm)
      · exact absurd (e1.trans e2.symm) hne

theorem only_phys {rows : List Row} {us : List Value} {row : Row} {v : Value} (hl : us.length = rows.length) {rows' : List Row} {us' : List Value} : (g.only' (rows ++ row :: rows') (us ++ v :: us')).phys rows.length row.xs.length = some v := by
  simp [G.only', ← hl]

theorem refFree_take : ∀ {xs : List LV} (n : Nat), refFree.refFreeL xs = true → refFree.refFreeL (xs.take n) = true
  | _, 0, _ => rfl
  | [], _ + 1, _ => rfl
  | x :: xs, n + 1, h => by
    simp only [refFree.refFreeL, Bool.and_eq_true, List.take_succ_cons] at h ⊢
    exact ⟨h.1, refFree_take n h.2⟩

/-- What has come of an answer: rows picked out, the answer's parts told of them. -/
theorem thawGo_sound (h : SRel w0 f0 ms σ g w) : ∀ (ks : List (Option (TypeId × Nat))) (vs : List LV) (used : List Nat) (acc : List Row) (us : List Value) (ys : List Value) (q : List LV × List Row),
    thawGo σ ks vs used acc = some q → VsRel g vs ys → (∀ r ∈ shutIn ks vs, Frozen g g σ r) → Picked w0 g w acc us → From σ g used us →
    ∃ rows' us', q.2 = acc ++ rows' ∧ Picked w0 g w (acc ++ rows') (us ++ us') ∧ VsRel (g.only' (acc ++ rows') (us ++ us')) q.1 ys
  | ks, [], used, acc, us, ys, q, hq, hv, hf, hp, hu => by
    have : q = ([], acc) := by cases ks with | nil => simp [thawGo, frzV.frzL, refFree.refFreeL] at hq; exact hq.symm | cons k ks => cases k <;> (simp [thawGo] at hq; exact hq.symm)
    subst this
    simp only [VsRel] at hv
    subst hv
    exact ⟨[], [], by simp, by simpa using hp, by simp [VsRel]⟩
  | [], v :: vs, used, acc, us, ys, q, hq, hv, hf, hp, hu => by
    simp only [thawGo] at hq
    split at hq
    · rename_i hr
      cases hq
      refine ⟨[], [], by simp, by simpa using hp, ?_⟩
      have := frzL_rel (G.le.refl g) (v :: vs) ys (fun r hr => hf r (by simpa [shutIn] using hr)) hv
      exact VsRel_free (g := g) (g' := g.only' (acc ++ []) (us ++ [])) (fun b => List.prefix_refl _) _ _ hr this
    · cases hq
  | none :: ks, v :: vs, used, acc, us, ys, q, hq, hv, hf, hp, hu => by
    simp only [thawGo] at hq
    split at hq
    · rename_i hr
      obtain ⟨q', h1, rfl⟩ := Option.map_eq_some_iff.1 hq
      simp only [VsRel] at hv
      obtain ⟨u, ys', rfl, hv1, hv2⟩ := hv
      obtain ⟨rows', us', e1, e2, e3⟩ := thawGo_sound h ks vs used acc us ys' q' h1 hv2 (fun r hr => hf r (by simp [shutIn, hr])) hp hu
      refine ⟨rows', us', e1, e2, ?_⟩
      simp only [VsRel]
      refine ⟨u, ys', rfl, ?_, e3⟩
      exact VRel_free (g := g) (g' := g.only' (acc ++ rows') (us ++ us')) (fun b => List.prefix_refl _) _ _ hr (frzV_rel (G.le.refl g) v u (fun r hr => hf r (by simp [shutIn, hr])) hv1)
    · cases hq
  | some (e, sz) :: ks, v :: vs, used, acc, us, ys, q, hq, hv, hf, hp, hu => by
    simp only [VsRel] at hv
    obtain ⟨u, ys', rfl, hv1, hv2⟩ := hv
    have hf' : ∀ r ∈ shutIn ks vs, Frozen g g σ r := fun r hr => hf r (by simpa [shutIn] using hr)
    -- one row more
    have fin : ∀ (row : Row) (used' : List Nat) (n : Nat) (ws : List Value), row.xs.length = n → (thawGo σ ks vs used' (acc ++ [row])).map (fun q => (LV.mref acc.length n :: q.1, q.2)) = some q →
        w.ownsRow w0.heap.size row.e row.sz u row.xs.length ws → EsRel g row.xs row.sz ws → 0 < row.sz → refFree.refFreeL row.xs = true → (∀ k, u.ownBlock = some k → g.fz k <+: ws ∧ (row.wr = true → g.fz k = [])) →
        (∀ (i : Nat) (u' : Value), us[i]? = some u' → u'.ownBlock = none ∨ u'.ownBlock ≠ u.ownBlock) → From σ g used' (us ++ [u]) →
        ∃ rows' us', q.2 = acc ++ rows' ∧ Picked w0 g w (acc ++ rows') (us ++ us') ∧ VsRel (g.only' (acc ++ rows') (us ++ us')) q.1 (u :: ys') := by
      intro row used' n ws hn hq1 a1 a2 a3 a4 a5 a6 a7
      subst hn
      obtain ⟨q', h1, rfl⟩ := Option.map_eq_some_iff.1 hq1
      obtain ⟨rows', us', e1, e2, e3⟩ := thawGo_sound h ks vs used' (acc ++ [row]) (us ++ [u]) ys' q' h1 hv2 hf' (hp.snoc a1 a2 a3 a4 a5 a6) a7
      rw [List.append_assoc] at e1 e2 e3
      rw [List.append_assoc] at e2 e3
      refine ⟨row :: rows', u :: us', e1, e2, ?_⟩
      simp only [VsRel]
      refine ⟨u, ys', rfl, ?_, e3⟩
      simp only [VRel]
      refine ⟨only_phys hp.len, ?_⟩
      rcases a1.2 with ⟨rfl, h0⟩ | ⟨k, cap, cur, rfl, _⟩
      · exact ⟨none, 0, by rw [h0]⟩
      · exact ⟨_, cap, rfl⟩
    -- a row of σ's
    have pick : ∀ (r : Nat) (row : Row), σ.rows[r]? = some row → r ∉ used → ∀ v0, g.phys r row.xs.length = some v0 → v0.ownBlock = u.ownBlock →
        (∀ (i : Nat) (u' : Value), us[i]? = some u' → u'.ownBlock = none ∨ u'.ownBlock ≠ u.ownBlock) ∧ From σ g (r :: used) (us ++ [u]) := by
      intro r row hr hnot v0 hv0 hbl
      refine ⟨fun i u' hi => ?_, fun i u' hi => ?_⟩
      · rcases hu i u' hi with h1 | ⟨r', hr', row', v1, h2, h3, h4⟩
        · exact .inl h1
        · have hne : r' ≠ r := fun he => hnot (he ▸ hr')
          rcases h.apart r' r row' row v1 v0 hne h2 hr h3 hv0 with h5 | h5
          · exact .inl (by rw [← h4]; exact h5)
          · exact .inr (by rw [← h4, ← hbl]; exact h5)
      · by_cases hl : i < us.length
        · rw [List.getElem?_append_left hl] at hi
          rcases hu i u' hi with h1 | ⟨r', hr', h2⟩
          · exact .inl h1
          · exact .inr ⟨r', List.mem_cons_of_mem _ hr', h2⟩
        · rw [List.getElem?_append_right (by omega)] at hi
          have hz : i - us.length = 0 := by
            have := (List.getElem?_eq_some_iff.1 hi).1
            simp at this; omega
          rw [hz] at hi
          simp at hi
          subst hi
          exact .inr ⟨r, List.mem_cons_self, row, v0, hr, hv0, hbl⟩
    simp only [thawGo] at hq
    split at hq
    · split at hq
      · rename_i h0
        simp only [VRel] at hv1
        subst hv1
        refine fin _ used 0 [] rfl hq (World.ownsRow_nil _ _ _ _) (by simp [EsRel]) h0 rfl (fun k hk => by simp [Value.ownBlock] at hk) (fun i u' hi => ?_) (fun i u' hi => ?_)
        · cases hb : u'.ownBlock with
          | none => exact .inl rfl
          | some k => exact .inr (by simp [Value.ownBlock])
        · by_cases hl : i < us.length
          · rw [List.getElem?_append_left hl] at hi
            exact hu i u' hi
          · rw [List.getElem?_append_right (by omega)] at hi
            have hz : i - us.length = 0 := by
              have := (List.getElem?_eq_some_iff.1 hi).1
              simp at this; omega
            rw [hz] at hi
            simp at hi
            subst hi
            exact .inl rfl
      · cases hq
    · rename_i r n
      split at hq
      · rename_i row hrow
        split at hq
        · rename_i hc
          obtain ⟨hn, he, hs, hw, hnot, hrf⟩ := hc
          subst hn he hs
          simp only [VRel] at hv1
          obtain ⟨v0, ws, p1, p2, p3, p4, p5⟩ := h.row r row hrow
          rw [hv1.1] at p1; cases p1
          obtain ⟨a6, a7⟩ := pick r row hrow hnot u hv1.1 rfl
          exact fin row (r :: used) _ ws rfl hq p2 p3 p4 hrf (fun k hk => ⟨(p5 k hk).2.1, (p5 k hk).2.2⟩) a6 a7
        · cases hq
      · cases hq
    · rename_i r n hi z
      split at hq
      · rename_i row hrow
        split at hq
        · rename_i hc
          obtain ⟨hn, he, hs, hz, hw, hnot, hin, hn0, hrf⟩ := hc
          subst hn he hs
          simp only [VRel] at hv1
          obtain ⟨a, cap, a', hp1, rfl, _, _, ha⟩ := hv1
          obtain ⟨v0, ws, p1, p2, p3, p4, p5⟩ := h.row r row hrow
          rw [hp1] at p1; cases p1
          rcases p2.2 with ⟨_, h0⟩ | ⟨k, cap', cur, hE, hbk, hk, hnc, hcm, hcs, htk⟩
          · omega
          · cases hE
            have ha' := ha (by omega)
            simp only [Nat.zero_mul, Option.map_some, addr_add] at ha'
            subst ha'
            obtain ⟨a6, a7⟩ := pick r row hrow hnot _ hp1 rfl
            have hle : hi * row.sz ≤ row.xs.length * row.sz := Nat.mul_le_mul_right _ hin
            have hwl := p2.1
            refine fin { row with xs := row.xs.take hi } (r :: used) hi (ws.take (hi * row.sz)) (by simp [hin]) hq ⟨by simp only [List.length_take, Nat.min_eq_left hin]; omega, .inr ⟨k, cap, cur, ?_, hbk, hk, ?_, hcm, hcs, ?_⟩⟩ (EsRel_front p3 hwl hin) p4 ?_ (fun k' hk' => ?_) a6 a7
            · simp [hin]
            · simp only [List.length_take]; omega
            · simp only [List.length_take, Nat.min_eq_left hin]
              rw [← htk, List.take_take, Nat.min_eq_left hle]
            · exact refFree_take hi hrf
            · have := (p5 k' hk').2.2 hw
              exact ⟨by rw [this]; exact List.nil_prefix, fun _ => this⟩
        · cases hq
      · cases hq
    · cases hq

theorem frozen_self {rs : List Nat} {g' : G} (hg : g.only w0 g') (hs : SRel w0 f0 ms (frzS σ rs) g' w) (hf : ∀ r ∈ rs, Frozen g g' σ r) : ∀ r ∈ rs, Frozen g' g' (frzS σ rs) r := by
  intro r hr row v hrow hp
  obtain ⟨row0, h1, h2, h3, h4, _⟩ := frz_row σ rs r row hrow
  have := hf r hr row0 v h1 (by rw [h2, ← hg.phys]; exact hp)
  rw [h2, h4] at this
  exact this

/-- **An answer's rows are handed over.** -/
theorem thaw_sound (h : SRel w0 f0 ms σ g w) {ks : List (Option (TypeId × Nat))} {v : LV} {u : Value} (hv : VRel g v u) {q : LV × List Row} (hq : thaw σ ks v = some q) :
    ∃ g', (∀ b, g.fz b <+: g'.fz b) ∧ SRel w0 f0 [] { rows := q.2 } g' w ∧ VRel g' q.1 u := by
  have gen : ∀ (vs : List LV) (ys : List Value) (q' : List LV × List Row), VsRel g vs ys → thawGo (frzS σ (shutIn ks vs)) ks vs [] [] = some q' → ∃ g', (∀ b, g.fz b <+: g'.fz b) ∧ SRel w0 f0 [] { rows := q'.2 } g' w ∧ VsRel g' q'.1 ys := by
    intro vs ys q' hvs hq'
    obtain ⟨g1, k1, k2, k3⟩ := h.freeze (shutIn ks vs)
    obtain ⟨rows', us', e1, e2, e3⟩ := thawGo_sound k2 ks vs [] [] [] ys q' hq' (VsRel_mono k1.le _ _ hvs) (frozen_self k1 k2 k3) ⟨rfl, fun i row v hr => by simp at hr, fun i j v v' _ hi => by simp at hi⟩ (fun i v hi => by simp at hi)
    simp only [List.nil_append] at e1 e2 e3
    refine ⟨g1.only' rows' us', fun b => k1.fz b, ?_, e3⟩
    rw [e1]
    exact e2.srel k2.below k2.f0 k2.fz
  unfold thaw at hq
  split at hq
  · rename_i vs
    obtain ⟨q', h1, rfl⟩ := Option.map_eq_some_iff.1 hq
    simp only [VRel] at hv
    obtain ⟨arr, rfl, hvs⟩ := hv
    obtain ⟨g', a1, a2, a3⟩ := gen vs _ q' hvs h1
    refine ⟨g', a1, a2, ?_⟩
    simp only [VRel]
    exact ⟨arr, rfl, a3⟩
  · obtain ⟨q', h1, h2⟩ := Option.bind_eq_some_iff.1 hq
    obtain ⟨x, hx, rfl⟩ := Option.map_eq_some_iff.1 h2
    obtain ⟨g', a1, a2, a3⟩ := gen [v] [u] q' (VsRel_one hv) h1
    refine ⟨g', a1, a2, ?_⟩
    cases hl : q'.1 with
    | nil => rw [hl] at hx; cases hx
    | cons y ys =>
      rw [hl] at hx a3
      cases hx
      simp only [VsRel] at a3
      obtain ⟨v', vs', he, h3, _⟩ := a3
      cases he
      exact h3

/-! ### taking over -/
mutual
theorem frzV_free1 {σ : St} : ∀ (v : LV), refFree v = true → refFree (frzV σ v) = true
  | .undef, _ => rfl
  | .sc _, _ => rfl
  | .nils, _ => rfl
  | .slice es, h => h
  | .nslice es, h => h
  | .mref _ _, h => by simp [refFree] at h
  | .mview _ _ _ _ _, h => by simp [refFree] at h
  | .mapr _, h => by simp [refFree] at h
  | .agg cs, h => by simp only [frzV, refFree] at h ⊢; exact frzL_free1 cs h
  | .tuple cs, h => by simp only [frzV, refFree] at h ⊢; exact frzL_free1 cs h
  | .bptr _ _, h => by simp [refFree] at h
  | .pptr cs, h => h
  | .rptr _ _ _ _ _, h => by simp [refFree] at h
  | .func fn a b, h => by
    simp only [frzV, refFree, Bool.and_eq_true] at h ⊢
    exact ⟨⟨h.1.1, frzL_free1 a h.1.2⟩, frzL_free1 b h.2⟩
theorem frzL_free1 {σ : St} : ∀ (vs : List LV), refFree.refFreeL vs = true → refFree.refFreeL (frzV.frzL σ vs) = true
  | [], _ => rfl
  | x :: xs, h => by
    simp only [refFree.refFreeL, frzV.frzL, Bool.and_eq_true] at h ⊢
    exact ⟨frzV_free1 x h.1, frzL_free1 xs h.2⟩
end
theorem frzV_refFree {σ : St} (hrows : ∀ r ∈ σ.rows, refFree.refFreeL r.xs = true) (v : LV) (hv : refFree v = true ∨ isMref v = true) : refFree (frzV σ v) = true := by
  rcases hv with hv | hv
  · exact frzV_free1 v hv
  · cases v <;> simp [isMref] at hv
    rename_i r n
    simp only [frzV]
    split
    · rename_i row hr
      split
      · simp only [refFree]
        exact hrows row (List.mem_of_getElem? hr)
      · rfl
    · rfl
theorem frzL_refFree {σ : St} (hrows : ∀ r ∈ σ.rows, refFree.refFreeL r.xs = true) : ∀ (vs : List LV), (∀ x ∈ vs, (isMref x || refFree x) = true) → refFree.refFreeL (frzV.frzL σ vs) = true
  | [], _ => rfl
  | x :: xs, h => by
    simp only [frzV.frzL, refFree.refFreeL, Bool.and_eq_true]
    refine ⟨frzV_refFree hrows x ?_, frzL_refFree hrows xs fun z hz => h z (List.mem_cons_of_mem _ hz)⟩
    have := h x List.mem_cons_self
    rw [Bool.or_eq_true] at this
    exact this.symm

/-- Two stores that stand on the same blocks, the second one's rows behind the first one's. -/
def G.join (g g2 : G) (d : Nat) : G := { fz := g2.fz, box := g.box, phys := fun r n => if r < d then g.phys r n else g2.phys (r - d) n, loop := g.loop, map := g.map }

theorem SRel.join {w' : World} {g2 : G} {rows : List Row} (h : SRel w0 f0 ms σ g w) (h2 : SRel w g.fz [] { rows := rows } g2 w') (hle : ∀ b, g.fz b <+: g2.fz b) (hrf : ∀ r ∈ rows, refFree.refFreeL r.xs = true) :
    g.le (g.join g2 σ.rows.length) ∧ SRel w0 f0 ms { σ with rows := σ.rows ++ rows } (g.join g2 σ.rows.length) w' := by
  have hg : g.le (g.join g2 σ.rows.length) := ⟨hle, List.prefix_refl _, fun r n v hv => by
    obtain ⟨row, hr, _⟩ := h.phys r n v hv
    simp only [G.join]
    rw [if_pos (List.getElem?_eq_some_iff.1 hr).1]; exact hv, List.prefix_refl _, List.prefix_refl _⟩
  have hsame : ∀ b, b < w.heap.size → g2.fz b = g.fz b := h2.f0
  have hb := h2.below
  have k := h.kept hb
  have cases' : ∀ (r : Nat) (row : Row), (σ.rows ++ rows)[r]? = some row → (r < σ.rows.length ∧ σ.rows[r]? = some row) ∨ (σ.rows.length ≤ r ∧ rows[r - σ.rows.length]? = some row) := fun r row hr => by
    by_cases hl : r < σ.rows.length
    · rw [List.getElem?_append_left hl] at hr; exact .inl ⟨hl, hr⟩
    · rw [List.getElem?_append_right (by omega)] at hr; exact .inr ⟨by omega, hr⟩
  have pl : ∀ r n, r < σ.rows.length → (g.join g2 σ.rows.length).phys r n = g.phys r n := fun r n hr => by simp only [G.join]; rw [if_pos hr]
  have pr : ∀ r n, σ.rows.length ≤ r → (g.join g2 σ.rows.length).phys r n = g2.phys (r - σ.rows.length) n := fun r n hr => by simp only [G.join]; rw [if_neg (by omega)]
  refine ⟨hg, ?_⟩
  exact {
    below := k.below
    f0 := fun b hb' => (hsame b (Nat.lt_of_lt_of_le hb' h.below.size)).trans (h.f0 b hb')
    fz := h2.fz
    boxl := h.boxl
    box := fun i cells q c1 c2 => by
      obtain ⟨h3, h4, cs, T, h5, h6, h7⟩ := k.box i cells q c1 c2
      obtain ⟨_, _, _, _, h9, _⟩ := h.box i cells q c1 c2
      exact ⟨h3, (hsame q (heap_lt h9)).trans h4, cs, T, h5, VsRel_mono hg _ _ h6, h7⟩
    nodup := h.nodup
    row := fun r row hr => by
      rcases cases' r row hr with ⟨hl, hr'⟩ | ⟨hl, hr'⟩
      · obtain ⟨v, vs, e1, e2, e3, e4, e5⟩ := h.row r row hr'
        obtain ⟨v', vs', e1', e2', e3', e4', e5'⟩ := k.row r row hr'
        have : v' = v := by rw [e1] at e1'; exact (Option.some.inj e1').symm
        subst this
        refine ⟨v', vs', by rw [pl _ _ hl]; exact e1', e2', EsRel_mono hg _ _ _ _ (List.prefix_refl _) e3', e4', fun q hq => ?_⟩
        obtain ⟨f1, f2, f3⟩ := e5' q hq
        have hf := hsame q (e2.lt q hq).2
        exact ⟨f1, by show g2.fz q <+: _; rw [hf]; exact f2, fun hw => by show g2.fz q = []; rw [hf]; exact f3 hw⟩
      · obtain ⟨v, vs, e1, e2, e3, e4, e5⟩ := h2.row (r - σ.rows.length) row hr'
        refine ⟨v, vs, by rw [pr _ _ hl]; exact e1, ?_, ?_, e4, fun q hq => ?_⟩
        · obtain ⟨a1, a2⟩ := e2
          refine ⟨a1, a2.imp id ?_⟩
          rintro ⟨q, cap, cur, b1, b2, b3⟩
          exact ⟨q, cap, cur, b1, Nat.le_trans h.below.size b2, b3⟩
        · exact EsRel_free (g := g2) (g' := g.join g2 σ.rows.length) (fun b => List.prefix_refl _) _ _ _ _ (hrf row (List.mem_of_getElem? hr')) (List.prefix_refl _) e3
        · obtain ⟨_, f2, f3⟩ := e5 q hq
          refine ⟨fun hm => ?_, f2, f3⟩
          have := h.box_lt hm
          have := (e2.lt q hq).1
          omega
    apart := fun r1 r2 row1 row2 u1 u2 hne h1 h2' p1 p2 => by
      have blk : ∀ {r : Nat} {row : Row} {u : Value}, r < σ.rows.length → σ.rows[r]? = some row → g.phys r row.xs.length = some u → ∀ q, u.ownBlock = some q → q < w.heap.size := fun {r row u} _ hr hp q hq => by
        obtain ⟨v, vs, e1, e2, _⟩ := h.row r row hr
        rw [hp] at e1; cases e1
        exact (e2.lt q hq).2
      have blk2 : ∀ {r : Nat} {row : Row} {u : Value}, rows[r]? = some row → g2.phys r row.xs.length = some u → ∀ q, u.ownBlock = some q → w.heap.size ≤ q := fun {r row u} hr hp q hq => by
        obtain ⟨v, vs, e1, e2, _⟩ := h2.row r row hr
        rw [hp] at e1; cases e1
        exact (e2.lt q hq).1
      rcases cases' r1 row1 h1 with ⟨l1, a1⟩ | ⟨l1, a1⟩ <;> rcases cases' r2 row2 h2' with ⟨l2, a2⟩ | ⟨l2, a2⟩
      · rw [pl _ _ l1] at p1; rw [pl _ _ l2] at p2
        exact h.apart r1 r2 row1 row2 u1 u2 hne a1 a2 p1 p2
      · rw [pl _ _ l1] at p1; rw [pr _ _ l2] at p2
        cases hb1 : u1.ownBlock with
        | none => exact .inl rfl
        | some q =>
          refine .inr fun he => ?_
          have := blk l1 a1 p1 q hb1
          have := blk2 a2 p2 q he.symm
          omega
      · rw [pr _ _ l1] at p1; rw [pl _ _ l2] at p2
        cases hb1 : u1.ownBlock with
        | none => exact .inl rfl
        | some q =>
          refine .inr fun he => ?_
          have := blk2 a1 p1 q hb1
          have := blk l2 a2 p2 q he.symm
          omega
      · rw [pr _ _ l1] at p1; rw [pr _ _ l2] at p2
        exact h2.apart _ _ row1 row2 u1 u2 (by omega) a1 a2 p1 p2
    phys := fun r n u hu => by
      by_cases hl : r < σ.rows.length
      · rw [pl _ _ hl] at hu
        obtain ⟨row, hr, hn⟩ := h.phys r n u hu
        exact ⟨row, by rw [List.getElem?_append_left hl]; exact hr, hn⟩
      · rw [pr _ _ (by omega)] at hu
        obtain ⟨row, hr, hn⟩ := h2.phys _ n u hu
        exact ⟨row, by rw [List.getElem?_append_right (by omega)]; exact hr, hn⟩
    loopl := h.loopl
    loop := fun l lr q c1 c2 => by
      obtain ⟨h3, rec, h4, h5⟩ := k.loop l lr q c1 c2
      exact ⟨h3, rec, h4, LoopRel_mono hg h5⟩
    lnodup := h.lnodup
    mapl := h.mapl
    map := fun m q p c1 c2 => by
      obtain ⟨h3, es, c, h4, h5, h6⟩ := k.map m q p c1 c2
      exact ⟨h3, es, c, h4, VsRel_mono hg _ _ h5, VsRel_mono hg _ _ h6⟩
    qnodup := h.qnodup
    marks := k.marks
    mnodup := h.mnodup }

theorem shift_rel (g : G) {g2 : G} (d : Nat) {x : LV} {y : Value} (hx : VRel g2 x y) (hc : isMref x = true ∨ refFree x = true) : VRel (g.join g2 d) (shift1 d x) y := by
  rcases hc with hc | hc
  · cases x <;> simp [isMref] at hc
    rename_i r n
    simp only [VRel, shift1] at hx ⊢
    refine ⟨?_, hx.2⟩
    simp only [G.join]
    rw [if_neg (by omega), Nat.add_sub_cancel]; exact hx.1
  · have : shift1 d x = x := by cases x <;> first | rfl | simp [refFree] at hc
    rw [this]
    exact VRel_free (g := g2) (g' := g.join g2 d) (fun b => List.prefix_refl _) _ _ hc hx
theorem shiftL_rel (g : G) {g2 : G} (d : Nat) : ∀ (vs : List LV) (ys : List Value), (∀ x ∈ vs, (isMref x || refFree x) = true) → VsRel g2 vs ys → VsRel (g.join g2 d) (vs.map (shift1 d)) ys
  | [], ys, _, h => by simpa [VsRel] using h
  | x :: xs, ys, h, hv => by
    simp only [VsRel] at hv
    obtain ⟨y, ys', rfl, h3, h4⟩ := hv
    simp only [List.map_cons, VsRel]
    refine ⟨y, ys', rfl, shift_rel g d h3 ?_, shiftL_rel g d xs ys' (fun z hz => h z (List.mem_cons_of_mem _ hz)) h4⟩
    have := h x List.mem_cons_self
    rwa [Bool.or_eq_true] at this

/-- **An answer is taken over.** -/
theorem takeOver_sound {w' : World} {g2 : G} {rows : List Row} {v : LV} {u : Value} (own : Bool) (h : SRel w0 f0 ms σ g w) (h2 : SRel w g.fz [] { rows := rows } g2 w') (hle : ∀ b, g.fz b <+: g2.fz b) (hv : VRel g2 v u) (hok : callOk v rows = true) :
    ∃ g3, g.le g3 ∧ VRel g3 (takeOver own v rows σ).1 u ∧ SRel w0 f0 ms (takeOver own v rows σ).2 g3 w' := by
  simp only [callOk, Bool.and_eq_true, List.all_eq_true] at hok
  obtain ⟨htop, hrf⟩ := hok
  unfold takeOver
  cases own with
  | true =>
    obtain ⟨k1, k2⟩ := h.join h2 hle hrf
    refine ⟨_, k1, ?_, k2⟩
    simp only [if_true]
    cases v with
    | mref r n => exact shift_rel g σ.rows.length hv (.inl rfl)
    | tuple vs =>
      simp only [VRel] at hv
      obtain ⟨arr, rfl, hvs⟩ := hv
      simp only [shiftV, VRel]
      exact ⟨arr, rfl, shiftL_rel g σ.rows.length vs _ (by simpa using htop) hvs⟩
    | _ => exact VRel_free (g := g2) (g' := g.join g2 σ.rows.length) (fun b => List.prefix_refl _) _ _ htop hv
  | false =>
    simp only [Bool.false_eq_true, if_false]
    obtain ⟨g', k1, k2, k3⟩ := h2.freeze (rowsIn v)
    have hf := frzV_rel k1.le v u k3 hv
    have hrows : ∀ r ∈ ({ rows := rows } : St).rows, refFree.refFreeL r.xs = true := hrf
    have hfree : refFree (frzV { rows := rows } v) = true := by
      cases v with
      | mref r n => exact frzV_refFree hrows _ (.inr rfl)
      | tuple vs =>
        simp only [frzV, refFree]
        exact frzL_refFree hrows vs (by simpa using htop)
      | _ => exact frzV_refFree hrows _ (.inl htop)
    refine ⟨{ g with fz := g'.fz }, ⟨fun b => (hle b).trans (k1.fz b), List.prefix_refl _, fun _ _ _ h => h, List.prefix_refl _, List.prefix_refl _⟩, VRel_free (g := g') (g' := { g with fz := g'.fz }) (fun b => List.prefix_refl _) _ _ hfree hf, ?_⟩
    exact h.fzmore (g' := { g with fz := g'.fz }) (fun b => (hle b).trans (k1.fz b)) k2.f0 ⟨rfl, rfl, rfl, rfl⟩ k2.below k2.fz
end
end Go.Proofs.YticpcfchhcjjeaaGreat.LI
