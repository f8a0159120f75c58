/-
  A store of logical values and the machine's memory. No program is named here.
-/
import Derived.Test.YticpcfchhcjjeaaGreatLiS1
import Derived.RangeFuncKeeps
import Derived.Maps.AppendAt
namespace Go.Proofs.YticpcfchhcjjeaaGreat.LI
open Go Go.RowKit

def mkMark (r : Nat) : Deferred := { target := .collected r, args := #[] }

/-- What is told to change no more lies there. -/
def FzOK (g : G) (w : World) : Prop := ∀ b, g.fz b ≠ [] → ∃ cs T fr, w.heap[b]? = some (.cells cs T fr) ∧ g.fz b <+: cs.toList

def TRel (g : G) (t : List LV) (a : Array Value) : Prop := a.size = t.length ∧ ∀ i, VRel g (t.getD i .undef) (a.getD i Go.undef)

structure LoopRel (g : G) (lr : LoopRec) (rec : Loop) : Prop where
  tmps : TRel g lr.env.t rec.tmps
  params : rec.params.toList = lr.params
  assign : rec.assign = lr.assign
  body : rec.body = lr.body
  pending : rec.pending = lr.pending
  state : rec.state = lr.state

structure SRel (w0 : World) (f0 : Nat → List Value) (ms : List Nat) (σ : St) (g : G) (w : World) : Prop where
  below : Below w0.heap.size w0 w
  f0 : ∀ b, b < w0.heap.size → g.fz b = f0 b
  fz : FzOK g w
  boxl : g.box.length = σ.boxes.length
  box : ∀ (i : Nat) (cells : List LV) (k : Nat), σ.boxes[i]? = some cells → g.box[i]? = some k → w0.heap.size ≤ k ∧ g.fz k = [] ∧
    ∃ (cs : Array Value) (T : TypeId), w.heap[k]? = some (.cells cs T (0, 0)) ∧ VsRel g cells cs.toList ∧ ∀ u ∈ cs.toList, u.oneCell' = true
  nodup : g.box.Nodup
  row : ∀ (r : Nat) (row : Row), σ.rows[r]? = some row → ∃ v vs, g.phys r row.xs.length = some v ∧ w.ownsRow w0.heap.size row.e row.sz v row.xs.length vs ∧ EsRel g row.xs row.sz vs ∧ 0 < row.sz ∧
    ∀ k, v.ownBlock = some k → k ∉ g.box ∧ g.fz k <+: vs ∧ (row.wr = true → g.fz k = [])
  apart : ∀ (r r' : Nat) (row row' : Row) (v v' : Value), r ≠ r' → σ.rows[r]? = some row → σ.rows[r']? = some row' → g.phys r row.xs.length = some v → g.phys r' row'.xs.length = some v' →
    v.ownBlock = none ∨ v.ownBlock ≠ v'.ownBlock
  phys : ∀ (r n : Nat) (v : Value), g.phys r n = some v → ∃ row, σ.rows[r]? = some row ∧ n ≤ row.xs.length
  loopl : g.loop.length = σ.loops.length
  loop : ∀ (l : Nat) (lr : LoopRec) (k : Nat), σ.loops[l]? = some lr → g.loop[l]? = some k → w0.heap.size ≤ k ∧ ∃ rec, w.heap[k]? = some (.loop rec) ∧ LoopRel g lr rec
  lnodup : g.loop.Nodup
  mapl : g.map.length = σ.maps.length
  map : ∀ (m : Nat) (q : MapS) (k : Nat), σ.maps[m]? = some q → g.map[m]? = some k → w0.heap.size ≤ k ∧ ∃ es clock, w.heap[k]? = some (.map es clock) ∧ VsRel g q.ks (es.toList.map (·.key)) ∧ VsRel g q.vs (es.toList.map (·.val))
  qnodup : g.map.Nodup
  marks : ∀ k ∈ ms, w0.heap.size ≤ k ∧ w.heap[k]? = some (.deferred (some []))
  mnodup : ms.Nodup

theorem TRel_mono {g g' : G} (h : g.le g') {t : List LV} {a : Array Value} (hr : TRel g t a) : TRel g' t a := ⟨hr.1, fun i => VRel_mono h _ _ (hr.2 i)⟩
theorem LoopRel_mono {g g' : G} (h : g.le g') {lr : LoopRec} {rec : Loop} (hr : LoopRel g lr rec) : LoopRel g' lr rec :=
  ⟨TRel_mono h hr.tmps, hr.params, hr.assign, hr.body, hr.pending, hr.state⟩

theorem getD_set_ne' {α : Type} (l : List α) (i j : Nat) (x d : α) (h : i ≠ j) : (l.set i x).getD j d = l.getD j d := by
  simp [List.getD_eq_getElem?_getD, h]

theorem TRel_set {g : G} {t : List LV} {a : Array Value} (h : TRel g t a) (d : Nat) {x : LV} {v : Value} (hx : VRel g x v) : TRel g (t.set d x) (a.setIfInBounds d v) := by
  refine ⟨by simp [h.1], fun i => ?_⟩
  by_cases hd : d = i
  · subst hd
    by_cases hlt : d < t.length
    · have h1 : (t.set d x).getD d .undef = x := by simp [List.getD_eq_getElem?_getD, hlt]
      have h2 : (a.setIfInBounds d v).getD d Go.undef = v := by
        have : d < a.size := by rw [h.1]; exact hlt
        simp [Array.getD_eq_getD_getElem?, this]
      rw [h1, h2]; exact hx
    · have h1 : (t.set d x).getD d .undef = .undef := by
        rw [List.getD_eq_getElem?_getD, List.getElem?_eq_none (by simpa using hlt)]; rfl
      rw [h1]; simp [VRel]
  · rw [getD_set_ne' _ _ _ _ _ hd]
    have h2 : (a.setIfInBounds d v).getD i Go.undef = a.getD i Go.undef := by
      simp [Array.getD_eq_getD_getElem?, hd]
    rw [h2]; exact h.2 i

theorem ofConst1_rel (g : G) (v : Value) : VRel g (ofConst1 v) v := by
  unfold ofConst1
  split
  · simp [VRel]
  · split
    · rename_i h; simp [VRel, h]
    · simp [VRel]

/-! ### what is kept where nothing that was there changes -/
theorem grown_of_below' {w w1 : World} (h : Below w.heap.size w w1) (row : Option Nat) : w.grownBy w1 row := ⟨h.os, h.tape, h.output, h.size, fun i hi _ => h.block i hi⟩
theorem heap_lt {w : World} {k : Nat} {o : Obj} (h : w.heap[k]? = some o) : k < w.heap.size := (Array.getElem?_eq_some_iff.1 h).1

theorem FzOK.kept {g : G} {w w' : World} (h : FzOK g w) (hb : Below w.heap.size w w') : FzOK g w' := by
  intro b hn
  obtain ⟨cs, T, fr, h1, h2⟩ := h b hn
  exact ⟨cs, T, fr, (hb.block b (heap_lt h1)).trans h1, h2⟩

theorem SRel.kept {w0 : World} {f0 : Nat → List Value} {ms : List Nat} {σ : St} {g : G} {w w' : World} (h : SRel w0 f0 ms σ g w) (hb : Below w.heap.size w w') : SRel w0 f0 ms σ g w' where
  below := h.below.trans (hb.mono h.below.size)
  f0 := h.f0
  fz := h.fz.kept hb
  boxl := h.boxl
  box := fun i cells k h1 h2 => by
    obtain ⟨h3, h4, cs, T, h5, h6⟩ := h.box i cells k h1 h2
    exact ⟨h3, h4, cs, T, (hb.block k (heap_lt h5)).trans h5, h6⟩
  nodup := h.nodup
  row := fun r row hr => by
    obtain ⟨v, vs, h1, h2, h3, h4, h5⟩ := h.row r row hr
    exact ⟨v, vs, h1, h2.kept (grown_of_below' hb none) (by cases v.ownBlock <;> simp), h3, h4, h5⟩
  apart := h.apart
  phys := h.phys
  loopl := h.loopl
  loop := fun l lr k h1 h2 => by
    obtain ⟨h3, rec, h4, h5⟩ := h.loop l lr k h1 h2
    exact ⟨h3, rec, (hb.block k (heap_lt h4)).trans h4, h5⟩
  lnodup := h.lnodup
  mapl := h.mapl
  map := fun m q k h1 h2 => by
    obtain ⟨h3, es, c, h4, h5⟩ := h.map m q k h1 h2
    exact ⟨h3, es, c, (hb.block k (heap_lt h4)).trans h4, h5⟩
  qnodup := h.qnodup
  marks := fun k hk => ⟨(h.marks k hk).1, (hb.block k (heap_lt (h.marks k hk).2)).trans (h.marks k hk).2⟩
  mnodup := h.mnodup

/-- More is told to change no more, below w0 nothing; what is told of rows and boxes stays as it is. -/
theorem SRel.fzmore {w0 : World} {f0 : Nat → List Value} {ms : List Nat} {σ : St} {g g' : G} {w : World} (h : SRel w0 f0 ms σ g w) (hle : ∀ b, g.fz b <+: g'.fz b) (hsame : ∀ b, b < w.heap.size → g'.fz b = g.fz b) (hx : g'.box = g.box ∧ g'.phys = g.phys ∧ g'.loop = g.loop ∧ g'.map = g.map)
    {w' : World} (hb : Below w.heap.size w w') (hfz : FzOK g' w') : SRel w0 f0 ms σ g' w' := by
  have hg : g.le g' := ⟨hle, by rw [hx.1]; exact List.prefix_refl _, fun r n v e => by rw [hx.2.1]; exact e, by rw [hx.2.2.1]; exact List.prefix_refl _, by rw [hx.2.2.2]; exact List.prefix_refl _⟩
  have k := h.kept hb
  exact {
    below := k.below
    f0 := fun b hb' => (hsame b (Nat.lt_of_lt_of_le hb' h.below.size)).trans (h.f0 b hb')
    fz := hfz
    boxl := by rw [hx.1]; exact h.boxl
    box := fun i cells q h1 h2 => by
      rw [hx.1] at h2
      obtain ⟨h3, h4, cs, T, h5, h6, h7⟩ := k.box i cells q h1 h2
      obtain ⟨_, _, _, _, h9, _⟩ := h.box i cells q h1 h2
      exact ⟨h3, (hsame q (heap_lt h9)).trans h4, cs, T, h5, VsRel_mono hg _ _ h6, h7⟩
    nodup := by rw [hx.1]; exact h.nodup
    row := fun r row hr => by
      obtain ⟨v, vs, h1, h2, h3, h4, h5⟩ := h.row r row hr
      obtain ⟨v', vs', h1', h2', h3', h4', h5'⟩ := k.row r row hr
      have e1 : v' = v := by rw [h1] at h1'; exact (Option.some.inj h1').symm
      subst e1
      refine ⟨v', vs', by rw [hx.2.1]; exact h1', h2', EsRel_mono hg _ _ _ _ (List.prefix_refl _) h3', h4', fun q hq => ?_⟩
      rw [hx.1, hsame q (h2.lt q hq).2]
      exact h5' q hq
    apart := fun r r' row row' v v' => by rw [hx.2.1]; exact h.apart r r' row row' v v'
    phys := fun r n v => by rw [hx.2.1]; exact h.phys r n v
    loopl := by rw [hx.2.2.1]; exact h.loopl
    loop := fun l lr q h1 h2 => by
      rw [hx.2.2.1] at h2
      obtain ⟨h3, rec, h4, h5⟩ := k.loop l lr q h1 h2
      exact ⟨h3, rec, h4, LoopRel_mono hg h5⟩
    lnodup := by rw [hx.2.2.1]; exact h.lnodup
    mapl := by rw [hx.2.2.2]; exact h.mapl
    map := fun m q p h1 h2 => by
      rw [hx.2.2.2] at h2
      obtain ⟨h3, es, c, h4, h5, h6⟩ := k.map m q p h1 h2
      exact ⟨h3, es, c, h4, VsRel_mono hg _ _ h5, VsRel_mono hg _ _ h6⟩
    qnodup := by rw [hx.2.2.2]; exact h.qnodup
    marks := k.marks
    mnodup := k.mnodup }

theorem nodup_inj {α : Type} {l : List α} (h : l.Nodup) {i j : Nat} {x : α} (hi : l[i]? = some x) (hj : l[j]? = some x) : i = j := by
  rw [List.Nodup, List.pairwise_iff_getElem] at h
  obtain ⟨a, ha⟩ := List.getElem?_eq_some_iff.1 hi
  obtain ⟨b, hb⟩ := List.getElem?_eq_some_iff.1 hj
  rcases Nat.lt_trichotomy i j with hlt | heq | hgt
  · exact absurd (ha.trans hb.symm) (h i j a b hlt)
  · exact heq
  · exact absurd (hb.trans ha.symm) (h j i b a hgt)

/-! ### a new box -/
def G.addBox (g : G) (k : Nat) : G := { g with box := g.box ++ [k] }
theorem G.le_addBox (g : G) (k : Nat) : g.le (g.addBox k) := ⟨fun _ => List.prefix_refl _, List.prefix_append _ _, fun _ _ _ h => h, List.prefix_refl _, List.prefix_refl _⟩

theorem mem_get {α : Type} {l : List α} {x : α} (h : x ∈ l) : ∃ i : Nat, l[i]? = some x := List.mem_iff_getElem?.1 h

theorem SRel.box_lt {w0 : World} {f0 : Nat → List Value} {ms : List Nat} {σ : St} {g : G} {w : World} (h : SRel w0 f0 ms σ g w) {k : Nat} (hk : k ∈ g.box) : k < w.heap.size := by
  obtain ⟨i, hi⟩ := mem_get hk
  have hl : i < σ.boxes.length := by rw [← h.boxl]; exact (List.getElem?_eq_some_iff.1 hi).1
  obtain ⟨_, _, cs, T, h5, _⟩ := h.box i σ.boxes[i] k (List.getElem?_eq_getElem hl) hi
  exact heap_lt h5

theorem SRel.fz_new {w0 : World} {f0 : Nat → List Value} {ms : List Nat} {σ : St} {g : G} {w : World} (h : SRel w0 f0 ms σ g w) {k : Nat} (hk : w.heap.size ≤ k) : g.fz k = [] := by
  by_cases hn : g.fz k = []
  · exact hn
  · obtain ⟨cs, T, fr, h1, _⟩ := h.fz k hn
    have := heap_lt h1
    omega

theorem SRel.newBox {w0 : World} {f0 : Nat → List Value} {ms : List Nat} {σ : St} {g : G} {w : World} (h : SRel w0 f0 ms σ g w) {cells : List LV} {cs : Array Value} (T : TypeId)
    (hc : VsRel g cells cs.toList) (h1 : ∀ u ∈ cs.toList, u.oneCell' = true) :
    SRel w0 f0 ms { σ with boxes := σ.boxes ++ [cells] } (g.addBox w.heap.size) (w.alloc (.cells cs T)) := by
  have hb : Below w.heap.size w (w.alloc (.cells cs T)) := (Below.refl _ _).alloc (Nat.le_refl _) _
  have k := h.kept hb
  have hg := g.le_addBox w.heap.size
  exact {
    below := k.below
    f0 := k.f0
    fz := k.fz
    boxl := by simp [G.addBox, h.boxl]
    box := fun i cells' q e1 e2 => by
      simp only [G.addBox] at e2
      by_cases hi : i < σ.boxes.length
      · rw [List.getElem?_append_left hi] at e1
        rw [List.getElem?_append_left (by rw [h.boxl]; exact hi)] at e2
        obtain ⟨h3, h4, cs', T', h5, h6, h7⟩ := k.box i cells' q e1 e2
        exact ⟨h3, h4, cs', T', h5, VsRel_mono hg _ _ h6, h7⟩
      · rw [List.getElem?_append_right (by omega)] at e1
        rw [List.getElem?_append_right (by rw [h.boxl]; omega)] at e2
        rw [h.boxl] at e2
        have hz : i - σ.boxes.length = 0 := by
          have := (List.getElem?_eq_some_iff.1 e1).1
          simp at this; omega
        rw [hz] at e1 e2
        simp at e1 e2
        subst e1 e2
        exact ⟨h.below.size, h.fz_new (Nat.le_refl _), cs, T, heap_alloc_new w _, VsRel_mono hg _ _ hc, h1⟩
    nodup := by
      simp only [G.addBox]
      rw [List.nodup_append]
      refine ⟨h.nodup, by simp, fun a ha b hb' => ?_⟩
      simp at hb'
      subst hb'
      have := h.box_lt ha
      omega
    row := fun r row hr => by
      obtain ⟨v, vs, h1', h2, h3, h4, h5⟩ := h.row r row hr
      obtain ⟨v', vs', e1, e2, e3, e4, e5⟩ := k.row r row hr
      have : v' = v := by rw [h1'] at e1; exact (Option.some.inj e1).symm
      subst this
      refine ⟨v', vs', e1, e2, EsRel_mono hg _ _ _ _ (List.prefix_refl _) e3, e4, fun q hq => ⟨?_, (e5 q hq).2⟩⟩
      simp only [G.addBox, List.mem_append, List.mem_singleton]
      rintro (hm | hm)
      · exact (e5 q hq).1 hm
      · have := (h2.lt q hq).2; omega
    apart := k.apart
    phys := k.phys
    loopl := k.loopl
    loop := fun l lr q e1 e2 => by
      obtain ⟨h3, rec, h4, h5⟩ := k.loop l lr q e1 e2
      exact ⟨h3, rec, h4, LoopRel_mono hg h5⟩
    lnodup := k.lnodup
    mapl := k.mapl
    map := fun m q p e1 e2 => by
      obtain ⟨h3, es, c, h4, h5, h6⟩ := k.map m q p e1 e2
      exact ⟨h3, es, c, h4, VsRel_mono hg _ _ h5, VsRel_mono hg _ _ h6⟩
    qnodup := k.qnodup
    marks := k.marks
    mnodup := k.mnodup }

/-! ### a store into a box -/
theorem heap_setRow (w : World) (g k : Nat) (cs : Array Value) (h : k ≠ g) : (w.setRow g cs).heap[k]? = w.heap[k]? := by
  simp only [World.setRow, Array.getElem?_modify]
  rw [if_neg (by omega)]
theorem heap_setRow_same (w : World) (k : Nat) (cs cs' : Array Value) (T : TypeId) (fr : Nat × Nat) (h : w.heap[k]? = some (.cells cs T fr)) : (w.setRow k cs').heap[k]? = some (.cells cs' T fr) := by
  simp only [World.setRow, Array.getElem?_modify, if_true, h]; rfl


/-- One block alone is other than it was. -/
structure Touch (w w' : World) (k : Nat) : Prop where
  os : w'.os = w.os
  tape : w'.tape = w.tape
  output : w'.output = w.output
  size : w'.heap.size = w.heap.size
  block : ∀ q, q ≠ k → w'.heap[q]? = w.heap[q]?
theorem Touch.setRow (w : World) (k : Nat) (cs : Array Value) : Touch w (w.setRow k cs) k := ⟨rfl, rfl, rfl, by simp, fun q hq => heap_setRow w k q cs hq⟩
theorem Touch.below {w w' : World} {k B : Nat} (h : Touch w w' k) (hk : B ≤ k) : Below B w w' := ⟨h.os, h.tape, h.output, by rw [h.size]; exact Nat.le_refl _, fun q hq => h.block q (by omega)⟩

theorem FzOK.touch {g : G} {w w' : World} {k : Nat} (h : FzOK g w) (ht : Touch w w' k) (hk : g.fz k ≠ [] → ∃ cs T fr, w'.heap[k]? = some (.cells cs T fr) ∧ g.fz k <+: cs.toList) : FzOK g w' := by
  intro b hn
  by_cases hb : b = k
  · subst hb; exact hk hn
  · obtain ⟨cs, T, fr, h1, h2⟩ := h b hn
    exact ⟨cs, T, fr, (ht.block b hb).trans h1, h2⟩

theorem ownsRow_touch {w w' : World} {k base : Nat} {e : TypeId} {size n : Nat} {v : Value} {xs : List Value} (h : w.ownsRow base e size v n xs) (ht : Touch w w' k) (hk : v.ownBlock ≠ some k) : w'.ownsRow base e size v n xs :=
  h.kept (row := some k) ⟨ht.os, ht.tape, ht.output, by rw [ht.size]; exact Nat.le_refl _, fun q _ hq => ht.block q (fun e => hq (by rw [e]))⟩ (.inr hk)

theorem SRel.setBox {w0 : World} {f0 : Nat → List Value} {ms : List Nat} {σ : St} {g : G} {w : World} (h : SRel w0 f0 ms σ g w) {b k : Nat} {cs : Array Value} {T : TypeId}
    (hk : g.box[b]? = some k) (hw : w.heap[k]? = some (.cells cs T (0, 0))) {cells' : List LV} {cs' : Array Value} (hc : VsRel g cells' cs'.toList) (h1 : ∀ u ∈ cs'.toList, u.oneCell' = true) (hbl : b < σ.boxes.length) :
    SRel w0 f0 ms { σ with boxes := σ.boxes.set b cells' } g (w.setRow k cs') := by
  have ht := Touch.setRow w k cs'
  obtain ⟨hk0, hkf, _⟩ := h.box b σ.boxes[b] k (List.getElem?_eq_getElem hbl) hk
  have hmem : k ∈ g.box := List.mem_iff_getElem?.2 ⟨b, hk⟩
  exact {
    below := h.below.trans (ht.below hk0)
    f0 := h.f0
    fz := h.fz.touch ht (fun hn => absurd hkf hn)
    boxl := by simpa using h.boxl
    box := fun i cells q e1 e2 => by
      by_cases hi : b = i
      · subst hi
        rw [List.getElem?_set_self hbl] at e1
        cases e1
        rw [hk] at e2
        cases e2
        exact ⟨hk0, hkf, cs', T, heap_setRow_same w k cs cs' T _ hw, hc, h1⟩
      · rw [List.getElem?_set_ne hi] at e1
        obtain ⟨h3, h4, cs2, T2, h5, h6, h7⟩ := h.box i cells q e1 e2
        have hne : q ≠ k := by
          rintro rfl
          exact hi (nodup_inj h.nodup hk e2)
        exact ⟨h3, h4, cs2, T2, (ht.block q hne).trans h5, h6, h7⟩
    nodup := h.nodup
    row := fun r row hr => by
      obtain ⟨v, vs, e1, e2, e3, e4, e5⟩ := h.row r row hr
      exact ⟨v, vs, e1, ownsRow_touch e2 ht (fun hx => (e5 k hx).1 hmem), e3, e4, e5⟩
    apart := h.apart
    phys := h.phys
    loopl := h.loopl
    loop := fun l lr q e1 e2 => by
      obtain ⟨h3, rec, h4, h5⟩ := h.loop l lr q e1 e2
      refine ⟨h3, rec, ?_, h5⟩
      rw [ht.block q (by rintro rfl; rw [hw] at h4; cases h4)]
      exact h4
    lnodup := h.lnodup
    mapl := h.mapl
    map := fun m q p e1 e2 => by
      obtain ⟨h3, es, c, h4, h5⟩ := h.map m q p e1 e2
      refine ⟨h3, es, c, ?_, h5⟩
      rw [ht.block p (by rintro rfl; rw [hw] at h4; cases h4)]
      exact h4
    qnodup := h.qnodup
    marks := fun q hq => by
      obtain ⟨m1, m2⟩ := h.marks q hq
      refine ⟨m1, ?_⟩
      rw [ht.block q (by rintro rfl; rw [hw] at m2; cases m2)]
      exact m2
    mnodup := h.mnodup }

/-! ### rows -/
def G.addPhys (g : G) (r n : Nat) (v : Value) : G := { g with phys := fun r' n' => if r' = r ∧ n' = n then some v else g.phys r' n' }
theorem G.le_addPhys (g : G) (r n : Nat) (v : Value) (h : g.phys r n = none ∨ g.phys r n = some v) : g.le (g.addPhys r n v) :=
  ⟨fun _ => List.prefix_refl _, List.prefix_refl _, fun r' n' u hu => by
    simp only [G.addPhys]
    by_cases hc : r' = r ∧ n' = n
    · obtain ⟨rfl, rfl⟩ := hc
      rcases h with h | h
      · rw [h] at hu; cases hu
      · rw [h] at hu; simp [hu]
    · rw [if_neg hc]; exact hu, List.prefix_refl _, List.prefix_refl _⟩

theorem VRel_phys {g : G} {r n : Nat} {v : Value} (h : g.phys r n = some v) (hv : ∃ a cap, v = .slice a n cap) : VRel g (.mref r n) v := by simp only [VRel]; exact ⟨h, hv⟩

/-- A row that has come into being (w' may be w with more blocks). -/
theorem SRel.newRow {w0 : World} {f0 : Nat → List Value} {ms : List Nat} {σ : St} {g : G} {w w' : World} (h : SRel w0 f0 ms σ g w) (hb : Below w.heap.size w w') {xs : List LV} {e : TypeId} {sz : Nat} {v : Value} {vs : List Value}
    (ho : w'.ownsRow w0.heap.size e sz v xs.length vs) (hnew : ∀ k, v.ownBlock = some k → w.heap.size ≤ k) (hx : EsRel g xs sz vs) (hsz : 0 < sz) :
    SRel w0 f0 ms { σ with rows := σ.rows ++ [{ xs, e, sz, wr := true }] } (g.addPhys σ.rows.length xs.length v) w' := by
  have k := h.kept hb
  have hnone : ∀ n, g.phys σ.rows.length n = none := fun n => by
    cases hp : g.phys σ.rows.length n with
    | none => rfl
    | some u =>
      obtain ⟨row, hr, _⟩ := h.phys _ _ _ hp
      simp at hr
  have hg := g.le_addPhys σ.rows.length xs.length v (.inl (hnone _))
  have hrows : ∀ (r : Nat) (row : Row), (σ.rows ++ [{ xs, e, sz, wr := true }])[r]? = some row → (r < σ.rows.length ∧ σ.rows[r]? = some row) ∨ (r = σ.rows.length ∧ row = { xs, e, sz, wr := true }) := fun r row hr => by
    by_cases hl : r < σ.rows.length
    · rw [List.getElem?_append_left hl] at hr; exact .inl ⟨hl, hr⟩
    · rw [List.getElem?_append_right (by omega)] at hr
      have hz : r - σ.rows.length = 0 := by
        have := (List.getElem?_eq_some_iff.1 hr).1
        simp at this; omega
      rw [hz] at hr
      simp at hr
      exact .inr ⟨by omega, hr.symm⟩
  have hphys : ∀ r n, r < σ.rows.length → (g.addPhys σ.rows.length xs.length v).phys r n = g.phys r n := fun r n hr => by
    simp only [G.addPhys]; rw [if_neg (by omega)]
  exact {
    below := k.below
    f0 := k.f0
    fz := k.fz
    boxl := k.boxl
    box := fun i cells q e1 e2 => by
      obtain ⟨h3, h4, cs2, T2, h5, h6, h7⟩ := k.box i cells q e1 e2
      exact ⟨h3, h4, cs2, T2, h5, VsRel_mono hg _ _ h6, h7⟩
    nodup := k.nodup
    row := fun r row hr => by
      rcases hrows r row hr with ⟨hl, hr'⟩ | ⟨rfl, rfl⟩
      · obtain ⟨v2, vs2, e1, e2, e3, e4, e5⟩ := k.row r row hr'
        exact ⟨v2, vs2, by rw [hphys r _ hl]; exact e1, e2, EsRel_mono hg _ _ _ _ (List.prefix_refl _) e3, e4, e5⟩
      · refine ⟨v, vs, by simp [G.addPhys], ho, EsRel_mono hg _ _ _ _ (List.prefix_refl _) hx, hsz, fun q hq => ?_⟩
        have hge := hnew q hq
        have hf : g.fz q = [] := h.fz_new hge
        refine ⟨fun hm => ?_, by show g.fz q <+: vs; rw [hf]; exact List.nil_prefix, fun _ => hf⟩
        have := h.box_lt hm
        omega
    apart := fun r r' row row' v1 v2 hne hr hr' p1 p2 => by
      rcases hrows r row hr with ⟨hl, hr1⟩ | ⟨rfl, rfl⟩
      · rcases hrows r' row' hr' with ⟨hl', hr1'⟩ | ⟨rfl, rfl⟩
        · rw [hphys r _ hl] at p1
          rw [hphys r' _ hl'] at p2
          exact h.apart r r' row row' v1 v2 hne hr1 hr1' p1 p2
        · rw [hphys r _ hl] at p1
          simp [G.addPhys] at p2
          subst p2
          obtain ⟨v3, vs3, e1, e2, _⟩ := h.row r row hr1
          rw [p1] at e1; cases e1
          cases hv : v1.ownBlock with
          | none => exact .inl rfl
          | some q =>
            refine .inr fun he => ?_
            have := (e2.lt q hv).2
            have := hnew q (he ▸ rfl)
            omega
      · rcases hrows r' row' hr' with ⟨hl', hr1'⟩ | ⟨rfl, rfl⟩
        · rw [hphys r' _ hl'] at p2
          simp [G.addPhys] at p1
          subst p1
          obtain ⟨v3, vs3, e1, e2, _⟩ := h.row r' row' hr1'
          rw [p2] at e1; cases e1
          cases hv : v.ownBlock with
          | none => exact .inl rfl
          | some q =>
            refine .inr fun he => ?_
            have := (e2.lt q he.symm).2
            have := hnew q hv
            omega
        · exact absurd rfl hne
    phys := fun r n u hu => by
      by_cases hc : r = σ.rows.length ∧ n = xs.length
      · obtain ⟨rfl, rfl⟩ := hc
        exact ⟨{ xs, e, sz, wr := true }, by simp, Nat.le_refl _⟩
      · simp only [G.addPhys] at hu
        rw [if_neg hc] at hu
        obtain ⟨row, hr, hn⟩ := h.phys r n u hu
        exact ⟨row, by rw [List.getElem?_append_left (List.getElem?_eq_some_iff.1 hr).1]; exact hr, hn⟩
    loopl := k.loopl
    loop := fun l lr q e1 e2 => by
      obtain ⟨h3, rec, h4, h5⟩ := k.loop l lr q e1 e2
      exact ⟨h3, rec, h4, LoopRel_mono hg h5⟩
    lnodup := k.lnodup
    mapl := k.mapl
    map := fun m q p e1 e2 => by
      obtain ⟨h3, es, c, h4, h5, h6⟩ := k.map m q p e1 e2
      exact ⟨h3, es, c, h4, VsRel_mono hg _ _ h5, VsRel_mono hg _ _ h6⟩
    qnodup := k.qnodup
    marks := k.marks
    mnodup := k.mnodup }

end Go.Proofs.YticpcfchhcjjeaaGreat.LI
