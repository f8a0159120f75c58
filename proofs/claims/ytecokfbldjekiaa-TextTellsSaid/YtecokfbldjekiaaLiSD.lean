/-
  Marks and loop records that come, turn and go. No program is named here.
-/
import Derived.Test.YtecokfbldjekiaaLiSC
import Derived.RangeFuncRecord
namespace Go.Proofs.Ytecokfbldjekiaa.LI
open Go Go.RowKit
section
variable {P : Program} {w0 w : World} {f0 : Nat → List Value} {ms : List Nat} {σ : St} {g : G}

theorem Touch.putObj (w : World) (k : Nat) (o : Obj) : Touch w (w.putObj k o) k := ⟨rfl, rfl, rfl, by simp, fun q hq => World.putObj_heap_other hq⟩

/-- A block is turned that is no box, no row, no frozen part: what is told of the others stays. -/
theorem SRel.touch (h : SRel w0 f0 ms σ g w) {k : Nat} {o : Obj} (hk : w.heap[k]? = some o) (ho : o.isCells = false) (h0 : w0.heap.size ≤ k) (o' : Obj) {lps : List LoopRec} {ms' : List Nat}
    (hll : lps.length = σ.loops.length)
    (hloop : ∀ (l : Nat) (lr : LoopRec) (q : Nat), lps[l]? = some lr → g.loop[l]? = some q → w0.heap.size ≤ q ∧ ∃ rec, (w.putObj k o').heap[q]? = some (.loop rec) ∧ LoopRel g lr rec)
    (hms : ∀ q ∈ ms', q ∈ ms ∧ q ≠ k) (hnd : ms'.Nodup) :
    SRel w0 f0 ms' { σ with loops := lps } g (w.putObj k o') := by
  have ht := Touch.putObj w k o'
  have hfk : g.fz k = [] := by
    by_cases hn : g.fz k = []
    · exact hn
    · obtain ⟨cs, T, fr, h1, _⟩ := h.fz k hn
      rw [hk] at h1; cases h1; cases ho
  exact {
    below := h.below.trans (ht.below h0)
    f0 := h.f0
    fz := h.fz.touch ht (fun hn => absurd hfk hn)
    boxl := h.boxl
    box := fun i cells q e1 e2 => by
      obtain ⟨h3, h4, cs2, T2, h5, h6, h7⟩ := h.box i cells q e1 e2
      have hne : q ≠ k := by rintro rfl; rw [hk] at h5; cases h5; cases ho
      exact ⟨h3, h4, cs2, T2, (ht.block q hne).trans h5, h6, h7⟩
    nodup := h.nodup
    row := fun r row hr => by
      obtain ⟨v, vs, e1, e2, e3, e4, e5⟩ := h.row r row hr
      refine ⟨v, vs, e1, ownsRow_touch e2 ht (fun hx => ?_), e3, e4, e5⟩
      rcases e2.2 with ⟨rfl, _⟩ | ⟨q, cap, cur, rfl, _, hc, _⟩
      · simp [Value.ownBlock] at hx
      · simp [Value.ownBlock] at hx
        subst hx
        rw [hk] at hc; cases hc; cases ho
    apart := h.apart
    phys := h.phys
    loopl := by rw [h.loopl]; exact hll.symm
    loop := hloop
    lnodup := h.lnodup
    marks := fun q hq => by
      obtain ⟨m1, m2⟩ := h.marks q (hms q hq).1
      exact ⟨m1, (ht.block q (hms q hq).2).trans m2⟩
    mnodup := hnd }

theorem SRel.mark_lt (h : SRel w0 f0 ms σ g w) {k : Nat} (hk : k ∈ ms) : k < w.heap.size := heap_lt (h.marks k hk).2
theorem SRel.loop_lt (h : SRel w0 f0 ms σ g w) {k : Nat} (hk : k ∈ g.loop) : k < w.heap.size := by
  obtain ⟨i, hi⟩ := mem_get hk
  have hl : i < σ.loops.length := by rw [← h.loopl]; exact (List.getElem?_eq_some_iff.1 hi).1
  obtain ⟨_, rec, h5, _⟩ := h.loop i σ.loops[i] k (List.getElem?_eq_getElem hl) hi
  exact heap_lt h5

/-- A mark's block is laid. -/
theorem SRel.newMark (h : SRel w0 f0 ms σ g w) : SRel w0 f0 (w.heap.size :: ms) σ g (w.alloc (.deferred (some []))) := by
  have hb : Below w.heap.size w (w.alloc (.deferred (some []))) := (Below.refl _ _).alloc (Nat.le_refl _) _
  have k := h.kept hb
  exact { k with
    marks := fun q hq => by
      rcases List.mem_cons.1 hq with rfl | hq
      · exact ⟨h.below.size, heap_alloc_new w _⟩
      · exact k.marks q hq
    mnodup := List.nodup_cons.2 ⟨fun hm => by have := h.mark_lt hm; omega, h.mnodup⟩ }

/-- A mark's block is shut. -/
theorem SRel.shut {k : Nat} (h : SRel w0 f0 (k :: ms) σ g w) : SRel w0 f0 ms σ g (w.putObj k (.deferred none)) := by
  obtain ⟨m1, m2⟩ := h.marks k List.mem_cons_self
  have hn := List.nodup_cons.1 h.mnodup
  exact h.touch (lps := σ.loops) m2 rfl m1 _ rfl (fun l lr q e1 e2 => by
    obtain ⟨h3, rec, h4, h5⟩ := h.loop l lr q e1 e2
    have hne : q ≠ k := by rintro rfl; rw [m2] at h4; cases h4
    exact ⟨h3, rec, (World.putObj_heap_other hne).trans h4, h5⟩)
    (fun q hq => ⟨List.mem_cons_of_mem _ hq, fun e => hn.1 (e ▸ hq)⟩) hn.2

def G.addLoop (g : G) (k : Nat) : G := { g with loop := g.loop ++ [k] }
theorem G.le_addLoop (g : G) (k : Nat) : g.le (g.addLoop k) := ⟨fun _ => List.prefix_refl _, List.prefix_refl _, fun _ _ _ h => h, List.prefix_append _ _⟩

/-- A loop's record is laid. -/
theorem SRel.newLoop (h : SRel w0 f0 ms σ g w) {lr : LoopRec} {rec : Loop} (hr : LoopRel g lr rec) :
    SRel w0 f0 ms { σ with loops := σ.loops ++ [lr] } (g.addLoop w.heap.size) (w.alloc (.loop rec)) := by
  have hb : Below w.heap.size w (w.alloc (.loop rec)) := (Below.refl _ _).alloc (Nat.le_refl _) _
  have k := h.kept hb
  have hg := g.le_addLoop w.heap.size
  exact {
    below := k.below
    f0 := k.f0
    fz := k.fz
    boxl := k.boxl
    box := fun i cells q e1 e2 => by
      obtain ⟨h3, h4, cs', T', h5, h6, h7⟩ := k.box i cells q e1 e2
      exact ⟨h3, h4, cs', T', h5, VsRel_mono hg _ _ h6, h7⟩
    nodup := k.nodup
    row := fun r row hr => by
      obtain ⟨v, vs, e1, e2, e3, e4⟩ := k.row r row hr
      exact ⟨v, vs, e1, e2, EsRel_mono hg _ _ _ _ (List.prefix_refl _) e3, e4⟩
    apart := k.apart
    phys := k.phys
    loopl := by simp [G.addLoop, h.loopl]
    loop := fun l lr' q e1 e2 => by
      simp only [G.addLoop] at e2
      by_cases hi : l < σ.loops.length
      · rw [List.getElem?_append_left hi] at e1
        rw [List.getElem?_append_left (by rw [h.loopl]; exact hi)] at e2
        obtain ⟨h3, rec', h4, h5⟩ := k.loop l lr' q e1 e2
        exact ⟨h3, rec', h4, LoopRel_mono hg h5⟩
      · rw [List.getElem?_append_right (by omega)] at e1
        rw [List.getElem?_append_right (by rw [h.loopl]; omega)] at e2
        rw [h.loopl] at e2
        have hz : l - σ.loops.length = 0 := by
          have := (List.getElem?_eq_some_iff.1 e1).1
          simp at this; omega
        rw [hz] at e1 e2
        simp at e1 e2
        subst e1 e2
        exact ⟨h.below.size, rec, heap_alloc_new w _, LoopRel_mono hg hr⟩
    lnodup := by
      simp only [G.addLoop]
      rw [List.nodup_append]
      refine ⟨h.lnodup, by simp, fun a ha b hb' => ?_⟩
      simp at hb'
      subst hb'
      have := h.loop_lt ha
      omega
    marks := k.marks
    mnodup := k.mnodup }

/-- A loop's record is turned. -/
theorem SRel.setLoop (h : SRel w0 f0 ms σ g w) {l k : Nat} {lr lr' : LoopRec} {rec rec' : Loop} (hl : σ.loops[l]? = some lr) (hk : g.loop[l]? = some k) (hw : w.heap[k]? = some (.loop rec)) (hr : LoopRel g lr' rec') :
    SRel w0 f0 ms { σ with loops := σ.loops.set l lr' } g (w.putObj k (.loop rec')) := by
  obtain ⟨hk0, _⟩ := h.loop l lr k hl hk
  have hll : l < σ.loops.length := (List.getElem?_eq_some_iff.1 hl).1
  refine h.touch hw rfl hk0 _ (by simp) (fun l' lr2 q e1 e2 => ?_) (fun q hq => ⟨hq, ?_⟩) h.mnodup
  · by_cases hi : l = l'
    · subst hi
      rw [List.getElem?_set_self hll] at e1
      cases e1
      rw [hk] at e2; cases e2
      exact ⟨hk0, rec', World.putObj_heap_same (heap_lt hw), hr⟩
    · rw [List.getElem?_set_ne hi] at e1
      obtain ⟨h3, rec2, h4, h5⟩ := h.loop l' lr2 q e1 e2
      have hne : q ≠ k := by rintro rfl; exact hi (nodup_inj h.lnodup hk e2)
      exact ⟨h3, rec2, (World.putObj_heap_other hne).trans h4, h5⟩
  · rintro rfl
    obtain ⟨_, m2⟩ := h.marks q hq
    rw [hw] at m2; cases m2

end
end Go.Proofs.Ytecokfbldjekiaa.LI
