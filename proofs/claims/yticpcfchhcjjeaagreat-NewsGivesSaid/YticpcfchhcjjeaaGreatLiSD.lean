/-
  Marks and loop records that come, turn and go. No program is named here.
-/
import Derived.Test.YticpcfchhcjjeaaGreatLiSC
import Derived.RangeFuncRecord
namespace Go.Proofs.YticpcfchhcjjeaaGreat.LI
open Go Go.RowKit
section
variable {P : Program} {w0 w : World} {f0 : Nat → List Value} {ms : List Nat} {σ : St} {g : G}

theorem SRel.mark_lt (h : SRel w0 f0 ms σ g w) {k : Nat} (hk : k ∈ ms) : k < w.heap.size := heap_lt (h.marks k hk).2
theorem SRel.loop_lt (h : SRel w0 f0 ms σ g w) {k : Nat} (hk : k ∈ g.loop) : k < w.heap.size := by
  obtain ⟨i, hi⟩ := mem_get hk
  have hl : i < σ.loops.length := by rw [← h.loopl]; exact (List.getElem?_eq_some_iff.1 hi).1
  obtain ⟨_, rec, h5, _⟩ := h.loop i σ.loops[i] k (List.getElem?_eq_getElem hl) hi
  exact heap_lt h5

/-- A mark's block is laid. -/
theorem SRel.newMark (h : SRel w0 f0 ms σ g w) : SRel w0 f0 (w.heap.size :: ms) σ g (w.alloc (.deferred (some []))) := by
  have hb : Below w.heap.size w (w.alloc (.deferred (some []))) := (Below.refl _ _).alloc (Nat.le_refl _) _
  have k := h.kept hb
  exact { k with
    marks := fun q hq => by
      rcases List.mem_cons.1 hq with rfl | hq
      · exact ⟨h.below.size, heap_alloc_new w _⟩
      · exact k.marks q hq
    mnodup := List.nodup_cons.2 ⟨fun hm => by have := h.mark_lt hm; omega, h.mnodup⟩ }

/-- A mark's block is shut. -/
theorem SRel.shut {k : Nat} (h : SRel w0 f0 (k :: ms) σ g w) : SRel w0 f0 ms σ g (w.putObj k (.deferred none)) := by
  obtain ⟨m1, m2⟩ := h.marks k List.mem_cons_self
  have hn := List.nodup_cons.1 h.mnodup
  exact h.touch (lps := σ.loops) (mps := σ.maps) m2 rfl m1 _ rfl rfl (h.loops_at m2 (fun r hr => by cases hr) _) (h.maps_at m2 (fun es c hr => by cases hr) _)
    (fun q hq => ⟨List.mem_cons_of_mem _ hq, fun e => hn.1 (e ▸ hq)⟩) hn.2

def G.addLoop (g : G) (k : Nat) : G := { g with loop := g.loop ++ [k] }
theorem G.le_addLoop (g : G) (k : Nat) : g.le (g.addLoop k) := ⟨fun _ => List.prefix_refl _, List.prefix_refl _, fun _ _ _ h => h, List.prefix_append _ _, List.prefix_refl _⟩

/-- A loop's record is laid. -/
theorem SRel.newLoop (h : SRel w0 f0 ms σ g w) {lr : LoopRec} {rec : Loop} (hr : LoopRel g lr rec) :
    SRel w0 f0 ms { σ with loops := σ.loops ++ [lr] } (g.addLoop w.heap.size) (w.alloc (.loop rec)) := by
  have hb : Below w.heap.size w (w.alloc (.loop rec)) := (Below.refl _ _).alloc (Nat.le_refl _) _
  have k := h.kept hb
  have hg := g.le_addLoop w.heap.size
  exact {
    below := k.below
    f0 := k.f0
    fz := k.fz
    boxl := k.boxl
    box := fun i cells q e1 e2 => by
      obtain ⟨h3, h4, cs', T', h5, h6, h7⟩ := k.box i cells q e1 e2
      exact ⟨h3, h4, cs', T', h5, VsRel_mono hg _ _ h6, h7⟩
    nodup := k.nodup
    row := fun r row hr => by
      obtain ⟨v, vs, e1, e2, e3, e4⟩ := k.row r row hr
      exact ⟨v, vs, e1, e2, EsRel_mono hg _ _ _ _ (List.prefix_refl _) e3, e4⟩
    apart := k.apart
    phys := k.phys
    loopl := by simp [G.addLoop, h.loopl]
    loop := fun l lr' q e1 e2 => by
      simp only [G.addLoop] at e2
      by_cases hi : l < σ.loops.length
      · rw [List.getElem?_append_left hi] at e1
        rw [List.getElem?_append_left (by rw [h.loopl]; exact hi)] at e2
        obtain ⟨h3, rec', h4, h5⟩ := k.loop l lr' q e1 e2
        exact ⟨h3, rec', h4, LoopRel_mono hg h5⟩
      · rw [List.getElem?_append_right (by omega)] at e1
        rw [List.getElem?_append_right (by rw [h.loopl]; omega)] at e2
        rw [h.loopl] at e2
        have hz : l - σ.loops.length = 0 := by
          have := (List.getElem?_eq_some_iff.1 e1).1
          simp at this; omega
        rw [hz] at e1 e2
        simp at e1 e2
        subst e1 e2
        exact ⟨h.below.size, rec, heap_alloc_new w _, LoopRel_mono hg hr⟩
    lnodup := by
      simp only [G.addLoop]
      rw [List.nodup_append]
      refine ⟨h.lnodup, by simp, fun a ha b hb' => ?_⟩
      simp at hb'
      subst hb'
      have := h.loop_lt ha
      omega
    mapl := k.mapl
    map := fun m q p e1 e2 => by
      obtain ⟨h3, es, c, h4, h5, h6⟩ := k.map m q p e1 e2
      exact ⟨h3, es, c, h4, VsRel_mono hg _ _ h5, VsRel_mono hg _ _ h6⟩
    qnodup := k.qnodup
    marks := k.marks
    mnodup := k.mnodup }

/-- A loop's record is turned. -/
theorem SRel.setLoop (h : SRel w0 f0 ms σ g w) {l k : Nat} {lr lr' : LoopRec} {rec rec' : Loop} (hl : σ.loops[l]? = some lr) (hk : g.loop[l]? = some k) (hw : w.heap[k]? = some (.loop rec)) (hr : LoopRel g lr' rec') :
    SRel w0 f0 ms { σ with loops := σ.loops.set l lr' } g (w.putObj k (.loop rec')) := by
  obtain ⟨hk0, _⟩ := h.loop l lr k hl hk
  have hll : l < σ.loops.length := (List.getElem?_eq_some_iff.1 hl).1
  refine h.touch (mps := σ.maps) hw rfl hk0 _ (by simp) rfl (fun l' lr2 q e1 e2 => ?_) (h.maps_at hw (fun es c hr => by cases hr) _) (fun q hq => ⟨hq, ?_⟩) h.mnodup
  · by_cases hi : l = l'
    · subst hi
      rw [List.getElem?_set_self hll] at e1
      cases e1
      rw [hk] at e2; cases e2
      exact ⟨hk0, rec', World.putObj_heap_same (heap_lt hw), hr⟩
    · rw [List.getElem?_set_ne hi] at e1
      obtain ⟨h3, rec2, h4, h5⟩ := h.loop l' lr2 q e1 e2
      have hne : q ≠ k := by rintro rfl; exact hi (nodup_inj h.lnodup hk e2)
      exact ⟨h3, rec2, (World.putObj_heap_other hne).trans h4, h5⟩
  · rintro rfl
    obtain ⟨_, m2⟩ := h.marks q hq
    rw [hw] at m2; cases m2

end
end Go.Proofs.YticpcfchhcjjeaaGreat.LI
