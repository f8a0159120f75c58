/-
  Operations on memory. No program is named here.
-/
import Derived.Test.YticpcfchhcjjeaaGreatLiS5
namespace Go.Proofs.YticpcfchhcjjeaaGreat.LI
open Go Go.RowKit

section
variable {P : Program} {w0 w : World} {f0 : Nat → List Value} {ms : List Nat} {σ : St} {g : G}

theorem ownCells_skip {σ : St} {l : TypeId × Nat} {ls : List (Option (TypeId × Nat))} {c : LV} {cs : List LV} (hc : c ≠ .nils) : ownCells σ (some l :: ls) (c :: cs) = (c :: (ownCells σ ls cs).1, (ownCells σ ls cs).2) := by
  cases c <;> first | rfl | exact absurd rfl hc
theorem ownCells_boxes (ls : List (Option (TypeId × Nat))) : ∀ (cs : List LV) (σ : St), (ownCells σ ls cs).2.boxes = σ.boxes := by
  induction ls with
  | nil => intro cs σ; simp only [ownCells]
  | cons l ls ih =>
    intro cs σ
    cases cs with
    | nil => cases l <;> rfl
    | cons c cs =>
      cases l with
      | none => simp only [ownCells, ih]
      | some l =>
        by_cases hc : c = .nils
        · subst hc
          obtain ⟨e, sz⟩ := l
          simp only [ownCells]
          split <;> simp only [ih]
        · rw [ownCells_skip hc]; exact ih cs σ

/-- us lies in memory from that place on. -/
def Lies (w : World) (k off : Nat) (us : List Value) : Prop := ∀ (j : Nat) (u : Value), us[j]? = some u → w.cell? ⟨k, off + j, none⟩ = some u

theorem cell_block {w : World} {k j : Nat} {cs : Array Value} {T : TypeId} {fr : Nat × Nat} (h : w.heap[k]? = some (.cells cs T fr)) : w.cell? ⟨k, j, none⟩ = cs[j]? := cell_of_row w k j cs T fr h

theorem lies_fz (h : FzOK g w) {k off : Nat} {us rest : List Value} (he : (g.fz k).drop off = us ++ rest) : Lies w k off us := by
  intro j u hj
  have hu : (g.fz k)[off + j]? = some u := by
    rw [← List.getElem?_drop, he, List.getElem?_append_left (List.getElem?_eq_some_iff.1 hj).1]; exact hj
  have hn : g.fz k ≠ [] := by intro h0; rw [h0] at hu; simp at hu
  obtain ⟨cs, T, fr, h1, h2⟩ := h k hn
  rw [cell_block h1]
  have := pre_get h2 hu
  simpa using this

theorem Lies.take {k off : Nat} {us : List Value} (h : Lies w k off us) (n : Nat) : Lies w k off (us.take n) := fun j u hj => h j u (take_some hj).1
theorem Lies.drop {k off : Nat} {us : List Value} (h : Lies w k off us) (n : Nat) : Lies w k (off + n) (us.drop n) := fun j u hj => by
  rw [List.getElem?_drop] at hj
  have := h _ _ hj
  rw [← Nat.add_assoc] at this; exact this

theorem run_isAgg {t : TypeId} {b : Bool} (h : isAggB P t = some b) (w : World) : (isAgg t).run P w = .ok b w := by
  unfold isAggB at h
  unfold isAgg
  split at h
  · rename_i fs hu; cases h; simp [run_underlying hu]
  · rename_i n e hu; cases h; simp [run_underlying hu]
  · rename_i d h1 h2 hu
    cases h
    cases d <;> simp_all [run_underlying hu]
  · cases h

theorem load_sound {t : TypeId} {cs : List LV} {lv : LV} {k off : Nat} {us : List Value} (hr : readCells P t cs = some lv) (hl : Lies w k off us) (h1 : ∀ u ∈ us, u.oneCell' = true) (hc : VsRel g cs us) :
    ∃ v, (Instr.loadAt t (.pointer (some ⟨k, off, none⟩))).run P w = .ok v w ∧ VRel g lv v := by
  unfold readCells at hr
  simp only [Option.bind_eq_bind, Option.bind_eq_some_iff] at hr
  obtain ⟨n, hn, b, hb, hr⟩ := hr
  have hi : ∃ i, P.info? t = some i ∧ i.size = n := by
    unfold sizeB at hn
    simpa [Option.map_eq_some_iff] using hn
  obtain ⟨i, hi, hin⟩ := hi
  have hlen := VsRel_length hc
  cases b with
  | true =>
    simp only [if_true] at hr
    split at hr
    · rename_i hle
      cases hr
      have hcells := run_loadCells_list (P := P) (w := w) ⟨k, off, none⟩ (us.take n) (fun j u hj => by rw [addr_add]; exact hl.take n j u hj)
      have hlen2 : (us.take n).length = n := by rw [List.length_take, hlen]; omega
      rw [hlen2] at hcells
      refine ⟨.agg (us.take n).toArray, ?_, ?_⟩
      · simp [Instr.loadAt, Instr.sureAddr, loadVar, run_isAgg hb, sizeOf, typeInfo, hi, hin, hcells]
      · simp only [VRel]
        exact ⟨_, rfl, by simpa using VsRel_take n hc, fun u hu => h1 u (List.mem_of_mem_take (by simpa using hu))⟩
    · cases hr
  | false =>
    cases cs with
    | nil => simp at hr
    | cons c cs =>
      simp only [List.head?_cons] at hr
      have hr' : c = lv := by simpa using hr
      subst hr'
      simp only [VsRel] at hc
      obtain ⟨v, vs', rfl, h2, h3⟩ := hc
      refine ⟨v, ?_, h2⟩
      have := hl 0 v rfl
      simp only [Nat.add_zero] at this
      simp [Instr.loadAt, Instr.sureAddr, loadVar, run_isAgg hb, this]


/-! ### stores -/
theorem run_storeVar_block {t : TypeId} {k off : Nat} {cur : Array Value} {T : TypeId} {v : Value} {w : World} (hk : w.heap[k]? = some (.cells cur T (0, 0))) (hn : sizeB P t = some v.cells.size) (h1 : ∀ u ∈ v.cells.toList, u.oneCell' = true)
    (hfit : off + v.cells.size ≤ cur.size) :
    (Instr.storeAt t (.pointer (some ⟨k, off, none⟩)) v).run P w = .ok () (w.setRow k (cur.toList.take off ++ v.cells.toList ++ cur.toList.drop (off + v.cells.size)).toArray) := by
  have hi : ∃ i, P.info? t = some i ∧ i.size = v.cells.size := by
    unfold sizeB at hn
    simpa [Option.map_eq_some_iff] using hn
  obtain ⟨i, hi, hin⟩ := hi
  have hst := run_storeCells_at P k off T v.cells.toList 0 cur w hk (by simpa using hfit) h1
  simp only [Nat.add_zero, Array.length_toList] at hst
  have hadd : ∀ (vs : List Value) (i : Nat) (w : World), (storeCells ⟨k, off, none⟩ vs i).run P w = (storeCells ⟨k, off, none⟩ vs i).run P w := fun _ _ _ => rfl
  simp [Instr.storeAt, Instr.sureAddr, storeVar, sizeOf, typeInfo, hi, hin, hst]

/-! ### the operations, one by one -/
/-- Nil becomes a row of the call's own, without elements. -/
theorem SRel.nilRow (h : SRel w0 f0 ms σ g w) (e : TypeId) {sz : Nat} (h0 : 0 < sz) :
    ∃ g', g.le g' ∧ VRel g' (.mref σ.rows.length 0) (.slice none 0 0) ∧ SRel w0 f0 ms { σ with rows := σ.rows ++ [{ xs := [], e, sz, wr := true }] } g' w := by
  have hnone : g.phys σ.rows.length 0 = none := by
    cases hp : g.phys σ.rows.length 0 with
    | none => rfl
    | some u =>
      obtain ⟨row, hr, _⟩ := h.phys _ _ _ hp
      simp at hr
  refine ⟨_, g.le_addPhys σ.rows.length 0 (.slice none 0 0) (.inl hnone), ?_, h.newRow (xs := []) (e := e) (sz := sz) (v := .slice none 0 0) (vs := []) (Below.refl _ _) (World.ownsRow_nil _ _ _ _) (fun k hk => by simp [Value.ownBlock] at hk) (by simp [EsRel]) h0⟩
  exact VRel_phys (by simp [G.addPhys]) ⟨none, 0, rfl⟩
theorem ownNil_sound (h : SRel w0 f0 ms σ g w) (own : Bool) (t : TypeId) {x : LV} {v : Value} (hv : VRel g x v) :
    ∃ g', g.le g' ∧ VRel g' (ownNil P own t x σ).1 v ∧ SRel w0 f0 ms (ownNil P own t x σ).2 g' w := by
  unfold ownNil
  split
  · split
    · split
      · rename_i h0
        simp only [VRel] at hv
        subst hv
        exact h.nilRow _ h0
      · exact ⟨g, G.le.refl g, hv, h⟩
    · exact ⟨g, G.le.refl g, hv, h⟩
  · exact ⟨g, G.le.refl g, hv, h⟩
theorem ownCells_sound (ls : List (Option (TypeId × Nat))) : ∀ (cs : List LV) {σ : St} {g : G}, SRel w0 f0 ms σ g w →
    ∃ g', g.le g' ∧ SRel w0 f0 ms (ownCells σ ls cs).2 g' w ∧ ∀ us, VsRel g cs us → VsRel g' (ownCells σ ls cs).1 us := by
  induction ls with
  | nil => intro cs σ g h; simp only [ownCells]; exact ⟨g, G.le.refl g, h, fun us hu => hu⟩
  | cons l ls ih =>
    intro cs σ g h
    cases cs with
    | nil =>
      have e1 : ownCells σ (l :: ls) [] = ([], σ) := by cases l <;> rfl
      rw [e1]
      exact ⟨g, G.le.refl g, h, fun us hu => hu⟩
    | cons c cs =>
      have skip : ∃ g', g.le g' ∧ SRel w0 f0 ms (ownCells σ ls cs).2 g' w ∧ ∀ us, VsRel g (c :: cs) us → VsRel g' (c :: (ownCells σ ls cs).1) us := by
        obtain ⟨g2, m1, m2, m3⟩ := ih cs h
        refine ⟨g2, m1, m2, fun us hu => ?_⟩
        simp only [VsRel] at hu ⊢
        obtain ⟨v, vs', rfl, q1, q2⟩ := hu
        exact ⟨v, vs', rfl, VRel_mono m1 _ _ q1, m3 _ q2⟩
      cases l with
      | none => simpa only [ownCells] using skip
      | some l =>
        by_cases hc : c = .nils
        · subst hc
          obtain ⟨e, sz⟩ := l
          simp only [ownCells]
          split
          · rename_i h0
            obtain ⟨g1, k1, k2, k3⟩ := h.nilRow e h0
            obtain ⟨g2, m1, m2, m3⟩ := ih cs k3
            refine ⟨g2, k1.trans m1, m2, fun us hu => ?_⟩
            simp only [VsRel] at hu ⊢
            obtain ⟨v, vs', rfl, q1, q2⟩ := hu
            simp only [VRel] at q1
            subst q1
            exact ⟨_, vs', rfl, VRel_mono m1 _ _ k2, m3 _ (VsRel_mono k1 _ _ q2)⟩
          · exact skip
        · rw [ownCells_skip hc]; exact skip
/-- A box is laid. -/
theorem SRel.boxed (h : SRel w0 f0 ms σ g w) (own : Bool) (t T : TypeId) {cells : List LV} {cs : Array Value} (hc : VsRel g cells cs.toList) (h1 : ∀ u ∈ cs.toList, u.oneCell' = true) :
    ∃ g', g.le g' ∧ VRel g' (newBoxS P own t cells σ).1 (.pointer (some ⟨w.heap.size, 0, none⟩)) ∧ SRel w0 f0 ms (newBoxS P own t cells σ).2 g' (w.alloc (.cells cs T)) := by
  unfold newBoxS
  split
  · obtain ⟨g1, k1, k2, k3⟩ := ownCells_sound (sliceCells P 8 t) cells h
    have hb := k2.newBox T (k3 _ hc) h1
    have hbl : (ownCells σ (sliceCells P 8 t) cells).2.boxes.length = σ.boxes.length := by rw [ownCells_boxes]
    refine ⟨g1.addBox w.heap.size, k1.trans (g1.le_addBox _), ?_, hb⟩
    simp only [VRel]
    exact ⟨w.heap.size, by simp [G.addBox, ← hbl, ← k2.boxl], rfl⟩
  · refine ⟨g.addBox w.heap.size, g.le_addBox _, ?_, h.newBox T hc h1⟩
    simp only [VRel]
    exact ⟨w.heap.size, by simp [G.addBox, ← h.boxl], rfl⟩

theorem sound_move {own : Bool} {x : Operand} {e : Env} {a : Act} (hT : TRel g e.t a.tmps) (h : SRel w0 f0 ms σ g w) {o : Oper} (ho : o.op = .move x ∨ o.op = .assign x) :
    OpGood w0 f0 ms g (ownNil P own o.type (e.ev x) σ).1 (ownNil P own o.type (e.ev x) σ).2 ((execOp a.eval o).run P w) := by
  obtain ⟨g', k1, k2, k3⟩ := ownNil_sound (P := P) h own o.type (ev_rel hT x)
  refine ⟨_, w, g', .inl ?_, k2, k1, k3⟩
  rcases ho with ho | ho <;> simp [execOp, ho]

theorem sound_pick {c x y : Operand} {e : Env} {a : Act} (hT : TRel g e.t a.tmps) (h : SRel w0 f0 ms σ g w) {o : Oper} (ho : o.op = .pick c x y) {lv : LV} (hp : pickLV (e.ev c) (e.ev x) (e.ev y) = some lv) :
    OpGood w0 f0 ms g lv σ ((execOp a.eval o).run P w) := by
  have hc := ev_rel hT c
  unfold pickLV at hp
  split at hp
  · rename_i h1; cases hp
    rw [h1] at hc
    refine good_same h (ev_rel hT x) ?_
    simp [execOp, ho, VRel_bool hc, asBool]
  · rename_i h1; cases hp
    rw [h1] at hc
    refine good_same h (ev_rel hT y) ?_
    simp [execOp, ho, VRel_bool hc, asBool]
  · cases hp

theorem sound_alloc (_hTy : TyOK P) {own : Bool} {t : TypeId} {a : Act} (h : SRel w0 f0 ms σ g w) {o : Oper} (ho : o.op = .alloc t) {cs : List LV} (hz : zeroB P t = some cs) :
    OpGood w0 f0 ms g (newBoxS P own t cs σ).1 (newBoxS P own t cs σ).2 ((execOp a.eval o).run P w) := by
  obtain ⟨i, z, hi, hz0, _, h1, rfl⟩ := zeroB_inv hz
  obtain ⟨g', k1, k2, k3⟩ := h.boxed (P := P) own t t (cells := z.cells.toList.map ofConst1) (cs := z.cells) (by simpa using VsRel_map ofConst1 id z.cells.toList (fun x _ => ofConst1_rel g x)) h1
  refine ⟨.pointer (some ⟨w.heap.size, 0, none⟩), w.alloc (.cells z.cells t), g', .inl ?_, k2, k1, k3⟩
  simp [execOp, ho, Instr.alloc, zeroValue, typeInfo, hi, hz0, newVar, newRow]

theorem sound_box {own : Bool} {t : TypeId} {x : Operand} {e : Env} {a : Act} (hT : TRel g e.t a.tmps) (h : SRel w0 f0 ms σ g w) {o : Oper} (ho : o.op = .box t x) (hs : storable (e.ev x) = true) :
    OpGood w0 f0 ms g (newBoxS P own t (e.ev x).cells σ).1 (newBoxS P own t (e.ev x).cells σ).2 ((execOp a.eval o).run P w) := by
  obtain ⟨hc, h1⟩ := cells_rel (ev_rel hT x) hs
  obtain ⟨g', k1, k2, k3⟩ := h.boxed (P := P) own t t hc h1
  refine ⟨.pointer (some ⟨w.heap.size, 0, none⟩), w.alloc (.cells (a.eval x).cells t), g', .inl ?_, k2, k1, k3⟩
  simp [execOp, ho, Instr.box, newVar, newRow]

theorem SRel.row_at (h : SRel w0 f0 ms σ g w) {r n k cap : Nat} {row : Row} (hr : σ.rows[r]? = some row) (hn : row.xs.length = n) (hp : g.phys r n = some (.slice (some ⟨k, 0, none⟩) n cap)) :
    ∃ cur, w.heap[k]? = some (.cells cur row.e (0, 0)) ∧ n ≤ cap ∧ cur.size = cap * row.sz ∧ EsRel g row.xs row.sz (cur.toList.take (n * row.sz)) ∧ 0 < row.sz := by
  obtain ⟨v, vs, e1, e2, e3, e4, _⟩ := h.row r row hr
  rw [hn, hp] at e1; cases e1
  rcases e2.2 with ⟨hc, _⟩ | ⟨g1, cap1, cur1, hv, _, d1, d2, d3, d4, d5⟩
  · cases hc
  · injection hv with hv1 hv2 hv3
    subst hv3
    have : k = g1 := by injection hv1 with hv1; injection hv1
    subst this
    rw [hn] at d2 d5
    exact ⟨cur1, d1, d2, d4, by rw [d5]; exact e3, e4⟩

theorem sound_load {t : TypeId} {x : Operand} {e : Env} {a : Act} (hT : TRel g e.t a.tmps) (h : SRel w0 f0 ms σ g w) {o : Oper} (ho : o.op = .load t x) {own : Bool} {r : LV × St} (hop : opStep P own o e.ev σ = some r) :
    OpGood w0 f0 ms g r.1 r.2 ((execOp a.eval o).run P w) := by
  have hx := ev_rel hT x
  simp only [opStep, ho] at hop
  have fin : ∀ {cs : List LV} {lv : LV} {k off : Nat} {us : List Value}, readCells P t cs = some lv → Lies w k off us → (∀ u ∈ us, u.oneCell' = true) → VsRel g cs us → a.eval x = .pointer (some ⟨k, off, none⟩) →
      OpGood w0 f0 ms g lv σ ((execOp a.eval o).run P w) := fun h1 h2 h3 h4 h5 => by
    obtain ⟨v, hv, hr⟩ := load_sound h1 h2 h3 h4
    refine good_same h hr ?_
    simp only [execOp, ho, h5, Sem.run_bind, hv, Result.andThen_ok, Sem.run_pure]
  split at hop
  · rename_i b off hb
    rw [hb] at hx
    simp only [VRel] at hx
    obtain ⟨k, hk, hxv⟩ := hx
    simp only [Option.bind_eq_bind, Option.bind_eq_some_iff] at hop
    obtain ⟨cs, hcs, v, hv, hr⟩ := hop
    cases hr
    obtain ⟨_, _, cur, T, c1, c2, c3⟩ := h.box b cs k hcs hk
    refine fin hv (us := cur.toList.drop off) (fun j u hj => ?_) (fun u hu => c3 u (List.mem_of_mem_drop hu)) (VsRel_drop off c2) hxv
    rw [cell_block c1]
    rw [List.getElem?_drop] at hj
    simpa using hj
  · rename_i cs hb
    rw [hb] at hx
    simp only [VRel] at hx
    obtain ⟨k, off, us, rest, hxv, _, hd, hc, hone⟩ := hx
    simp only [Option.map_eq_some_iff] at hop
    obtain ⟨v, hv, hr⟩ := hop
    cases hr
    exact fin hv (lies_fz h.fz hd) hone hc hxv
  · rename_i q n i sz off hb
    rw [hb] at hx
    simp only [VRel] at hx
    obtain ⟨k, cap, hp, hxv⟩ := hx
    simp only [Option.bind_eq_bind, Option.bind_eq_some_iff] at hop
    obtain ⟨row, hrow, y, hy, hop⟩ := hop
    split at hop
    · rename_i hc
      obtain ⟨hn, hsz, hst⟩ := hc
      simp only [Option.map_eq_some_iff] at hop
      obtain ⟨v, hv, hr⟩ := hop
      cases hr
      obtain ⟨cur, c1, c2, c3, c4, c5⟩ := h.row_at hrow hn hp
      obtain ⟨u, u1, u2, u3, u4⟩ := EsRel_get c4 hy
      obtain ⟨d1, d2⟩ := cells_rel u1 hst
      refine fin hv (us := u.cells.toList.drop off) (fun j u' hj => ?_) (fun u' hu' => d2 u' (List.mem_of_mem_drop hu')) (VsRel_drop off d1) hxv
      rw [cell_block c1]
      rw [u2, List.getElem?_drop] at hj
      have h9 := (take_some hj)
      rw [List.getElem?_drop] at h9
      have h10 := take_some h9.1
      rw [← hsz]
      rw [← Nat.add_assoc] at h10
      simpa using h10.1
    · cases hop
  · cases hop


theorem splice_rel {cs new : List LV} {us : List Value} {v : Value} {off : Nat} (hc : VsRel g cs us) (hn : VsRel g new v.cells.toList) : VsRel g (splice cs off new) (us.take off ++ v.cells.toList ++ us.drop (off + v.cells.size)) := by
  unfold splice
  have hl := VsRel_length hn
  rw [Array.length_toList] at hl
  rw [hl]
  exact VsRel_append (VsRel_append (VsRel_take off hc) hn) (VsRel_drop _ hc)

theorem sound_store {t : TypeId} {x y : Operand} {e : Env} {a : Act} (hT : TRel g e.t a.tmps) (h : SRel w0 f0 ms σ g w) {o : Oper} (ho : o.op = .store t x y) {own : Bool} {r : LV × St} (hop : opStep P own o e.ev σ = some r) :
    OpGood w0 f0 ms g r.1 r.2 ((execOp a.eval o).run P w) := by
  have hx := ev_rel hT x
  have hy := ev_rel hT y
  simp only [opStep, ho] at hop
  have hund : VRel g (.tuple []) Go.undef := by simp only [VRel]; exact ⟨#[], rfl, by simp [VsRel]⟩
  split at hop
  · rename_i b off hb
    rw [hb] at hx
    simp only [VRel] at hx
    obtain ⟨k, hk, hxv⟩ := hx
    simp only [Option.bind_eq_bind, Option.bind_eq_some_iff] at hop
    obtain ⟨cs, hcs, n, hn, hop⟩ := hop
    split at hop
    · rename_i hc
      obtain ⟨hl, hst, hfit⟩ := hc
      cases hop
      obtain ⟨_, _, cur, T, c1, c2, c3⟩ := h.box b cs k hcs hk
      obtain ⟨d1, d2⟩ := cells_rel hy hst
      have hvl : (a.eval y).cells.size = n := by have := VsRel_length d1; rw [Array.length_toList] at this; omega
      have hcur : cur.size = cs.length := by have := VsRel_length c2; rw [Array.length_toList] at this; exact this
      have hrun := run_storeVar_block (P := P) (t := t) (off := off) (v := a.eval y) c1 (by rw [hvl]; exact hn) d2 (by omega)
      have hbl : b < σ.boxes.length := (List.getElem?_eq_some_iff.1 hcs).1
      refine ⟨Go.undef, _, g, .inr ⟨?_, rfl⟩, hund, G.le.refl g, h.setBox hk c1 (cells' := splice cs off (e.ev y).cells) (cs' := (cur.toList.take off ++ (a.eval y).cells.toList ++ cur.toList.drop (off + (a.eval y).cells.size)).toArray) ?_ ?_ hbl⟩
      · simp only [execOp, ho, hxv, Sem.run_bind, hrun, Result.andThen_ok, Sem.run_pure]
      · simpa using splice_rel (off := off) c2 d1
      · intro u hu
        simp only [List.mem_append] at hu
        rcases hu with (hu | hu) | hu
        · exact c3 u (List.mem_of_mem_take hu)
        · exact d2 u hu
        · exact c3 u (List.mem_of_mem_drop hu)
    · cases hop
  · rename_i q n i sz off hb
    rw [hb] at hx
    simp only [VRel] at hx
    obtain ⟨k, cap, hp, hxv⟩ := hx
    simp only [Option.bind_eq_bind, Option.bind_eq_some_iff] at hop
    obtain ⟨m, hm, row, hrow, hop⟩ := hop
    split at hop
    · rename_i hc
      obtain ⟨hn, hwr, hoff, hmz, hsz, hi, hcl, hst, hnot⟩ := hc
      cases hop
      obtain ⟨g', k1, k2, k3⟩ := h.freeze (rowsIn (e.ev y))
      have hy' := frzV_rel k1.le _ _ k3 hy
      obtain ⟨d1, d2⟩ := cells_rel hy' hst
      obtain ⟨row', r1, r2, r3, r4, r5⟩ := frz_row' σ (rowsIn (e.ev y)) q row hrow
      have hrr : row' = row := r5 hnot
      subst hrr
      subst hsz
      have hvl : (a.eval y).cells.size = row'.sz := by have := VsRel_length d1; rw [Array.length_toList] at this; omega
      have hp' : g'.phys q row'.xs.length = some (.slice (some ⟨k, 0, none⟩) row'.xs.length cap) := by rw [k1.phys, hn]; exact hp
      obtain ⟨cur, c1, c2, c3, c4, c5⟩ := k2.row_at r1 rfl hp'
      have hile : i * row'.sz + row'.sz ≤ cur.size := by
        rw [c3]
        have hic : i + 1 ≤ cap := by omega
        have : (i + 1) * row'.sz ≤ cap * row'.sz := Nat.mul_le_mul_right row'.sz hic
        rw [Nat.add_mul] at this; omega
      have hrun := run_storeVar_block (P := P) (t := t) (off := i * row'.sz) (v := a.eval y) c1 (by rw [hvl, ← hmz]; exact hm) d2 (by rw [hvl]; exact hile)
      have hset := k2.setElem (i := i) r1 hwr hp' (by omega) hy' (by rw [hvl]; exact ⟨rfl, d2⟩) c1
      rw [hvl] at hrun
      refine ⟨Go.undef, _, g', .inr ⟨?_, rfl⟩, VRel_mono k1.le _ _ hund, k1.le, hset⟩
      subst hoff
      simp only [Nat.add_zero] at hxv
      simp only [execOp, ho, hxv, Sem.run_bind, hrun, Result.andThen_ok, Sem.run_pure]
    · cases hop
  · cases hop

end
end Go.Proofs.YticpcfchhcjjeaaGreat.LI
