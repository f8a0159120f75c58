/-
  Slices that are built, built-in functions; all operations together. No program is named here.
-/
import Derived.Test.YticpcfchhcjjeaaGreatLiS9
namespace Go.Proofs.YticpcfchhcjjeaaGreat.LI
open Go Go.RowKit
section
variable {P : Program} {w0 w : World} {f0 : Nat → List Value} {ms : List Nat} {σ : St} {g : G}

theorem elemsOk_cons {sz : Nat} {x : LV} {xs : List LV} (h : elemsOk sz (x :: xs) = true) : x.cells.length = sz ∧ storable x = true ∧ elemsOk sz xs = true := by
  simp only [elemsOk, List.all_cons, Bool.and_eq_true, beq_iff_eq] at h
  exact ⟨h.1.1, h.1.2, h.2⟩

def flatV (vs : List Value) : List Value := vs.flatMap fun v => v.cells.toList

theorem flat_rel {sz : Nat} : ∀ {xs : List LV} {vs : List Value}, VsRel g xs vs → elemsOk sz xs = true → EsRel g xs sz (flatV vs) ∧ (flatV vs).length = xs.length * sz ∧ ∀ u ∈ flatV vs, u.oneCell' = true
  | [], vs, h, hok => by simp only [VsRel] at h; subst h; simp [EsRel, flatV]
  | x :: xs, vs, h, hok => by
    simp only [VsRel] at h
    obtain ⟨v, vs', rfl, h2, h3⟩ := h
    obtain ⟨o1, o2, o3⟩ := elemsOk_cons hok
    obtain ⟨i1, i2, i3⟩ := flat_rel h3 o3
    obtain ⟨d1, d2⟩ := cells_rel h2 o2
    have hv : v.cells.toList.length = sz := by rw [VsRel_length d1]; exact o1
    have hf : flatV (v :: vs') = v.cells.toList ++ flatV vs' := rfl
    rw [hf]
    refine ⟨?_, ?_, ?_⟩
    · simp only [EsRel]
      refine ⟨⟨v, h2, by rw [List.take_append_of_le_length (by omega), List.take_of_length_le (by omega)], by rw [← Array.length_toList]; exact hv, d2⟩, ?_⟩
      rw [List.drop_append_of_le_length (by omega), List.drop_of_length_le (by omega), List.nil_append]
      exact i1
    · rw [List.length_append, hv, i2, List.length_cons, Nat.add_mul]; omega
    · intro u hu
      rcases List.mem_append.1 hu with hu | hu
      · exact d2 u hu
      · exact i3 u hu

theorem fill_range {sz : Nat} : ∀ (xs : List LV) (vs : List Value) (m : Nat) (arr : Array Value), VsRel g xs vs → elemsOk sz xs = true → (m + xs.length) * sz ≤ arr.size →
    ∃ cells', Instr.fill (fun i => some (i * sz, sz)) arr ((List.range' m xs.length).zip vs) = some cells' ∧ cells'.toList = arr.toList.take (m * sz) ++ flatV vs ++ arr.toList.drop ((m + xs.length) * sz)
  | [], vs, m, arr, h, hok, hl => by
    simp only [VsRel] at h; subst h
    exact ⟨arr, rfl, by simp [flatV]⟩
  | x :: xs, vs, m, arr, h, hok, hl => by
    simp only [VsRel] at h
    obtain ⟨v, vs', rfl, h2, h3⟩ := h
    obtain ⟨o1, o2, o3⟩ := elemsOk_cons hok
    obtain ⟨d1, d2⟩ := cells_rel h2 o2
    have hv : v.cells.toList.length = sz := by rw [VsRel_length d1]; exact o1
    have hv' : v.cells.size = sz := by rw [← Array.length_toList]; exact hv
    have e0 : (m + (x :: xs).length) * sz = m * sz + sz + xs.length * sz := by rw [List.length_cons, Nat.add_mul, Nat.add_mul]; omega
    have e1 : (m + 1) * sz = m * sz + sz := by rw [Nat.add_mul]; omega
    rw [e0] at hl ⊢
    have hstep := fill_step (place := fun i => some (i * sz, sz)) (cells := arr) (i := m) (rest := (List.range' (m + 1) xs.length).zip vs') rfl hv' (by omega)
    obtain ⟨cells1, c1, c2⟩ := hstep
    have hsz : cells1.size = arr.size := by
      rw [← Array.length_toList, c1, List.length_append, List.length_append, List.length_take, List.length_drop, hv, Array.length_toList]; omega
    obtain ⟨cells', k1, k2⟩ := fill_range xs vs' (m + 1) cells1 h3 o3 (by rw [hsz, show m + 1 + xs.length = (m + 1) + xs.length from rfl, Nat.add_mul, e1]; omega)
    refine ⟨cells', ?_, ?_⟩
    · rw [List.length_cons, List.range'_succ, List.zip_cons_cons, c2]
      exact k1
    · rw [k2, c1, e1]
      have hf : flatV (v :: vs') = v.cells.toList ++ flatV vs' := rfl
      have ht : (arr.toList.take (m * sz)).length = m * sz := by rw [List.length_take, Array.length_toList]; omega
      have a1 : (arr.toList.take (m * sz) ++ v.cells.toList ++ arr.toList.drop (m * sz + sz)).take (m * sz + sz) = arr.toList.take (m * sz) ++ v.cells.toList := by
        rw [List.take_append_of_le_length (by rw [List.length_append, ht, hv]; omega), List.take_of_length_le (by rw [List.length_append, ht, hv]; omega)]
      have a2 : (arr.toList.take (m * sz) ++ v.cells.toList ++ arr.toList.drop (m * sz + sz)).drop ((m + 1 + xs.length) * sz) = arr.toList.drop (m * sz + sz + xs.length * sz) := by
        rw [show (m + 1 + xs.length) * sz = (arr.toList.take (m * sz) ++ v.cells.toList).length + xs.length * sz from by rw [List.length_append, ht, hv, Nat.add_mul, e1], List.drop_append, List.drop_of_length_le (by omega), List.nil_append, Nat.add_sub_cancel_left, List.drop_drop]
      rw [a1, a2, hf]
      simp

theorem zip_pairs {α β : Type} : ∀ (l : List (α × β)), l = (l.map (·.1)).zip (l.map (·.2))
  | [] => rfl
  | x :: l => by simp only [List.map_cons, List.zip_cons_cons]; rw [← zip_pairs l]

theorem buildSlice_full {t : TypeId} {len : Nat} {parts : Array (Nat × Operand)} {e : Env} {a : Act} (hT : TRel g e.t a.tmps) (h : SRel w0 f0 ms σ g w) {o : Oper} (ho : o.op = .buildSlice t len parts) {own : Bool} {r : LV × St} (hop : opStep P own o e.ev σ = some r) (hno : (own && (Nat.beq len 0 && parts.toList.isEmpty)) = false) :
    ∃ el cells, elemB P t = some el ∧ (execOp a.eval o).run P w = .ok (.value (.slice (some ⟨w.heap.size, 0, none⟩) len len)) (w.alloc (.cells cells el)) ∧
      ∀ (w' : World) (fr : Nat × Nat), Below w.heap.size w w' → w'.heap[w.heap.size]? = some (.cells cells el fr) → ∃ g', VRel g' r.1 (.slice (some ⟨w.heap.size, 0, none⟩) len len) ∧ g.le g' ∧ SRel w0 f0 ms r.2 g' w' := by
  simp only [opStep, ho, hno, cond_false, Option.bind_eq_some_iff] at hop
  obtain ⟨el, hel, sz, hsz, _, hzb, hop⟩ := hop
  have hu := elemB_inv hel
  obtain ⟨inf, hinf, hins⟩ := info_of_size hsz
  split at hop
  · rename_i hc
    obtain ⟨rfl, hp⟩ := hc
    cases hop
    have hp : parts.toList = [] := List.eq_nil_of_length_eq_zero hp
    refine ⟨el, #[], hel, ?_, fun w' fr hbel hnew => ⟨g, by simp only [VRel]; exact ⟨_, 0, rfl, Nat.le_refl _, .inl trivial⟩, G.le.refl g, h.kept hbel⟩⟩
    simp [execOp, ho, Instr.buildSlice, run_underlying hu, sizeOf, typeInfo, hinf, newRow, hp, Instr.fill]
    congr 2
    exact Array.eq_empty_of_size_eq_zero (by simp)
  split at hop
  · rename_i hc
    obtain ⟨hidx, hok, hmax, hpos, hlen⟩ := hc
    cases hop
    have hp0 : VsRel g (parts.toList.map fun p => e.ev p.2) (parts.toList.map fun p => a.eval p.2) := VsRel_map _ _ _ (fun x _ => ev_rel hT x.2)
    obtain ⟨g1, k1, k2, k3⟩ := h.freeze (rowsIn.rowsInL (parts.toList.map fun p => e.ev p.2))
    have hp1 : VsRel g1 (layS σ (parts.toList.map fun p => e.ev p.2)).1 (parts.toList.map fun p => a.eval p.2) := frzL_rel k1.le _ _ k3 hp0
    obtain ⟨inf', z, hinf', hz, hzs, hz1, _⟩ := zeroB_inv hzb
    rw [hinf] at hinf'
    obtain rfl := Option.some.inj hinf'
    have hxl : (layS σ (parts.toList.map fun p => e.ev p.2)).1.length = len := by
      have h1 := VsRel_length hp1
      have h2 := congrArg List.length hidx
      simp at h1 h2
      omega
    have hvp : (parts.toList.map fun p => (p.1, a.eval p.2)) = (List.range' 0 len).zip (parts.toList.map fun p => a.eval p.2) := by
      rw [zip_pairs (parts.toList.map fun p => (p.1, a.eval p.2)), List.map_map, List.map_map, ← List.range_eq_range', ← hidx]
      rfl
    have hnz : len * sz ≠ 0 := by
      have := Nat.mul_pos hlen hpos
      omega
    have hcells0 : ((Array.range (len * sz)).map (z.cells[· % z.cells.size]!)).size = len * sz := by simp
    obtain ⟨cells, c1, c2⟩ := fill_range (sz := sz) _ _ 0 ((Array.range (len * sz)).map (z.cells[· % z.cells.size]!)) hp1 hok (by rw [hcells0, hxl, Nat.zero_add]; exact Nat.le_refl _)
    rw [hxl] at c1 c2
    obtain ⟨f1, f2, f3⟩ := flat_rel hp1 hok
    have c3 : cells.toList = flatV (parts.toList.map fun p => a.eval p.2) := by
      rw [c2, Nat.zero_mul, List.take_zero, List.nil_append, Nat.zero_add, List.drop_of_length_le (by rw [Array.length_toList, hcells0]; exact Nat.le_refl _), List.append_nil]
    have hrun : (Instr.buildSlice t len (parts.map fun (i, x) => (i, a.eval x))).run P w = .ok (.slice (some ⟨w.heap.size, 0, none⟩) len len) (w.alloc (.cells cells el)) := by
      have h24 : ¬ (len * inf.size > 2 ^ 24) := by rw [hins]; omega
      have hnz' : ¬ (len * inf.size = 0) := by rw [hins]; exact hnz
      have hfill : Instr.fill (fun i => some (i * inf.size, inf.size)) ((Array.range (len * inf.size)).map (z.cells[· % z.cells.size]!)) (parts.map fun (i, x) => (i, a.eval x)).toList = some cells := by
        rw [hins]
        simpa [hvp] using c1
      unfold Instr.buildSlice
      simp only [Sem.run_bind, run_underlying hu, Result.andThen_ok, sizeOf, typeInfo, run_program, hinf, Sem.run_pure, if_neg h24, if_neg hnz', zeroValue, hz, hfill, newRow, run_newObj]
      rfl
    refine ⟨el, cells, hel, by simp only [execOp, ho, Sem.run_bind, hrun, Result.andThen_ok, Sem.run_pure], fun w' fr hbel hnew => ?_⟩
    obtain ⟨g', m1, m2, m3, _⟩ := k2.newFz hbel hnew (List.prefix_refl _)
    refine ⟨g', ?_, k1.le.trans m1, m2⟩
    simp only [VRel]
    refine ⟨_, len, by rw [hxl], by omega, .inr ⟨w.heap.size, 0, sz, hpos, rfl, ?_⟩⟩
    rw [m3, List.drop_zero, c3]
    exact EsRel_mono m1 _ _ _ _ (List.prefix_refl _) f1
  · cases hop

theorem sound_buildSlice (_hTy : TyOK P) {t : TypeId} {len : Nat} {parts : Array (Nat × Operand)} {e : Env} {a : Act} (hT : TRel g e.t a.tmps) (h : SRel w0 f0 ms σ g w) {o : Oper} (ho : o.op = .buildSlice t len parts) {own : Bool} {r : LV × St} (hop : opStep P own o e.ev σ = some r) (hno : (own && (Nat.beq len 0 && parts.toList.isEmpty)) = false) :
    OpGood w0 f0 ms g r.1 r.2 ((execOp a.eval o).run P w) := by
  obtain ⟨el, cells, _, hrun, hall⟩ := buildSlice_full hT h ho hop hno
  obtain ⟨g', k1, k2, k3⟩ := hall (w.alloc (.cells cells el)) (0, 0) ((Below.refl _ _).alloc (Nat.le_refl _) _) (heap_alloc_new w (.cells cells el))
  exact ⟨_, _, g', .inl hrun, k1, k2, k3⟩

end
end Go.Proofs.YticpcfchhcjjeaaGreat.LI
