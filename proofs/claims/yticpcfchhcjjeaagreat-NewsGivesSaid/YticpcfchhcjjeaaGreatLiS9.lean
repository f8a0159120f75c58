/-
  Conversions; structs and slices that are built. No program is named here.
-/
import Derived.Test.YticpcfchhcjjeaaGreatLiS8
import Derived.Laws.Tables
import Derived.Laws.BytesArg
import Derived.Lib.ConvBytes
namespace Go.Proofs.YticpcfchhcjjeaaGreat.LI
open Go Go.RowKit
section
variable {P : Program} {w0 w : World} {f0 : Nat → List Value} {ms : List Nat} {σ : St} {g : G}

/-! ### filling -/
theorem fold_set (off : Nat) : ∀ (l : List Value) (k : Nat) (arr : Array Value), off + k + l.length ≤ arr.size →
    ((l.zipIdx k).foldl (fun (cs : Array Value) (p : Value × Nat) => cs.setIfInBounds (off + p.2) p.1) arr).toList = arr.toList.take (off + k) ++ l ++ arr.toList.drop (off + k + l.length)
  | [], k, arr, _ => by simp
  | x :: l, k, arr, h => by
    simp only [List.zipIdx_cons, List.foldl_cons]
    have hlen : (x :: l).length = l.length + 1 := rfl
    rw [hlen] at h ⊢
    rw [fold_set off l (k + 1) (arr.setIfInBounds (off + k) x) (by simp; omega)]
    have hs : off + k < arr.toList.length := by rw [Array.length_toList]; omega
    rw [Array.toList_setIfInBounds]
    have e1 : (arr.toList.set (off + k) x).take (off + (k + 1)) = arr.toList.take (off + k) ++ [x] := by
      rw [show off + (k + 1) = (off + k) + 1 from by omega, List.take_succ_eq_append_getElem (by simpa using hs), List.take_set_of_le (Nat.le_refl _)]
      simp
    have e2 : (arr.toList.set (off + k) x).drop (off + (k + 1) + l.length) = arr.toList.drop (off + k + (l.length + 1)) := by
      rw [List.drop_set_of_lt (by omega)]
      congr 1; omega
    rw [e1, e2]
    simp

theorem fill_step {place : Nat → Option (Nat × Nat)} {cells : Array Value} {i off n : Nat} {v : Value} {rest : List (Nat × Value)} (hp : place i = some (off, n)) (hv : v.cells.size = n) (hf : off + n ≤ cells.size) :
    ∃ cells', cells'.toList = cells.toList.take off ++ v.cells.toList ++ cells.toList.drop (off + n) ∧ Instr.fill place cells ((i, v) :: rest) = Instr.fill place cells' rest := by
  refine ⟨v.cells.zipIdx.foldl (fun cs (c, j) => cs.setIfInBounds (off + j) c) cells, ?_, ?_⟩
  · rw [← Array.foldl_toList, Array.toList_zipIdx]
    have := fold_set off v.cells.toList 0 cells (by rw [Array.length_toList]; omega)
    rw [Nat.add_zero, Array.length_toList, hv] at this
    exact this
  · rw [Instr.fill, hp]
    have h1 : ¬ (v.cells.size ≠ n) := by simp [hv]
    have h2 : ¬ (off + v.cells.size > cells.size) := by omega
    simp [h1, h2]

theorem fill_rel {place : Nat → Option (Nat × Nat)} : ∀ (parts : List (Nat × LV)) (vparts : List (Nat × Value)) (cs cs' : List LV) (cells : Array Value),
    fillL place cs parts = some cs' → vparts.map (·.1) = parts.map (·.1) → VsRel g (parts.map (·.2)) (vparts.map (·.2)) → VsRel g cs cells.toList → (∀ u ∈ cells.toList, u.oneCell' = true) →
    ∃ cells', Instr.fill place cells vparts = some cells' ∧ VsRel g cs' cells'.toList ∧ ∀ u ∈ cells'.toList, u.oneCell' = true
  | [], vparts, cs, cs', cells, h, hi, hr, hc, h1 => by
    have : vparts = [] := by simpa using hi
    subst this
    simp only [fillL] at h
    cases h
    exact ⟨cells, rfl, hc, h1⟩
  | (i, x) :: parts, vparts, cs, cs', cells, h, hi, hr, hc, h1 => by
    cases vparts with
    | nil => simp at hi
    | cons q vparts =>
      obtain ⟨i', v⟩ := q
      simp only [List.map_cons, List.cons.injEq] at hi
      obtain ⟨rfl, hi⟩ := hi
      simp only [List.map_cons, VsRel] at hr
      obtain ⟨v', vs', he, hx, hr⟩ := hr
      simp only [List.cons.injEq] at he
      obtain ⟨rfl, rfl⟩ := he
      simp only [fillL] at h
      cases hp : place i' with
      | none => rw [hp] at h; cases h
      | some on =>
        obtain ⟨off, n⟩ := on
        rw [hp] at h
        simp only at h
        split at h
        · rename_i hcnd
          obtain ⟨hl, hst, hf⟩ := hcnd
          obtain ⟨d1, d2⟩ := cells_rel hx hst
          have hvn : v.cells.size = n := by have := VsRel_length d1; rw [Array.length_toList] at this; omega
          have hcl : cells.size = cs.length := by have := VsRel_length hc; rw [Array.length_toList] at this; exact this
          obtain ⟨cells', e1, e2⟩ := fill_step (cells := cells) (rest := vparts) hp hvn (by omega)
          rw [e2]
          refine fill_rel parts vparts _ cs' cells' h hi hr ?_ ?_
          · rw [e1]
            have := splice_rel (off := off) hc d1
            rw [hvn] at this
            exact this
          · intro u hu
            rw [e1] at hu
            simp only [List.mem_append] at hu
            rcases hu with (hu | hu) | hu
            · exact h1 u (List.mem_of_mem_take hu)
            · exact d2 u hu
            · exact h1 u (List.mem_of_mem_drop hu)
        · cases h

theorem fillL_mono {place place' : Nat → Option (Nat × Nat)} (hp : ∀ i q, place i = some q → place' i = some q) : ∀ (parts : List (Nat × LV)) (cs cs' : List LV), fillL place cs parts = some cs' → fillL place' cs parts = some cs'
  | [], cs, cs', h => h
  | (i, v) :: parts, cs, cs', h => by
    simp only [fillL] at h ⊢
    cases hq : place i with
    | none => rw [hq] at h; cases h
    | some q =>
      rw [hq] at h
      rw [hp i q hq]
      simp only at h ⊢
      split at h
      · rename_i hc
        rw [if_pos hc]
        exact fillL_mono hp parts _ _ h
      · cases h

theorem sound_build (_hTy : TyOK P) {t : TypeId} {parts : Array (Nat × Operand)} {e : Env} {a : Act} (hT : TRel g e.t a.tmps) (h : SRel w0 f0 ms σ g w) {o : Oper} (ho : o.op = .build t parts) {own : Bool} {r : LV × St} (hop : opStep P own o e.ev σ = some r) :
    OpGood w0 f0 ms g r.1 r.2 ((execOp a.eval o).run P w) := by
  simp only [opStep, ho, Option.map_eq_some_iff] at hop
  obtain ⟨cs, hcs, hr⟩ := hop
  subst hr
  have hparts : VsRel g ((parts.toList.map fun p => (p.1, e.ev p.2)).map (·.2)) ((parts.toList.map fun p => (p.1, a.eval p.2)).map (·.2)) := by
    rw [List.map_map, List.map_map]
    exact VsRel_map _ _ _ (fun x _ => ev_rel hT x.2)
  have hidx : (parts.toList.map fun p => (p.1, a.eval p.2)).map (·.1) = (parts.toList.map fun p => (p.1, e.ev p.2)).map (·.1) := by
    rw [List.map_map, List.map_map]; rfl
  have fin : ∀ {cells : Array Value}, P.built t (parts.toList.map fun p => (p.1, a.eval p.2)) = some cells → VsRel g cs cells.toList → (∀ u ∈ cells.toList, u.oneCell' = true) → OpGood w0 f0 ms g (.agg cs) σ ((execOp a.eval o).run P w) := fun {cells} hb hv h1 => by
    refine good_same (v := .agg cells) h (by simp only [VRel]; exact ⟨cells, rfl, hv, h1⟩) ?_
    have := run_build (P := P) w t (parts.map fun (i, x) => (i, a.eval x)) cells (by simpa using hb)
    simp only [execOp, ho, Sem.run_bind, this, Result.andThen_ok, Sem.run_pure]
  unfold builtL at hcs
  simp only [Option.bind_eq_some_iff] at hcs
  obtain ⟨zs, hzs, pl, hpl, hcs⟩ := hcs
  obtain ⟨i, z, hi, hz, _, h1, rfl⟩ := zeroB_inv hzs
  have z1 : VsRel g (z.cells.toList.map ofConst1) z.cells.toList := by simpa using VsRel_map ofConst1 id z.cells.toList (fun x _ => ofConst1_rel g x)
  unfold placesB at hpl
  split at hpl
  · rename_i fs hu
    obtain ⟨cells, c1, c2, c3⟩ := fill_rel _ _ _ _ _ hcs hidx hparts z1 h1
    refine fin (cells := cells) ?_ c2 c3
    have : (fun i : Nat => pl.toArray[i]?) = fun i : Nat => pl[i]? := by funext i; simp
    simp only [Program.built, hi, hu, hz, hpl, this]
    exact c1
  · rename_i m el hu
    split at hpl
    · obtain ⟨ie, hie, hpe⟩ := Option.map_eq_some_iff.1 hpl
      have hcs' := fillL_mono (place' := fun i => some (i * ie.size, ie.size)) (fun j q hj => by
        rw [← hpe, List.getElem?_map] at hj
        obtain ⟨y, hy, hq⟩ := Option.map_eq_some_iff.1 hj
        have := List.getElem?_range (List.getElem?_eq_some_iff.1 hy).1
        rw [List.getElem?_eq_some_iff] at hy
        obtain ⟨hlt, hy⟩ := hy
        rw [List.getElem_range] at hy
        rw [← hq, ← hy]) _ _ _ hcs
      obtain ⟨cells, c1, c2, c3⟩ := fill_rel _ _ _ _ _ hcs' hidx hparts z1 h1
      refine fin (cells := cells) ?_ c2 c3
      simp only [Program.built, hi, hu, hz, hie]
      exact c1
    · cases hpl
  · cases hpl

/-! ### a new block that changes no more -/
theorem SRel.newFz (h : SRel w0 f0 ms σ g w) {w' : World} {cs : List Value} {cur : Array Value} {T : TypeId} {fr : Nat × Nat} (hb : Below w.heap.size w w') (hk : w'.heap[w.heap.size]? = some (.cells cur T fr)) (hp : cs <+: cur.toList) :
    ∃ g', g.le g' ∧ SRel w0 f0 ms σ g' w' ∧ g'.fz w.heap.size = cs ∧ g'.phys = g.phys := by
  have hnil : g.fz w.heap.size = [] := h.fz_new (Nat.le_refl _)
  have hle : ∀ b, g.fz b <+: (g.addFz w.heap.size cs).fz b := fun b => by
    simp only [G.addFz]; split
    · rename_i hb'; subst hb'; rw [hnil]; exact List.nil_prefix
    · exact List.prefix_refl _
  refine ⟨g.addFz w.heap.size cs, ⟨hle, List.prefix_refl _, fun _ _ _ h => h, List.prefix_refl _, List.prefix_refl _⟩, h.fzmore hle (fun b hb' => by simp only [G.addFz]; rw [if_neg (by omega)]) ⟨rfl, rfl, rfl, rfl⟩ hb ?_, by simp [G.addFz], rfl⟩
  intro b hn
  by_cases hbk : b = w.heap.size
  · subst hbk
    simp only [G.addFz, if_true]
    exact ⟨cur, T, fr, hk, hp⟩
  · simp only [G.addFz, if_neg hbk] at hn ⊢
    exact (h.fz.kept hb) b hn

theorem allBytes_inv : ∀ {es : List LV} {bs : List UInt8}, allBytes es = some bs → ∃ ns : List Int, es = ns.map LV.byte ∧ bs = ns.map fun n => UInt8.ofNat n.toNat
  | [], bs, h => by simp only [allBytes] at h; cases h; exact ⟨[], rfl, rfl⟩
  | e :: es, bs, h => by
    simp only [allBytes] at h
    cases hb : byteOf e with
    | none => rw [hb] at h; cases h
    | some b =>
      cases hr : allBytes es with
      | none => rw [hb, hr] at h; cases h
      | some rest =>
        rw [hb, hr] at h
        cases h
        obtain ⟨ns, rfl, rfl⟩ := allBytes_inv hr
        unfold byteOf at hb
        split at hb
        · rename_i n; cases hb; exact ⟨n :: ns, rfl, rfl⟩
        · cases hb

theorem EsRel_bytes : ∀ {ns : List Int} {vs : List Value}, EsRel g (ns.map LV.byte) 1 vs → ∀ (i : Nat), i < ns.length → vs[i]? = some (.int .u8 (ns.getD i 0))
  | [], vs, h, i, hi => by simp at hi
  | n :: ns, vs, h, i, hi => by
    simp only [List.map_cons, EsRel] at h
    obtain ⟨⟨u, h1, h2, _⟩, h4⟩ := h
    have hu := VRel_int h1
    subst hu
    cases vs with
    | nil => simp [Value.cells] at h2
    | cons v vs =>
      cases i with
      | zero => simp [Value.cells] at h2 ⊢; exact h2.symm
      | succ i => simpa using EsRel_bytes h4 i (by simpa using hi)

theorem sound_convert {src dst : TypeId} {x : Operand} {e : Env} {a : Act} (hT : TRel g e.t a.tmps) (h : SRel w0 f0 ms σ g w) {o : Oper} (ho : o.op = .convert src dst x) {own : Bool} {r : LV × St} (hop : opStep P own o e.ev σ = some r) :
    OpGood w0 f0 ms g r.1 r.2 ((execOp a.eval o).run P w) := by
  have hx := ev_rel hT x
  simp only [opStep, ho] at hop
  have exec : ∀ {v : Value} {w' : World}, (convert src dst (a.eval x)).run P w = .ok v w' → (execOp a.eval o).run P w = .ok (.value v) w' := fun hv => by
    simp only [execOp, ho, Sem.run_bind, hv, Result.andThen_ok, Sem.run_pure]
  split at hop
  · rename_i k' k kk n hs hd hb
    cases hop
    rw [hb] at hx
    refine good_same h (VRel_mkint _ _) (exec ?_)
    rw [VRel_int hx]
    simp [convert, run_underlying hs, run_underlying hd, Conv.intToInt]
  · rename_i s hs hd hb
    cases hop
    rw [hb] at hx
    refine good_same h (VRel_mkstr _) (exec ?_)
    rw [VRel_str hx]
    simp [convert, run_underlying hs, run_underlying hd]
  · rename_i el hs hd
    split at hop
    · rename_i he
      simp only [Option.bind_eq_bind, Option.bind_eq_some_iff] at hop
      obtain ⟨es, hes, bs, hbs, hr⟩ := hop
      cases hr
      obtain ⟨ns, rfl, rfl⟩ := allBytes_inv hbs
      obtain ⟨g', k1, k2, k3⟩ := elems_rel h hx hes
      simp only [VRel] at k3
      obtain ⟨ao, cap, hv, hle, hc⟩ := k3
      have hstr : (⟨(ns.map fun n => UInt8.ofNat n.toNat).toArray⟩ : ByteArray) = strOfNums ns := rfl
      refine good_same h (VRel_mkstr _) (exec ?_)
      rw [hv]
      rcases hc with hc | ⟨b, off, sz, hs0, hao, hes'⟩
      · have hns : ns = [] := by simpa using hc
        subst hns
        cases ao with
        | none => exact run_convert_bytes_nil (P := P) w src el hs he 0 cap dst hd
        | some ad =>
          rw [run_convert_bytes_string w src dst el _ _ cap hs he hd]
          simp [Conv.bytesToString, loadCells, loadCellsFrom]
          rfl
      · subst hao
        have hsz1 : ns = [] ∨ sz = 1 := by
          cases ns with
          | nil => exact .inl rfl
          | cons n ns =>
            simp only [List.map_cons, EsRel] at hes'
            obtain ⟨⟨u, u1, u2, u3, _⟩, _⟩ := hes'
            rw [VRel_int u1] at u3
            exact .inr (by simpa [Value.cells] using u3.symm)
        rcases hsz1 with hns | hsz1
        · subst hns
          have := run_convert_bytes_arg (P := P) w src el hs he b off 0 cap [] rfl (fun i hi => by omega) dst hd
          simpa [strOfNums] using this
        · subst hsz1
          have hlies : ∀ i, i < ns.length → w.cell? ⟨b, off + i, none⟩ = some (.int .u8 (ns.getD i 0)) := fun i hi => by
            have h9 := EsRel_bytes hes' i hi
            exact lies_fz k2.fz (us := (g'.fz b).drop off) (rest := []) (by simp) i _ h9
          have := run_convert_bytes_arg (P := P) w src el hs he b off ns.length cap ns rfl hlies dst hd
          simpa [strOfNums] using this
    · cases hop
  · rename_i _ _ _ el s hs hd hb
    split at hop
    · rename_i he
      split at hop
      · rename_i hmax
        cases hop
        rw [hb] at hx
        have hrun := Lib.run_convert_string_bytes (P := P) w src dst el s hs hd he
        have hbel : Below w.heap.size w (Lib.bytesWorld w el s) := ⟨rfl, rfl, rfl, by rw [Lib.bytesWorld_size]; omega, fun k hk => Lib.bytesWorld_at_old w el s k hk⟩
        have hcs : (s.data.toList.map fun b => Value.int .u8 b.toNat) <+: (Lib.bytesCells w el s).toList := by
          simp only [Lib.bytesCells, Array.toList_append, Array.toList_map]
          exact List.prefix_append _ _
        obtain ⟨g', k1, k2, k3, _⟩ := h.newFz hbel (Lib.bytesWorld_at_new w el s) hcs
        refine ⟨_, _, g', .inl (exec (by rw [VRel_str hx]; exact hrun)), ?_, k1, k2⟩
        simp only [VRel]
        have hlen : (bytesLV s).length = s.size := by simp [bytesLV]
        refine ⟨_, _, by rw [hlen], by rw [hlen]; exact grownCap_ge w s.size 0 el, ?_⟩
        by_cases hz : s.size = 0
        · exact .inl (List.eq_nil_of_length_eq_zero (by rw [hlen]; exact hz))
        · refine .inr ⟨w.heap.size, 0, 1, by omega, rfl, ?_⟩
          rw [k3, List.drop_zero]
          have gen : ∀ l : List UInt8, EsRel g' (l.map fun b => LV.byte b.toNat) 1 (l.map fun b => Value.int .u8 b.toNat) := by
            intro l
            induction l with
            | nil => simp [EsRel]
            | cons b l ih =>
              simp only [List.map_cons, EsRel, List.drop_succ_cons, List.drop_zero]
              exact ⟨⟨_, VRel_mkint _ _, by simp [Value.cells], rfl, by simp [Value.cells, Value.oneCell']⟩, ih⟩
          exact gen s.data.toList
      · cases hop
    · cases hop
  · cases hop

end
end Go.Proofs.YticpcfchhcjjeaaGreat.LI
