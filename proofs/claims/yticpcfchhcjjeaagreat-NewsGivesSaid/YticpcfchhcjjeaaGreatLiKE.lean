/-
  Each operation with letters in it stands for the operation: all of them. No program is named here.
-/
import Derived.Test.YticpcfchhcjjeaaGreatLiKC
namespace Go.Proofs.YticpcfchhcjjeaaGreat.LI
open Go Go.RowKit
open KV (toL)
open KV.toL (toLs)
variable {P : Program} {T : TypeId → Option Ty}

theorem opK_sound {own : Bool} {o : Oper} {ρ : Operand → KV} {σ σ' : KSt} {v : KV} {c0 : Ck} (h : opK T P own o.type o.op ρ σ = some (c0, v, σ')) (hc0 : c0.val = true) :
    opStep P own o (fun y => (ρ y).toL) σ.toL = some (v.toL, σ'.toL) ∧ σ'.loops = σ.loops := by
  obtain ⟨d, op, ty, pos, af, gd⟩ := o
  simp only at h
  cases op
  case move x =>
    simp only [opK] at h
    split at h
    · rename_i hn; cases h
      exact ⟨by simp only [opStep, (ownNilK_sound hn).1], (ownNilK_sound hn).2⟩
    · cases h
  case assign x =>
    simp only [opK] at h
    split at h
    · rename_i hn; cases h
      exact ⟨by simp only [opStep, (ownNilK_sound hn).1], (ownNilK_sound hn).2⟩
    · cases h
  case pick c a b =>
    simp only [opK] at h
    split at h
    · rename_i v' hv; cases h
      exact ⟨by simp only [opStep, pickK_sound hv, Option.map_some], rfl⟩
    · cases h
  case alloc t =>
    simp only [opK] at h
    split at h
    · rename_i cs hz
      split at h
      · rename_i hn; cases h
        exact ⟨by simp only [opStep, zeroK_eq, hz, Option.map_some, (newBoxK_sound hn).1], (newBoxK_sound hn).2⟩
      · cases h
    · cases h
  case box t x =>
    simp only [opK] at h
    split at h
    · rename_i n hn
      split at h
      · rename_i hc
        split at h
        · rename_i hb; cases h
          refine ⟨?_, (newBoxK_sound hb).2⟩
          simp only [opStep, hn, Option.bind_eq_bind, Option.bind_some]
          rw [if_pos (by rw [toL_cells, List.length_map, toL_storable]; exact hc)]
          rw [toL_cells, (newBoxK_sound hb).1]
        · cases h
      · cases h
    · cases h
  case build t parts =>
    simp only [opK] at h
    split at h
    · rename_i cs hb; cases h
      refine ⟨?_, rfl⟩
      have := builtK_eq (P := P) t (parts.toList.map fun p => (p.1, ρ p.2))
      rw [List.map_map] at this
      simp only [opStep]
      have e : (parts.toList.map fun p => (p.1, (ρ p.2).toL)) = parts.toList.map ((fun p : Nat × KV => (p.1, p.2.toL)) ∘ fun p => (p.1, ρ p.2)) := rfl
      rw [e, this, hb]
      simp only [Option.map_some, toL, toLs_map]
    · cases h
  case buildSlice t len parts =>
    simp only [opK] at h
    split at h
    · rename_i e he
      split at h
      · rename_i sz zs ty' hs hz hT
        cases hno : (own && (Nat.beq len 0 && parts.toList.isEmpty)) with
        | true =>
          rw [hno, cond_true] at h
          split at h
          · rename_i hpos
            cases h
            refine ⟨?_, rfl⟩
            have hl : σ.toL.rows.length = σ.rows.length := by simp [KSt.toL]
            simp only [opStep, hno, cond_true, he, hs, hz, Option.bind_some, hpos, if_true, newRowS, hl, List.length_nil, toL]
            rw [addRow_eq]
            rfl
          · cases h
        | false =>
        rw [hno, cond_false] at h
        split at h
        · rename_i hlen
          cases h
          refine ⟨?_, rfl⟩
          simp only [opStep, hno, cond_false, he, hs, hz, Option.bind_some]
          rw [if_pos hlen]; rfl
        split at h
        · rename_i hlen hc
          split at h
          · rename_i c xs hd
            cases h
            simp only [Ck.val, Bool.and_eq_true] at hc0
            obtain ⟨h1, hcd⟩ := hc0
            refine ⟨?_, frzKS_loops _ _⟩
            have e1 : (parts.toList.map fun p => (ρ p.2).toL) = toLs (parts.toList.map fun p => ρ p.2) := by
              rw [toLs_map, List.map_map]; rfl
            have e2 := frzKL_sound σ _ h1
            have e3 := decVs_sound hd hcd
            have e4 : toLs (frzK.frzKL σ (parts.toList.map fun p => ρ p.2)).2 = xs.map (encL ty') := by rw [toLs_map]; exact e3
            simp only [opStep, hno, cond_false, he, hs, hz, Option.bind_some, layS, e1, e2, e4]
            rw [if_neg hlen, if_pos ⟨hc.1, elemsOk_enc _ _ _ hc.2.1, hc.2.2⟩]
            rw [rowsKL_eq, frzKS_eq]
            rfl
          · cases h
        · cases h
      · cases h
    · cases h
  case load t a =>
    simp only [opK] at h
    split at h
    · rename_i c v' hl
      cases h
      exact ⟨loadK_sound d ty pos af gd (y := a) (ρ := fun y => (ρ y).toL) rfl hl hc0 own, rfl⟩
    · cases h
  case store t a x =>
    simp only [opK] at h
    split at h
    · rename_i b off ha
      split at h
      · rename_i cs n hb hn
        split at h
        · rename_i hc; cases h
          refine ⟨?_, rfl⟩
          have hbx : σ.toL.boxes[b]? = some (cs.map toL) := by simp only [KSt.toL, List.getElem?_map, hb, Option.map_some, toLs_map]
          simp only [opStep, ha, toL, hbx, hn, Option.bind_eq_bind, Option.bind_some]
          rw [if_pos (by rw [toL_cells, List.length_map, List.length_map, toL_storable]; exact hc)]
          rw [toL_cells, spliceK_eq]
          simp only [KSt.toL, List.map_set, toLs_map, toL.toLs]
        · cases h
      · cases h
    · rename_i r n i sz off ha
      split at h
      · rename_i k row hk hr
        split at h
        · rename_i hc
          obtain ⟨c1, c2, c3, c4, c5, c6⟩ := hc
          split at h
          · rename_i c y hd
            cases h
            simp only [Ck.val, Bool.and_eq_true, decide_eq_true_eq] at hc0
            obtain ⟨hf, h0, h1, h2⟩ := hc0
            refine ⟨?_, ?_⟩
            · have hx := decV_sound hd h0
              have hfz : frzV σ.toL (ρ x).toL = encL row.t y := by rw [frzK_sound σ _ hf, hx]
              simp only [opStep, ha, toL, hk, rows_get, hr, Option.map_some, Option.bind_eq_bind, Option.bind_some, rowsK_eq, hfz]
              rw [if_pos (by
                simp only [KRow.toL, List.length_map]
                exact ⟨h1, c1, c2, c3, c4, h2, by rw [encL_cells, cellsL_len]; exact c5, encL_storable _ _, c6⟩)]
              rw [setRow_eq, frzKS_eq]
              simp only [KRow.toL, List.map_set, toL.toLs]
            · exact frzKS_loops _ _
          · cases h
        · cases h
      · cases h
    · cases h
  case binOp op t x y rt =>
    simp only [opK] at h
    split at h
    · rename_i c v' hb; cases h
      exact ⟨by simp only [opStep, binK_sound hb hc0, Option.map_some], rfl⟩
    · cases h
  case unOp op t x =>
    simp only [opK] at h
    split at h
    · rename_i v' hb; cases h
      exact ⟨by simp only [opStep, unK_sound hb, Option.map_some], rfl⟩
    · cases h
  case convert src dst x =>
    simp only [opK] at h
    split at h
    · rename_i h1 h2
      split at h
      · rename_i h3; cases h
        exact ⟨by simp only [opStep, h1, h2, int_toL h3, mk_toL], rfl⟩
      · cases h
    · rename_i h1 h2
      split at h
      · rename_i h3; cases h
        exact ⟨by simp only [opStep, h1, h2, str_toL h3, mk_toL], rfl⟩
      · cases h
    · rename_i h1 h2
      split at h
      · rename_i h3 h4; cases h
        exact ⟨by simp only [opStep, h1, h2, h3, h4, toL, elems, Option.bind_eq_bind, Option.bind_some, allBytes], rfl⟩
      · rename_i l h3 h4; cases h
        have he := elemsK_sound (σ := σ) (v := .lst .byte l) (s := ⟨.byte, l⟩) (c := .ok) rfl rfl
        refine ⟨?_, rfl⟩
        simp only [opStep, h1, h2, h3, h4, he, Option.bind_eq_bind, Option.bind_some]
        exact (congrArg (fun o => Option.bind o fun bs => some (LV.str ⟨List.toArray bs⟩, σ.toL)) (bytes_enc l)).trans rfl
      · rename_i r n h3 h4
        split at h
        · rename_i l e sz wr hr
          cases h
          have he := elemsK_sound (σ := σ) (v := .mref r n) (s := ⟨.byte, l⟩) (c := .is (decide (List.length l = n))) (by simp only [elemsK, hr]) hc0
          refine ⟨?_, rfl⟩
          simp only [opStep, h1, h2, h3, h4, he, Option.bind_eq_bind, Option.bind_some]
          exact (congrArg (fun o => Option.bind o fun bs => some (LV.str ⟨List.toArray bs⟩, σ.toL)) (bytes_enc l)).trans rfl
        · cases h
      · cases h
    · rename_i h1 h2
      split at h
      · rename_i h4 h3
        cases h
        simp only [Ck.val, decide_eq_true_eq] at hc0
        exact ⟨by simp only [opStep, h1, h2, str_toL h3, h4, hc0, if_true]; rfl, rfl⟩
      · cases h
    · cases h
  case nilCheck x =>
    simp only [opK] at h
    split at h
    all_goals first
      | (rename_i hx; cases h; exact ⟨by simp only [opStep, hx, toL], rfl⟩)
      | cases h
  case makeFunc fn fst caps =>
    simp only [opK] at h
    split at h
    · cases h
    · rename_i hfn
      cases h
      refine ⟨?_, rfl⟩
      simp only [opStep, toL, toLs_map, List.map_map]
      cases fn <;> first | (exact absurd rfl (hfn _)) | rfl
  case slice t x lo hi mx =>
    simp only [opK] at h
    have hmap : ∀ o : Option Operand, (o.map ρ).map toL = o.map fun y => (ρ y).toL := fun o => by cases o <;> rfl
    split at h
    · rename_i h1
      split at h
      · cases h
      · rename_i hm
        split at h
        · rename_i h2
          split at h
          · rename_i c hh e1
            split at h
            · rename_i c' l e2
              cases h
              simp only [Ck.val, Bool.and_eq_true] at hc0
              have e1 := bndHi_sound e1 hc0.1
              have e2 := bndLo_sound e2 hc0.2
              rw [hmap] at e1 e2
              refine ⟨?_, rfl⟩
              simp only [opStep, h1, str_toL h2, hm, Bool.false_eq_true, if_false, sliceBnd, e1, e2, Option.bind_some, Option.map_some, toL]
            · cases h
          · cases h
        · cases h
    · rename_i e h1
      split at h
      · rename_i hnil
        have hx : ρ x = .nils := by
          cases hρ : ρ x <;> rw [hρ] at hnil <;> first | rfl | cases hnil
        split at h
        · cases h
        · rename_i hm
          split at h
          · rename_i sz c hh h2 e1
            split at h
            · rename_i c' l e2
              cases h
              simp only [Ck.val, Bool.and_eq_true] at hc0
              have e1 := bndHi_sound e1 hc0.1
              have e2 := bndLo_sound e2 hc0.2
              rw [hmap] at e1 e2
              refine ⟨?_, rfl⟩
              simp only [opStep, h1, h2, hx, toL, hm, Bool.false_eq_true, if_false, sliceBnd, e1, e2, Option.bind_some, Option.map_some]
            · cases h
          · cases h
      · rename_i hnil
        split at h
        · rename_i sz c1 r row a b h2 hp
          split at h
          · rename_i m
            split at h
            · rename_i c q hi' e0
              split at h
              · rename_i c' hh e1
                split at h
                · rename_i c'' l e2
                  cases h
                  simp only [Ck.val, Bool.and_eq_true] at hc0
                  obtain ⟨p1, p2, p3, p4⟩ := partK_sound hp hc0.1
                  have e0 := bndLo_sound e0 hc0.2.1
                  have e1 := bndLo_sound e1 hc0.2.2.1
                  have e2 := bndLo_sound e2 hc0.2.2.2
                  rw [hmap] at e2
                  simp only [Option.map_some] at e0 e1
                  refine ⟨?_, rfl⟩
                  have hne : (ρ x).toL ≠ .nils := by
                    intro hx
                    cases hρ : ρ x <;> rw [hρ] at hnil hx <;> first | (cases hx; done) | (cases hnil; done)
                  obtain ⟨lv, hlv⟩ : ∃ lv, (ρ x).toL = lv := ⟨_, rfl⟩
                  rw [hlv] at hne p1
                  simp only [opStep, h1, hlv]
                  cases lv <;> first
                    | exact absurd rfl hne
                    | simp only [h2, Option.bind_some, if_true, p1, e0, e1, e2, toL]
                · cases h
              · cases h
            · cases h
          · split at h
            · rename_i c hh e1
              split at h
              · rename_i c' l e2
                split at h
                · rename_i hz
                  cases h
                  simp only [Ck.val, Bool.and_eq_true] at hc0
                  obtain ⟨p1, p2, p3, p4⟩ := partK_sound hp hc0.1
                  have e1 := bndHi_sound e1 hc0.2.1
                  have e2 := bndLo_sound e2 hc0.2.2
                  rw [hmap] at e1 e2
                  have hm' : (none : Option Operand).isSome = false := rfl
                  refine ⟨?_, rfl⟩
                  cases hρ : ρ x <;> rw [hρ] at hp p1 hnil <;> simp only [partK] at hp <;> try (cases hp; done)
                  · rename_i r' n'
                    split at hp
                    · rename_i row' hr'
                      cases hp
                      have hn := hc0.1
                      simp only [Ck.val, decide_eq_true_eq] at hn
                      subst hn
                      simp only [toL] at p1
                      simp only [opStep, h1, hρ, toL, h2, Option.bind_some, if_true, p1, hm']
                      rw [if_pos ⟨trivial, hz⟩]
                      simp only [sliceBnd, e1, e2, Option.bind_some, Option.map_some]
                    · cases hp
                  · rename_i r' n' lo' hi' z'
                    split at hp
                    · rename_i row' hr'
                      cases hp
                      have hn := (viewC_val.1 hc0.1).1
                      subst hn
                      simp only [toL] at p1
                      simp only [opStep, h1, hρ, toL, h2, Option.bind_some, if_true, p1, hm']
                      rw [if_pos ⟨trivial, hz⟩]
                      simp only [sliceBnd, e1, e2, Option.bind_some, Option.map_some]
                    · cases hp
                · cases h
              · cases h
            · cases h
        · cases h
      · rename_i hnil
        have hne : (ρ x).toL ≠ .nils := by
          intro hx
          cases hρ : ρ x <;> rw [hρ] at hnil hx <;> first | (cases hx; done) | (cases hnil; done)
        have hel : ∀ (sz : Nat) (ty' : Ty) (es : List ty'.den), (ty'.ncells == sz || es.isEmpty) = true → elemsOk sz (es.map (encL ty')) = true := by
          intro sz ty' es hok
          simp only [Bool.or_eq_true, beq_iff_eq, List.isEmpty_iff] at hok
          rcases hok with hok | rfl
          · exact elemsOk_enc _ _ _ hok
          · rfl
        split at h
        · rename_i sz c1 ty' es h2 he0
          split at h
          · split at h
            · rename_i c hh e1
              split at h
              · rename_i c' l e2
                split at h
                · rename_i hok
                  cases h
                  simp only [Ck.val, Bool.and_eq_true] at hc0
                  have e1 := bndHi_sound e1 hc0.2.1
                  have e2 := bndLo_sound e2 hc0.2.2
                  rw [hmap] at e1 e2
                  have he := elemsK_sound he0 hc0.1
                  refine ⟨?_, frzKS_loops _ _⟩
                  have hrw := rowsK_eq (ρ x)
                  obtain ⟨lv, hlv⟩ : ∃ lv, (ρ x).toL = lv := ⟨_, rfl⟩
                  rw [hlv] at hne he hrw
                  simp only [opStep, h1, hlv]
                  cases lv <;> first
                    | exact absurd rfl hne
                    | simp only [h2, he, Option.bind_some, Bool.false_eq_true, if_false, List.length_map, sliceBnd, e1, e2, hel _ _ _ hok, if_true, hrw, frzKS_eq, toL, lstL_eq, List.map_take, List.map_drop]
                · cases h
              · cases h
            · cases h
          · rename_i m
            split at h
            · rename_i c q hi' e0 
              split at h
              · rename_i c' hh e1
                split at h
                · rename_i c'' l e2
                  split at h
                  · rename_i hok
                    cases h
                    simp only [Ck.val, Bool.and_eq_true] at hc0
                    have e0 := bndLo_sound e0 hc0.2.1
                    have e1 := bndLo_sound e1 hc0.2.2.1
                    have e2 := bndLo_sound e2 hc0.2.2.2
                    rw [hmap] at e2
                    simp only [Option.map_some] at e0 e1
                    have he := elemsK_sound he0 hc0.1
                    refine ⟨?_, frzKS_loops _ _⟩
                    have hrw := rowsK_eq (ρ x)
                    obtain ⟨lv, hlv⟩ : ∃ lv, (ρ x).toL = lv := ⟨_, rfl⟩
                    rw [hlv] at hne he hrw
                    simp only [opStep, h1, hlv]
                    cases lv <;> first
                      | exact absurd rfl hne
                      | simp only [h2, he, Option.bind_some, Bool.false_eq_true, if_false, List.length_map, e0, e1, e2, hel _ _ _ hok, if_true, hrw, frzKS_eq, toL, lstL_eq, List.map_take, List.map_drop]
                  · cases h
                · cases h
              · cases h
            · cases h
        · cases h
    · cases h
  case fieldAddr s x f =>
    simp only [opK] at h
    split at h
    · rename_i off t hf
      split at h
      · rename_i n hn
        split at h
        · cases h
        · rename_i h0
          simp only [opStep, hf, hn, Option.bind_eq_bind, Option.bind_some, h0, if_false]
          split at h
          · rename_i hx; cases h; exact ⟨by simp only [hx, toL], rfl⟩
          · rename_i cs hx
            split at h
            · rename_i hl; cases h
              exact ⟨by simp only [hx, toL, toLs_map, List.length_map, hl, if_true, List.map_drop], rfl⟩
            · cases h
          · rename_i hx; cases h; exact ⟨by simp only [hx, toL], rfl⟩
          · cases h
      · cases h
    · cases h
  case field s x f =>
    simp only [opK] at h
    split at h
    · rename_i off t cs hf hx
      split at h
      · rename_i v' hr; cases h
        refine ⟨?_, rfl⟩
        simp only [opStep, hf, hx, Option.bind_eq_bind, Option.bind_some, toL, toLs_map]
        rw [← List.map_drop, readK_eq, hr]; rfl
      · cases h
    · cases h
  case indexAddr t x i =>
    simp only [opK] at h
    split at h
    · rename_i m e hu
      split at h
      · rename_i sz kk k hs hk
        have hk : asInt64 (ρ i).toL = some k := by rw [int_toL hk]; rfl
        split at h
        · rename_i hb
          simp only [opStep, hu, hs, hk, Option.bind_some, if_pos hb]
          split at h
          · rename_i hx; cases h; exact ⟨by simp only [hx, toL], rfl⟩
          · rename_i cs hx
            split at h
            · rename_i hl; cases h
              exact ⟨by simp only [hx, toL, toLs_map, List.length_map, hl, if_true, List.map_drop], rfl⟩
            · cases h
          · rename_i hx; cases h; exact ⟨by simp only [hx, toL], rfl⟩
          · cases h
        · cases h
      · cases h
    rename_i hna
    have hop : ∀ lv σ1, (do
      let e ← elemB P t
      let sz ← sizeB P e
      let k ← asInt64 (ρ i).toL
      if 0 ≤ k then match (ρ x).toL with
        | .slice es => do
          let y ← es[k.toNat]?
          if y.cells.length = sz ∧ storable y ∧ 0 < sz then some (.pptr y.cells, σ.toL) else none
        | .mref r n => do
          let row ← σ.toL.rows[r]?
          if row.xs.length = n ∧ row.sz = sz ∧ k < n then some (.rptr r n k.toNat sz 0, σ.toL) else none
        | .mview r n lo hi sz' => do
          let row ← σ.toL.rows[r]?
          if row.xs.length = n ∧ row.sz = sz ∧ sz' = sz ∧ lo ≤ hi ∧ hi ≤ n ∧ k < (hi - lo : Nat) then some (.rptr r n (lo + k.toNat) sz 0, σ.toL) else none
        | _ => none
      else none) = some (lv, σ1) → opStep P own { dst := d, op := .indexAddr t x i, type := ty, pos := pos, after := af, guard := gd } (fun y => (ρ y).toL) σ.toL = some (lv, σ1) := by
      intro lv σ1 hh
      simp only [opStep]
      exact hh
    split at h
    · rename_i e he
      split at h
      · rename_i sz st kk k hs hk
        have hk : asInt64 (ρ i).toL = some k := by rw [int_toL hk]; rfl
        simp only [he, hs, hk, Option.bind_eq_bind, Option.bind_some] at hop
        split at h
        · rename_i ty' l hx
          split at h
          · rename_i hz
            cases h
            simp only [Ck.val, st_val, Bool.and_eq_true, decide_eq_true_eq] at hc0
            obtain ⟨h1, h2⟩ := hc0
            refine ⟨hop _ _ ?_, rfl⟩
            have hlt : k.toNat < l.length := by omega
            have hy : (l.map (encL ty'))[k.toNat]? = some (encL ty' (l.getD k.toNat ty'.dfl)) := by
              simp only [List.getElem?_map, List.getD_eq_getElem?_getD, List.getElem?_eq_getElem hlt, Option.map_some, Option.getD_some]
            simp only [if_pos h1, hx, toL, lstL_eq, hy, Option.bind_some]
            rw [if_pos ⟨by rw [encL_cells, cellsL_len]; exact hz.1, encL_storable _ _, hz.2⟩]
            rw [encL_cells, encT_cells, toLs_map, toLs_cellsT]
          · cases h
        · rename_i r n hx
          split at h
          · rename_i row hr
            split at h
            · rename_i hz
              cases h
              simp only [Ck.val, st_val, Bool.and_eq_true, decide_eq_true_eq] at hc0
              obtain ⟨h1, h2, h3⟩ := hc0
              refine ⟨hop _ _ ?_, rfl⟩
              simp only [if_pos h1, hx, toL, rows_get, hr, Option.map_some, Option.bind_some]
              rw [if_pos (by simp only [KRow.toL, List.length_map]; exact ⟨h2, hz, h3⟩)]
            · cases h
          · cases h
        · rename_i r n lo hi sz' hx
          split at h
          · rename_i row hr
            split at h
            · rename_i hz
              cases h
              simp only [Ck.val, st_val, Bool.and_eq_true, decide_eq_true_eq, viewC_val] at hc0
              obtain ⟨h1, h2, h3⟩ := hc0
              refine ⟨hop _ _ ?_, rfl⟩
              simp only [if_pos h1, hx, toL, rows_get, hr, Option.map_some, Option.bind_some]
              rw [if_pos (by simp only [KRow.toL, List.length_map]; exact ⟨h2.1, hz.1, hz.2, h2.2.2.1, h2.2.2.2, h3⟩)]
            · cases h
          · cases h
        · cases h
      · cases h
    · cases h
  case index t x i =>
    simp only [opK] at h
    split at h
    · rename_i h1
      split at h
      · rename_i ss s st kk k h2 hk
        have hk : asInt64 (ρ i).toL = some k := by rw [int_toL hk]; rfl
        cases h
        simp only [Ck.val, st_val, Bool.and_eq_true, decide_eq_true_eq] at hc0
        obtain ⟨h3, h4⟩ := hc0
        refine ⟨?_, rfl⟩
        have hlt : k.toNat < s.size := by omega
        simp only [opStep, h1, str_toL h2, hk, Option.bind_eq_bind, Option.bind_some, if_pos h3]
        have hs : s[k.toNat]? = some s[k.toNat] := by simp [hlt]
        have hg : s.data.toList.getD k.toNat 0 = s[k.toNat] := by
          rw [List.getD_eq_getElem?_getD, List.getElem?_eq_getElem (by simpa using hlt)]
          simp [ByteArray.getElem_eq_getElem_data]
        rw [hs, hg]; rfl
      · cases h
    · rename_i m e hu
      split at h
      · rename_i cs kk k sz hx hk hs
        have hk : asInt64 (ρ i).toL = some k := by rw [int_toL hk]; rfl
        split at h
        · rename_i hb
          split at h
          · rename_i v' hr
            cases h
            refine ⟨?_, rfl⟩
            simp only [opStep, hu, hx, hk, hs, Option.bind_eq_bind, Option.bind_some, toL, toLs_map, if_pos hb]
            rw [← List.map_drop, readK_eq, hr]; rfl
          · cases h
        · cases h
      · cases h
    · cases h
  case makeMap t r =>
    simp only [opK] at h
    split at h
    · rename_i k e hu
      split at h
      · rename_i ke kt vt hm hk he
        cases h
        refine ⟨?_, rfl⟩
        have hl : σ.toL.maps.length = σ.maps.length := by simp [KSt.toL]
        simp only [opStep, hm, Option.map_some, hl, toL]
        simp only [KSt.toL, List.map_append, List.map, KMap.toL]
      · cases h
    · cases h
  case mapUpdate t m k v0 =>
    simp only [opK] at h
    split at h
    · rename_i m' hm0
      split at h
      · rename_i e str q hm hq
        split at h
        · rename_i hk
          split at h
          · rename_i c1 x c2 y hd1 hd2
            cases h
            simp only [Ck.val, Bool.and_eq_true, decide_eq_true_eq] at hc0
            obtain ⟨hf, h1, h2, h3⟩ := hc0
            have hx := decV_sound hd1 h1
            have hy := decV_sound hd2 h2
            have hfz : frzV σ.toL (ρ v0).toL = encL q.vt y := by rw [frzK_sound σ _ hf, hy]
            have hpos : findK str (encL q.kt x) q.toL.ks = some (posK q.kt q.vt x q.l) := posK_sound hk x q.l
            have hlen : q.toL.ks.length < maxEls := by simpa [KMap.toL] using h3
            refine ⟨?_, by simp only [frzKS_loops]⟩
            have hset : ∀ q' : KMap, ({ frzKS σ (rowsK (ρ v0)) with maps := σ.maps.set m' q' } : KSt).toL = { frzS σ.toL (rowsIn (ρ v0).toL) with maps := σ.toL.maps.set m' q'.toL } := by
              intro q'
              rw [rowsK_eq, frzKS_eq]
              simp only [KSt.toL, List.map_set]
            simp only [opStep, hm0, toL, hm, maps_get, hq, Option.map_some, Option.bind_some, hx, hpos, hfz]
            rw [if_pos ⟨encL_storable _ _, hlen⟩, hset]
            cases hp : posK q.kt q.vt x q.l with
            | some i => simp only [putK, hp, KMap.toL, List.map_set, toL.toLs]
            | none =>
              obtain ⟨sv, hs⟩ := key_sc hk x
              simp only [putK, hp, KMap.toL, hs, List.map_append, List.map, toL.toLs]
          · cases h
        · cases h
      · cases h
    · cases h
  case lookup t m k ok =>
    simp only [opK] at h
    split at h
    · rename_i m' hm0
      split at h
      · rename_i e str q hm hq
        split at h
        · rename_i hk
          split at h
          · rename_i c1 x z hd1 hz
            split at h
            · rename_i c2 z' hd2
              cases h
              simp only [Ck.val, Bool.and_eq_true] at hc0
              have hx := decV_sound hd1 hc0.1
              have hy := decV_sound hd2 hc0.2
              have hpos : findK str (encL q.kt x) q.toL.ks = some (posK q.kt q.vt x q.l) := posK_sound hk x q.l
              have hzl : zeroLV P e = some (encL q.vt z') := by rw [zeroKV_eq, hz, Option.map_some, hy]
              refine ⟨?_, rfl⟩
              simp only [opStep, hm0, toL, hm, maps_get, hq, Option.map_some, Option.bind_some, hx, hpos, hzl]
              cases hp : posK q.kt q.vt x q.l with
              | some i =>
                have hlt := posK_lt hp
                have hv : q.toL.vs[i]? = some (encL q.vt (getK q.kt q.vt x z' q.l)) := by
                  simp only [KMap.toL, getK, hp, List.getElem?_map, List.getElem?_eq_getElem hlt, Option.map_some, List.getD_eq_getElem?_getD, Option.getD_some]
                simp only [hv, Option.map_some, hasK, hp, Option.isSome_some]
                cases ok <;> simp only [cond_true, cond_false, toL, toL.toLs, toL_encT]
              | none =>
                have hg : getK q.kt q.vt x z' q.l = z' := by simp only [getK, hp]
                simp only [hasK, hp, hg, Option.isSome_none]
                cases ok <;> simp only [cond_true, cond_false, toL, toL.toLs, toL_encT]
            · cases h
          · cases h
        · cases h
      · cases h
    · cases h
  case makeSlice t l c =>
    simp only [opK] at h
    split at h
    · rename_i e he
      split at h
      · rename_i sz bs s k n s' k' m hs hb hl hc
        split at h
        · rename_i hcc
          split at h
          · rename_i c1 v1 σ1 hr
            cases h
            simp only [Ck.val, Bool.and_eq_true, st_val, decide_eq_true_eq] at hc0
            obtain ⟨h1, h2, h3, h4⟩ := hc0
            obtain ⟨z, z1, z2, z3, z4, z5⟩ := zeroRowK_sound hr h4
            refine ⟨?_, z5⟩
            simp only [opStep, he, hs, z1, hb, int_toL hl, int_toL hc, asInt64, Option.bind_some]
            rw [if_pos ⟨h1, h2, h3, hcc.1, hcc.2, z2, z3⟩, z4]
          · cases h
        · cases h
      · cases h
    · cases h
  case extract t i =>
    simp only [opK] at h
    split at h
    · rename_i vs hx
      split at h
      · rename_i v' hv; cases h
        refine ⟨?_, rfl⟩
        simp only [opStep, hx, toL, toLs_map, List.getElem?_map, hv, Option.map_some]
      · cases h
    · cases h
  case call c =>
    simp only [opK] at h
    split at h
    all_goals first
      | (rename_i hc; cases hc; done)
      | (cases h; done)
      | skip
    · rename_i b args ats hc
      cases hc
      simp only [opStep]
      have e : (args.toList.map fun y => (ρ y).toL) = (args.toList.map ρ).map toL := by rw [List.map_map]; rfl
      rw [e]
      cases hb : (own && isApp b) with
      | true => rw [hb] at h; exact appendNewK_sound h hc0
      | false => rw [hb] at h; exact builtinK_sound h hc0
  all_goals (simp only [opK] at h; try cases h)
end Go.Proofs.YticpcfchhcjjeaaGreat.LI
