/-
  Each operation with letters in it stands for the operation: all of them. No program is named here.
-/
import Derived.Test.YtecokfbldjekiaaLiKC
namespace Go.Proofs.Ytecokfbldjekiaa.LI
open Go Go.RowKit
open KV (toL)
open KV.toL (toLs)
variable {P : Program} {T : TypeId → Option Ty}

theorem opK_sound {o : Oper} {ρ : Operand → KV} {σ σ' : KSt} {v : KV} {c0 : Ck} (h : opK T P o.op ρ σ = some (c0, v, σ')) (hc0 : c0.val = true) :
    opStep P o (fun y => (ρ y).toL) σ.toL = some (v.toL, σ'.toL) ∧ σ'.loops = σ.loops := by
  obtain ⟨d, op, ty, pos, af, gd⟩ := o
  simp only at h
  cases op
  case move x => simp only [opK] at h; cases h; exact ⟨rfl, rfl⟩
  case assign x => simp only [opK] at h; cases h; exact ⟨rfl, rfl⟩
  case pick c a b =>
    simp only [opK] at h
    split at h
    · rename_i v' hv; cases h
      exact ⟨by simp only [opStep, pickK_sound hv, Option.map_some], rfl⟩
    · cases h
  case alloc t =>
    simp only [opK] at h
    split at h
    · rename_i cs hz; cases h
      refine ⟨?_, rfl⟩
      simp only [opStep, zeroK_eq, hz, Option.map_some, toL, KSt.toL, List.length_map, List.map_append, List.map, toLs_map]
    · cases h
  case box t x =>
    simp only [opK] at h
    split at h
    · rename_i n hn
      split at h
      · rename_i hc; cases h
        refine ⟨?_, rfl⟩
        simp only [opStep, hn, Option.bind_eq_bind, Option.bind_some]
        rw [if_pos (by rw [toL_cells, List.length_map, toL_storable]; exact hc)]
        simp only [toL, KSt.toL, List.length_map, List.map_append, List.map, toLs_map, toL_cells]
      · cases h
    · cases h
  case build t parts =>
    simp only [opK] at h
    split at h
    · rename_i cs hb; cases h
      refine ⟨?_, rfl⟩
      have := builtK_eq (P := P) t (parts.toList.map fun p => (p.1, ρ p.2))
      rw [List.map_map] at this
      simp only [opStep]
      have e : (parts.toList.map fun p => (p.1, (ρ p.2).toL)) = parts.toList.map ((fun p : Nat × KV => (p.1, p.2.toL)) ∘ fun p => (p.1, ρ p.2)) := rfl
      rw [e, this, hb]
      simp only [Option.map_some, toL, toLs_map]
    · cases h
  case buildSlice t len parts =>
    simp only [opK] at h
    split at h
    · rename_i e he
      split at h
      · rename_i sz zs ty' hs hz hT
        split at h
        · rename_i hc
          split at h
          · rename_i c xs hd
            cases h
            simp only [Ck.val, Bool.and_eq_true] at hc0
            obtain ⟨h1, hcd⟩ := hc0
            refine ⟨?_, frzKS_loops _ _⟩
            have e1 : (parts.toList.map fun p => (ρ p.2).toL) = toLs (parts.toList.map fun p => ρ p.2) := by
              rw [toLs_map, List.map_map]; rfl
            have e2 := frzKL_sound σ _ h1
            have e3 := decVs_sound hd hcd
            have e4 : toLs (frzK.frzKL σ (parts.toList.map fun p => ρ p.2)).2 = xs.map (encL ty') := by rw [toLs_map]; exact e3
            simp only [opStep, he, hs, hz, Option.bind_some, layS, e1, e2, e4]
            rw [if_pos ⟨hc.1, elemsOk_enc _ _ _ hc.2.1, hc.2.2⟩]
            rw [rowsKL_eq, frzKS_eq]
            rfl
          · cases h
        · cases h
      · cases h
    · cases h
  case load t a =>
    simp only [opK] at h
    split at h
    · rename_i c v' hl
      cases h
      exact ⟨loadK_sound d ty pos af gd (y := a) (ρ := fun y => (ρ y).toL) rfl hl hc0, rfl⟩
    · cases h
  case store t a x =>
    simp only [opK] at h
    split at h
    · rename_i b off ha
      split at h
      · rename_i cs n hb hn
        split at h
        · rename_i hc; cases h
          refine ⟨?_, rfl⟩
          have hbx : σ.toL.boxes[b]? = some (cs.map toL) := by simp only [KSt.toL, List.getElem?_map, hb, Option.map_some, toLs_map]
          simp only [opStep, ha, toL, hbx, hn, Option.bind_eq_bind, Option.bind_some]
          rw [if_pos (by rw [toL_cells, List.length_map, List.length_map, toL_storable]; exact hc)]
          rw [toL_cells, spliceK_eq]
          simp only [KSt.toL, List.map_set, toLs_map, toL.toLs]
        · cases h
      · cases h
    · rename_i r n i sz off ha
      split at h
      · rename_i k row hk hr
        split at h
        · rename_i hc
          obtain ⟨c1, c2, c3, c4, c5, c6⟩ := hc
          split at h
          · rename_i c y hd
            cases h
            simp only [Ck.val, Bool.and_eq_true, decide_eq_true_eq] at hc0
            obtain ⟨h0, h1, h2⟩ := hc0
            refine ⟨?_, rfl⟩
            have hx := decV_sound hd h0
            have hfz : frzV σ.toL (ρ x).toL = (ρ x).toL := by
              rw [hx]
              exact frzV_free _ _ (encL_free _ _)
            simp only [opStep, ha, toL, hk, rows_get, hr, Option.map_some, Option.bind_eq_bind, Option.bind_some, rowsK_eq, c6, frzS, hfz]
            rw [if_pos (by
              simp only [KRow.toL, List.length_map]
              exact ⟨h1, c1, c2, c3, c4, h2, by rw [hx, encL_cells, cellsL_len]; exact c5, by rw [hx]; exact encL_storable _ _, by simp⟩)]
            simp only [KSt.toL, List.map_set, KRow.toL, hx, toL.toLs]
          · cases h
        · cases h
      · cases h
    · cases h
  case binOp op t x y rt =>
    simp only [opK] at h
    split at h
    · rename_i c v' hb; cases h
      exact ⟨by simp only [opStep, binK_sound hb hc0, Option.map_some], rfl⟩
    · cases h
  case unOp op t x =>
    simp only [opK] at h
    split at h
    · rename_i v' hb; cases h
      exact ⟨by simp only [opStep, unK_sound hb, Option.map_some], rfl⟩
    · cases h
  case convert src dst x =>
    simp only [opK] at h
    split at h
    · rename_i h1 h2
      split at h
      · rename_i h3; cases h
        exact ⟨by simp only [opStep, h1, h2, int_toL h3, mk_toL], rfl⟩
      · cases h
    · rename_i h1 h2
      split at h
      · rename_i h3; cases h
        exact ⟨by simp only [opStep, h1, h2, str_toL h3, mk_toL], rfl⟩
      · cases h
    · rename_i h1 h2
      split at h
      · rename_i h3 h4; cases h
        exact ⟨by simp only [opStep, h1, h2, h3, h4, toL, elems, Option.bind_eq_bind, Option.bind_some, allBytes], rfl⟩
      · rename_i b l h3 h4; cases h
        have he := elemsK_sound (σ := σ) (v := .lst .byte b l) (s := ⟨.byte, l⟩) (c := .ok) rfl rfl
        refine ⟨?_, rfl⟩
        simp only [opStep, h1, h2, h3, h4, he, Option.bind_eq_bind, Option.bind_some]
        exact (congrArg (fun o => Option.bind o fun bs => some (LV.str ⟨List.toArray bs⟩, σ.toL)) (bytes_enc l)).trans rfl
      · rename_i r n h3 h4
        split at h
        · rename_i l e sz wr hr
          cases h
          have he := elemsK_sound (σ := σ) (v := .mref r n) (s := ⟨.byte, l⟩) (c := .is (decide (List.length l = n))) (by simp only [elemsK, hr]) hc0
          refine ⟨?_, rfl⟩
          simp only [opStep, h1, h2, h3, h4, he, Option.bind_eq_bind, Option.bind_some]
          exact (congrArg (fun o => Option.bind o fun bs => some (LV.str ⟨List.toArray bs⟩, σ.toL)) (bytes_enc l)).trans rfl
        · cases h
      · cases h
    · rename_i h1 h2
      split at h
      · rename_i h4 h3
        cases h
        simp only [Ck.val, decide_eq_true_eq] at hc0
        exact ⟨by simp only [opStep, h1, h2, str_toL h3, h4, hc0, if_true]; rfl, rfl⟩
      · cases h
    · cases h
  case nilCheck x =>
    simp only [opK] at h
    split at h
    all_goals first
      | (rename_i hx; cases h; exact ⟨by simp only [opStep, hx, toL], rfl⟩)
      | cases h
  case makeFunc fn fst caps =>
    simp only [opK] at h
    split at h
    · cases h
    · rename_i hfn
      cases h
      refine ⟨?_, rfl⟩
      simp only [opStep, toL, toLs_map, List.map_map]
      cases fn <;> first | (exact absurd rfl (hfn _)) | rfl
  case slice t x lo hi mx =>
    simp only [opK] at h
    split at h
    · cases h
    · rename_i hm
      have hmap : ∀ o : Option Operand, (o.map ρ).map toL = o.map fun y => (ρ y).toL := fun o => by cases o <;> rfl
      simp only [opStep, hm, if_false, Bool.false_eq_true]
      split at h
      · rename_i h1
        split at h
        · rename_i h2
          split at h
          · rename_i c hh e1
            split at h
            · rename_i c' l e2
              cases h
              simp only [Ck.val, Bool.and_eq_true] at hc0
              have e1 := bndHi_sound e1 hc0.1
              have e2 := bndLo_sound e2 hc0.2
              rw [hmap] at e1 e2
              refine ⟨?_, rfl⟩
              simp only [h1, str_toL h2, sliceBnd, e1, e2, Option.bind_some, Option.map_some, toL]
            · cases h
          · cases h
        · cases h
      · rename_i e h1
        split at h
        · rename_i sz c0' ty' es h2 h3
          split at h
          · rename_i c hh e1
            split at h
            · rename_i c' l e2
              split at h
              · rename_i hok
                cases h
                simp only [Ck.val, Bool.and_eq_true] at hc0
                have e1 := bndHi_sound e1 hc0.2.1
                have e2 := bndLo_sound e2 hc0.2.2
                rw [hmap] at e1 e2
                have he := elemsK_sound h3 hc0.1
                refine ⟨?_, frzKS_loops _ _⟩
                have hok' : elemsOk sz (es.map (encL ty')) = true := by
                  simp only [Bool.or_eq_true, beq_iff_eq, List.isEmpty_iff] at hok
                  rcases hok with hok | rfl
                  · exact elemsOk_enc _ _ _ hok
                  · rfl
                simp only [h1, h2, he, Option.bind_some, List.length_map, sliceBnd, e1, e2, hok', if_true, rowsK_eq, frzKS_eq, toL, lstL_false, List.map_take, List.map_drop]
              · cases h
            · cases h
          · cases h
        · cases h
      · cases h
  case fieldAddr s x f =>
    simp only [opK] at h
    split at h
    · rename_i off t hf
      split at h
      · rename_i n hn
        split at h
        · cases h
        · rename_i h0
          simp only [opStep, hf, hn, Option.bind_eq_bind, Option.bind_some, h0, if_false]
          split at h
          · rename_i hx; cases h; exact ⟨by simp only [hx, toL], rfl⟩
          · rename_i cs hx
            split at h
            · rename_i hl; cases h
              exact ⟨by simp only [hx, toL, toLs_map, List.length_map, hl, if_true, List.map_drop], rfl⟩
            · cases h
          · rename_i hx; cases h; exact ⟨by simp only [hx, toL], rfl⟩
          · cases h
      · cases h
    · cases h
  case field s x f =>
    simp only [opK] at h
    split at h
    · rename_i off t cs hf hx
      split at h
      · rename_i v' hr; cases h
        refine ⟨?_, rfl⟩
        simp only [opStep, hf, hx, Option.bind_eq_bind, Option.bind_some, toL, toLs_map]
        rw [← List.map_drop, readK_eq, hr]; rfl
      · cases h
    · cases h
  case indexAddr t x i =>
    simp only [opK] at h
    split at h
    · rename_i e he
      split at h
      · rename_i sz st kk k hs hk
        have hk : asInt64 (ρ i).toL = some k := by rw [int_toL hk]; rfl
        simp only [opStep, he, hs, hk, Option.bind_eq_bind, Option.bind_some]
        split at h
        · rename_i ty' b l hx
          split at h
          · rename_i hz
            cases h
            simp only [Ck.val, st_val, Bool.and_eq_true, decide_eq_true_eq] at hc0
            obtain ⟨h1, h2⟩ := hc0
            refine ⟨?_, rfl⟩
            have hlt : k.toNat < l.length := by omega
            have hsl : lstL ty' b l = .slice (l.map (encL ty')) := by
              rcases lstL_cases ty' b l with ⟨_, rfl⟩ | h
              · simp at hlt
              · exact h
            have hy : (l.map (encL ty'))[k.toNat]? = some (encL ty' (l.getD k.toNat ty'.dfl)) := by
              simp only [List.getElem?_map, List.getD_eq_getElem?_getD, List.getElem?_eq_getElem hlt, Option.map_some, Option.getD_some]
            simp only [if_pos h1, hx, toL, hsl, hy, Option.bind_some]
            rw [if_pos ⟨by rw [encL_cells, cellsL_len]; exact hz.1, encL_storable _ _, hz.2⟩]
            rw [encL_cells, encT_cells, toLs_map, toLs_cellsT]
          · cases h
        · rename_i r n hx
          split at h
          · rename_i row hr
            split at h
            · rename_i hz
              cases h
              simp only [Ck.val, st_val, Bool.and_eq_true, decide_eq_true_eq] at hc0
              obtain ⟨h1, h2, h3⟩ := hc0
              refine ⟨?_, rfl⟩
              simp only [if_pos h1, hx, toL, rows_get, hr, Option.map_some, Option.bind_some]
              rw [if_pos (by simp only [KRow.toL, List.length_map]; exact ⟨h2, hz, h3⟩)]
            · cases h
          · cases h
        · cases h
      · cases h
    · cases h
  case index t x i =>
    simp only [opK] at h
    split at h
    · rename_i h1
      split at h
      · rename_i ss s st kk k h2 hk
        have hk : asInt64 (ρ i).toL = some k := by rw [int_toL hk]; rfl
        cases h
        simp only [Ck.val, st_val, Bool.and_eq_true, decide_eq_true_eq] at hc0
        obtain ⟨h3, h4⟩ := hc0
        refine ⟨?_, rfl⟩
        have hlt : k.toNat < s.size := by omega
        simp only [opStep, h1, str_toL h2, hk, Option.bind_eq_bind, Option.bind_some, if_pos h3]
        have hs : s[k.toNat]? = some s[k.toNat] := by simp [hlt]
        have hg : s.data.toList.getD k.toNat 0 = s[k.toNat] := by
          rw [List.getD_eq_getElem?_getD, List.getElem?_eq_getElem (by simpa using hlt)]
          simp [ByteArray.getElem_eq_getElem_data]
        rw [hs, hg]; rfl
      · cases h
    · cases h
  case extract t i =>
    simp only [opK] at h
    split at h
    · rename_i vs hx
      split at h
      · rename_i v' hv; cases h
        refine ⟨?_, rfl⟩
        simp only [opStep, hx, toL, toLs_map, List.getElem?_map, hv, Option.map_some]
      · cases h
    · cases h
  case call c =>
    simp only [opK] at h
    split at h
    all_goals first
      | (rename_i hc; cases hc; done)
      | (cases h; done)
      | skip
    · rename_i b args ats hc
      cases hc
      have := builtinK_sound h hc0
      simp only [opStep]
      have e : (args.toList.map fun y => (ρ y).toL) = (args.toList.map ρ).map toL := by rw [List.map_map]; rfl
      rw [e]
      exact this
  all_goals (simp only [opK] at h; try cases h)
end Go.Proofs.Ytecokfbldjekiaa.LI
