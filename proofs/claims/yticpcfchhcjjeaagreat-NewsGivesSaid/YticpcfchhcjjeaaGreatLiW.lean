/-
  The library's sort of strings, whose proof is the library's: a row of the call's own is sorted. No program is named here.
-/
import Derived.Test.YticpcfchhcjjeaaGreatLiV
import Derived.Shelf.Sort.Plain
import Derived.Shelf.Slices.In.SortNone
import Derived.Sort.OwnSorted
namespace Go.Proofs.YticpcfchhcjjeaaGreat.LI
open Go Go.RowKit
open Go.Shelf Go.Sort Go.Proofs

def encB (s : ByteArray) : List UInt8 := s.data.toList
theorem encStr_encB (s : ByteArray) : encStr (encB s) = .string s := by
  have : (⟨s.data.toList.toArray⟩ : ByteArray) = s := by cases s; simp
  show Value.string ⟨s.data.toList.toArray⟩ = _
  rw [this]
theorem sortS_enc (l : List ByteArray) : (sortS l).map encB = (l.map encB).mergeSort fun x y => decide (x ≤ y) := by
  rw [sortS_eq]
  exact List.map_mergeSort fun a _ b _ => rfl
theorem strsL_eq : ∀ {xs : List LV} {l : List ByteArray}, strsL xs = some l → xs = l.map fun s => LV.str s
  | [], l, h => by simp only [strsL, Option.some.injEq] at h; subst h; rfl
  | x :: xs, l, h => by
    unfold strsL at h
    split at h
    · rename_i e; cases e
    · rename_i s l' e
      cases e
      split at h
      · rename_i l2 h2
        cases h
        rw [strsL_eq h2]; rfl
      · cases h
    · cases h
theorem EsRel_strs {g : G} : ∀ {l : List ByteArray} {vs : List Value}, EsRel g (l.map fun s => LV.str s) 1 vs → vs.length = l.length → vs = (l.map encB).map encStr
  | [], vs, _, hl => by
    have : vs = [] := List.eq_nil_of_length_eq_zero hl
    rw [this]; rfl
  | s :: l, [], _, hl => by simp at hl
  | s :: l, v :: vs, h, hl => by
    simp only [List.map_cons, EsRel, List.take_succ_cons, List.take_zero, List.drop_succ_cons, List.drop_zero] at h
    obtain ⟨⟨u, h1, h2, _⟩, h4⟩ := h
    have hu := VRel_str h1
    subst hu
    simp only [Value.cells, List.cons.injEq, and_true] at h2
    simp only [List.map_cons]
    rw [← EsRel_strs h4 (by simpa using hl), encStr_encB]
    rw [h2]
theorem EsRel_strs' (g : G) : ∀ (l : List ByteArray), EsRel g (l.map fun s => LV.str s) 1 ((l.map encB).map encStr)
  | [] => by simp [EsRel]
  | s :: l => by
    simp only [List.map_cons, EsRel, List.take_succ_cons, List.take_zero, List.drop_succ_cons, List.drop_zero]
    exact ⟨⟨.string s, VRel_mkstr s, by rw [encStr_encB]; simp [Value.cells], rfl, by simp [Value.cells, Value.oneCell']⟩, EsRel_strs' g l⟩
theorem sortS_len (l : List ByteArray) : (sortS l).length = l.length := (sortS_perm l).length_eq

theorem sort_ok {P : Program} {ρ : Ren} (Ly : Lays.n190 P ρ) : ExtSOK P (ρ.f 190) sortL where
  ok := fun args σ q w0 f0 ms g w vs hp hs hv => by
    unfold sortL at hp
    split at hp
    · rename_i r n
      split at hp
      · rename_i row hr
        split at hp
        · rename_i hc
          obtain ⟨hn, hw, hz, hmx⟩ := hc
          split at hp
          · rename_i l hl
            cases hp
            have hxs := strsL_eq hl
            simp only [VsRel] at hv
            obtain ⟨v, vs', hvs, ⟨h1, a, cap, rfl⟩, rfl⟩ := hv
            have hvs' := list1 hvs
            subst hvs'
            subst hn
            have hln : row.xs.length = l.length := by rw [hxs]; simp
            obtain ⟨v, us, e1, e2, e3, e4, e5⟩ := hs.row r row hr
            rw [h1] at e1
            cases e1
            rw [callsIn_wide]
            have hrl : r < σ.rows.length := (List.getElem?_eq_some_iff.1 hr).1
            rw [hz] at e2 e3
            have hus : us = (l.map encB).map encStr := EsRel_strs (hxs ▸ e3) (by rw [e2.1, hln, Nat.mul_one])
            rcases e2.2 with ⟨hnil, h0⟩ | ⟨k, cap', cur, hv, hbase, hb, hnc, hcm, hcs, htake⟩
            · injection hnil with ha hb hc
              subst ha hc
              rw [h0]
              have hl0 : l = [] := List.eq_nil_of_length_eq_zero (by rw [← hln, h0])
              subst hl0
              have hrow : ({ row with xs := (sortS []).map fun s => LV.str s } : Row) = row := by
                have : (sortS []).map (fun s => LV.str s) = row.xs := by rw [hxs]; simp [sortS]
                rw [this]
              have hσ : ({ σ with rows := σ.rows.set r { row with xs := (sortS []).map fun s => LV.str s } } : St) = σ := by
                rw [hrow]
                have : σ.rows.set r row = σ.rows := by
                  apply List.ext_getElem?
                  intro i
                  by_cases hi : r = i
                  · subst hi; rw [List.getElem?_set_self hrl, hr]
                  · rw [List.getElem?_set_ne hi]
                rw [this]
              rw [hσ]
              refine (Any.slices_Sort_string_none Ly none 0 w).mono ?_
              rintro e w' ⟨rfl, rfl⟩
              exact ⟨_, g, rfl, G.le.refl g, by simp [VRel, VsRel], hs⟩
            · injection hv with ha hb' hc
              subst ha hc
              rw [hln]
              have hblk : k < w.heap.size := (Array.getElem?_eq_some_iff.1 hb).1
              have ht : cur.toList.take (l.map encB).length = (l.map encB).map encStr := by
                rw [← hus, ← htake, List.length_map, hln, Nat.mul_one]
              have hH : Holds encStr w k 0 (l.map encB).toArray := holds_of_block hb ht
              have hsz : (l.map encB).length < 4611686018427387904 := by
                have he : maxEls = 1099511627776 := rfl
                rw [List.length_map]
                omega
              have hcall := Any.slices_Sort_string Ly k 0 cap (l.map encB) w hH hblk hsz
              rw [List.length_map] at hcall
              refine hcall.mono ?_
              rintro e w' ⟨rfl, N, os, rfl⟩
              rw [← sortS_enc]
              refine ⟨_, g, rfl, G.le.refl g, by simp [VRel, VsRel], ?_⟩
              have hcap : l.length ≤ cur.size := by rw [hcs, Nat.mul_one, ← hln]; exact hnc
              have hset := hs.setXs (r := r) (k := k) (cap := cap) (row := row) (xs' := (sortS l).map fun s => LV.str s) (cur := cur) (cur' := putCells encStr 0 ((sortS l).map encB).toArray cur) hr hw h1
                (by rw [List.length_map, sortS_len, hln]) hb (by simp [putCells])
                (by
                  rw [hz, Nat.mul_one, hln]
                  have := take_putCells cur ((sortS l).map encB) (by simpa [sortS_len] using hcap)
                  rw [List.length_map, sortS_len] at this
                  rw [this]
                  exact EsRel_strs' g _)
              refine hset.kept ⟨rfl, rfl, rfl, by simp, fun q hq => ?_⟩
              rw [heap_grow_old _ _ (by simpa using hq)]
              by_cases hqk : q = k
              · subst hqk
                rw [heap_setRow_same w q cur _ row.e _ hb]
                simp [putRow, mapBlock, Sort.ahead, Array.getElem?_modify, hb, onCells]
              · rw [heap_setRow w k q _ hqk]
                have : k ≠ q := fun e => hqk e.symm
                simp [putRow, mapBlock, Sort.ahead, Array.getElem?_modify, this]
          · cases hp
        · cases hp
      · cases hp
    · cases hp
end Go.Proofs.YticpcfchhcjjeaaGreat.LI
