/-
  An interpreter over values is sound, part 17.
-/
import Derived.Test.YtpeaaophmddhnaaGreatN16
import Derived.Shelf.Sort.Plain
import Derived.Shelf.Slices.In.SortNone
import Derived.Sort.OwnSorted
namespace Go.Proofs.YtpeaaophmddhnaaGreat.LI
open Go Go.RowKit
open Go.Shelf Go.Sort Go.Proofs
def dRb (s : ByteArray) : List UInt8 := s.data.toList
theorem qRa (s : ByteArray) : encStr (dRb s) = .string s := by
 have : (⟨s.data.toList.toArray⟩ : ByteArray) = s := by cases s; simp
 show Value.string ⟨s.data.toList.toArray⟩ = _
 rw [this]
theorem iPb (l : List ByteArray) : (lSa l).map dRb = (l.map dRb).mergeSort fun x y => decide (x ≤ y) := by
 rw [kQb]
 exact List.map_mergeSort fun a _ b _ => rfl
theorem dAb : ∀ {xs : List LV} {l : List ByteArray}, jYa xs = some l → xs = l.map fun s => LV.str s
 | [], l, h => by simp only [jYa, Option.some.injEq] at h; subst h; rfl
 | x :: xs, l, h => by
  unfold jYa at h
  split at h
  ·rename_i e; cases e
  ·rename_i s l' e
   cases e
   split at h
   ·rename_i l2 h2
    cases h
    rw [dAb h2]; rfl
   ·cases h
  ·cases h
theorem tIa {g : G} : ∀ {l : List ByteArray} {vs : List Value}, aJa g (l.map fun s => LV.str s) 1 vs → vs.length = l.length → vs = (l.map dRb).map encStr
 | [], vs, _, hl => by
  have : vs = [] := List.eq_nil_of_length_eq_zero hl
  rw [this]; rfl
 | s :: l, [], _, hl => by simp at hl
 | s :: l, v :: vs, h, hl => by
  simp only [List.map_cons, aJa, List.take_succ_cons, List.take_zero, List.drop_succ_cons, List.drop_zero] at h
  obtain ⟨⟨u, h1, h2, _⟩, h4⟩ := h
  have hu := dGa h1
  subst hu
  simp only [Value.cells, List.cons.injEq, and_true] at h2
  simp only [List.map_cons]
  rw [← tIa h4 (by simpa using hl), qRa]
  rw [h2]
theorem pSa (g : G) : ∀ (l : List ByteArray), aJa g (l.map fun s => LV.str s) 1 ((l.map dRb).map encStr)
 | [] => by simp [aJa]
 | s :: l => by
  simp only [List.map_cons, aJa, List.take_succ_cons, List.take_zero, List.drop_succ_cons, List.drop_zero]
  exact ⟨⟨.string s, gFa s, by rw [qRa]; simp [Value.cells], rfl, by simp [Value.cells, Value.oneCell']⟩, pSa g l⟩
theorem sDa (l : List ByteArray) : (lSa l).length = l.length := (oFa l).length_eq
theorem mVb {P : Program} {ρ : Ren} (Ly : Lays.n190 P ρ) : pTa P (ρ.f 190) eQb where
 ok := fun args σ q w0 f0 ms g w vs hp hs hv => by
  unfold eQb at hp
  split at hp
  ·rename_i r n
   split at hp
   ·rename_i row hr
    split at hp
    ·rename_i hc
     obtain ⟨hn, hw, hz, hmx⟩ := hc
     split at hp
     ·rename_i l hl
      cases hp
      have hxs := dAb hl
      simp only [aBa] at hv
      obtain ⟨v, vs', hvs, ⟨h1, a, cap, rfl⟩, rfl⟩ := hv
      have hvs' := yCa hvs
      subst hvs'
      subst hn
      have hln : row.xs.length = l.length := by rw [hxs]; simp
      obtain ⟨v, us, e1, e2, e3, e4, e5⟩ := hs.row r row hr
      rw [h1] at e1
      cases e1
      rw [callsIn_wide]
      have hrl : r < σ.rows.length := (List.getElem?_eq_some_iff.1 hr).1
      rw [hz] at e2 e3
      have hus : us = (l.map dRb).map encStr := tIa (hxs ▸ e3) (by rw [e2.1, hln, Nat.mul_one])
      rcases e2.2 with ⟨hnil, h0⟩ | ⟨k, cap', cur, hv, hbase, hb, hnc, hcm, hcs, htake⟩
      ·injection hnil with ha hb hc
       subst ha hc
       rw [h0]
       have hl0 : l = [] := List.eq_nil_of_length_eq_zero (by rw [← hln, h0])
       subst hl0
       have hrow : ({ row with xs := (lSa []).map fun s => LV.str s } : Row) = row := by
        have : (lSa []).map (fun s => LV.str s) = row.xs := by rw [hxs]; simp [lSa]
        rw [this]
       have hσ : ({ σ with rows := σ.rows.set r { row with xs := (lSa []).map fun s => LV.str s } } : St) = σ := by
        rw [hrow]
        have : σ.rows.set r row = σ.rows := by
         apply List.ext_getElem?
         intro i
         by_cases hi : r = i
         ·subst hi; rw [List.getElem?_set_self hrl, hr]
         ·rw [List.getElem?_set_ne hi]
        rw [this]
       rw [hσ]
       refine (Any.slices_Sort_string_none Ly none 0 w).mono ?_
       rintro e w' ⟨rfl, rfl⟩
       exact ⟨_, g, rfl, G.le.refl g, by simp [aEa, aBa], hs⟩
      ·injection hv with ha hb' hc
       subst ha hc
       rw [hln]
       have hblk : k < w.heap.size := (Array.getElem?_eq_some_iff.1 hb).1
       have ht : cur.toList.take (l.map dRb).length = (l.map dRb).map encStr := by
        rw [← hus, ← htake, List.length_map, hln, Nat.mul_one]
       have hH : Holds encStr w k 0 (l.map dRb).toArray := holds_of_block hb ht
       have hsz : (l.map dRb).length < 4611686018427387904 := by
        have he : bBa = 1099511627776 := rfl
        rw [List.length_map]
        omega
       have hcall := Any.slices_Sort_string Ly k 0 cap (l.map dRb) w hH hblk hsz
       rw [List.length_map] at hcall
       refine hcall.mono ?_
       rintro e w' ⟨rfl, N, os, rfl⟩
       rw [← iPb]
       refine ⟨_, g, rfl, G.le.refl g, by simp [aEa, aBa], ?_⟩
       have hcap : l.length ≤ cur.size := by rw [hcs, Nat.mul_one, ← hln]; exact hnc
       have hset := hs.setXs (r := r) (k := k) (cap := cap) (row := row) (xs' := (lSa l).map fun s => LV.str s) (cur := cur) (cur' := putCells encStr 0 ((lSa l).map dRb).toArray cur) hr hw h1
        (by rw [List.length_map, sDa, hln]) hb (by simp [putCells])
        (by
         rw [hz, Nat.mul_one, hln]
         have := take_putCells cur ((lSa l).map dRb) (by simpa [sDa] using hcap)
         rw [List.length_map, sDa] at this
         rw [this]
         exact pSa g _)
       refine hset.kept ⟨rfl, rfl, rfl, by simp, fun q hq => ?_⟩
       rw [heap_grow_old _ _ (by simpa using hq)]
       by_cases hqk : q = k
       ·subst hqk
        rw [dAa w q cur _ row.e _ hb]
        simp [putRow, mapBlock, Sort.ahead, Array.getElem?_modify, hb, onCells]
       ·rw [rBa w k q _ hqk]
        have : k ≠ q := fun e => hqk e.symm
        simp [putRow, mapBlock, Sort.ahead, Array.getElem?_modify, this]
     ·cases hp
    ·cases hp
   ·cases hp
  ·cases hp
end Go.Proofs.YtpeaaophmddhnaaGreat.LI
