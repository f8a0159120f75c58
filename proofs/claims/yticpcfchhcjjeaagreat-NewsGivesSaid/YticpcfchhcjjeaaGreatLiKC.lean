/-
  Each operation with letters in it stands for the operation. No program is named here.
-/
import Derived.Test.YticpcfchhcjjeaaGreatLiKB
namespace Go.Proofs.YticpcfchhcjjeaaGreat.LI
open Go Go.RowKit
open KV (toL)
open KV.toL (toLs)
variable {P : Program} {T : TypeId → Option Ty}

theorem binIntK_sound {op : BinOp} {s : Bool} {k : IntKind} {a b : Int} {c : Ck} {v : KV} (h : binIntK op s k a b = some (c, v)) (hc : c.val = true) : binInt op k a b = some v.toL := by
  unfold binIntK at h
  split at h <;> first
    | (cases h; done)
    | (cases h; rw [mk_toL]; rfl)
    | (cases h; simp only [Ck.val, Bool.not_eq_true', decide_eq_false_iff_not] at hc; rw [mk_toL]; simp only [binInt, if_neg hc])
theorem binStrK_sound {op : BinOp} {s : Bool} {a b : ByteArray} {c : Ck} {v : KV} (h : binStrK op s a b = some (c, v)) (hc : c.val = true) : binStr op a b = some v.toL := by
  unfold binStrK at h
  split at h <;> first
    | (cases h; done)
    | (cases h; rw [mk_toL]; rfl)
    | (cases h; simp only [Ck.val, decide_eq_true_eq] at hc; rw [mk_toL]; simp only [binStr, if_pos hc])
theorem nilK_sound {op : BinOp} {t : TypeId} {b : Bool} {v : KV} (h : nilK P op t b = some v) : nilT P op t b = some v.toL := by
  unfold nilK at h
  unfold nilT
  split at h
  · rename_i hu; rw [hu]; cases h; rfl
  · rename_i hu; rw [hu]; cases h; rfl
  · cases h
theorem isNilsK_eq {x : KV} (h : isNilsK x = true) : x = .nils := by
  cases x <;> first | rfl | cases h
theorem binK_sound {op : BinOp} {t : TypeId} {x y v : KV} {c : Ck} (h : binK P op t x y = some (c, v)) (hc : c.val = true) : binTL P op t x.toL y.toL = some v.toL := by
  unfold binK at h
  split at h
  · rename_i hn
    rw [isNilsK_eq hn]
    split at h
    · split at h
      · rename_i hv; cases h; exact nilK_sound hv
      · cases h
    · rename_i l
      split at h
      · rename_i hv
        cases h
        simp only [Ck.val, Bool.not_eq_true', List.isEmpty_eq_false_iff] at hc
        cases l with
        | nil => exact absurd rfl hc
        | cons y l => exact nilK_sound hv
      · cases h
    · cases h
  split at h
  · rename_i hx hy
    split at h
    · rename_i hk; subst hk; rw [int_toL hx, int_toL hy]; simp only [binTL, binLV, if_true]; exact binIntK_sound h hc
    · cases h
  · split at h
    · rename_i hx hy
      rw [str_toL hx, str_toL hy]; simp only [binTL, binLV]; exact binStrK_sound h hc
    · split at h
      · rename_i hx hy
        rw [bool_toL hx, bool_toL hy]
        simp only [binTL]
        split at h
        · rename_i hu; rw [hu]; cases h; rw [mk_toL]
        · rename_i hu; rw [hu]; cases h; rw [mk_toL]
        · cases h
      · cases h
theorem unK_sound {op : UnOp} {x v : KV} (h : unK op x = some v) : unLV op x.toL = some v.toL := by
  unfold unK at h
  split at h
  · split at h
    · rename_i hx; cases h; rw [bool_toL hx, mk_toL]; rfl
    · cases h
  · split at h
    · rename_i hx; cases h; rw [int_toL hx, mk_toL]; rfl
    · cases h
  · cases h
theorem pickK_sound {x y z v : KV} (h : pickK x y z = some v) : pickLV x.toL y.toL z.toL = some v.toL := by
  unfold pickK at h
  split at h
  · rename_i c hc
    rw [bool_toL hc]
    cases c <;> cases h <;> rfl
  · rename_i c hc
    rw [bool_toL hc]
    split at h
    · rename_i ha hb
      rw [bool_toL ha, bool_toL hb]
      cases h
      cases c <;> rfl
    · cases h
  · cases h
theorem bndHi_sound {v : Option KV} {n m h : Nat} {c : Ck} (e : bndHi v n m = some (c, h)) (hc : c.val = true) : bndL (v.map toL) n m = some h := by
  unfold bndHi at e
  split at e
  · cases e; rfl
  · split at e
    · rename_i hx
      cases e
      simp only [Ck.val, st_val, Bool.and_eq_true, decide_eq_true_eq] at hc
      simp only [Option.map_some, int_toL hx, bndL, asInt64, if_pos hc]
    · cases e
theorem bndLo_sound {v : Option KV} {n h : Nat} {c : Ck} (e : bndLo v n = some (c, h)) (hc : c.val = true) : bndL (v.map toL) 0 n = some h := by
  unfold bndLo at e
  split at e
  · cases e; rfl
  · split at e
    · rename_i hx
      cases e
      simp only [Ck.val, st_val, Bool.and_eq_true, decide_eq_true_eq] at hc
      simp only [Option.map_some, int_toL hx, bndL, asInt64, if_pos hc]
    · cases e
theorem bytes_enc : ∀ l : List UInt8, allBytes (List.map (encL .byte) l) = some l
  | [] => rfl
  | b :: l => by
    have e : byteOf (encL .byte b) = some b := by
      show some (UInt8.ofNat (b.toNat : Int).toNat) = some b
      simp
    have ih := bytes_enc l
    show allBytes (encL .byte b :: List.map (encL .byte) l) = _
    unfold allBytes
    rw [e, ih]
theorem bytesLV_enc (s : ByteArray) : bytesLV s = s.data.toList.map (encL .byte) := rfl
theorem sourceK_sound {tx : TypeId} {t : Ty} {sz : Nat} {σ : KSt} {x : KV} {c : Ck} {ys : List t.den} (h : sourceK P tx t sz σ x = some (c, ys)) (hc : c.val = true) : sourceL P tx sz σ.toL x.toL = some (ys.map (encL t)) := by
  unfold sourceK at h
  split at h
  · rename_i hu
    split at h
    · rename_i hx
      split at h
      · rename_i hs
        split at h
        · rename_i l hl
          cases h
          rw [str_toL hx]
          simp only [sourceL, hu, hs, if_true, bytesLV_enc, (castL_sound hl).1]
        · cases h
      · cases h
    · cases h
  · rename_i hu
    split at h
    · rename_i c' t' l he
      split at h
      · rename_i l' hl
        cases h
        simp only [sourceL, hu]
        rw [elemsK_sound he hc]
        simp only [(castL_sound hl).1]
      · split at h
        · cases h
          simp only [sourceL, hu]
          rw [elemsK_sound he hc]; rfl
        · cases h
    · cases h
  · cases h
theorem newRow_sound {t : Ty} {ys : List t.den} {e : TypeId} {sz : Nat} {σ : KSt} (h : ys.length ≤ maxEls) :
    appendL .nils (ys.map (encL t)) e sz σ.toL = some ((KV.mref σ.rows.length ys.length).toL, ({ σ with rows := σ.rows ++ [⟨t, ys, e, sz, true⟩] } : KSt).toL) := by
  simp only [appendL, List.length_map, h, if_true, newRowS, KSt.toL, toL, List.map_append, List.map, KRow.toL]
theorem newK_sound {tx : TypeId} {x v : KV} {e : TypeId} {sz : Nat} {σ σ' : KSt} {c : Ck} (h : newK T P tx x e sz σ = some (c, v, σ')) (hc : c.val = true) :
    ∃ ys, sourceL P tx sz σ.toL x.toL = some ys ∧ elemsOk sz ys = true ∧ appendL .nils ys e sz σ.toL = some (v.toL, σ'.toL) ∧ σ'.loops = σ.loops := by
  unfold newK at h
  split at h
  · split at h
    · rename_i t _ hn
      split at h
      · rename_i c' ys hs
        cases h
        simp only [Ck.val, Bool.and_eq_true, decide_eq_true_eq] at hc
        exact ⟨_, sourceK_sound hs hc.1, elemsOk_enc _ _ _ hn, newRow_sound hc.2, rfl⟩
      · cases h
    · cases h
  · cases h
theorem appendK_sound {tx : TypeId} {d x v : KV} {e : TypeId} {sz : Nat} {σ σ' : KSt} {c : Ck} (h : appendK T P tx d x e sz σ = some (c, v, σ')) (hc : c.val = true) :
    ∃ ys, sourceL P tx sz σ.toL x.toL = some ys ∧ elemsOk sz ys = true ∧ appendL d.toL ys e sz σ.toL = some (v.toL, σ'.toL) ∧ σ'.loops = σ.loops := by
  unfold appendK at h
  split at h
  · exact newK_sound h hc
  · rename_i r n
    split at h
    · rename_i row hr
      split at h
      · rename_i hcc
        obtain ⟨he, hz, hn⟩ := hcc
        split at h
        · rename_i c' ys hs
          cases h
          simp only [Ck.val, Bool.and_eq_true, decide_eq_true_eq, List.length_append] at hc
          obtain ⟨h0, h1, h2⟩ := hc
          subst h1
          refine ⟨_, sourceK_sound hs h0, elemsOk_enc _ _ _ hn, ?_, rfl⟩
          simp only [toL, appendL, rows_get, hr, Option.map_some]
          rw [if_pos (by simp only [KRow.toL, List.length_map]; exact ⟨trivial, he, hz, h2⟩)]
          simp only [KRow.toL, List.length_map, KSt.toL, List.map_set, List.map_append, List.length_append]
        · cases h
      · cases h
    · cases h
  · rename_i r n lo hi sz'
    split at h
    · rename_i row hr
      split at h
      · rename_i hcc
        obtain ⟨he, hz, hz', hw, hn⟩ := hcc
        split at h
        · rename_i c' ys hs
          cases h
          simp only [Ck.val, Bool.and_eq_true, decide_eq_true_eq] at hc
          obtain ⟨h0, h1, h2, h3⟩ := hc
          refine ⟨_, sourceK_sound hs h0, elemsOk_enc _ _ _ hn, ?_, rfl⟩
          simp only [toL, appendL, rows_get, hr, Option.map_some]
          rw [if_pos (by simp only [KRow.toL, List.length_map]; exact ⟨h1, he, hz, hz', hw, h2, h3⟩)]
          rw [setRow_eq]
          simp only [KRow.toL, List.length_map, overT_eq]
        · cases h
      · cases h
    · cases h
  · cases h
theorem zeroRowK_sound {e : TypeId} {sz n : Nat} {σ σ' : KSt} {v : KV} {c : Ck} (h : zeroRowK T P e sz n σ = some (c, v, σ')) (hc : c.val = true) :
    ∃ z, zeroLV P e = some z ∧ z.cells.length = sz ∧ storable z = true ∧ newRowS σ.toL (List.replicate n z) e sz = (v.toL, σ'.toL) ∧ σ'.loops = σ.loops := by
  unfold zeroRowK at h
  split at h
  · rename_i t z hT hz
    split at h
    · rename_i hn
      split at h
      · rename_i c' x hd
        cases h
        have hx := decV_sound hd hc
        refine ⟨z.toL, by rw [zeroKV_eq, hz]; rfl, by rw [hx, encL_cells, cellsL_len]; exact hn, by rw [hx]; exact encL_storable _ _, ?_, rfl⟩
        rw [addRow_eq]
        have hl : σ.toL.rows.length = σ.rows.length := by simp [KSt.toL]
        simp only [newRowS, hx, toL, KRow.toL, List.map_replicate, List.length_replicate, hl]
      · cases h
    · cases h
  · cases h
theorem map_eraseIdx' {α β : Type} (f : α → β) : ∀ (l : List α) (i : Nat), (l.eraseIdx i).map f = (l.map f).eraseIdx i
  | [], _ => rfl
  | _ :: _, 0 => rfl
  | x :: l, i + 1 => by simp only [List.eraseIdx_cons_succ, List.map_cons, map_eraseIdx' f l i]
theorem appendNewK_sound {ats : List TypeId} {args : List KV} {v : KV} {σ σ' : KSt} {c : Ck} (h : appendNewK T P ats args σ = some (c, v, σ')) (hc : c.val = true) : appendNew P ats (args.map toL) σ.toL = some (v.toL, σ'.toL) ∧ σ'.loops = σ.loops := by
  unfold appendNewK at h
  split at h
  · split at h
    · rename_i e he
      split at h
      · rename_i sz z bs ty hs hz hb _
        split at h
        · rename_i hcc
          split at h
          · rename_i c' ys hys
            cases h
            simp only [Ck.val, Bool.and_eq_true, decide_eq_true_eq] at hc
            simp only [List.map, toL, appendNew, he, hs, hz, hb, Option.bind_some, sourceK_sound hys hc.1]
            rw [if_pos ⟨hcc.1, hcc.2.1, elemsOk_enc _ _ _ hcc.2.2.2, by rw [List.length_map]; exact hc.2, hcc.2.2.1⟩]
            exact ⟨rfl, by trivial⟩
          · cases h
        · cases h
      · cases h
    · cases h
  · cases h
theorem builtinK_sound {b : Builtin} {ats : List TypeId} {args : List KV} {v : KV} {σ σ' : KSt} {c : Ck} (h : builtinK T P b ats args σ = some (c, v, σ')) (hc : c.val = true) : builtinL P b ats (args.map toL) σ.toL = some (v.toL, σ'.toL) ∧ σ'.loops = σ.loops := by
  unfold builtinK at h
  split at h
  · rename_i t x
    split at h
    · rename_i hu
      split at h
      · rename_i hx
        cases h
        simp only [List.map, str_toL hx, builtinL, hu, mk_toL, and_true]
      · cases h
    · rename_i hu
      split at h
      · rename_i c' s n hl
        cases h
        obtain ⟨es, h1, h2⟩ := lenK_sound hl hc
        simp only [List.map, builtinL, hu, h1, Option.map_some, h2, and_true, mk_toL]
      · cases h
    · rename_i hu
      split at h
      · split at h
        · rename_i q hq
          cases h
          simp only [List.map, toL, builtinL, hu, maps_get, hq, Option.map_some, KMap.toL, List.length_map, and_true]
        · cases h
      · cases h
    · cases h
  · rename_i t x
    split at h
    · split at h
      · rename_i e he
        cases h
        simp only [List.map, toL, builtinL, he, Option.map_some, and_true]
      · cases h
    · cases h
  · rename_i t tx d x
    split at h
    · rename_i e he
      split at h
      · rename_i sz zs bs hs hz hb
        split at h
        · rename_i hcc
          split at h
          · rename_i hi
            split at h
            · split at h
              · rename_i s k n hn
                split at h
                · rename_i c' v' σ1 hr
                  cases h
                  simp only [Ck.val, Bool.and_eq_true, st_val, decide_eq_true_eq] at hc
                  obtain ⟨h1, h2, h3⟩ := hc
                  obtain ⟨z, z1, z2, z3, z4, z5⟩ := zeroRowK_sound hr h3
                  simp only [List.map, builtinL, he, hs, hz, hb, hi, if_true, Option.bind_some, int_toL hn, toL, zerosL, z1]
                  rw [if_pos ⟨h1, h2, hcc.1, hcc.2, z2, z3⟩]
                  exact ⟨by rw [z4], z5⟩
                · cases h
              · cases h
            · cases h
          · rename_i hi
            obtain ⟨ys, h1, h2, h3, h4⟩ := appendK_sound h hc
            simp only [List.map, builtinL, he, hs, hz, hb, hi, Bool.false_eq_true, if_false, h1, Option.bind_some, h3]
            exact ⟨by rw [if_pos ⟨hcc.1, hcc.2, h2⟩], h4⟩
        · cases h
      · cases h
    · cases h
  · rename_i t tx d x
    split at h
    · rename_i e he
      split at h
      · rename_i sz c1 r row lo hi hs hp
        split at h
        · rename_i hcc
          obtain ⟨hw, hz, h0, hn⟩ := hcc
          split at h
          · rename_i c2 ys hy
            cases h
            simp only [Ck.val, Bool.and_eq_true] at hc
            obtain ⟨p1, p2, p3, p4⟩ := partK_sound hp hc.1
            simp only [List.map, builtinL, he, hs, sourceK_sound hy hc.2, p1, Option.bind_some]
            refine ⟨?_, trivial⟩
            rw [if_pos ⟨hw, hz, h0, elemsOk_enc _ _ _ hn⟩, setRow_eq]
            simp only [KRow.toL, overT_eq, List.map_take, List.length_map, toL]
          · cases h
        · cases h
      · cases h
    · cases h
  · rename_i t d
    split at h
    · rename_i e he
      split at h
      · rename_i sz z c1 r row lo hi hs hz0 hp
        split at h
        · rename_i hcc
          obtain ⟨hw, hz, h0, hn⟩ := hcc
          split at h
          · rename_i c2 x hd
            cases h
            simp only [Ck.val, Bool.and_eq_true] at hc
            obtain ⟨p1, p2, p3, p4⟩ := partK_sound hp hc.1
            have hx := decV_sound hd hc.2
            have hzl : zeroLV P e = some z.toL := by rw [zeroKV_eq, hz0]; rfl
            simp only [List.map, builtinL, he, hs, hzl, p1, Option.bind_some]
            refine ⟨?_, trivial⟩
            rw [if_pos ⟨hw, hz, h0, by rw [hx, encL_cells, cellsL_len]; exact hn, by rw [hx]; exact encL_storable _ _⟩, setRow_eq]
            simp only [KRow.toL, overT_eq, List.map_replicate, hx, toL, toL.toLs]
          · cases h
        · cases h
      · cases h
    · cases h
  · rename_i t _ m k
    split at h
    · rename_i m
      split at h
      · rename_i e str q hm hq
        split at h
        · rename_i hk
          split at h
          · rename_i c1 x hd
            cases h
            have hx := decV_sound hd hc
            simp only [List.map, toL, builtinL, hm, maps_get, hq, Option.map_some, Option.bind_some, hx]
            have hf : findK str (encL q.kt x) q.toL.ks = some (posK q.kt q.vt x q.l) := posK_sound hk x q.l
            rw [hf]
            refine ⟨?_, trivial⟩
            simp only [Option.map_some, delK]
            cases hpos : posK q.kt q.vt x q.l with
            | some i =>
              simp only [KSt.toL, List.map_set, KMap.toL, toL.toLs, map_eraseIdx']
            | none =>
              have : σ.maps.set m { q with l := q.l } = σ.maps := by
                have hq' : σ.maps[m]? = some { q with l := q.l } := hq
                exact List.ext_getElem? fun i => by
                  rw [List.getElem?_set]
                  split
                  · rename_i h; subst h
                    split
                    · rw [hq']
                    · rename_i hl; rw [List.getElem?_eq_none (by omega)] at hq'; cases hq'
                  · rfl
              simp only [this, toL.toLs]
          · cases h
        · cases h
      · cases h
    · cases h
  · split at h
    · rename_i hx hy
      split at h
      · rename_i hk
        cases h
        subst hk
        simp only [List.map, int_toL hx, int_toL hy, builtinL, if_true, and_true, mk_toL]
        split <;> simp [*]
      · cases h
    · cases h
  · split at h
    · rename_i hx hy
      split at h
      · rename_i hk
        cases h
        subst hk
        simp only [List.map, int_toL hx, int_toL hy, builtinL, if_true, and_true, mk_toL]
        split <;> simp [*]
      · cases h
    · cases h
  · cases h
theorem loadK_sound {t : TypeId} {σ : KSt} {a v : KV} {c : Ck} (d : Option Tmp) (ty : TypeId) (pos : String) (af : Array Edge) (gd : Option (Nat × Bool)) {y : Operand} {ρ : Operand → LV} (hρ : ρ y = a.toL) (h : loadK P t σ a = some (c, v)) (hc : c.val = true) :
    ∀ own, opStep P own { dst := d, op := .load t y, type := ty, pos := pos, after := af, guard := gd } ρ σ.toL = some (v.toL, σ.toL) := by
  intro own
  simp only [opStep, hρ]
  unfold loadK at h
  split at h
  · rename_i b off
    split at h
    · rename_i cs hb
      split at h
      · rename_i v' h1
        cases h
        simp only [toL, KSt.toL, List.getElem?_map, hb, Option.map_some, Option.bind_eq_bind, Option.bind_some, toLs_map]
        rw [← List.map_drop, readK_eq, h1]; rfl
      · cases h
    · cases h
  · rename_i cs
    split at h
    · rename_i v' h1
      cases h
      simp only [toL, toLs_map, readK_eq, h1, Option.map_some]
    · cases h
  · rename_i r n i sz off
    split at h
    · rename_i row hr
      split at h
      · rename_i hz
        split at h
        · rename_i v' h1
          cases h
          simp only [Ck.val, Bool.and_eq_true, decide_eq_true_eq] at hc
          obtain ⟨h2, h3⟩ := hc
          have hx : (row.toL).xs[i]? = some (encL row.t (row.l.getD i row.t.dfl)) := by
            simp only [KRow.toL, List.getElem?_map, List.getD_eq_getElem?_getD, List.getElem?_eq_getElem h3, Option.map_some, Option.getD_some]
          simp only [toL, rows_get, hr, Option.map_some, Option.bind_eq_bind, Option.bind_some, hx]
          rw [if_pos (by simp only [KRow.toL, List.length_map]; exact ⟨h2, hz, encL_storable _ _⟩)]
          rw [← toL_encT, toL_cells, ← List.map_drop, readK_eq, h1]; rfl
        · cases h
      · cases h
    · cases h
  · cases h
end Go.Proofs.YticpcfchhcjjeaaGreat.LI
