/-
  An interpreter over values is sound, part 5.
-/
import Derived.Test.YtpeaaophmddhnaaGreatN4
namespace Go.Proofs.YtpeaaophmddhnaaGreat.LI
open Go Go.RowKit
open KV (toL)
open KV.toL (toLs)
variable {P : Program} {T : TypeId → Option Ty}
theorem vFa {op : BinOp} {s : Bool} {k : IntKind} {a b : Int} {c : Ck} {v : KV} (h : zMa op s k a b = some (c, v)) (hc : c.val = true) : bTb op k a b = some v.toL := by
 unfold zMa at h
 split at h <;> first
  | (cases h; done)
  | (cases h; rw [fTa]; rfl)
  | (cases h; simp only [Ck.val, Bool.not_eq_true', decide_eq_false_iff_not] at hc; rw [fTa]; simp only [bTb, if_neg hc])
theorem vGa {op : BinOp} {s : Bool} {a b : ByteArray} {c : Ck} {v : KV} (h : zOa op s a b = some (c, v)) (hc : c.val = true) : bUb op a b = some v.toL := by
 unfold zOa at h
 split at h <;> first
  | (cases h; done)
  | (cases h; rw [fTa]; rfl)
  | (cases h; simp only [Ck.val, decide_eq_true_eq] at hc; rw [fTa]; simp only [bUb, if_pos hc])
theorem uIa {op : BinOp} {t : TypeId} {b : Bool} {v : KV} (h : pJb P op t b = some v) : mIb P op t b = some v.toL := by
 unfold pJb at h
 unfold mIb
 split at h
 ·rename_i hu; rw [hu]; cases h; rfl
 ·rename_i hu; rw [hu]; cases h; rfl
 ·cases h
theorem eBb {x : KV} (h : aDb x = true) : x = .nils := by
 cases x <;> first | rfl | cases h
theorem dJb {op : BinOp} {t : TypeId} {x y v : KV} {c : Ck} (h : pWb P op t x y = some (c, v)) (hc : c.val = true) : zPa P op t x.toL y.toL = some v.toL := by
 unfold pWb at h
 split at h
 ·rename_i hn
  rw [eBb hn]
  split at h
  ·split at h
   ·rename_i hv; cases h; exact uIa hv
   ·cases h
  ·rename_i l
   split at h
   ·rename_i hv
    cases h
    simp only [Ck.val, Bool.not_eq_true', List.isEmpty_eq_false_iff] at hc
    cases l with
    | nil => exact absurd rfl hc
    | cons y l => exact uIa hv
   ·cases h
  ·cases h
 split at h
 ·rename_i hx hy
  split at h
  ·rename_i hk; subst hk; rw [cCa hx, cCa hy]; simp only [zPa, fYb, if_true]; exact vFa h hc
  ·cases h
 ·split at h
  ·rename_i hx hy
   rw [hCa hx, hCa hy]; simp only [zPa, fYb]; exact vGa h hc
  ·split at h
   ·rename_i hx hy
    rw [cTa hx, cTa hy]
    simp only [zPa]
    split at h
    ·rename_i hu; rw [hu]; cases h; rw [fTa]
    ·rename_i hu; rw [hu]; cases h; rw [fTa]
    ·cases h
   ·cases h
theorem qSa {eq : TypeId → KV → KV → Option (Bool × Bool)} {eq' : TypeId → LV → LV → Option Bool} (hq : ∀ (t : TypeId) (x y : KV) (s b : Bool), eq t x y = some (s, b) → eq' t x.toL y.toL = some b) {xs ys : List KV} :
  ∀ (fs : List Field) (s b : Bool), gSb P eq xs ys fs = some (s, b) → lCb P eq' (xs.map toL) (ys.map toL) fs = some b
 | [], s, b, h => by
  simp only [gSb, Option.some.injEq, Prod.mk.injEq] at h
  simp only [lCb, h.2]
 | f :: fs, s, b, h => by
  simp only [gSb] at h
  split at h
  ·cases h
  ·rename_i hn
   split at h
   ·rename_i x y hx hy
    split at h
    ·rename_i s1 r1 h1
     split at h
     ·rename_i s2 r2 h2
      cases h
      have ih := qSa hq fs s2 r2 h2
      have e := hq _ _ _ _ _ h1
      simp only [lCb, if_neg hn, ← List.map_drop, iOa, hx, hy, Option.map_some, Option.bind_some, e, ih]
     ·cases h
    ·cases h
   ·cases h
theorem tRa : ∀ (d : Nat) (t : TypeId) (x y : KV) (s b : Bool), oEb P d t x y = some (s, b) → eqV P d t x.toL y.toL = some b
 | 0, t, x, y, s, b, h => by simp [oEb] at h
 | d + 1, t, x, y, s, b, h => by
  unfold oEb at h
  split at h
  ·rename_i k0 hu
   split at h
   ·rename_i s1 k a s2 k' b' hx hy
    split at h
    ·rename_i hk
     cases h; subst hk
     simp only [eqV, hu, cCa hx, cCa hy, if_true]
    ·cases h
   ·cases h
  ·rename_i hu
   split at h
   ·rename_i s1 a s2 b' hx hy
    cases h
    simp only [eqV, hu, hCa hx, hCa hy]
   ·cases h
  ·rename_i hu
   split at h
   ·rename_i s1 a s2 b' hx hy
    cases h
    simp only [eqV, hu, cTa hx, cTa hy]
   ·cases h
  ·rename_i fs hu
   split at h
   ·rename_i xs ys
    split at h
    ·cases h
    ·rename_i hp
     have := qSa (P := P) (eq' := eqV P d) (fun t x y s b hh => tRa d t x y s b hh) fs.toList s b h
     simp only [eqV, hu, toL, aHa, if_neg hp, this]
   ·cases h
  ·cases h
theorem zLa {op : BinOp} {t : TypeId} {x y v : KV} {c : Ck} (h : lQb P op t x y = some (c, v)) (hc : c.val = true) : lPb P op t x.toL y.toL = some v.toL := by
 unfold lQb at h
 split at h
 ·rename_i xs ys
  split at h
  ·cases h
  ·rename_i hg
   split at h
   ·rename_i s b hb
    have e := tRa (P := P) 8 t _ _ s b hb
    simp only [toL] at e
    split at h
    ·cases h
     simp only [toL, lPb, nUb, if_neg hg, e, Option.map_some, fTa]
    ·cases h
     simp only [toL, lPb, nUb, if_neg hg, e, Option.map_some, fTa]
    ·cases h
   ·cases h
 ·rename_i hno
  have e := dJb h hc
  unfold lPb
  split
  ·rename_i as bs ha hb
   exfalso
   have ax : ∀ z : KV, ∀ cs, z.toL = .agg cs → ∃ ks, z = .agg ks := fun z cs hz => by
    cases z <;> simp only [toL] at hz <;> first | exact ⟨_, rfl⟩ | cases hz | (unfold kBb at hz; cases hz)
   obtain ⟨k1, hk1⟩ := ax x _ ha
   obtain ⟨k2, hk2⟩ := ax y _ hb
   exact hno _ _ hk1 hk2
  ·exact e
theorem iYb {op : UnOp} {x v : KV} (h : unK op x = some v) : pLb op x.toL = some v.toL := by
 unfold unK at h
 split at h
 ·split at h
  ·rename_i hx; cases h; rw [cTa hx, fTa]; rfl
  ·cases h
 ·split at h
  ·rename_i hx; cases h; rw [cCa hx, fTa]; rfl
  ·cases h
 ·cases h
theorem aKb {x y z v : KV} (h : mLb x y z = some v) : cNb x.toL y.toL z.toL = some v.toL := by
 unfold mLb at h
 split at h
 ·rename_i c hc
  rw [cTa hc]
  cases c <;> cases h <;> rfl
 ·rename_i c hc
  rw [cTa hc]
  split at h
  ·rename_i ha hb
   rw [cTa ha, cTa hb]
   cases h
   cases c <;> rfl
  ·cases h
 ·cases h
theorem iDa {v : Option KV} {n m h : Nat} {c : Ck} (e : dKb v n m = some (c, h)) (hc : c.val = true) : xHa (v.map toL) n m = some h := by
 unfold dKb at e
 split at e
 ·cases e; rfl
 ·split at e
  ·rename_i hx
   cases e
   simp only [Ck.val, jXa, Bool.and_eq_true, decide_eq_true_eq] at hc
   simp only [Option.map_some, cCa hx, xHa, cJa, if_pos hc]
  ·cases e
theorem cKa {v : Option KV} {n h : Nat} {c : Ck} (e : pAa v n = some (c, h)) (hc : c.val = true) : xHa (v.map toL) 0 n = some h := by
 unfold pAa at e
 split at e
 ·cases e; rfl
 ·split at e
  ·rename_i hx
   cases e
   simp only [Ck.val, jXa, Bool.and_eq_true, decide_eq_true_eq] at hc
   simp only [Option.map_some, cCa hx, xHa, cJa, if_pos hc]
  ·cases e
theorem mBa : ∀ l : List UInt8, eVa (List.map (eEa .byte) l) = some l
 | [] => rfl
 | b :: l => by
  have e : bWb (eEa .byte b) = some b := by
   show some (UInt8.ofNat (b.toNat : Int).toNat) = some b
   simp
  have ih := mBa l
  show eVa (eEa .byte b :: List.map (eEa .byte) l) = _
  unfold eVa
  rw [e, ih]
theorem zRa (s : ByteArray) : gQa s = s.data.toList.map (eEa .byte) := rfl
theorem eYa {tx : TypeId} {t : Ty} {sz : Nat} {σ : KSt} {x : KV} {c : Ck} {ys : List t.den} (h : lTa P tx t sz σ x = some (c, ys)) (hc : c.val = true) : bZa P tx sz σ.toL x.toL = some (ys.map (eEa t)) := by
 unfold lTa at h
 split at h
 ·rename_i hu
  split at h
  ·rename_i hx
   split at h
   ·rename_i hs
    split at h
    ·rename_i l hl
     cases h
     rw [hCa hx]
     simp only [bZa, hu, hs, if_true, zRa, (cUa hl).1]
    ·cases h
   ·cases h
  ·cases h
 ·rename_i hu
  split at h
  ·rename_i c' t' l he
   split at h
   ·rename_i l' hl
    cases h
    simp only [bZa, hu]
    rw [cRa he hc]
    simp only [(cUa hl).1]
   ·split at h
    ·cases h
     simp only [bZa, hu]
     rw [cRa he hc]; rfl
    ·cases h
  ·cases h
 ·cases h
theorem yFa {t : Ty} {ys : List t.den} {e : TypeId} {sz : Nat} {σ : KSt} (h : ys.length ≤ bBa) :
  eWa .nils (ys.map (eEa t)) e sz σ.toL = some ((KV.mref σ.rows.length ys.length).toL, ({ σ with rows := σ.rows ++ [⟨t, ys, e, sz, true⟩] } : KSt).toL) := by
 simp only [eWa, List.length_map, h, if_true, dNa, KSt.toL, toL, List.map_append, List.map, aYa.toL]
theorem eEb {tx : TypeId} {x v : KV} {e : TypeId} {sz : Nat} {σ σ' : KSt} {c : Ck} (h : qIb T P tx x e sz σ = some (c, v, σ')) (hc : c.val = true) :
  ∃ ys, bZa P tx sz σ.toL x.toL = some ys ∧ bGa sz ys = true ∧ eWa .nils ys e sz σ.toL = some (v.toL, σ'.toL) ∧ σ'.loops = σ.loops := by
 unfold qIb at h
 split at h
 ·split at h
  ·rename_i t _ hn
   split at h
   ·rename_i c' ys hs
    cases h
    simp only [Ck.val, Bool.and_eq_true, decide_eq_true_eq] at hc
    exact ⟨_, eYa hs hc.1, cWa _ _ _ hn, yFa hc.2, rfl⟩
   ·cases h
  ·cases h
 ·cases h
theorem vEa {tx : TypeId} {d x v : KV} {e : TypeId} {sz : Nat} {σ σ' : KSt} {c : Ck} (h : zKa T P tx d x e sz σ = some (c, v, σ')) (hc : c.val = true) :
  ∃ ys, bZa P tx sz σ.toL x.toL = some ys ∧ bGa sz ys = true ∧ eWa d.toL ys e sz σ.toL = some (v.toL, σ'.toL) ∧ σ'.loops = σ.loops := by
 unfold zKa at h
 split at h
 ·exact eEb h hc
 ·rename_i r n
  split at h
  ·rename_i row hr
   split at h
   ·rename_i hcc
    obtain ⟨he, hz, hn⟩ := hcc
    split at h
    ·rename_i c' ys hs
     cases h
     simp only [Ck.val, Bool.and_eq_true, decide_eq_true_eq, List.length_append] at hc
     obtain ⟨h0, h1, h2⟩ := hc
     subst h1
     refine ⟨_, eYa hs h0, cWa _ _ _ hn, ?_, rfl⟩
     simp only [toL, eWa, cIa, hr, Option.map_some]
     rw [if_pos (by simp only [aYa.toL, List.length_map]; exact ⟨trivial, he, hz, h2⟩)]
     simp only [aYa.toL, List.length_map, KSt.toL, List.map_set, List.map_append, List.length_append]
    ·cases h
   ·cases h
  ·cases h
 ·rename_i r n lo hi sz'
  split at h
  ·rename_i row hr
   split at h
   ·rename_i hcc
    obtain ⟨he, hz, hz', hw, hn⟩ := hcc
    split at h
    ·rename_i c' ys hs
     cases h
     simp only [Ck.val, Bool.and_eq_true, decide_eq_true_eq] at hc
     obtain ⟨h0, h1, h2, h3⟩ := hc
     refine ⟨_, eYa hs h0, cWa _ _ _ hn, ?_, rfl⟩
     simp only [toL, eWa, cIa, hr, Option.map_some]
     rw [if_pos (by simp only [aYa.toL, List.length_map]; exact ⟨h1, he, hz, hz', hw, h2, h3⟩)]
     rw [hWa]
     simp only [aYa.toL, List.length_map, wAa]
    ·cases h
   ·cases h
  ·cases h
 ·cases h
theorem lEa {e : TypeId} {sz n : Nat} {σ σ' : KSt} {v : KV} {c : Ck} (h : pQa T P e sz n σ = some (c, v, σ')) (hc : c.val = true) :
  ∃ z, kBa P e = some z ∧ z.cells.length = sz ∧ storable z = true ∧ dNa σ.toL (List.replicate n z) e sz = (v.toL, σ'.toL) ∧ σ'.loops = σ.loops := by
 unfold pQa at h
 split at h
 ·rename_i t z hT hz
  split at h
  ·rename_i hn
   split at h
   ·rename_i c' x hd
    cases h
    have hx := dDa hd hc
    refine ⟨z.toL, by rw [sNa, hz]; rfl, by rw [hx, gHa, fDa]; exact hn, by rw [hx]; exact cXa _ _, ?_, rfl⟩
    rw [pZa]
    have hl : σ.toL.rows.length = σ.rows.length := by simp [KSt.toL]
    simp only [dNa, hx, toL, aYa.toL, List.map_replicate, List.length_replicate, hl]
   ·cases h
  ·cases h
 ·cases h
theorem mVa {α β : Type} (f : α → β) : ∀ (l : List α) (i : Nat), (l.eraseIdx i).map f = (l.map f).eraseIdx i
 | [], _ => rfl
 | _ :: _, 0 => rfl
 | x :: l, i + 1 => by simp only [List.eraseIdx_cons_succ, List.map_cons, mVa f l i]
theorem oZa {ats : List TypeId} {args : List KV} {v : KV} {σ σ' : KSt} {c : Ck} (h : nPa T P ats args σ = some (c, v, σ')) (hc : c.val = true) : cZa P ats (args.map toL) σ.toL = some (v.toL, σ'.toL) ∧ σ'.loops = σ.loops := by
 unfold nPa at h
 split at h
 ·split at h
  ·rename_i e he
   split at h
   ·rename_i sz z bs ty hs hz hb _
    split at h
    ·rename_i hcc
     split at h
     ·rename_i c' ys hys
      cases h
      simp only [Ck.val, Bool.and_eq_true, decide_eq_true_eq] at hc
      simp only [List.map, toL, cZa, he, hs, hz, hb, Option.bind_some, eYa hys hc.1]
      rw [if_pos ⟨hcc.1, hcc.2.1, cWa _ _ _ hcc.2.2.2, by rw [List.length_map]; exact hc.2, hcc.2.2.1⟩]
      exact ⟨rfl, by trivial⟩
     ·cases h
    ·cases h
   ·cases h
  ·cases h
 ·cases h
theorem sVa {b : Builtin} {ats : List TypeId} {args : List KV} {v : KV} {σ σ' : KSt} {c : Ck} (h : vHa T P b ats args σ = some (c, v, σ')) (hc : c.val = true) : aTa P b ats (args.map toL) σ.toL = some (v.toL, σ'.toL) ∧ σ'.loops = σ.loops := by
 unfold vHa at h
 split at h
 ·rename_i t x
  split at h
  ·rename_i hu
   split at h
   ·rename_i hx
    cases h
    simp only [List.map, hCa hx, aTa, hu, fTa, and_true]
   ·cases h
  ·rename_i hu
   split at h
   ·rename_i c' s n hl
    cases h
    obtain ⟨es, h1, h2⟩ := eDb hl hc
    simp only [List.map, aTa, hu, h1, Option.map_some, h2, and_true, fTa]
   ·cases h
  ·rename_i hu
   split at h
   ·split at h
    ·rename_i q hq
     cases h
     simp only [List.map, toL, aTa, hu, pNa, hq, Option.map_some, tJa.toL, List.length_map, and_true]
    ·cases h
   ·cases h
  ·cases h
 ·rename_i t x
  split at h
  ·split at h
   ·rename_i e he
    cases h
    simp only [List.map, toL, aTa, he, Option.map_some, and_true]
   ·cases h
  ·cases h
 ·rename_i t tx d x
  split at h
  ·rename_i e he
   split at h
   ·rename_i sz zs bs hs hz hb
    split at h
    ·rename_i hcc
     split at h
     ·rename_i hi
      split at h
      ·split at h
       ·rename_i s k n hn
        split at h
        ·rename_i c' v' σ1 hr
         cases h
         simp only [Ck.val, Bool.and_eq_true, jXa, decide_eq_true_eq] at hc
         obtain ⟨h1, h2, h3⟩ := hc
         obtain ⟨z, z1, z2, z3, z4, z5⟩ := lEa hr h3
         simp only [List.map, aTa, he, hs, hz, hb, hi, if_true, Option.bind_some, cCa hn, toL, vBa, z1]
         rw [if_pos ⟨h1, h2, hcc.1, hcc.2, z2, z3⟩]
         exact ⟨by rw [z4], z5⟩
        ·cases h
       ·cases h
      ·cases h
     ·rename_i hi
      obtain ⟨ys, h1, h2, h3, h4⟩ := vEa h hc
      simp only [List.map, aTa, he, hs, hz, hb, hi, Bool.false_eq_true, if_false, h1, Option.bind_some, h3]
      exact ⟨by rw [if_pos ⟨hcc.1, hcc.2, h2⟩], h4⟩
    ·cases h
   ·cases h
  ·cases h
 ·rename_i t tx d x
  split at h
  ·rename_i e he
   split at h
   ·rename_i sz c1 r row lo hi hs hp
    split at h
    ·rename_i hcc
     obtain ⟨hw, hz, h0, hn⟩ := hcc
     split at h
     ·rename_i c2 ys hy
      cases h
      simp only [Ck.val, Bool.and_eq_true] at hc
      obtain ⟨p1, p2, p3, p4⟩ := iLa hp hc.1
      simp only [List.map, aTa, he, hs, eYa hy hc.2, p1, Option.bind_some]
      refine ⟨?_, trivial⟩
      rw [if_pos ⟨hw, hz, h0, cWa _ _ _ hn⟩, hWa]
      simp only [aYa.toL, wAa, List.map_take, List.length_map, toL]
     ·cases h
    ·cases h
   ·cases h
  ·cases h
 ·rename_i t d
  split at h
  ·rename_i e he
   split at h
   ·rename_i sz z c1 r row lo hi hs hz0 hp
    split at h
    ·rename_i hcc
     obtain ⟨hw, hz, h0, hn⟩ := hcc
     split at h
     ·rename_i c2 x hd
      cases h
      simp only [Ck.val, Bool.and_eq_true] at hc
      obtain ⟨p1, p2, p3, p4⟩ := iLa hp hc.1
      have hx := dDa hd hc.2
      have hzl : kBa P e = some z.toL := by rw [sNa, hz0]; rfl
      simp only [List.map, aTa, he, hs, hzl, p1, Option.bind_some]
      refine ⟨?_, trivial⟩
      rw [if_pos ⟨hw, hz, h0, by rw [hx, gHa, fDa]; exact hn, by rw [hx]; exact cXa _ _⟩, hWa]
      simp only [aYa.toL, wAa, List.map_replicate, hx, toL, toL.toLs]
     ·cases h
    ·cases h
   ·cases h
  ·cases h
 ·rename_i t _ m k
  split at h
  ·rename_i m
   split at h
   ·rename_i e str q hm hq
    split at h
    ·rename_i hk
     split at h
     ·rename_i c1 x hd
      cases h
      have hx := dDa hd hc
      simp only [List.map, toL, aTa, hm, pNa, hq, Option.map_some, Option.bind_some, hx]
      have hf : mOa str (eEa q.kt x) q.toL.ks = some (aLb q.kt q.vt x q.l) := kMa hk x q.l
      rw [hf]
      refine ⟨?_, trivial⟩
      simp only [Option.map_some, qQb]
      cases hpos : aLb q.kt q.vt x q.l with
      | some i =>
       simp only [KSt.toL, List.map_set, tJa.toL, toL.toLs, mVa]
      | none =>
       have : σ.maps.set m { q with l := q.l } = σ.maps := by
        have hq' : σ.maps[m]? = some { q with l := q.l } := hq
        exact List.ext_getElem? fun i => by
         rw [List.getElem?_set]
         split
         ·rename_i h; subst h
          split
          ·rw [hq']
          ·rename_i hl; rw [List.getElem?_eq_none (by omega)] at hq'; cases hq'
         ·rfl
       simp only [this, toL.toLs]
     ·cases h
    ·cases h
   ·cases h
  ·cases h
 ·split at h
  ·rename_i hx hy
   split at h
   ·rename_i hk
    cases h
    subst hk
    simp only [List.map, cCa hx, cCa hy, aTa, if_true, and_true, fTa]
    split <;> simp [*]
   ·cases h
  ·cases h
 ·split at h
  ·rename_i hx hy
   split at h
   ·rename_i hk
    cases h
    subst hk
    simp only [List.map, cCa hx, cCa hy, aTa, if_true, and_true, fTa]
    split <;> simp [*]
   ·cases h
  ·cases h
 ·cases h
theorem aHb {t : TypeId} {σ : KSt} {a v : KV} {c : Ck} (d : Option Tmp) (ty : TypeId) (pos : String) (af : Array Edge) (gd : Option (Nat × Bool)) {y : Operand} {ρ : Operand → LV} (hρ : ρ y = a.toL) (h : mHb P t σ a = some (c, v)) (hc : c.val = true) :
  ∀ own, aDa P own { dst := d, op := .load t y, type := ty, pos := pos, after := af, guard := gd } ρ σ.toL = some (v.toL, σ.toL) := by
 intro own
 simp only [aDa, hρ]
 unfold mHb at h
 split at h
 ·rename_i b off
  split at h
  ·rename_i cs hb
   split at h
   ·rename_i v' h1
    cases h
    simp only [toL, KSt.toL, List.getElem?_map, hb, Option.map_some, Option.bind_eq_bind, Option.bind_some, aHa]
    rw [← List.map_drop, iOa, h1]; rfl
   ·cases h
  ·cases h
 ·rename_i cs
  split at h
  ·rename_i v' h1
   cases h
   simp only [toL, aHa, iOa, h1, Option.map_some]
  ·cases h
 ·rename_i r n i sz off
  split at h
  ·rename_i row hr
   split at h
   ·rename_i hz
    split at h
    ·rename_i v' h1
     cases h
     simp only [Ck.val, Bool.and_eq_true, decide_eq_true_eq] at hc
     obtain ⟨h2, h3⟩ := hc
     have hx : (row.toL).xs[i]? = some (eEa row.t (row.l.getD i row.t.dfl)) := by
      simp only [aYa.toL, List.getElem?_map, List.getD_eq_getElem?_getD, List.getElem?_eq_getElem h3, Option.map_some, Option.getD_some]
     simp only [toL, cIa, hr, Option.map_some, Option.bind_eq_bind, Option.bind_some, hx]
     rw [if_pos (by simp only [aYa.toL, List.length_map]; exact ⟨h2, hz, cXa _ _⟩)]
     rw [← kRa, dSa, ← List.map_drop, iOa, h1]; rfl
    ·cases h
   ·cases h
  ·cases h
 ·cases h
end Go.Proofs.YtpeaaophmddhnaaGreat.LI
