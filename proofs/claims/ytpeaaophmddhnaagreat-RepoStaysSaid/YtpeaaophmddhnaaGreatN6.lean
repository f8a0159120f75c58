/-
  An interpreter over values is sound, part 6.
-/
import Derived.Test.YtpeaaophmddhnaaGreatN5
namespace Go.Proofs.YtpeaaophmddhnaaGreat.LI
open Go Go.RowKit
open KV (toL)
open KV.toL (toLs)
variable {P : Program} {T : TypeId → Option Ty}
theorem yJa {own : Bool} {o : Oper} {ρ : Operand → KV} {σ σ' : KSt} {v : KV} {c0 : Ck} (h : opK T P own o.type o.op ρ σ = some (c0, v, σ')) (hc0 : c0.val = true) :
  aDa P own o (fun y => (ρ y).toL) σ.toL = some (v.toL, σ'.toL) ∧ σ'.loops = σ.loops := by
 obtain ⟨d, op, ty, pos, af, gd⟩ := o
 simp only at h
 cases op
 case move x =>
  simp only [opK] at h
  split at h
  ·rename_i hn; cases h
   exact ⟨by simp only [aDa, (fYa hn).1], (fYa hn).2⟩
  ·cases h
 case assign x =>
  simp only [opK] at h
  split at h
  ·rename_i hn; cases h
   exact ⟨by simp only [aDa, (fYa hn).1], (fYa hn).2⟩
  ·cases h
 case pick c a b =>
  simp only [opK] at h
  split at h
  ·rename_i v' hv; cases h
   exact ⟨by simp only [aDa, aKb hv, Option.map_some], rfl⟩
  ·cases h
 case alloc t =>
  simp only [opK] at h
  split at h
  ·rename_i cs hz
   split at h
   ·rename_i hn; cases h
    exact ⟨by simp only [aDa, wSa, hz, Option.map_some, (fXa hn).1], (fXa hn).2⟩
   ·cases h
  ·cases h
 case box t x =>
  simp only [opK] at h
  split at h
  ·rename_i n hn
   split at h
   ·rename_i hc
    split at h
    ·rename_i hb; cases h
     refine ⟨?_, (fXa hb).2⟩
     simp only [aDa, hn, Option.bind_eq_bind, Option.bind_some]
     rw [if_pos (by rw [dSa, List.length_map, ePa]; exact hc)]
     rw [dSa, (fXa hb).1]
    ·cases h
   ·cases h
  ·cases h
 case build t parts =>
  simp only [opK] at h
  split at h
  ·rename_i cs hb; cases h
   refine ⟨?_, rfl⟩
   have := gAb (P := P) t (parts.toList.map fun p => (p.1, ρ p.2))
   rw [List.map_map] at this
   simp only [aDa]
   have e : (parts.toList.map fun p => (p.1, (ρ p.2).toL)) = parts.toList.map ((fun p : Nat × KV => (p.1, p.2.toL)) ∘ fun p => (p.1, ρ p.2)) := rfl
   rw [e, this, hb]
   simp only [Option.map_some, toL, aHa]
  ·cases h
 case buildSlice t len parts =>
  simp only [opK] at h
  split at h
  ·rename_i e he
   split at h
   ·rename_i sz zs ty' hs hz hT
    cases hno : (own && (Nat.beq len 0 && parts.toList.isEmpty)) with
    | true =>
     rw [hno, cond_true] at h
     split at h
     ·rename_i hpos
      cases h
      refine ⟨?_, rfl⟩
      have hl : σ.toL.rows.length = σ.rows.length := by simp [KSt.toL]
      simp only [aDa, hno, cond_true, he, hs, hz, Option.bind_some, hpos, if_true, dNa, hl, List.length_nil, toL]
      rw [pZa]
      rfl
     ·cases h
    | false =>
    rw [hno, cond_false] at h
    split at h
    ·rename_i hlen
     cases h
     refine ⟨?_, rfl⟩
     simp only [aDa, hno, cond_false, he, hs, hz, Option.bind_some]
     rw [if_pos hlen]; rfl
    split at h
    ·rename_i hlen hc
     split at h
     ·rename_i c xs hd
      cases h
      simp only [Ck.val, Bool.and_eq_true] at hc0
      obtain ⟨h1, hcd⟩ := hc0
      refine ⟨?_, bYa _ _⟩
      have e1 : (parts.toList.map fun p => (ρ p.2).toL) = toLs (parts.toList.map fun p => ρ p.2) := by
       rw [aHa, List.map_map]; rfl
      have e2 := cLa σ _ h1
      have e3 := qLa hd hcd
      have e4 : toLs (gIa.frzKL σ (parts.toList.map fun p => ρ p.2)).2 = xs.map (eEa ty') := by rw [aHa]; exact e3
      simp only [aDa, hno, cond_false, he, hs, hz, Option.bind_some, aGb, e1, e2, e4]
      rw [if_neg hlen, if_pos ⟨hc.1, cWa _ _ _ hc.2.1, hc.2.2⟩]
      rw [dCa, dUa]
      rfl
     ·cases h
    ·cases h
   ·rename_i sz zs hs hz hT
    cases own with
    | true => cases h
    | false =>
    rw [cond_false] at h
    split at h
    ·rename_i hc
     cases hv : jBb sz (gIa.frzKL σ (parts.toList.map fun p => ρ p.2)).2 with
     | false => rw [hv] at h; cases h
     | true =>
      rw [hv, cond_true] at h
      cases h
      have h1 := hc0
      refine ⟨?_, bYa _ _⟩
      have e1 : (parts.toList.map fun p => (ρ p.2).toL) = toLs (parts.toList.map fun p => ρ p.2) := by
       rw [aHa, List.map_map]; rfl
      have e2 := cLa σ _ h1
      have e3 : ∀ vs : List KV, jBb sz vs = true → bGa sz (toLs vs) = true := fun vs => by
       induction vs with
       | nil => intro _; rfl
       | cons v vs ih =>
        intro hv
        simp only [jBb, Bool.and_eq_true] at hv
        have := ih hv.2
        simp only [toLs, bGa, List.all_cons, Bool.and_eq_true] at this ⊢
        refine ⟨⟨?_, by rw [ePa]; exact hv.1.2⟩, this⟩
        rw [dSa, List.length_map, Nat.eq_of_beq_eq_true hv.1.1]; simp
      simp only [aDa, Bool.false_and, cond_false, he, hs, hz, Option.bind_some, aGb, e1, e2]
      rw [if_neg (by omega), if_pos ⟨hc.1, e3 _ hv, hc.2.1, hc.2.2.1, hc.2.2.2⟩]
      rw [dCa, dUa]
      rfl
    ·cases h
   ·cases h
  ·cases h
 case load t a =>
  simp only [opK] at h
  split at h
  ·rename_i c v' hl
   cases h
   exact ⟨aHb d ty pos af gd (y := a) (ρ := fun y => (ρ y).toL) rfl hl hc0 own, rfl⟩
  ·cases h
 case store t a x =>
  simp only [opK] at h
  split at h
  ·rename_i b off ha
   split at h
   ·rename_i cs n hb hn
    split at h
    ·rename_i hc; cases h
     refine ⟨?_, rfl⟩
     have hbx : σ.toL.boxes[b]? = some (cs.map toL) := by simp only [KSt.toL, List.getElem?_map, hb, Option.map_some, aHa]
     simp only [aDa, ha, toL, hbx, hn, Option.bind_eq_bind, Option.bind_some]
     rw [if_pos (by rw [dSa, List.length_map, List.length_map, ePa]; exact hc)]
     rw [dSa, uWa]
     simp only [KSt.toL, List.map_set, aHa, toL.toLs]
    ·cases h
   ·cases h
  ·rename_i r n i sz off ha
   split at h
   ·rename_i k row hk hr
    split at h
    ·rename_i hc
     obtain ⟨c1, c2, c3, c4, c5, c6⟩ := hc
     split at h
     ·rename_i c y hd
      cases h
      simp only [Ck.val, Bool.and_eq_true, decide_eq_true_eq] at hc0
      obtain ⟨hf, h0, h1, h2⟩ := hc0
      refine ⟨?_, ?_⟩
      ·have hx := dDa hd h0
       have hfz : bIa σ.toL (ρ x).toL = eEa row.t y := by rw [fFa σ _ hf, hx]
       simp only [aDa, ha, toL, hk, cIa, hr, Option.map_some, Option.bind_eq_bind, Option.bind_some, gAa, hfz]
       rw [if_pos (by
        simp only [aYa.toL, List.length_map]
        exact ⟨h1, c1, c2, c3, c4, h2, by rw [gHa, fDa]; exact c5, cXa _ _, c6⟩)]
       rw [hWa, dUa]
       simp only [aYa.toL, List.map_set, toL.toLs]
      ·exact bYa _ _
     ·cases h
    ·cases h
   ·cases h
  ·cases h
 case binOp op t x y rt =>
  simp only [opK] at h
  split at h
  ·rename_i c v' hb; cases h
   exact ⟨by simp only [aDa, zLa hb hc0, Option.map_some], rfl⟩
  ·cases h
 case unOp op t x =>
  simp only [opK] at h
  split at h
  ·rename_i v' hb; cases h
   exact ⟨by simp only [aDa, iYb hb, Option.map_some], rfl⟩
  ·cases h
 case convert src dst x =>
  simp only [opK] at h
  split at h
  ·rename_i h1 h2
   split at h
   ·rename_i h3; cases h
    exact ⟨by simp only [aDa, h1, h2, cCa h3, fTa], rfl⟩
   ·cases h
  ·rename_i h1 h2
   split at h
   ·rename_i h3; cases h
    exact ⟨by simp only [aDa, h1, h2, hCa h3, fTa], rfl⟩
   ·cases h
  ·rename_i h1 h2
   split at h
   ·rename_i h3 h4; cases h
    exact ⟨by simp only [aDa, h1, h2, h3, h4, toL, fNa, Option.bind_eq_bind, Option.bind_some, eVa], rfl⟩
   ·rename_i l h3 h4; cases h
    have he := cRa (σ := σ) (v := .lst .byte l) (s := ⟨.byte, l⟩) (c := .ok) rfl rfl
    refine ⟨?_, rfl⟩
    simp only [aDa, h1, h2, h3, h4, he, Option.bind_eq_bind, Option.bind_some]
    exact (congrArg (fun o => Option.bind o fun bs => some (LV.str ⟨List.toArray bs⟩, σ.toL)) (mBa l)).trans rfl
   ·rename_i r n h3 h4
    split at h
    ·rename_i l e sz wr hr
     cases h
     have he := cRa (σ := σ) (v := .mref r n) (s := ⟨.byte, l⟩) (c := .is (decide (List.length l = n))) (by simp only [qNa, hr]) hc0
     refine ⟨?_, rfl⟩
     simp only [aDa, h1, h2, h3, h4, he, Option.bind_eq_bind, Option.bind_some]
     exact (congrArg (fun o => Option.bind o fun bs => some (LV.str ⟨List.toArray bs⟩, σ.toL)) (mBa l)).trans rfl
    ·cases h
   ·cases h
  ·rename_i h1 h2
   split at h
   ·rename_i h4 h3
    cases h
    simp only [Ck.val, decide_eq_true_eq] at hc0
    exact ⟨by simp only [aDa, h1, h2, hCa h3, h4, hc0, if_true]; rfl, rfl⟩
   ·cases h
  ·cases h
 case nilCheck x =>
  simp only [opK] at h
  split at h
  all_goals first
   | (rename_i hx; cases h; exact ⟨by simp only [aDa, hx, toL], rfl⟩)
   | cases h
 case makeFunc fn fst caps =>
  simp only [opK] at h
  split at h
  ·cases h
  ·rename_i hfn
   cases h
   refine ⟨?_, rfl⟩
   simp only [aDa, toL, aHa, List.map_map]
   cases fn <;> first | (exact absurd rfl (hfn _)) | rfl
 case slice t x lo hi mx =>
  simp only [opK] at h
  have hmap : ∀ o : Option Operand, (o.map ρ).map toL = o.map fun y => (ρ y).toL := fun o => by cases o <;> rfl
  split at h
  ·rename_i h1
   split at h
   ·cases h
   ·rename_i hm
    split at h
    ·rename_i h2
     split at h
     ·rename_i c hh e1
      split at h
      ·rename_i c' l e2
       cases h
       simp only [Ck.val, Bool.and_eq_true] at hc0
       have e1 := iDa e1 hc0.1
       have e2 := cKa e2 hc0.2
       rw [hmap] at e1 e2
       refine ⟨?_, rfl⟩
       simp only [aDa, h1, hCa h2, hm, Bool.false_eq_true, if_false, dHa, e1, e2, Option.bind_some, Option.map_some, toL]
      ·cases h
     ·cases h
    ·cases h
  ·rename_i e h1
   split at h
   ·rename_i hnil
    have hx : ρ x = .nils := by
     cases hρ : ρ x <;> rw [hρ] at hnil <;> first | rfl | cases hnil
    split at h
    ·cases h
    ·rename_i hm
     split at h
     ·rename_i sz c hh h2 e1
      split at h
      ·rename_i c' l e2
       cases h
       simp only [Ck.val, Bool.and_eq_true] at hc0
       have e1 := iDa e1 hc0.1
       have e2 := cKa e2 hc0.2
       rw [hmap] at e1 e2
       refine ⟨?_, rfl⟩
       simp only [aDa, h1, h2, hx, toL, hm, Bool.false_eq_true, if_false, dHa, e1, e2, Option.bind_some, Option.map_some]
      ·cases h
     ·cases h
   ·rename_i hnil
    split at h
    ·rename_i sz c1 r row a b h2 hp
     split at h
     ·rename_i m
      split at h
      ·rename_i c q hi' e0
       split at h
       ·rename_i c' hh e1
        split at h
        ·rename_i c'' l e2
         cases h
         simp only [Ck.val, Bool.and_eq_true] at hc0
         obtain ⟨p1, p2, p3, p4⟩ := iLa hp hc0.1
         have e0 := cKa e0 hc0.2.1
         have e1 := cKa e1 hc0.2.2.1
         have e2 := cKa e2 hc0.2.2.2
         rw [hmap] at e2
         simp only [Option.map_some] at e0 e1
         refine ⟨?_, rfl⟩
         have hne : (ρ x).toL ≠ .nils := by
          intro hx
          cases hρ : ρ x <;> rw [hρ] at hnil hx <;> first | (cases hx; done) | (cases hnil; done)
         obtain ⟨lv, hlv⟩ : ∃ lv, (ρ x).toL = lv := ⟨_, rfl⟩
         rw [hlv] at hne p1
         simp only [aDa, h1, hlv]
         cases lv <;> first
          | exact absurd rfl hne
          | simp only [h2, Option.bind_some, if_true, p1, e0, e1, e2, toL]
        ·cases h
       ·cases h
      ·cases h
     ·split at h
      ·rename_i c hh e1
       split at h
       ·rename_i c' l e2
        split at h
        ·rename_i hz
         cases h
         simp only [Ck.val, Bool.and_eq_true] at hc0
         obtain ⟨p1, p2, p3, p4⟩ := iLa hp hc0.1
         have e1 := iDa e1 hc0.2.1
         have e2 := cKa e2 hc0.2.2
         rw [hmap] at e1 e2
         have hm' : (none : Option Operand).isSome = false := rfl
         refine ⟨?_, rfl⟩
         cases hρ : ρ x <;> rw [hρ] at hp p1 hnil <;> simp only [eFb] at hp <;> try (cases hp; done)
         ·rename_i r' n'
          split at hp
          ·rename_i row' hr'
           cases hp
           have hn := hc0.1
           simp only [Ck.val, decide_eq_true_eq] at hn
           subst hn
           simp only [toL] at p1
           simp only [aDa, h1, hρ, toL, h2, Option.bind_some, if_true, p1, hm']
           rw [if_pos ⟨trivial, hz⟩]
           simp only [dHa, e1, e2, Option.bind_some, Option.map_some]
          ·cases hp
         ·rename_i r' n' lo' hi' z'
          split at hp
          ·rename_i row' hr'
           cases hp
           have hn := (kAa.1 hc0.1).1
           subst hn
           simp only [toL] at p1
           simp only [aDa, h1, hρ, toL, h2, Option.bind_some, if_true, p1, hm']
           rw [if_pos ⟨trivial, hz⟩]
           simp only [dHa, e1, e2, Option.bind_some, Option.map_some]
          ·cases hp
        ·cases h
       ·cases h
      ·cases h
    ·cases h
   ·rename_i hnil
    have hne : (ρ x).toL ≠ .nils := by
     intro hx
     cases hρ : ρ x <;> rw [hρ] at hnil hx <;> first | (cases hx; done) | (cases hnil; done)
    have hel : ∀ (sz : Nat) (ty' : Ty) (es : List ty'.den), (ty'.ncells == sz || es.isEmpty) = true → bGa sz (es.map (eEa ty')) = true := by
     intro sz ty' es hok
     simp only [Bool.or_eq_true, beq_iff_eq, List.isEmpty_iff] at hok
     rcases hok with hok | rfl
     ·exact cWa _ _ _ hok
     ·rfl
    split at h
    ·rename_i sz c1 ty' es h2 he0
     split at h
     ·split at h
      ·rename_i c hh e1
       split at h
       ·rename_i c' l e2
        split at h
        ·rename_i hok
         cases h
         simp only [Ck.val, Bool.and_eq_true] at hc0
         have e1 := iDa e1 hc0.2.1
         have e2 := cKa e2 hc0.2.2
         rw [hmap] at e1 e2
         have he := cRa he0 hc0.1
         refine ⟨?_, bYa _ _⟩
         have hrw := gAa (ρ x)
         obtain ⟨lv, hlv⟩ : ∃ lv, (ρ x).toL = lv := ⟨_, rfl⟩
         rw [hlv] at hne he hrw
         simp only [aDa, h1, hlv]
         cases lv <;> first
          | exact absurd rfl hne
          | simp only [h2, he, Option.bind_some, Bool.false_eq_true, if_false, List.length_map, dHa, e1, e2, hel _ _ _ hok, if_true, hrw, dUa, toL, hNa, List.map_take, List.map_drop]
        ·cases h
       ·cases h
      ·cases h
     ·rename_i m
      split at h
      ·rename_i c q hi' e0
       split at h
       ·rename_i c' hh e1
        split at h
        ·rename_i c'' l e2
         split at h
         ·rename_i hok
          cases h
          simp only [Ck.val, Bool.and_eq_true] at hc0
          have e0 := cKa e0 hc0.2.1
          have e1 := cKa e1 hc0.2.2.1
          have e2 := cKa e2 hc0.2.2.2
          rw [hmap] at e2
          simp only [Option.map_some] at e0 e1
          have he := cRa he0 hc0.1
          refine ⟨?_, bYa _ _⟩
          have hrw := gAa (ρ x)
          obtain ⟨lv, hlv⟩ : ∃ lv, (ρ x).toL = lv := ⟨_, rfl⟩
          rw [hlv] at hne he hrw
          simp only [aDa, h1, hlv]
          cases lv <;> first
           | exact absurd rfl hne
           | simp only [h2, he, Option.bind_some, Bool.false_eq_true, if_false, List.length_map, e0, e1, e2, hel _ _ _ hok, if_true, hrw, dUa, toL, hNa, List.map_take, List.map_drop]
         ·cases h
        ·cases h
       ·cases h
      ·cases h
    ·cases h
  ·cases h
 case fieldAddr s x f =>
  simp only [opK] at h
  split at h
  ·rename_i off t hf
   split at h
   ·rename_i n hn
    split at h
    ·cases h
    ·rename_i h0
     simp only [aDa, hf, hn, Option.bind_eq_bind, Option.bind_some, h0, if_false]
     split at h
     ·rename_i hx; cases h; exact ⟨by simp only [hx, toL], rfl⟩
     ·rename_i cs hx
      split at h
      ·rename_i hl; cases h
       exact ⟨by simp only [hx, toL, aHa, List.length_map, hl, if_true, List.map_drop], rfl⟩
      ·cases h
     ·rename_i hx; cases h; exact ⟨by simp only [hx, toL], rfl⟩
     ·cases h
   ·cases h
  ·cases h
 case field s x f =>
  simp only [opK] at h
  split at h
  ·rename_i off t cs hf hx
   split at h
   ·rename_i v' hr; cases h
    refine ⟨?_, rfl⟩
    simp only [aDa, hf, hx, Option.bind_eq_bind, Option.bind_some, toL, aHa]
    rw [← List.map_drop, iOa, hr]; rfl
   ·cases h
  ·cases h
 case indexAddr t x i =>
  simp only [opK] at h
  split at h
  ·rename_i m e hu
   split at h
   ·rename_i sz kk k hs hk
    have hk : cJa (ρ i).toL = some k := by rw [cCa hk]; rfl
    split at h
    ·rename_i hb
     simp only [aDa, hu, hs, hk, Option.bind_some, if_pos hb]
     split at h
     ·rename_i hx; cases h; exact ⟨by simp only [hx, toL], rfl⟩
     ·rename_i cs hx
      split at h
      ·rename_i hl; cases h
       exact ⟨by simp only [hx, toL, aHa, List.length_map, hl, if_true, List.map_drop], rfl⟩
      ·cases h
     ·rename_i hx; cases h; exact ⟨by simp only [hx, toL], rfl⟩
     ·cases h
    ·cases h
   ·cases h
  rename_i hna
  have hop : ∀ lv σ1, (do
   let e ← fMa P t
   let sz ← bKa P e
   let k ← cJa (ρ i).toL
   if 0 ≤ k then match (ρ x).toL with
    | .slice es => do
     let y ← es[k.toNat]?
     if y.cells.length = sz ∧ storable y ∧ 0 < sz then some (.pptr y.cells, σ.toL) else none
    | .mref r n => do
     let row ← σ.toL.rows[r]?
     if row.xs.length = n ∧ row.sz = sz ∧ k < n then some (.rptr r n k.toNat sz 0, σ.toL) else none
    | .mview r n lo hi sz' => do
     let row ← σ.toL.rows[r]?
     if row.xs.length = n ∧ row.sz = sz ∧ sz' = sz ∧ lo ≤ hi ∧ hi ≤ n ∧ k < (hi - lo : Nat) then some (.rptr r n (lo + k.toNat) sz 0, σ.toL) else none
    | _ => none
   else none) = some (lv, σ1) → aDa P own { dst := d, op := .indexAddr t x i, type := ty, pos := pos, after := af, guard := gd } (fun y => (ρ y).toL) σ.toL = some (lv, σ1) := by
   intro lv σ1 hh
   simp only [aDa]
   exact hh
  split at h
  ·rename_i e he
   split at h
   ·rename_i sz st kk k hs hk
    have hk : cJa (ρ i).toL = some k := by rw [cCa hk]; rfl
    simp only [he, hs, hk, Option.bind_eq_bind, Option.bind_some] at hop
    split at h
    ·rename_i ty' l hx
     split at h
     ·rename_i hz
      cases h
      simp only [Ck.val, jXa, Bool.and_eq_true, decide_eq_true_eq] at hc0
      obtain ⟨h1, h2⟩ := hc0
      refine ⟨hop _ _ ?_, rfl⟩
      have hlt : k.toNat < l.length := by omega
      have hy : (l.map (eEa ty'))[k.toNat]? = some (eEa ty' (l.getD k.toNat ty'.dfl)) := by
       simp only [List.getElem?_map, List.getD_eq_getElem?_getD, List.getElem?_eq_getElem hlt, Option.map_some, Option.getD_some]
      simp only [if_pos h1, hx, toL, hNa, hy, Option.bind_some]
      rw [if_pos ⟨by rw [gHa, fDa]; exact hz.1, cXa _ _, hz.2⟩]
      rw [gHa, tQa, aHa, fJa]
     ·cases h
    ·rename_i r n hx
     split at h
     ·rename_i row hr
      split at h
      ·rename_i hz
       cases h
       simp only [Ck.val, jXa, Bool.and_eq_true, decide_eq_true_eq] at hc0
       obtain ⟨h1, h2, h3⟩ := hc0
       refine ⟨hop _ _ ?_, rfl⟩
       simp only [if_pos h1, hx, toL, cIa, hr, Option.map_some, Option.bind_some]
       rw [if_pos (by simp only [aYa.toL, List.length_map]; exact ⟨h2, hz, h3⟩)]
      ·cases h
     ·cases h
    ·rename_i r n lo hi sz' hx
     split at h
     ·rename_i row hr
      split at h
      ·rename_i hz
       cases h
       simp only [Ck.val, jXa, Bool.and_eq_true, decide_eq_true_eq, kAa] at hc0
       obtain ⟨h1, h2, h3⟩ := hc0
       refine ⟨hop _ _ ?_, rfl⟩
       simp only [if_pos h1, hx, toL, cIa, hr, Option.map_some, Option.bind_some]
       rw [if_pos (by simp only [aYa.toL, List.length_map]; exact ⟨h2.1, hz.1, hz.2, h2.2.2.1, h2.2.2.2, h3⟩)]
      ·cases h
     ·cases h
    ·rename_i es hx
     cases st with
     | false => cases h
     | true =>
      rw [cond_true] at h
      split at h
      ·rename_i y hy
       split at h
       ·rename_i hz
        cases h
        refine ⟨hop _ _ ?_, rfl⟩
        have hy' : (toLs es)[k.toNat]? = some y.toL := by rw [aHa, List.getElem?_map, hy]; rfl
        simp only [if_pos hz.2.2.2, hx, toL, hy', Option.bind_some]
        rw [if_pos ⟨by rw [dSa, List.length_map]; exact hz.1, by rw [ePa]; exact hz.2.1, hz.2.2.1⟩]
        rw [dSa, aHa]
       ·cases h
      ·cases h
    ·cases h
   ·cases h
  ·cases h
 case index t x i =>
  simp only [opK] at h
  split at h
  ·rename_i h1
   split at h
   ·rename_i ss s st kk k h2 hk
    have hk : cJa (ρ i).toL = some k := by rw [cCa hk]; rfl
    cases h
    simp only [Ck.val, jXa, Bool.and_eq_true, decide_eq_true_eq] at hc0
    obtain ⟨h3, h4⟩ := hc0
    refine ⟨?_, rfl⟩
    have hlt : k.toNat < s.size := by omega
    simp only [aDa, h1, hCa h2, hk, Option.bind_eq_bind, Option.bind_some, if_pos h3]
    have hs : s[k.toNat]? = some s[k.toNat] := by simp [hlt]
    have hg : s.data.toList.getD k.toNat 0 = s[k.toNat] := by
     rw [List.getD_eq_getElem?_getD, List.getElem?_eq_getElem (by simpa using hlt)]
     simp [ByteArray.getElem_eq_getElem_data]
    rw [hs, hg]; rfl
   ·cases h
  ·rename_i m e hu
   split at h
   ·rename_i cs kk k sz hx hk hs
    have hk : cJa (ρ i).toL = some k := by rw [cCa hk]; rfl
    split at h
    ·rename_i hb
     split at h
     ·rename_i v' hr
      cases h
      refine ⟨?_, rfl⟩
      simp only [aDa, hu, hx, hk, hs, Option.bind_eq_bind, Option.bind_some, toL, aHa, if_pos hb]
      rw [← List.map_drop, iOa, hr]; rfl
     ·cases h
    ·cases h
   ·cases h
  ·cases h
 case makeMap t r =>
  simp only [opK] at h
  split at h
  ·rename_i k e hu
   split at h
   ·rename_i ke kt vt hm hk he
    cases h
    refine ⟨?_, rfl⟩
    have hl : σ.toL.maps.length = σ.maps.length := by simp [KSt.toL]
    simp only [aDa, hm, Option.map_some, hl, toL]
    simp only [KSt.toL, List.map_append, List.map, tJa.toL]
   ·cases h
  ·cases h
 case mapUpdate t m k v0 =>
  simp only [opK] at h
  split at h
  ·rename_i m' hm0
   split at h
   ·rename_i e str q hm hq
    split at h
    ·rename_i hk
     split at h
     ·rename_i c1 x c2 y hd1 hd2
      cases h
      simp only [Ck.val, Bool.and_eq_true, decide_eq_true_eq] at hc0
      obtain ⟨hf, h1, h2, h3⟩ := hc0
      have hx := dDa hd1 h1
      have hy := dDa hd2 h2
      have hfz : bIa σ.toL (ρ v0).toL = eEa q.vt y := by rw [fFa σ _ hf, hy]
      have hpos : mOa str (eEa q.kt x) q.toL.ks = some (aLb q.kt q.vt x q.l) := kMa hk x q.l
      have hlen : q.toL.ks.length < bBa := by simpa [tJa.toL] using h3
      refine ⟨?_, by simp only [bYa]⟩
      have hset : ∀ q' : tJa, ({ hMa σ (fPa (ρ v0)) with maps := σ.maps.set m' q' } : KSt).toL = { gVa σ.toL (aQa (ρ v0).toL) with maps := σ.toL.maps.set m' q'.toL } := by
       intro q'
       rw [gAa, dUa]
       simp only [KSt.toL, List.map_set]
      simp only [aDa, hm0, toL, hm, pNa, hq, Option.map_some, Option.bind_some, hx, hpos, hfz]
      rw [if_pos ⟨cXa _ _, hlen⟩, hset]
      cases hp : aLb q.kt q.vt x q.l with
      | some i => simp only [qLb, hp, tJa.toL, List.map_set, toL.toLs]
      | none =>
       obtain ⟨sv, hs⟩ := oUb hk x
       simp only [qLb, hp, tJa.toL, hs, List.map_append, List.map, toL.toLs]
     ·cases h
    ·cases h
   ·cases h
  ·cases h
 case lookup t m k ok =>
  simp only [opK] at h
  split at h
  ·rename_i m' hm0
   split at h
   ·rename_i e str q hm hq
    split at h
    ·rename_i hk
     split at h
     ·rename_i c1 x z hd1 hz
      split at h
      ·rename_i c2 z' hd2
       cases h
       simp only [Ck.val, Bool.and_eq_true] at hc0
       have hx := dDa hd1 hc0.1
       have hy := dDa hd2 hc0.2
       have hpos : mOa str (eEa q.kt x) q.toL.ks = some (aLb q.kt q.vt x q.l) := kMa hk x q.l
       have hzl : kBa P e = some (eEa q.vt z') := by rw [sNa, hz, Option.map_some, hy]
       refine ⟨?_, rfl⟩
       simp only [aDa, hm0, toL, hm, pNa, hq, Option.map_some, Option.bind_some, hx, hpos, hzl]
       cases hp : aLb q.kt q.vt x q.l with
       | some i =>
        have hlt := mMb hp
        have hv : q.toL.vs[i]? = some (eEa q.vt (nMb q.kt q.vt x z' q.l)) := by
         simp only [tJa.toL, nMb, hp, List.getElem?_map, List.getElem?_eq_getElem hlt, Option.map_some, List.getD_eq_getElem?_getD, Option.getD_some]
        simp only [hv, Option.map_some, qEb, hp, Option.isSome_some]
        cases ok <;> simp only [cond_true, cond_false, toL, toL.toLs, kRa]
       | none =>
        have hg : nMb q.kt q.vt x z' q.l = z' := by simp only [nMb, hp]
        simp only [qEb, hp, hg, Option.isSome_none]
        cases ok <;> simp only [cond_true, cond_false, toL, toL.toLs, kRa]
      ·cases h
     ·cases h
    ·cases h
   ·cases h
  ·cases h
 case makeSlice t l c =>
  simp only [opK] at h
  split at h
  ·rename_i e he
   split at h
   ·rename_i sz bs s k n s' k' m hs hb hl hc
    split at h
    ·rename_i hcc
     split at h
     ·rename_i c1 v1 σ1 hr
      cases h
      simp only [Ck.val, Bool.and_eq_true, jXa, decide_eq_true_eq] at hc0
      obtain ⟨h1, h2, h3, h4⟩ := hc0
      obtain ⟨z, z1, z2, z3, z4, z5⟩ := lEa hr h4
      refine ⟨?_, z5⟩
      simp only [aDa, he, hs, z1, hb, cCa hl, cCa hc, cJa, Option.bind_some]
      rw [if_pos ⟨h1, h2, h3, hcc.1, hcc.2, z2, z3⟩, z4]
     ·cases h
    ·cases h
   ·cases h
  ·cases h
 case extract t i =>
  simp only [opK] at h
  split at h
  ·rename_i vs hx
   split at h
   ·rename_i v' hv; cases h
    refine ⟨?_, rfl⟩
    simp only [aDa, hx, toL, aHa, List.getElem?_map, hv, Option.map_some]
   ·cases h
  ·cases h
 case call c =>
  simp only [opK] at h
  split at h
  all_goals first
   | (rename_i hc; cases hc; done)
   | (cases h; done)
   | skip
  ·rename_i b args ats hc
   cases hc
   simp only [aDa]
   have e : (args.toList.map fun y => (ρ y).toL) = (args.toList.map ρ).map toL := by rw [List.map_map]; rfl
   rw [e]
   cases hb : (own && rEa b) with
   | true => rw [hb] at h; exact oZa h hc0
   | false => rw [hb] at h; exact sVa h hc0
 all_goals (simp only [opK] at h; try cases h)
end Go.Proofs.YtpeaaophmddhnaaGreat.LI
