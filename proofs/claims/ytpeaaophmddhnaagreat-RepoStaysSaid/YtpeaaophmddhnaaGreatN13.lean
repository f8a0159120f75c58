/-
  An interpreter over values is sound, part 13.
-/
import Derived.Test.YtpeaaophmddhnaaGreatN12
namespace Go.Proofs.YtpeaaophmddhnaaGreat.LI
open Go Go.RowKit
open KV (toL)
open KV.toL (toLs)
theorem iLb {u w : Value} (h : iKb u w = true) : u = w := by
 unfold iKb at h
 split at h
 ·split at h <;> first | rfl | cases h
 ·simp only [Bool.and_eq_true, decide_eq_true_eq] at h
  rw [h.1, h.2]
 ·rename_i a b
  simp only [decide_eq_true_eq] at h
  congr 1
  apply ByteArray.ext
  exact Array.toList_inj.1 h
 ·rfl
 ·rfl
 ·rfl
 ·rfl
 ·cases h
theorem eMb {u w : Value} (h : aRb u w = true) : u = w := by
 unfold aRb at h
 split at h <;> first | rfl | cases h
theorem qBa {a b : Nat} (h : Nat.beq a b = true) : a = b := Nat.eq_of_beq_eq_true h
set_option linter.unusedSectionVars false
section
variable {rows rows' : List aYa} (hlen : ∀ r, hAa rows' r = hAa rows r)
include hlen
mutual
theorem dOb : ∀ (s : Shp) (ρ : Type) (v : KV) (x : ρ) (c : Ck) (y : s.den ρ), qKa rows s ρ v x = some (c, y) → c.val = true → (hEa rows' s ρ y).1.toL = v.toL ∧ (hEa rows' s ρ y).2 = x
 | .undef, ρ, v, x, c, y, h, hc => by
  simp only [qKa] at h
  split at h <;> cases h
  exact ⟨rfl, rfl⟩
 | .nils, ρ, v, x, c, y, h, hc => by
  simp only [qKa] at h
  split at h <;> cases h
  exact ⟨rfl, rfl⟩
 | .empt, ρ, v, x, c, y, h, hc => by
  simp only [qKa] at h
  split at h
  ·split at h
   ·cases h; exact ⟨rfl, rfl⟩
   ·cases h
  ·cases h
 | .ty t, ρ, v, x, c, y, h, hc => by
  simp only [qKa] at h
  split at h
  ·rename_i c' d hd
   cases h
   refine ⟨?_, rfl⟩
   simp only [lWb, kRa]
   exact (dDa hd hc).symm
  ·cases h
 | .st u, ρ, v, x, c, y, h, hc => by
  simp only [qKa] at h
  split at h
  ·split at h
   ·rename_i hs; cases h
    exact ⟨by simp only [gPb, cWb, toL, iLb hs], rfl⟩
   ·cases h
  ·split at h
   ·rename_i hs; cases h
    exact ⟨by simp only [gPb, cWb, toL, eMb hs], rfl⟩
   ·cases h
  ·cases h
 | .mref r, ρ, v, x, c, y, h, hc => by
  simp only [qKa] at h
  split at h
  ·split at h
   ·rename_i hs; cases h
    simp only [Ck.val, decide_eq_true_eq] at hc
    exact ⟨by simp only [gNb, toL, ← qBa hs, hlen, hc], rfl⟩
   ·cases h
  ·cases h
 | .mview r sz, ρ, v, x, c, y, h, hc => by
  simp only [qKa] at h
  split at h
  ·split at h
   ·rename_i hs; cases h
    simp only [Bool.and_eq_true] at hs
    simp only [Ck.val, decide_eq_true_eq] at hc
    exact ⟨by simp only [dSb, toL, ← qBa hs.1, ← qBa hs.2, hlen, hc], rfl⟩
   ·cases h
  ·cases h
 | .mapr m, ρ, v, x, c, y, h, hc => by
  simp only [qKa] at h
  split at h
  ·split at h
   ·rename_i hs; cases h
    exact ⟨by simp only [gMb, toL, qBa hs], rfl⟩
   ·cases h
  ·cases h
 | .agg cs, ρ, v, x, c, y, h, hc => by
  simp only [qKa] at h
  split at h
  ·obtain ⟨h1, h2⟩ := cVa cs ρ _ x c y h hc
   exact ⟨by simp only [jQb, toL]; exact congrArg LV.agg h1, h2⟩
  ·cases h
 | .tuple cs, ρ, v, x, c, y, h, hc => by
  simp only [qKa] at h
  split at h
  ·obtain ⟨h1, h2⟩ := cVa cs ρ _ x c y h hc
   exact ⟨by simp only [dTb, toL]; exact congrArg LV.tuple h1, h2⟩
  ·cases h
 | .bptr b o, ρ, v, x, c, y, h, hc => by
  simp only [qKa] at h
  split at h
  ·split at h
   ·rename_i hs; cases h
    simp only [Bool.and_eq_true] at hs
    exact ⟨by simp only [gKb, toL, qBa hs.1, qBa hs.2], rfl⟩
   ·cases h
  ·cases h
 | .rptr r sz o, ρ, v, x, c, y, h, hc => by
  simp only [qKa] at h
  split at h
  ·split at h
   ·rename_i hs; cases h
    simp only [Bool.and_eq_true] at hs
    simp only [Ck.val, decide_eq_true_eq] at hc
    exact ⟨by simp only [gOb, toL, ← qBa hs.1, ← qBa hs.2.1, ← qBa hs.2.2, hlen, hc], rfl⟩
   ·cases h
  ·cases h
 | .func f fst caps, ρ, v, x, c, y, h, hc => by
  simp only [qKa] at h
  split at h
  ·split at h
   ·rename_i hs
    split at h
    ·rename_i c1 y1 h1
     split at h
     ·rename_i c2 y2 h2
      cases h
      simp only [Ck.val, Bool.and_eq_true] at hc
      obtain ⟨a1, a2⟩ := cVa caps ρ _ x c1 y1 h1 hc.1
      obtain ⟨b1, b2⟩ := cVa fst _ _ y1 c2 y h2 hc.2
      simp only [gLb, toL, b2]
      refine ⟨?_, a2⟩
      rw [qBa hs]
      exact congr (congrArg _ b1) a1
     ·cases h
    ·cases h
   ·cases h
  ·cases h
 | .yield l, ρ, v, x, c, y, h, hc => by
  simp only [qKa] at h
  split at h
  ·split at h
   ·rename_i hs; cases h
    exact ⟨by simp only [dUb, toL, qBa hs], rfl⟩
   ·cases h
  ·cases h
theorem cVa : ∀ (ss : List Shp) (ρ : Type) (vs : List KV) (x : ρ) (c : Ck) (y : dens ss ρ), qKa.decSs rows ss ρ vs x = some (c, y) → c.val = true → toLs (hEa.encSs rows' ss ρ y).1 = toLs vs ∧ (hEa.encSs rows' ss ρ y).2 = x
 | [], ρ, vs, x, c, y, h, hc => by
  simp only [qKa.decSs] at h
  split at h <;> cases h
  exact ⟨rfl, rfl⟩
 | s :: ss, ρ, vs, x, c, y, h, hc => by
  simp only [qKa.decSs] at h
  split at h
  ·rename_i v vs
   split at h
   ·rename_i c1 y1 h1
    split at h
    ·rename_i c2 y2 h2
     cases h
     simp only [Ck.val, Bool.and_eq_true] at hc
     obtain ⟨a1, a2⟩ := cVa ss ρ _ x c1 y1 h1 hc.2
     obtain ⟨b1, b2⟩ := dOb s _ v y1 c2 y h2 hc.1
     simp only [dVb, toLs, b1, b2, a1, a2, and_self]
    ·cases h
   ·cases h
  ·cases h
end
theorem kXa : ∀ (bs : List (List Shp)) (ρ : Type) (ks : List (List KV)) (x : ρ) (c : Ck) (y : boxesDen bs ρ), mEa rows bs ρ ks x = some (c, y) → c.val = true → (mJa rows' bs ρ y).1.map toLs = ks.map toLs ∧ (mJa rows' bs ρ y).2 = x
 | [], ρ, ks, x, c, y, h, hc => by
  simp only [mEa] at h
  split at h <;> cases h
  exact ⟨rfl, rfl⟩
 | b :: bs, ρ, ks, x, c, y, h, hc => by
  simp only [mEa] at h
  split at h
  ·split at h
   ·rename_i c1 y1 h1
    split at h
    ·rename_i c2 y2 h2
     cases h
     simp only [Ck.val, Bool.and_eq_true] at hc
     obtain ⟨a1, a2⟩ := kXa bs ρ _ x c1 y1 h1 hc.2
     obtain ⟨b1, b2⟩ := cVa hlen b _ _ y1 c2 y h2 hc.1
     simp only [mJa, List.map_cons, b1, b2, a1, a2, and_self]
    ·cases h
   ·cases h
  ·cases h
omit hlen in
theorem dCb : ∀ {n : Nat} {vs us : List KV}, jAb n vs = some us → nQb us vs.length = vs
 | 0, vs, us, h => by
  simp only [jAb] at h
  split at h
  ·rename_i ha
   cases h
   simp only [nQb, List.nil_append, List.length_nil, Nat.sub_zero]
   rw [List.all_eq_true] at ha
   symm
   rw [List.eq_replicate_iff]
   refine ⟨rfl, fun v hv => ?_⟩
   have := ha v hv
   split at this
   ·rfl
   ·cases this
  ·cases h
 | n + 1, [], us, h => by cases h
 | n + 1, v :: vs, us, h => by
  simp only [jAb] at h
  split at h
  ·rename_i us' h1
   cases h
   have := dCb h1
   simp only [nQb, List.cons_append, List.length_cons, Nat.add_sub_add_right] at this ⊢
   rw [this]
  ·cases h
omit hlen in
theorem aSb {ex : Ex} {c : Option Code} (h : wHa ex c = true) : ex.code = c := by
 unfold wHa at h
 split at h
 ·rfl
 ·rfl
 ·rw [qBa h]; rfl
 ·rw [qBa h]; rfl
 ·cases h
theorem kYa {P : Program} : ∀ (ls : List kXb) (ρ : Type) (ks : List hJa) (x : ρ) (c : Ck) (y : loopsDen ls ρ), mFa P rows ls ρ ks x = some (c, y) → c.val = true →
  (ls.all fun l => Nat.beq ((aFa (aWa P l.fn)).filter fun a => aCa a.2.1 == some l.key).length 1) = true → (∀ k ∈ ks, (k.params, k.assign, k.body) ∈ aFa (aWa P k.env.fn)) →
  (iGa P rows' ls ρ y).1.map hJa.toL = ks.map hJa.toL ∧ (iGa P rows' ls ρ y).2 = x
 | [], ρ, ks, x, c, y, h, hc, hk, hm => by
  simp only [mFa] at h
  split at h <;> cases h
  exact ⟨rfl, rfl⟩
 | l :: ls, ρ, ks, x, c, y, h, hc, hk, hm => by
  simp only [List.all_cons, Bool.and_eq_true] at hk
  simp only [mFa] at h
  split at h
  ·rename_i k ks
   split at h
   ·rename_i hs
    simp only [Bool.and_eq_true, beq_iff_eq, decide_eq_true_eq] at hs
    obtain ⟨s1, s2, s3, s4, s5⟩ := hs
    split at h
    ·rename_i c1 y1 h1
     split at h
     ·rename_i vs hu
      split at h
      ·rename_i c2 y2 h2
       cases h
       simp only [Ck.val, Bool.and_eq_true] at hc
       obtain ⟨a1, a2⟩ := kYa ls ρ ks x c1 y1 h1 hc.2 hk.2 (fun q hq => hm q (List.mem_cons_of_mem _ hq))
       obtain ⟨b1, b2⟩ := cVa hlen l.env _ _ y1 c2 y h2 hc.1
       simp only [iGa, List.map_cons, b2, a1, a2, and_true]
       congr 1
       have hmem := hm k (List.mem_cons_self ..)
       have hfn := qBa s1
       rw [hfn] at hmem
       have hr := bJb (qBa hk.1) hmem s2
       have hlen3 := qBa s3
       have hp := dCb hu
       rw [hlen3] at hp
       have he : toLs (nQb (hEa.encSs rows' l.env (loopsDen ls ρ) y).1 (ntm P l.fn)) = toLs k.env.t := by
        rw [← hp]
        have hl2 : (hEa.encSs rows' l.env (loopsDen ls ρ) y).1.length = vs.length := by
         have := congrArg List.length b1
         simpa only [aHa, List.length_map] using this
        simp only [nQb, cMa, b1, hl2]
       obtain ⟨⟨kf, kt⟩, kp, ka, kb, kpd, kst⟩ := k
       simp only at hfn hr he s4 s5
       subst hfn
       simp only [gJb, hJa.toL, bNa.toL, he, ← hr, aSb s4, s5]
      ·cases h
     ·cases h
    ·cases h
   ·cases h
  ·cases h
end
theorem zTa {a b c d : Ty} {l : List (a.den × b.den)} {l' : List (c.den × d.den)} (h : lTb a b c d l = some l') : tJa.toL ⟨a, b, l⟩ = tJa.toL ⟨c, d, l'⟩ := by
 unfold lTb at h
 split at h
 ·rename_i hh
  obtain ⟨rfl, rfl⟩ := hh
  cases h; rfl
 ·cases h
theorem mHa : ∀ (rs : List sUa) (ρ : Type) (ks : List aYa) (x : ρ) (y : rowsDen rs ρ), qJa rs ρ ks x = some y → (jMa rs ρ y).1.map aYa.toL = ks.map aYa.toL ∧ (jMa rs ρ y).2 = x ∧ ∀ r, hAa (jMa rs ρ y).1 r = hAa ks r
 | [], ρ, ks, x, y, h => by
  simp only [qJa] at h
  split at h <;> cases h
  exact ⟨rfl, rfl, fun _ => rfl⟩
 | r :: rs, ρ, ks, x, y, h => by
  simp only [qJa] at h
  split at h
  ·split at h
   ·rename_i hs
    simp only [Bool.and_eq_true, beq_iff_eq] at hs
    split at h
    ·rename_i l y1 hl h1
     cases h
     obtain ⟨a1, a2, a3⟩ := mHa rs ρ _ x y1 h1
     obtain ⟨c1, c2⟩ := cUa hl
     refine ⟨?_, a2, ?_⟩
     ·simp only [jMa, List.map_cons, a1, aYa.toL, ← c1, qBa hs.1, qBa hs.2.1, hs.2.2]
     ·intro n
      cases n with
      | zero => simp only [hAa, jMa, List.getElem?_cons_zero, c2]
      | succ n =>
       have := a3 n
       simp only [hAa, jMa, List.getElem?_cons_succ] at this ⊢
       exact this
    ·cases h
   ·cases h
  ·cases h
theorem mGa : ∀ (ms : List (Ty × Ty)) (ρ : Type) (ks : List tJa) (x : ρ) (y : mapsDen ms ρ), qIa ms ρ ks x = some y → (qPa ms ρ y).1.map tJa.toL = ks.map tJa.toL ∧ (qPa ms ρ y).2 = x
 | [], ρ, ks, x, y, h => by
  simp only [qIa] at h
  split at h <;> cases h
  exact ⟨rfl, rfl⟩
 | m :: ms, ρ, ks, x, y, h => by
  simp only [qIa] at h
  split at h
  ·rename_i k ks
   split at h
   ·rename_i l y1 hl h1
    cases h
    obtain ⟨a1, a2⟩ := mGa ms ρ _ x y1 h1
    have := zTa hl
    refine ⟨?_, a2⟩
    simp only [qPa, List.map_cons, a1]
    rw [← this]
   ·cases h
  ·cases h
theorem gSa {P : Program} {s : fCa} {vs : List KV} {σ : KSt} {c : Ck} {x : s.den} (h : zWa P s vs σ = some (c, x)) (hc : c.val = true) (hk : okS P s = true) (hσ : cEa P σ) :
  (aXa P s x).1.toL = σ.toL ∧ toLs (cAa P s x) = toLs vs := by
 unfold zWa at h
 split at h
 ·rename_i c1 x1 h1
  split at h
  ·rename_i c2 x2 h2
   split at h
   ·rename_i c3 x3 h3
    split at h
    ·rename_i x4 h4
     split at h
     ·rename_i x5 h5
      cases h
      simp only [Ck.val, Bool.and_eq_true] at hc
      obtain ⟨e1, e2, e3⟩ := mHa _ _ _ _ _ h5
      obtain ⟨d1, d2⟩ := mGa _ _ _ _ _ h4
      obtain ⟨b1, b2⟩ := kXa e3 _ _ _ _ _ _ h3 hc.2.2
      obtain ⟨l1, l2⟩ := kYa (P := P) e3 _ _ _ _ _ _ h2 hc.2.1 hk (fun k hk => (hσ k hk).2)
      obtain ⟨s1, s2⟩ := cVa e3 _ _ _ _ _ _ h1 hc.1
      simp only [cAa, aXa, e2, d2, b2, l2]
      exact ⟨by simp only [KSt.toL, e1, d1, b1, l1], s1⟩
     ·cases h
    ·cases h
   ·cases h
  ·cases h
 ·cases h
theorem dFa : ∀ (c : Code) (a : List Tmp × Code × Code), a ∈ aFa c → ((∀ b ∈ aGa a.2.1, b ∈ aGa c) ∧ ∀ b ∈ aFa a.2.1, b ∈ aFa c) ∧ ((∀ b ∈ aGa a.2.2, b ∈ aGa c) ∧ ∀ b ∈ aFa a.2.2, b ∈ aFa c)
 | .seq x y, a, ha => by
  simp only [aGa, aFa, List.mem_append] at ha ⊢
  rcases ha with ha | ha
  ·have h := dFa x a ha
   exact ⟨⟨fun b hb => .inl (h.1.1 b hb), fun b hb => .inl (h.1.2 b hb)⟩, ⟨fun b hb => .inl (h.2.1 b hb), fun b hb => .inl (h.2.2 b hb)⟩⟩
  ·have h := dFa y a ha
   exact ⟨⟨fun b hb => .inr (h.1.1 b hb), fun b hb => .inr (h.1.2 b hb)⟩, ⟨fun b hb => .inr (h.2.1 b hb), fun b hb => .inr (h.2.2 b hb)⟩⟩
 | .cond _ x y, a, ha => by
  simp only [aGa, aFa, List.mem_append] at ha ⊢
  rcases ha with ha | ha
  ·have h := dFa x a ha
   exact ⟨⟨fun b hb => .inl (h.1.1 b hb), fun b hb => .inl (h.1.2 b hb)⟩, ⟨fun b hb => .inl (h.2.1 b hb), fun b hb => .inl (h.2.2 b hb)⟩⟩
  ·have h := dFa y a ha
   exact ⟨⟨fun b hb => .inr (h.1.1 b hb), fun b hb => .inr (h.1.2 b hb)⟩, ⟨fun b hb => .inr (h.2.1 b hb), fun b hb => .inr (h.2.2 b hb)⟩⟩
 | .block _ x, a, ha => by
  simp only [aGa, aFa] at ha ⊢
  exact dFa x a ha
 | .scope x, a, ha => by
  simp only [aGa, aFa] at ha ⊢
  exact dFa x a ha
 | .loop x, a, ha => by
  simp only [aGa, aFa, List.mem_cons] at ha ⊢
  have h := dFa x a ha
  exact ⟨⟨fun b hb => .inr (h.1.1 b hb), h.1.2⟩, ⟨fun b hb => .inr (h.2.1 b hb), h.2.2⟩⟩
 | .rangeFunc _ ps x y, a, ha => by
  simp only [aGa, aFa, List.mem_append, List.mem_cons] at ha ⊢
  rcases ha with rfl | ha | ha
  ·exact ⟨⟨fun b hb => .inl hb, fun b hb => .inr (.inl hb)⟩, ⟨fun b hb => .inr hb, fun b hb => .inr (.inr hb)⟩⟩
  ·have h := dFa x a ha
   exact ⟨⟨fun b hb => .inl (h.1.1 b hb), fun b hb => .inr (.inl (h.1.2 b hb))⟩, ⟨fun b hb => .inl (h.2.1 b hb), fun b hb => .inr (.inl (h.2.2 b hb))⟩⟩
  ·have h := dFa y a ha
   exact ⟨⟨fun b hb => .inr (h.1.1 b hb), fun b hb => .inr (.inr (h.1.2 b hb))⟩, ⟨fun b hb => .inr (h.2.1 b hb), fun b hb => .inr (.inr (h.2.2 b hb))⟩⟩
 | .skip, _, ha => by simp [aFa] at ha
 | .label _, _, ha => by simp [aFa] at ha
 | .region _ _ _, _, ha => by simp [aFa] at ha
 | .exit _, _, ha => by simp [aFa] at ha
 | .goto _, _, ha => by simp [aFa] at ha
 | .ret, _, ha => by simp [aFa] at ha
 | .refuse _, _, ha => by simp [aFa] at ha
theorem zAa {P : Program} {f : FuncId} {key : Option Nat} (h : ((aFa (aWa P f)).filter fun a => aCa a.2.1 == key).length = 1) : iUa P f key ∈ aFa (aWa P f) := by
 unfold iUa
 have := fun b => List.mem_filter (x := b) (p := fun a : List Tmp × Code × Code => aCa a.2.1 == key) (as := aFa (aWa P f))
 generalize hl : ((aFa (aWa P f)).filter fun a => aCa a.2.1 == key) = l at *
 match l, h with
 | [b], _ => exact ((this b).1 (by simp)).1
theorem qOa {P : Program} {rows : List aYa} : ∀ (ls : List kXb) (ρ : Type) (x : loopsDen ls ρ), (ls.all fun l => Nat.beq ((aFa (aWa P l.fn)).filter fun a => aCa a.2.1 == some l.key).length 1) = true →
  ∀ lr ∈ (iGa P rows ls ρ x).1, (bSa P lr.env.fn lr.assign ∧ bSa P lr.env.fn lr.body) ∧ (lr.params, lr.assign, lr.body) ∈ aFa (aWa P lr.env.fn)
 | [], _, _, _, lr, h => by cases h
 | l :: ls, ρ, x, hk, lr, h => by
  simp only [List.all_cons, Bool.and_eq_true] at hk
  simp only [iGa, List.mem_cons] at h
  rcases h with rfl | h
  ·have hm := zAa (qBa hk.1)
   have hs := dFa _ _ hm
   exact ⟨⟨⟨hs.1.1, hs.1.2⟩, ⟨hs.2.1, hs.2.2⟩⟩, hm⟩
  ·exact qOa ls ρ _ hk.2 lr h
theorem qQa {P : Program} {s : fCa} {x : s.den} (hk : okS P s = true) : cEa P (aXa P s x).1 := qOa s.loops _ _ hk
section
variable {P : Program} {Θ : Th} {S : Cs} [FkOK S]
theorem dLb {f : FuncId} {args : List LV} {r : Res} (h : run P Θ (.call f args) = some r) : r = ⟨.normal, r.v, default, { rows := r.σ.rows }⟩ := by
 have ce : ∀ q r, hKa q = some r → r = ⟨.normal, r.v, default, { rows := r.σ.rows }⟩ := fun q r h => by
  unfold hKa at h
  split at h <;> cases h
  rfl
 rw [aUa] at h
 simp only [bEa] at h
 split at h
 ·split at h
  ·obtain ⟨v, _, h⟩ := Option.bind_eq_some_iff.1 h
   exact ce _ _ h
  ·cases h
 ·split at h
  ·obtain ⟨v, _, h⟩ := Option.bind_eq_some_iff.1 h
   obtain ⟨w, _, h⟩ := Option.bind_eq_some_iff.1 h
   exact ce _ _ h
  ·cases h
theorem pBb {v : Shp} {rows : List sUa} {y : (retS v rows).den} : (aXa P (retS v rows) y).1.toL = { rows := (aXa P (retS v rows) y).1.rows.map aYa.toL } := rfl
def nJb (P : Program) (Θ : Th) (f : FuncId) (as : List Shp) (v : Shp) (rows : List sUa) (F : dens as Unit → Option (retS v rows).den) : Prop :=
 ∀ x y, F x = some y → run P Θ (.call f (toLs (hEa.encSs [] as _ x).1)) = some ⟨.normal, ((cAa P (retS v rows) y).headD .undef).toL, default, { rows := (aXa P (retS v rows) y).1.rows.map aYa.toL }⟩
theorem oJb (hS : sSa P Θ S) (f : FuncId) (as : List Shp) (v : Shp) (rows : List sUa) : nJb P Θ f as v rows (fnT P Θ S f as v rows) := by
 intro x y h
 obtain ⟨r, h1, ⟨h2, _⟩, h3⟩ := oDa hS 1000 (.call f (hEa.encSs [] as _ x).1) _ _ trivial h
 have h1 : run P Θ (.call f (toLs (hEa.encSs [] as _ x).1)) = some r.toL := h1
 split at h3
 ·rename_i c y' hd
  obtain ⟨hc, h4⟩ := bTa (S := S) h3
  cases h4
  obtain ⟨e1, e2⟩ := gSa hd hc (by rfl) h2
  have := dLb h1
  rw [h1, this]
  have e3 : r.toL.v = ((cAa P (retS v rows) y).headD .undef).toL := by
   have e2' := congrArg (fun l => l.headD LV.undef) e2
   simp only [toLs] at e2'
   have : r.toL.v = r.v.toL := rfl
   rw [this]
   have h5 : ∀ l : List KV, (toLs l).headD LV.undef = (l.headD .undef).toL := fun l => by cases l <;> rfl
   rw [h5] at e2'
   exact e2'.symm
  have e4 : r.toL.σ.rows = (aXa P (retS v rows) y).1.rows.map aYa.toL := by
   have : r.toL.σ = r.σ.toL := rfl
   rw [this, ← e1]; rfl
  rw [e3, e4]
 ·cases h3
theorem mAb (hS : sSa P Θ S) {f : FuncId} {ash : List Shp} {v : Shp} {rows : List sUa} {F : dens ash Unit → Option (retS v rows).den} (e : F = fnT P Θ S f ash v rows) : nJb P Θ f ash v rows F := e ▸ oJb hS f ash v rows
omit [FkOK S] in
theorem sSa.addF (hS : sSa P Θ S) {f : FuncId} {ash : List Shp} {v : Shp} {rows : List sUa} {F : dens ash Unit → Option (retS v rows).den} (h : nJb P Θ f ash v rows F) : sSa P Θ (S.addF P f ash v rows F) where
 bt := fun g q args b y hq hv hc hy => by
  simp only [Cs.addF] at hq
  split at hq
  ·rename_i hg; have hg := qBa hg; subst hg; cases hq
   unfold btF at hv
   split at hv
   ·rename_i c1 x hd
    cases hv
    obtain ⟨e1, _⟩ := cVa (rows := []) (rows' := []) (fun _ => rfl) _ _ _ _ _ _ hd hc
    have := h x y hy
    rw [e1] at this
    rw [this]
    rfl
   ·split at hv
    ·rename_i p hp; exact hS.bt _ _ _ _ _ hp hv hc hy
    ·cases hv
  ·exact hS.bt _ _ _ _ _ hq hv hc hy
 bl := hS.bl
 ct := hS.ct
 xt := hS.xt
 st := hS.st
 lt := hS.lt
instance {f : FuncId} {as : List Shp} {v : Shp} {rows : List sUa} {F : dens as Unit → Option (retS v rows).den} : FkOK (S.addF P f as v rows F) := ⟨FkOK.eq (S := S), FkOK.bd (S := S), FkOK.sm (S := S)⟩
theorem uDa {α β : Type} {step : α → Option (α ⊕ β)} : ∀ {n : Nat} {x : α} {y : β}, lMa step n x = some y → lMa step (n + 1) x = some y
 | 0, _, _, h => by cases h
 | n + 1, x, y, h => by
  simp only [lMa, Option.bind_eq_some_iff] at h ⊢
  obtain ⟨q, h1, h2⟩ := h
  refine ⟨q, h1, ?_⟩
  cases q with
  | inl z => have := uDa h2; simpa only [Sum.elim_inl, lMa, Option.bind_eq_some_iff] using this
  | inr z => exact h2
theorem cHb {α β : Type} {step : α → Option (α ⊕ β)} {n m : Nat} (hnm : n ≤ m) {x : α} {y : β} (h : lMa step n x = some y) : lMa step m x = some y := by
 induction hnm with
 | refl => exact h
 | step _ ih => exact uDa ih
theorem mSa {α β : Type} {step : α → Option (α ⊕ β)} {x : α} {y : β} : pBa step x = some y ↔ ∃ n, lMa step n x = some y := by
 unfold pBa
 constructor
 ·intro h
  split at h
  ·exact ⟨_, h⟩
  ·cases h
 ·rintro ⟨n, hn⟩
  have hex : ∃ n, (lMa step n x).isSome := ⟨n, by rw [hn]; rfl⟩
  rw [dif_pos hex]
  obtain ⟨z, hz⟩ := Option.isSome_iff_exists.1 (Classical.choose_spec hex)
  rw [hz]
  have h1 := cHb (Nat.le_max_left n (Classical.choose hex)) hn
  have h2 := cHb (Nat.le_max_right n (Classical.choose hex)) hz
  rw [h1] at h2
  exact h2.symm
theorem jYb {α β : Type} (step : α → Option (α ⊕ β)) (x : α) : pBa step x = (step x).bind (Sum.elim (pBa step) some) := by
 apply Option.ext
 intro y
 rw [mSa, Option.bind_eq_some_iff]
 constructor
 ·rintro ⟨n, hn⟩
  cases n with
  | zero => cases hn
  | succ n =>
   simp only [lMa, Option.bind_eq_some_iff] at hn
   obtain ⟨q, h1, h2⟩ := hn
   refine ⟨q, h1, ?_⟩
   cases q with
   | inl z => exact mSa.2 ⟨n, h2⟩
   | inr z => exact h2
 ·rintro ⟨q, h1, h2⟩
  cases q with
  | inl z =>
   obtain ⟨n, hn⟩ := mSa.1 h2
   exact ⟨n + 1, by simp only [lMa, h1, Option.bind_some, Sum.elim_inl, hn]⟩
  | inr z => exact ⟨1, by simp only [lMa, h1, Option.bind_some, Sum.elim_inr]; exact h2⟩
theorem eOb {α β : Type} (step : α → Option (α ⊕ β)) (x : α) : jTa (pBa step) x = (step x).bind (Sum.elim (jTa (pBa step)) some) := by
 rw [jUa]; exact jYb step x
def dQa : (os : List sQa) → denO os → (o : sQa) × o.s.den
 | [], e => nomatch e
 | [o], x => ⟨o, x⟩
 | o :: o' :: os, x => match x with
  | .inl y => ⟨o, y⟩
  | .inr y => dQa (o' :: os) y
theorem cMb : ∀ (os : List sQa) (x : denO os), pDa P os x = ((dQa os x).1.ex, cAa P (dQa os x).1.s (dQa os x).2, (aXa P (dQa os x).1.s (dQa os x).2).1)
 | [], e => nomatch e
 | [o], x => by simp only [pDa, hZa, dQa]
 | o :: o' :: os, .inl x => by simp only [pDa, hZa, dQa]
 | o :: o' :: os, .inr x => by
  have := cMb (o' :: os) x
  simp only [pDa, dQa] at this ⊢
  exact this
theorem hXb : ∀ (os : List sQa) {γ : Type} (x : denO os) (k : Ex → List KV → KSt → Option γ), oXb P os S.sm x k = k (pDa P os x).1 (pDa P os x).2.1 (pDa P os x).2.2
 | [], _, e, _ => nomatch e
 | [o], _, x, k => by simp only [oXb, pDa, hZa]
 | o :: o' :: os, _, x, k => by
  simp only [oXb, FkOK.sm]
  cases x with
  | inl y => simp only [Sum.elim_inl, pDa, hZa]
  | inr y => simp only [Sum.elim_inr, pDa]; exact hXb (o' :: os) y k
theorem cOb : ∀ (os : List sQa) (y : denO os), (os.all fun o => okS P o.s) = true → okS P (dQa os y).1.s = true
 | [], e, _ => nomatch e
 | [o], x, h => by simp only [List.all_cons, Bool.and_eq_true] at h; exact h.1
 | o :: o' :: os, .inl x, h => by simp only [List.all_cons, Bool.and_eq_true] at h; exact h.1
 | o :: o' :: os, .inr x, h => by
  rw [List.all_cons, Bool.and_eq_true] at h
  exact cOb (o' :: os) x h.2
def fMb (P : Program) (Θ : Th) (f : FuncId) (key : Nat) (h : fCa) (os : List sQa) (L : h.den → Option (denO os)) : Prop :=
 ∀ x y, L x = some y → run P Θ (.code (.loop (eZa P f (some key))) ⟨f, toLs (aOa (Θ.keep f (some key)) (ntm P f) (cAa P h x))⟩ (aXa P h x).1.toL) =
  (if (dQa os y).1.ex = .normal then run P Θ (.code (.loop (eZa P f (some key))) ⟨f, toLs (aOa (Θ.keep f (some key)) (ntm P f) (cAa P (dQa os y).1.s (dQa os y).2))⟩ (aXa P (dQa os y).1.s (dQa os y).2).1.toL)
  else some ⟨(dQa os y).1.ex, .undef, ⟨f, toLs (aOa (Θ.keep f (some key)) (ntm P f) (cAa P (dQa os y).1.s (dQa os y).2))⟩, (aXa P (dQa os y).1.s (dQa os y).2).1.toL⟩)
theorem jLa : ∀ {os : List sQa} {ex : Ex} {vs : List KV} {σ : KSt} {c : Ck} {y : denO os}, tOa P os ex vs σ = some (c, y) → c.val = true → (os.all fun o => okS P o.s) = true → cEa P σ →
  (dQa os y).1.ex = ex ∧ (aXa P (dQa os y).1.s (dQa os y).2).1.toL = σ.toL ∧ toLs (cAa P (dQa os y).1.s (dQa os y).2) = toLs vs
 | [], _, _, _, _, _, h, _, _, _ => by cases h
 | [o], ex, vs, σ, c, y, h, hc, hk, hσ => by
  simp only [List.all_cons, Bool.and_eq_true] at hk
  simp only [tOa] at h
  split at h
  ·rename_i he
   simp only [decide_eq_true_eq] at he
   obtain ⟨e1, e2⟩ := gSa h hc hk.1 hσ
   exact ⟨he, e1, e2⟩
  ·cases h
 | o :: o' :: os, ex, vs, σ, c, y, h, hc, hk, hσ => by
  rw [List.all_cons, Bool.and_eq_true] at hk
  simp only [tOa] at h
  split at h
  ·rename_i c1 x he hd
   cases h
   simp only [decide_eq_true_eq] at he
   obtain ⟨e1, e2⟩ := gSa hd hc hk.1 hσ
   exact ⟨he, e1, e2⟩
  ·split at h
   ·rename_i c1 x hd
    cases h
    have := jLa hd hc hk.2 hσ
    exact this
   ·cases h
theorem eHa : ∀ (m : List Bool) (n : Nat) {vs us : List KV}, toLs vs = toLs us → toLs (aOa m n vs) = toLs (aOa m n us)
 | _, 0, _, _, _ => by simp only [aOa]
 | true :: m, n + 1, v :: vs, u :: us, h => by
  simp only [toLs, List.cons.injEq] at h
  simp only [aOa, toLs, h.1, eHa m n h.2]
 | true :: m, n + 1, [], [], _ => rfl
 | true :: m, n + 1, [], _ :: _, h => by simp [toLs] at h
 | true :: m, n + 1, _ :: _, [], h => by simp [toLs] at h
 | false :: m, n + 1, vs, us, h => by simp only [aOa, toLs, eHa m n h]
 | [], n + 1, vs, us, h => by simp only [aOa, toLs, eHa [] n h]
theorem eXb (hS : sSa P Θ S) {f : FuncId} {key : Nat} {h : fCa} {os : List sQa} (hk : ((aGa (aWa P f)).filter fun a => aCa a == some key).length = 1) (hh : okS P h = true) (hos : (os.all fun o => okS P o.s) = true) {x : h.den} {q : h.den ⊕ denO os} (e : nHa P Θ S f key h os x = some q) :
  run P Θ (.code (.loop (eZa P f (some key))) ⟨f, toLs (aOa (Θ.keep f (some key)) (ntm P f) (cAa P h x))⟩ (aXa P h x).1.toL) =
   match q with
   | .inl z => run P Θ (.code (.loop (eZa P f (some key))) ⟨f, toLs (aOa (Θ.keep f (some key)) (ntm P f) (cAa P h z))⟩ (aXa P h z).1.toL)
   | .inr y => (if (dQa os y).1.ex = .normal then run P Θ (.code (.loop (eZa P f (some key))) ⟨f, toLs (aOa (Θ.keep f (some key)) (ntm P f) (cAa P (dQa os y).1.s (dQa os y).2))⟩ (aXa P (dQa os y).1.s (dQa os y).2).1.toL)
    else some ⟨(dQa os y).1.ex, .undef, ⟨f, toLs (aOa (Θ.keep f (some key)) (ntm P f) (cAa P (dQa os y).1.s (dQa os y).2))⟩, (aXa P (dQa os y).1.s (dQa os y).2).1.toL⟩) := by
 have hm := bIb hk
 have hσ := qQa (x := x) hh
 have hT : eKa P (.code (eZa P f (some key)) ⟨f, aOa (Θ.keep f (some key)) (ntm P f) (cAa P h x)⟩ (aXa P h x).1) := ⟨bJa _ _ hm, hσ⟩
 unfold nHa at e
 rw [hZa] at e
 obtain ⟨r, h1, ⟨h2, h3⟩, h4⟩ := oDa hS 1000 _ _ _ hT e
 have h3 : r.env.fn = f := h3
 have h1 : run P Θ (.code (eZa P f (some key)) ⟨f, toLs (aOa (Θ.keep f (some key)) (ntm P f) (cAa P h x))⟩ (aXa P h x).1.toL) = some r.toL := h1
 have et : iZa Θ (some key) ⟨f, toLs (aOa (Θ.keep f (some key)) (ntm P f) (cAa P h x))⟩ = ⟨f, toLs (aOa (Θ.keep f (some key)) (ntm P f) (cAa P h x))⟩ := by
  simp only [iZa, mWa, gXa]
 have hkey := bHb hk
 rw [pPa, hkey, et, h1]
 simp only [Option.bind_some, Res.again, dXa.toL, hkey]
 split at h4
 ·rename_i hl hv
  have hl := qBa hl
  have he : r.env = ⟨f, r.env.t⟩ := by rw [← h3]
  have ht : iZa Θ (some key) r.env.toL = ⟨f, toLs (aOa (Θ.keep f (some key)) (ntm P f) (cGa (Θ.keep f (some key)) r.env.t))⟩ := by
   rw [gCa]
   simp only [fIa, bNa.toL, h3, eNa, hl]
  have htr : trim (aXa P h x).1.toL.sz (iZa Θ (some key) r.env.toL).t r.σ.toL = (kUa (aXa P h x).1.sz (fIa Θ (some key) ⟨f, r.env.t⟩).t r.σ).toL := by
   rw [iVb, ← he]
   have : (iZa Θ (some key) r.env.toL).t = toLs (fIa Θ (some key) r.env).t := by rw [gCa]; rfl
   rw [this]
   exact nLa _ _ _
  split at h4
  ·rename_i hex
   rw [hex]
   simp only
   rw [htr, ht]
   split at h4
   ·rename_i c y hd
    obtain ⟨hc, h5⟩ := bTa (S := S) h4
    cases h5
    obtain ⟨e1, e2⟩ := gSa hd hc hh (cEa.trim h2)
    simp only
    rw [e1, eHa _ _ e2]
   ·split at h4
    ·rename_i c y hd
     obtain ⟨hc, h5⟩ := bTa (S := S) h4
     cases h5
     obtain ⟨e0, e1, e2⟩ := jLa hd hc hos (cEa.trim h2)
     simp only
     rw [if_pos e0, e1, eHa _ _ e2]
    ·cases h4
  ·rename_i hex
   split at h4
   ·rename_i c y hd
    obtain ⟨hc, h5⟩ := bTa (S := S) h4
    cases h5
    obtain ⟨e0, e1, e2⟩ := jLa hd hc hos h2
    simp only
    rw [if_neg (by rw [e0]; exact hex), e0, e1, eHa _ _ e2, hv]
    cases hx : r.ex <;> first | exact absurd hx hex | (simp only [toL, ht])
   ·cases h4
 ·cases h4
theorem jZb (hS : sSa P Θ S) {f : FuncId} {key : Nat} {h : fCa} {os : List sQa} (hk : ((aGa (aWa P f)).filter fun a => aCa a == some key).length = 1) (hh : okS P h = true) (hos : (os.all fun o => okS P o.s) = true) :
  fMb P Θ f key h os (pBa (nHa P Θ S f key h os)) := by
 intro x y hy
 obtain ⟨n, hn⟩ := mSa.1 hy
 clear hy
 induction n generalizing x with
 | zero => cases hn
 | succ n ih =>
  simp only [lMa, Option.bind_eq_some_iff] at hn
  obtain ⟨q, h1, h2⟩ := hn
  have := eXb hS hk hh hos h1
  cases q with
  | inl z => rw [this]; exact ih z h2
  | inr z =>
   simp only [Sum.elim_inr, Option.some.injEq] at h2
   subst h2
   exact this
theorem hJb (hS : sSa P Θ S) {f : FuncId} {key : Nat} {h : fCa} {os : List sQa} {L : h.den → Option (denO os)} (hk : ((aGa (aWa P f)).filter fun a => aCa a == some key).length = 1) (hh : okS P h = true) (hos : (os.all fun o => okS P o.s) = true)
  (e : L = pBa (nHa P Θ S f key h os)) : fMb P Θ f key h os L := e ▸ jZb hS hk hh hos
theorem sSa.addLT (hS : sSa P Θ S) {f : FuncId} {key : Nat} {h : fCa} {os : List sQa} {L : h.den → Option (denO os)} (hk : ((aGa (aWa P f)).filter fun a => aCa a == some key).length = 1) (hh : okS P h = true) (hos : (os.all fun o => okS P o.s) = true) (hL : fMb P Θ f key h os L) : sSa P Θ (S.addLT P f key h os L) where
 bt := hS.bt
 ct := hS.ct
 xt := hS.xt
 st := hS.st
 lt := hS.lt
 bl := fun g j q vs σ b y hq hv hc hy a ha hj hσ => by
  simp only [Cs.addLT] at hq ⊢
  split at hq
  ·rename_i hg
   simp only [Bool.and_eq_true] at hg
   obtain ⟨hg, hj'⟩ := hg
   have hg := qBa hg
   subst hg
   have hj' : j = some key := by
    cases j with
    | none => cases hj'
    | some i => rw [qBa (a := i) (b := key) hj']
   subst hj'
   cases hq
   unfold blF at hv
   split at hv
   ·rename_i c1 x hd
    cases hv
    obtain ⟨e1, e2⟩ := gSa hd hc hh hσ
    have := hL x y hy
    have ea := fBb hk ha hj
    subst ea
    refine ⟨fun k => hXb os y k, ?_⟩
    simp only [cMb]
    rw [e1, eHa _ _ e2] at this
    refine ⟨this, ?_⟩
    exact qQa (cOb os y hos)
   ·split at hv
    ·rename_i p hp; exact hS.bl _ _ _ _ _ _ _ hp hv hc hy a ha hj hσ
    ·cases hv
  ·exact hS.bl _ _ _ _ _ _ _ hq hv hc hy a ha hj hσ
instance {f : FuncId} {key : Nat} {h : fCa} {os : List sQa} {L : h.den → Option (denO os)} : FkOK (S.addLT P f key h os L) := ⟨FkOK.eq (S := S), FkOK.bd (S := S), FkOK.sm (S := S)⟩
end
end Go.Proofs.YtpeaaophmddhnaaGreat.LI
