/-
  Shapes are sound: what is decoded is what stood there; functions and loops over Lean's own data are what the interpreter comes to. No program is named here.
-/
import Derived.Test.YticpcfchhcjjeaaGreatLiT
namespace Go.Proofs.YticpcfchhcjjeaaGreat.LI
open Go Go.RowKit
open KV (toL)
open KV.toL (toLs)

theorem sameSt_eq {u w : Value} (h : sameSt u w = true) : u = w := by
  unfold sameSt at h
  split at h
  · split at h <;> first | rfl | cases h
  · simp only [Bool.and_eq_true, decide_eq_true_eq] at h
    rw [h.1, h.2]
  · rename_i a b
    simp only [decide_eq_true_eq] at h
    congr 1
    apply ByteArray.ext
    exact Array.toList_inj.1 h
  · rfl
  · rfl
  · rfl
  · rfl
  · cases h
theorem sameNil_eq {u w : Value} (h : sameNil u w = true) : u = w := by
  unfold sameNil at h
  split at h <;> first | rfl | cases h
theorem beqN {a b : Nat} (h : Nat.beq a b = true) : a = b := Nat.eq_of_beq_eq_true h

set_option linter.unusedSectionVars false
section
variable {rows rows' : List KRow} (hlen : ∀ r, rowLen rows' r = rowLen rows r)
include hlen
mutual
theorem decS_sound : ∀ (s : Shp) (ρ : Type) (v : KV) (x : ρ) (c : Ck) (y : s.den ρ), decS rows s ρ v x = some (c, y) → c.val = true → (encS rows' s ρ y).1.toL = v.toL ∧ (encS rows' s ρ y).2 = x
  | .undef, ρ, v, x, c, y, h, hc => by
    simp only [decS] at h
    split at h <;> cases h
    exact ⟨rfl, rfl⟩
  | .nils, ρ, v, x, c, y, h, hc => by
    simp only [decS] at h
    split at h <;> cases h
    exact ⟨rfl, rfl⟩
  | .empt, ρ, v, x, c, y, h, hc => by
    simp only [decS] at h
    split at h
    · split at h
      · cases h; exact ⟨rfl, rfl⟩
      · cases h
    · cases h
  | .ty t, ρ, v, x, c, y, h, hc => by
    simp only [decS] at h
    split at h
    · rename_i c' d hd
      cases h
      refine ⟨?_, rfl⟩
      simp only [encS_ty, toL_encT]
      exact (decV_sound hd hc).symm
    · cases h
  | .st u, ρ, v, x, c, y, h, hc => by
    simp only [decS] at h
    split at h
    · split at h
      · rename_i hs; cases h
        exact ⟨by simp only [encS_st, scK_eq, toL, sameSt_eq hs], rfl⟩
      · cases h
    · split at h
      · rename_i hs; cases h
        exact ⟨by simp only [encS_st, scK_eq, toL, sameNil_eq hs], rfl⟩
      · cases h
    · cases h
  | .mref r, ρ, v, x, c, y, h, hc => by
    simp only [decS] at h
    split at h
    · split at h
      · rename_i hs; cases h
        simp only [Ck.val, decide_eq_true_eq] at hc
        exact ⟨by simp only [encS_mref, toL, ← beqN hs, hlen, hc], rfl⟩
      · cases h
    · cases h
  | .mview r sz, ρ, v, x, c, y, h, hc => by
    simp only [decS] at h
    split at h
    · split at h
      · rename_i hs; cases h
        simp only [Bool.and_eq_true] at hs
        simp only [Ck.val, decide_eq_true_eq] at hc
        exact ⟨by simp only [encS_mview, toL, ← beqN hs.1, ← beqN hs.2, hlen, hc], rfl⟩
      · cases h
    · cases h
  | .mapr m, ρ, v, x, c, y, h, hc => by
    simp only [decS] at h
    split at h
    · split at h
      · rename_i hs; cases h
        exact ⟨by simp only [encS_mapr, toL, beqN hs], rfl⟩
      · cases h
    · cases h
  | .agg cs, ρ, v, x, c, y, h, hc => by
    simp only [decS] at h
    split at h
    · obtain ⟨h1, h2⟩ := decSs_sound cs ρ _ x c y h hc
      exact ⟨by simp only [encS_agg, toL]; exact congrArg LV.agg h1, h2⟩
    · cases h
  | .tuple cs, ρ, v, x, c, y, h, hc => by
    simp only [decS] at h
    split at h
    · obtain ⟨h1, h2⟩ := decSs_sound cs ρ _ x c y h hc
      exact ⟨by simp only [encS_tuple, toL]; exact congrArg LV.tuple h1, h2⟩
    · cases h
  | .bptr b o, ρ, v, x, c, y, h, hc => by
    simp only [decS] at h
    split at h
    · split at h
      · rename_i hs; cases h
        simp only [Bool.and_eq_true] at hs
        exact ⟨by simp only [encS_bptr, toL, beqN hs.1, beqN hs.2], rfl⟩
      · cases h
    · cases h
  | .rptr r sz o, ρ, v, x, c, y, h, hc => by
    simp only [decS] at h
    split at h
    · split at h
      · rename_i hs; cases h
        simp only [Bool.and_eq_true] at hs
        simp only [Ck.val, decide_eq_true_eq] at hc
        exact ⟨by simp only [encS_rptr, toL, ← beqN hs.1, ← beqN hs.2.1, ← beqN hs.2.2, hlen, hc], rfl⟩
      · cases h
    · cases h
  | .func f fst caps, ρ, v, x, c, y, h, hc => by
    simp only [decS] at h
    split at h
    · split at h
      · rename_i hs
        split at h
        · rename_i c1 y1 h1
          split at h
          · rename_i c2 y2 h2
            cases h
            simp only [Ck.val, Bool.and_eq_true] at hc
            obtain ⟨a1, a2⟩ := decSs_sound caps ρ _ x c1 y1 h1 hc.1
            obtain ⟨b1, b2⟩ := decSs_sound fst _ _ y1 c2 y h2 hc.2
            simp only [encS_func, toL, b2]
            refine ⟨?_, a2⟩
            rw [beqN hs]
            exact congr (congrArg _ b1) a1
          · cases h
        · cases h
      · cases h
    · cases h
  | .yield l, ρ, v, x, c, y, h, hc => by
    simp only [decS] at h
    split at h
    · split at h
      · rename_i hs; cases h
        exact ⟨by simp only [encS_yield, toL, beqN hs], rfl⟩
      · cases h
    · cases h
theorem decSs_sound : ∀ (ss : List Shp) (ρ : Type) (vs : List KV) (x : ρ) (c : Ck) (y : dens ss ρ), decS.decSs rows ss ρ vs x = some (c, y) → c.val = true → toLs (encS.encSs rows' ss ρ y).1 = toLs vs ∧ (encS.encSs rows' ss ρ y).2 = x
  | [], ρ, vs, x, c, y, h, hc => by
    simp only [decS.decSs] at h
    split at h <;> cases h
    exact ⟨rfl, rfl⟩
  | s :: ss, ρ, vs, x, c, y, h, hc => by
    simp only [decS.decSs] at h
    split at h
    · rename_i v vs
      split at h
      · rename_i c1 y1 h1
        split at h
        · rename_i c2 y2 h2
          cases h
          simp only [Ck.val, Bool.and_eq_true] at hc
          obtain ⟨a1, a2⟩ := decSs_sound ss ρ _ x c1 y1 h1 hc.2
          obtain ⟨b1, b2⟩ := decS_sound s _ v y1 c2 y h2 hc.1
          simp only [encSs_cons, toLs, b1, b2, a1, a2, and_self]
        · cases h
      · cases h
    · cases h
end
theorem decBoxes_sound : ∀ (bs : List (List Shp)) (ρ : Type) (ks : List (List KV)) (x : ρ) (c : Ck) (y : boxesDen bs ρ), decBoxes rows bs ρ ks x = some (c, y) → c.val = true → (encBoxes rows' bs ρ y).1.map toLs = ks.map toLs ∧ (encBoxes rows' bs ρ y).2 = x
  | [], ρ, ks, x, c, y, h, hc => by
    simp only [decBoxes] at h
    split at h <;> cases h
    exact ⟨rfl, rfl⟩
  | b :: bs, ρ, ks, x, c, y, h, hc => by
    simp only [decBoxes] at h
    split at h
    · split at h
      · rename_i c1 y1 h1
        split at h
        · rename_i c2 y2 h2
          cases h
          simp only [Ck.val, Bool.and_eq_true] at hc
          obtain ⟨a1, a2⟩ := decBoxes_sound bs ρ _ x c1 y1 h1 hc.2
          obtain ⟨b1, b2⟩ := decSs_sound hlen b _ _ y1 c2 y h2 hc.1
          simp only [encBoxes, List.map_cons, b1, b2, a1, a2, and_self]
        · cases h
      · cases h
    · cases h
omit hlen in
theorem unpad_eq : ∀ {n : Nat} {vs us : List KV}, unpad n vs = some us → padK us vs.length = vs
  | 0, vs, us, h => by
    simp only [unpad] at h
    split at h
    · rename_i ha
      cases h
      simp only [padK, List.nil_append, List.length_nil, Nat.sub_zero]
      rw [List.all_eq_true] at ha
      symm
      rw [List.eq_replicate_iff]
      refine ⟨rfl, fun v hv => ?_⟩
      have := ha v hv
      split at this
      · rfl
      · cases this
    · cases h
  | n + 1, [], us, h => by cases h
  | n + 1, v :: vs, us, h => by
    simp only [unpad] at h
    split at h
    · rename_i us' h1
      cases h
      have := unpad_eq h1
      simp only [padK, List.cons_append, List.length_cons, Nat.add_sub_add_right] at this ⊢
      rw [this]
    · cases h
omit hlen in
theorem samePend_eq {ex : Ex} {c : Option Code} (h : samePend ex c = true) : ex.code = c := by
  unfold samePend at h
  split at h
  · rfl
  · rfl
  · rw [beqN h]; rfl
  · rw [beqN h]; rfl
  · cases h
theorem decLoops_sound {P : Program} : ∀ (ls : List LShp) (ρ : Type) (ks : List KLoop) (x : ρ) (c : Ck) (y : loopsDen ls ρ), decLoops P rows ls ρ ks x = some (c, y) → c.val = true →
    (ls.all fun l => Nat.beq ((rangesOf (bodyOf P l.fn)).filter fun a => loopKey a.2.1 == some l.key).length 1) = true → (∀ k ∈ ks, (k.params, k.assign, k.body) ∈ rangesOf (bodyOf P k.env.fn)) →
    (encLoops P rows' ls ρ y).1.map KLoop.toL = ks.map KLoop.toL ∧ (encLoops P rows' ls ρ y).2 = x
  | [], ρ, ks, x, c, y, h, hc, hk, hm => by
    simp only [decLoops] at h
    split at h <;> cases h
    exact ⟨rfl, rfl⟩
  | l :: ls, ρ, ks, x, c, y, h, hc, hk, hm => by
    simp only [List.all_cons, Bool.and_eq_true] at hk
    simp only [decLoops] at h
    split at h
    · rename_i k ks
      split at h
      · rename_i hs
        simp only [Bool.and_eq_true, beq_iff_eq, decide_eq_true_eq] at hs
        obtain ⟨s1, s2, s3, s4, s5⟩ := hs
        split at h
        · rename_i c1 y1 h1
          split at h
          · rename_i vs hu
            split at h
            · rename_i c2 y2 h2
              cases h
              simp only [Ck.val, Bool.and_eq_true] at hc
              obtain ⟨a1, a2⟩ := decLoops_sound ls ρ ks x c1 y1 h1 hc.2 hk.2 (fun q hq => hm q (List.mem_cons_of_mem _ hq))
              obtain ⟨b1, b2⟩ := decSs_sound hlen l.env _ _ y1 c2 y h2 hc.1
              simp only [encLoops, List.map_cons, b2, a1, a2, and_true]
              congr 1
              have hmem := hm k (List.mem_cons_self ..)
              have hfn := beqN s1
              rw [hfn] at hmem
              have hr := theRange_eq (beqN hk.1) hmem s2
              have hlen3 := beqN s3
              have hp := unpad_eq hu
              rw [hlen3] at hp
              have he : toLs (padK (encS.encSs rows' l.env (loopsDen ls ρ) y).1 (ntm P l.fn)) = toLs k.env.t := by
                rw [← hp]
                have hl2 : (encS.encSs rows' l.env (loopsDen ls ρ) y).1.length = vs.length := by
                  have := congrArg List.length b1
                  simpa only [toLs_map, List.length_map] using this
                simp only [padK, toLs_append, b1, hl2]
              obtain ⟨⟨kf, kt⟩, kp, ka, kb, kpd, kst⟩ := k
              simp only at hfn hr he s4 s5
              subst hfn
              simp only [encLoop, KLoop.toL, KEnv.toL, he, ← hr, samePend_eq s4, s5]
            · cases h
          · cases h
        · cases h
      · cases h
    · cases h
end
theorem castM_sound {a b c d : Ty} {l : List (a.den × b.den)} {l' : List (c.den × d.den)} (h : castM a b c d l = some l') : KMap.toL ⟨a, b, l⟩ = KMap.toL ⟨c, d, l'⟩ := by
  unfold castM at h
  split at h
  · rename_i hh
    obtain ⟨rfl, rfl⟩ := hh
    cases h; rfl
  · cases h
theorem decRows_sound : ∀ (rs : List RShp) (ρ : Type) (ks : List KRow) (x : ρ) (y : rowsDen rs ρ), decRows rs ρ ks x = some y → (encRows rs ρ y).1.map KRow.toL = ks.map KRow.toL ∧ (encRows rs ρ y).2 = x ∧ ∀ r, rowLen (encRows rs ρ y).1 r = rowLen ks r
  | [], ρ, ks, x, y, h => by
    simp only [decRows] at h
    split at h <;> cases h
    exact ⟨rfl, rfl, fun _ => rfl⟩
  | r :: rs, ρ, ks, x, y, h => by
    simp only [decRows] at h
    split at h
    · split at h
      · rename_i hs
        simp only [Bool.and_eq_true, beq_iff_eq] at hs
        split at h
        · rename_i l y1 hl h1
          cases h
          obtain ⟨a1, a2, a3⟩ := decRows_sound rs ρ _ x y1 h1
          obtain ⟨c1, c2⟩ := castL_sound hl
          refine ⟨?_, a2, ?_⟩
          · simp only [encRows, List.map_cons, a1, KRow.toL, ← c1, beqN hs.1, beqN hs.2.1, hs.2.2]
          · intro n
            cases n with
            | zero => simp only [rowLen, encRows, List.getElem?_cons_zero, c2]
            | succ n =>
              have := a3 n
              simp only [rowLen, encRows, List.getElem?_cons_succ] at this ⊢
              exact this
        · cases h
      · cases h
    · cases h
theorem decMaps_sound : ∀ (ms : List (Ty × Ty)) (ρ : Type) (ks : List KMap) (x : ρ) (y : mapsDen ms ρ), decMaps ms ρ ks x = some y → (encMaps ms ρ y).1.map KMap.toL = ks.map KMap.toL ∧ (encMaps ms ρ y).2 = x
  | [], ρ, ks, x, y, h => by
    simp only [decMaps] at h
    split at h <;> cases h
    exact ⟨rfl, rfl⟩
  | m :: ms, ρ, ks, x, y, h => by
    simp only [decMaps] at h
    split at h
    · rename_i k ks
      split at h
      · rename_i l y1 hl h1
        cases h
        obtain ⟨a1, a2⟩ := decMaps_sound ms ρ _ x y1 h1
        have := castM_sound hl
        refine ⟨?_, a2⟩
        simp only [encMaps, List.map_cons, a1]
        rw [← this]
      · cases h
    · cases h
theorem decSt_sound {P : Program} {s : StShp} {vs : List KV} {σ : KSt} {c : Ck} {x : s.den} (h : decSt P s vs σ = some (c, x)) (hc : c.val = true) (hk : okS P s = true) (hσ : StOK P σ) :
    (encStore P s x).1.toL = σ.toL ∧ toLs (encSlots P s x) = toLs vs := by
  unfold decSt at h
  split at h
  · rename_i c1 x1 h1
    split at h
    · rename_i c2 x2 h2
      split at h
      · rename_i c3 x3 h3
        split at h
        · rename_i x4 h4
          split at h
          · rename_i x5 h5
            cases h
            simp only [Ck.val, Bool.and_eq_true] at hc
            obtain ⟨e1, e2, e3⟩ := decRows_sound _ _ _ _ _ h5
            obtain ⟨d1, d2⟩ := decMaps_sound _ _ _ _ _ h4
            obtain ⟨b1, b2⟩ := decBoxes_sound e3 _ _ _ _ _ _ h3 hc.2.2
            obtain ⟨l1, l2⟩ := decLoops_sound (P := P) e3 _ _ _ _ _ _ h2 hc.2.1 hk (fun k hk => (hσ k hk).2)
            obtain ⟨s1, s2⟩ := decSs_sound e3 _ _ _ _ _ _ h1 hc.1
            simp only [encSlots, encStore, e2, d2, b2, l2]
            exact ⟨by simp only [KSt.toL, e1, d1, b1, l1], s1⟩
          · cases h
        · cases h
      · cases h
    · cases h
  · cases h
theorem ranges_sub : ∀ (c : Code) (a : List Tmp × Code × Code), a ∈ rangesOf c → ((∀ b ∈ loopsOf a.2.1, b ∈ loopsOf c) ∧ ∀ b ∈ rangesOf a.2.1, b ∈ rangesOf c) ∧ ((∀ b ∈ loopsOf a.2.2, b ∈ loopsOf c) ∧ ∀ b ∈ rangesOf a.2.2, b ∈ rangesOf c)
  | .seq x y, a, ha => by
    simp only [loopsOf, rangesOf, List.mem_append] at ha ⊢
    rcases ha with ha | ha
    · have h := ranges_sub x a ha
      exact ⟨⟨fun b hb => .inl (h.1.1 b hb), fun b hb => .inl (h.1.2 b hb)⟩, ⟨fun b hb => .inl (h.2.1 b hb), fun b hb => .inl (h.2.2 b hb)⟩⟩
    · have h := ranges_sub y a ha
      exact ⟨⟨fun b hb => .inr (h.1.1 b hb), fun b hb => .inr (h.1.2 b hb)⟩, ⟨fun b hb => .inr (h.2.1 b hb), fun b hb => .inr (h.2.2 b hb)⟩⟩
  | .cond _ x y, a, ha => by
    simp only [loopsOf, rangesOf, List.mem_append] at ha ⊢
    rcases ha with ha | ha
    · have h := ranges_sub x a ha
      exact ⟨⟨fun b hb => .inl (h.1.1 b hb), fun b hb => .inl (h.1.2 b hb)⟩, ⟨fun b hb => .inl (h.2.1 b hb), fun b hb => .inl (h.2.2 b hb)⟩⟩
    · have h := ranges_sub y a ha
      exact ⟨⟨fun b hb => .inr (h.1.1 b hb), fun b hb => .inr (h.1.2 b hb)⟩, ⟨fun b hb => .inr (h.2.1 b hb), fun b hb => .inr (h.2.2 b hb)⟩⟩
  | .block _ x, a, ha => by
    simp only [loopsOf, rangesOf] at ha ⊢
    exact ranges_sub x a ha
  | .loop x, a, ha => by
    simp only [loopsOf, rangesOf, List.mem_cons] at ha ⊢
    have h := ranges_sub x a ha
    exact ⟨⟨fun b hb => .inr (h.1.1 b hb), h.1.2⟩, ⟨fun b hb => .inr (h.2.1 b hb), h.2.2⟩⟩
  | .rangeFunc _ ps x y, a, ha => by
    simp only [loopsOf, rangesOf, List.mem_append, List.mem_cons] at ha ⊢
    rcases ha with rfl | ha | ha
    · exact ⟨⟨fun b hb => .inl hb, fun b hb => .inr (.inl hb)⟩, ⟨fun b hb => .inr hb, fun b hb => .inr (.inr hb)⟩⟩
    · have h := ranges_sub x a ha
      exact ⟨⟨fun b hb => .inl (h.1.1 b hb), fun b hb => .inr (.inl (h.1.2 b hb))⟩, ⟨fun b hb => .inl (h.2.1 b hb), fun b hb => .inr (.inl (h.2.2 b hb))⟩⟩
    · have h := ranges_sub y a ha
      exact ⟨⟨fun b hb => .inr (h.1.1 b hb), fun b hb => .inr (.inr (h.1.2 b hb))⟩, ⟨fun b hb => .inr (h.2.1 b hb), fun b hb => .inr (.inr (h.2.2 b hb))⟩⟩
  | .skip, _, ha => by simp [rangesOf] at ha
  | .label _, _, ha => by simp [rangesOf] at ha
  | .region _ _ _, _, ha => by simp [rangesOf] at ha
  | .exit _, _, ha => by simp [rangesOf] at ha
  | .goto _, _, ha => by simp [rangesOf] at ha
  | .ret, _, ha => by simp [rangesOf] at ha
  | .scope _, _, ha => by simp [rangesOf] at ha
  | .refuse _, _, ha => by simp [rangesOf] at ha
theorem theRange_mem {P : Program} {f : FuncId} {key : Option Nat} (h : ((rangesOf (bodyOf P f)).filter fun a => loopKey a.2.1 == key).length = 1) : theRange P f key ∈ rangesOf (bodyOf P f) := by
  unfold theRange
  have := fun b => List.mem_filter (x := b) (p := fun a : List Tmp × Code × Code => loopKey a.2.1 == key) (as := rangesOf (bodyOf P f))
  generalize hl : ((rangesOf (bodyOf P f)).filter fun a => loopKey a.2.1 == key) = l at *
  match l, h with
  | [b], _ => exact ((this b).1 (by simp)).1
theorem encLoops_ok {P : Program} {rows : List KRow} : ∀ (ls : List LShp) (ρ : Type) (x : loopsDen ls ρ), (ls.all fun l => Nat.beq ((rangesOf (bodyOf P l.fn)).filter fun a => loopKey a.2.1 == some l.key).length 1) = true →
    ∀ lr ∈ (encLoops P rows ls ρ x).1, (CodeOK P lr.env.fn lr.assign ∧ CodeOK P lr.env.fn lr.body) ∧ (lr.params, lr.assign, lr.body) ∈ rangesOf (bodyOf P lr.env.fn)
  | [], _, _, _, lr, h => by cases h
  | l :: ls, ρ, x, hk, lr, h => by
    simp only [List.all_cons, Bool.and_eq_true] at hk
    simp only [encLoops, List.mem_cons] at h
    rcases h with rfl | h
    · have hm := theRange_mem (beqN hk.1)
      have hs := ranges_sub _ _ hm
      exact ⟨⟨⟨hs.1.1, hs.1.2⟩, ⟨hs.2.1, hs.2.2⟩⟩, hm⟩
    · exact encLoops_ok ls ρ _ hk.2 lr h
theorem encStore_ok {P : Program} {s : StShp} {x : s.den} (hk : okS P s = true) : StOK P (encStore P s x).1 := encLoops_ok s.loops _ _ hk

/-! ### functions -/
section
variable {P : Program} {Θ : Th} {S : Cs} [FkOK S]
theorem call_shape {f : FuncId} {args : List LV} {r : Res} (h : run P Θ (.call f args) = some r) : r = ⟨.normal, r.v, default, { rows := r.σ.rows }⟩ := by
  have ce : ∀ q r, callEnd q = some r → r = ⟨.normal, r.v, default, { rows := r.σ.rows }⟩ := fun q r h => by
    unfold callEnd at h
    split at h <;> cases h
    rfl
  rw [run_step] at h
  simp only [stepT] at h
  split at h
  · split at h
    · obtain ⟨v, _, h⟩ := Option.bind_eq_some_iff.1 h
      exact ce _ _ h
    · cases h
  · split at h
    · obtain ⟨v, _, h⟩ := Option.bind_eq_some_iff.1 h
      obtain ⟨w, _, h⟩ := Option.bind_eq_some_iff.1 h
      exact ce _ _ h
    · cases h
theorem retS_rows {v : Shp} {rows : List RShp} {y : (retS v rows).den} : (encStore P (retS v rows) y).1.toL = { rows := (encStore P (retS v rows) y).1.rows.map KRow.toL } := rfl
/-- What a function comes to. -/
def FnOK (P : Program) (Θ : Th) (f : FuncId) (as : List Shp) (v : Shp) (rows : List RShp) (F : dens as Unit → Option (retS v rows).den) : Prop :=
  ∀ x y, F x = some y → run P Θ (.call f (toLs (encS.encSs [] as _ x).1)) = some ⟨.normal, ((encSlots P (retS v rows) y).headD .undef).toL, default, { rows := (encStore P (retS v rows) y).1.rows.map KRow.toL }⟩
theorem fnT_ok (hS : CsOK P Θ S) (f : FuncId) (as : List Shp) (v : Shp) (rows : List RShp) : FnOK P Θ f as v rows (fnT P Θ S f as v rows) := by
  intro x y h
  obtain ⟨r, h1, ⟨h2, _⟩, h3⟩ := runK_sound hS 1000 (.call f (encS.encSs [] as _ x).1) _ _ trivial h
  have h1 : run P Θ (.call f (toLs (encS.encSs [] as _ x).1)) = some r.toL := h1
  split at h3
  · rename_i c y' hd
    obtain ⟨hc, h4⟩ := chk_some (S := S) h3
    cases h4
    obtain ⟨e1, e2⟩ := decSt_sound hd hc (by rfl) h2
    have := call_shape h1
    rw [h1, this]
    have e3 : r.toL.v = ((encSlots P (retS v rows) y).headD .undef).toL := by
      have e2' := congrArg (fun l => l.headD LV.undef) e2
      simp only [toLs] at e2'
      have : r.toL.v = r.v.toL := rfl
      rw [this]
      have h5 : ∀ l : List KV, (toLs l).headD LV.undef = (l.headD .undef).toL := fun l => by cases l <;> rfl
      rw [h5] at e2'
      exact e2'.symm
    have e4 : r.toL.σ.rows = (encStore P (retS v rows) y).1.rows.map KRow.toL := by
      have : r.toL.σ = r.σ.toL := rfl
      rw [this, ← e1]; rfl
    rw [e3, e4]
  · cases h3
theorem fnT_ok' (hS : CsOK P Θ S) {f : FuncId} {ash : List Shp} {v : Shp} {rows : List RShp} {F : dens ash Unit → Option (retS v rows).den} (e : F = fnT P Θ S f ash v rows) : FnOK P Θ f ash v rows F := e ▸ fnT_ok hS f ash v rows
omit [FkOK S] in
theorem CsOK.addF (hS : CsOK P Θ S) {f : FuncId} {ash : List Shp} {v : Shp} {rows : List RShp} {F : dens ash Unit → Option (retS v rows).den} (h : FnOK P Θ f ash v rows F) : CsOK P Θ (S.addF P f ash v rows F) where
  bt := fun g q args b y hq hv hc hy => by
    simp only [Cs.addF] at hq
    split at hq
    · rename_i hg; have hg := beqN hg; subst hg; cases hq
      unfold btF at hv
      split at hv
      · rename_i c1 x hd
        cases hv
        obtain ⟨e1, _⟩ := decSs_sound (rows := []) (rows' := []) (fun _ => rfl) _ _ _ _ _ _ hd hc
        have := h x y hy
        rw [e1] at this
        rw [this]
        rfl
      · split at hv
        · rename_i p hp; exact hS.bt _ _ _ _ _ hp hv hc hy
        · cases hv
    · exact hS.bt _ _ _ _ _ hq hv hc hy
  bl := hS.bl
  ct := hS.ct
  xt := hS.xt
  st := hS.st
  lt := hS.lt
instance {f : FuncId} {as : List Shp} {v : Shp} {rows : List RShp} {F : dens as Unit → Option (retS v rows).den} : FkOK (S.addF P f as v rows F) := ⟨FkOK.eq (S := S), FkOK.bd (S := S), FkOK.sm (S := S)⟩

/-! ### loops -/
theorem iterN_succ {α β : Type} {step : α → Option (α ⊕ β)} : ∀ {n : Nat} {x : α} {y : β}, iterN step n x = some y → iterN step (n + 1) x = some y
  | 0, _, _, h => by cases h
  | n + 1, x, y, h => by
    simp only [iterN, Option.bind_eq_some_iff] at h ⊢
    obtain ⟨q, h1, h2⟩ := h
    refine ⟨q, h1, ?_⟩
    cases q with
    | inl z => have := iterN_succ h2; simpa only [Sum.elim_inl, iterN, Option.bind_eq_some_iff] using this
    | inr z => exact h2
theorem iterN_le {α β : Type} {step : α → Option (α ⊕ β)} {n m : Nat} (hnm : n ≤ m) {x : α} {y : β} (h : iterN step n x = some y) : iterN step m x = some y := by
  induction hnm with
  | refl => exact h
  | step _ ih => exact iterN_succ ih
theorem iterW_iff {α β : Type} {step : α → Option (α ⊕ β)} {x : α} {y : β} : iterW step x = some y ↔ ∃ n, iterN step n x = some y := by
  unfold iterW
  constructor
  · intro h
    split at h
    · exact ⟨_, h⟩
    · cases h
  · rintro ⟨n, hn⟩
    have hex : ∃ n, (iterN step n x).isSome := ⟨n, by rw [hn]; rfl⟩
    rw [dif_pos hex]
    obtain ⟨z, hz⟩ := Option.isSome_iff_exists.1 (Classical.choose_spec hex)
    rw [hz]
    have h1 := iterN_le (Nat.le_max_left n (Classical.choose hex)) hn
    have h2 := iterN_le (Nat.le_max_right n (Classical.choose hex)) hz
    rw [h1] at h2
    exact h2.symm
theorem iterW_eq {α β : Type} (step : α → Option (α ⊕ β)) (x : α) : iterW step x = (step x).bind (Sum.elim (iterW step) some) := by
  apply Option.ext
  intro y
  rw [iterW_iff, Option.bind_eq_some_iff]
  constructor
  · rintro ⟨n, hn⟩
    cases n with
    | zero => cases hn
    | succ n =>
      simp only [iterN, Option.bind_eq_some_iff] at hn
      obtain ⟨q, h1, h2⟩ := hn
      refine ⟨q, h1, ?_⟩
      cases q with
      | inl z => exact iterW_iff.2 ⟨n, h2⟩
      | inr z => exact h2
  · rintro ⟨q, h1, h2⟩
    cases q with
    | inl z =>
      obtain ⟨n, hn⟩ := iterW_iff.1 h2
      exact ⟨n + 1, by simp only [iterN, h1, Option.bind_some, Sum.elim_inl, hn]⟩
    | inr z => exact ⟨1, by simp only [iterN, h1, Option.bind_some, Sum.elim_inr]; exact h2⟩
theorem sealedW_eq {α β : Type} (step : α → Option (α ⊕ β)) (x : α) : sealed (iterW step) x = (step x).bind (Sum.elim (sealed (iterW step)) some) := by
  rw [sealed_eq]; exact iterW_eq step x
/-- Which way out is taken. -/
def pickO : (os : List OShp) → denO os → (o : OShp) × o.s.den
  | [], e => nomatch e
  | [o], x => ⟨o, x⟩
  | o :: o' :: os, x => match x with
    | .inl y => ⟨o, y⟩
    | .inr y => pickO (o' :: os) y
theorem pickE_eq : ∀ (os : List OShp) (x : denO os), pickE P os x = ((pickO os x).1.ex, encSlots P (pickO os x).1.s (pickO os x).2, (encStore P (pickO os x).1.s (pickO os x).2).1)
  | [], e => nomatch e
  | [o], x => by simp only [pickE, withEnc_eq, pickO]
  | o :: o' :: os, .inl x => by simp only [pickE, withEnc_eq, pickO]
  | o :: o' :: os, .inr x => by
    have := pickE_eq (o' :: os) x
    simp only [pickE, pickO] at this ⊢
    exact this
theorem outE_eq : ∀ (os : List OShp) {γ : Type} (x : denO os) (k : Ex → List KV → KSt → Option γ), outE P os S.sm x k = k (pickE P os x).1 (pickE P os x).2.1 (pickE P os x).2.2
  | [], _, e, _ => nomatch e
  | [o], _, x, k => by simp only [outE, pickE, withEnc_eq]
  | o :: o' :: os, _, x, k => by
    simp only [outE, FkOK.sm]
    cases x with
    | inl y => simp only [Sum.elim_inl, pickE, withEnc_eq]
    | inr y => simp only [Sum.elim_inr, pickE]; exact outE_eq (o' :: os) y k
theorem pickO_ok : ∀ (os : List OShp) (y : denO os), (os.all fun o => okS P o.s) = true → okS P (pickO os y).1.s = true
  | [], e, _ => nomatch e
  | [o], x, h => by simp only [List.all_cons, Bool.and_eq_true] at h; exact h.1
  | o :: o' :: os, .inl x, h => by simp only [List.all_cons, Bool.and_eq_true] at h; exact h.1
  | o :: o' :: os, .inr x, h => by
    rw [List.all_cons, Bool.and_eq_true] at h
    exact pickO_ok (o' :: os) x h.2
def LoopOK (P : Program) (Θ : Th) (f : FuncId) (key : Nat) (h : StShp) (os : List OShp) (L : h.den → Option (denO os)) : Prop :=
  ∀ x y, L x = some y → run P Θ (.code (.loop (theLoop P f (some key))) ⟨f, toLs (expand (Θ.keep f (some key)) (ntm P f) (encSlots P h x))⟩ (encStore P h x).1.toL) =
    (if (pickO os y).1.ex = .normal then run P Θ (.code (.loop (theLoop P f (some key))) ⟨f, toLs (expand (Θ.keep f (some key)) (ntm P f) (encSlots P (pickO os y).1.s (pickO os y).2))⟩ (encStore P (pickO os y).1.s (pickO os y).2).1.toL)
    else some ⟨(pickO os y).1.ex, .undef, ⟨f, toLs (expand (Θ.keep f (some key)) (ntm P f) (encSlots P (pickO os y).1.s (pickO os y).2))⟩, (encStore P (pickO os y).1.s (pickO os y).2).1.toL⟩)
theorem decOut_sound : ∀ {os : List OShp} {ex : Ex} {vs : List KV} {σ : KSt} {c : Ck} {y : denO os}, decOut P os ex vs σ = some (c, y) → c.val = true → (os.all fun o => okS P o.s) = true → StOK P σ →
    (pickO os y).1.ex = ex ∧ (encStore P (pickO os y).1.s (pickO os y).2).1.toL = σ.toL ∧ toLs (encSlots P (pickO os y).1.s (pickO os y).2) = toLs vs
  | [], _, _, _, _, _, h, _, _, _ => by cases h
  | [o], ex, vs, σ, c, y, h, hc, hk, hσ => by
    simp only [List.all_cons, Bool.and_eq_true] at hk
    simp only [decOut] at h
    split at h
    · rename_i he
      simp only [decide_eq_true_eq] at he
      obtain ⟨e1, e2⟩ := decSt_sound h hc hk.1 hσ
      exact ⟨he, e1, e2⟩
    · cases h
  | o :: o' :: os, ex, vs, σ, c, y, h, hc, hk, hσ => by
    rw [List.all_cons, Bool.and_eq_true] at hk
    simp only [decOut] at h
    split at h
    · rename_i c1 x he hd
      cases h
      simp only [decide_eq_true_eq] at he
      obtain ⟨e1, e2⟩ := decSt_sound hd hc hk.1 hσ
      exact ⟨he, e1, e2⟩
    · split at h
      · rename_i c1 x hd
        cases h
        have := decOut_sound hd hc hk.2 hσ
        exact this
      · cases h
theorem expand_toLs : ∀ (m : List Bool) (n : Nat) {vs us : List KV}, toLs vs = toLs us → toLs (expand m n vs) = toLs (expand m n us)
  | _, 0, _, _, _ => by simp only [expand]
  | true :: m, n + 1, v :: vs, u :: us, h => by
    simp only [toLs, List.cons.injEq] at h
    simp only [expand, toLs, h.1, expand_toLs m n h.2]
  | true :: m, n + 1, [], [], _ => rfl
  | true :: m, n + 1, [], _ :: _, h => by simp [toLs] at h
  | true :: m, n + 1, _ :: _, [], h => by simp [toLs] at h
  | false :: m, n + 1, vs, us, h => by simp only [expand, toLs, expand_toLs m n h]
  | [], n + 1, vs, us, h => by simp only [expand, toLs, expand_toLs [] n h]
theorem step_sound (hS : CsOK P Θ S) {f : FuncId} {key : Nat} {h : StShp} {os : List OShp} (hk : ((loopsOf (bodyOf P f)).filter fun a => loopKey a == some key).length = 1) (hh : okS P h = true) (hos : (os.all fun o => okS P o.s) = true) {x : h.den} {q : h.den ⊕ denO os} (e : stepLT P Θ S f key h os x = some q) :
    run P Θ (.code (.loop (theLoop P f (some key))) ⟨f, toLs (expand (Θ.keep f (some key)) (ntm P f) (encSlots P h x))⟩ (encStore P h x).1.toL) =
      match q with
      | .inl z => run P Θ (.code (.loop (theLoop P f (some key))) ⟨f, toLs (expand (Θ.keep f (some key)) (ntm P f) (encSlots P h z))⟩ (encStore P h z).1.toL)
      | .inr y => (if (pickO os y).1.ex = .normal then run P Θ (.code (.loop (theLoop P f (some key))) ⟨f, toLs (expand (Θ.keep f (some key)) (ntm P f) (encSlots P (pickO os y).1.s (pickO os y).2))⟩ (encStore P (pickO os y).1.s (pickO os y).2).1.toL)
        else some ⟨(pickO os y).1.ex, .undef, ⟨f, toLs (expand (Θ.keep f (some key)) (ntm P f) (encSlots P (pickO os y).1.s (pickO os y).2))⟩, (encStore P (pickO os y).1.s (pickO os y).2).1.toL⟩) := by
  have hm := theLoop_mem hk
  have hσ := encStore_ok (x := x) hh
  have hT : TaskOK P (.code (theLoop P f (some key)) ⟨f, expand (Θ.keep f (some key)) (ntm P f) (encSlots P h x)⟩ (encStore P h x).1) := ⟨loops_sub _ _ hm, hσ⟩
  unfold stepLT at e
  rw [withEnc_eq] at e
  obtain ⟨r, h1, ⟨h2, h3⟩, h4⟩ := runK_sound hS 1000 _ _ _ hT e
  have h3 : r.env.fn = f := h3
  have h1 : run P Θ (.code (theLoop P f (some key)) ⟨f, toLs (expand (Θ.keep f (some key)) (ntm P f) (encSlots P h x))⟩ (encStore P h x).1.toL) = some r.toL := h1
  have et : tidy Θ (some key) ⟨f, toLs (expand (Θ.keep f (some key)) (ntm P f) (encSlots P h x))⟩ = ⟨f, toLs (expand (Θ.keep f (some key)) (ntm P f) (encSlots P h x))⟩ := by
    simp only [tidy, maskK_eq, mask_expand]
  have hkey := theLoop_key hk
  rw [run_loop, hkey, et, h1]
  simp only [Option.bind_some, Res.again, KRes.toL, hkey]
  split at h4
  · rename_i hl hv
    have hl := beqN hl
    have he : r.env = ⟨f, r.env.t⟩ := by rw [← h3]
    have ht : tidy Θ (some key) r.env.toL = ⟨f, toLs (expand (Θ.keep f (some key)) (ntm P f) (compress (Θ.keep f (some key)) r.env.t))⟩ := by
      rw [tidyK_eq]
      simp only [tidyK, KEnv.toL, h3, maskK_expand, hl]
    have htr : trim (encStore P h x).1.toL.sz (tidy Θ (some key) r.env.toL).t r.σ.toL = (trimK (encStore P h x).1.sz (tidyK Θ (some key) ⟨f, r.env.t⟩).t r.σ).toL := by
      rw [sz_eq, ← he]
      have : (tidy Θ (some key) r.env.toL).t = toLs (tidyK Θ (some key) r.env).t := by rw [tidyK_eq]; rfl
      rw [this]
      exact trimK_eq _ _ _
    split at h4
    · rename_i hex
      rw [hex]
      simp only
      rw [htr, ht]
      split at h4
      · rename_i c y hd
        obtain ⟨hc, h5⟩ := chk_some (S := S) h4
        cases h5
        obtain ⟨e1, e2⟩ := decSt_sound hd hc hh (StOK.trim h2)
        simp only
        rw [e1, expand_toLs _ _ e2]
      · split at h4
        · rename_i c y hd
          obtain ⟨hc, h5⟩ := chk_some (S := S) h4
          cases h5
          obtain ⟨e0, e1, e2⟩ := decOut_sound hd hc hos (StOK.trim h2)
          simp only
          rw [if_pos e0, e1, expand_toLs _ _ e2]
        · cases h4
    · rename_i hex
      split at h4
      · rename_i c y hd
        obtain ⟨hc, h5⟩ := chk_some (S := S) h4
        cases h5
        obtain ⟨e0, e1, e2⟩ := decOut_sound hd hc hos h2
        simp only
        rw [if_neg (by rw [e0]; exact hex), e0, e1, expand_toLs _ _ e2, hv]
        cases hx : r.ex <;> first | exact absurd hx hex | (simp only [toL, ht])
      · cases h4
  · cases h4
theorem iterW_ok (hS : CsOK P Θ S) {f : FuncId} {key : Nat} {h : StShp} {os : List OShp} (hk : ((loopsOf (bodyOf P f)).filter fun a => loopKey a == some key).length = 1) (hh : okS P h = true) (hos : (os.all fun o => okS P o.s) = true) :
    LoopOK P Θ f key h os (iterW (stepLT P Θ S f key h os)) := by
  intro x y hy
  obtain ⟨n, hn⟩ := iterW_iff.1 hy
  clear hy
  induction n generalizing x with
  | zero => cases hn
  | succ n ih =>
    simp only [iterN, Option.bind_eq_some_iff] at hn
    obtain ⟨q, h1, h2⟩ := hn
    have := step_sound hS hk hh hos h1
    cases q with
    | inl z => rw [this]; exact ih z h2
    | inr z =>
      simp only [Sum.elim_inr, Option.some.injEq] at h2
      subst h2
      exact this
theorem iterW_ok' (hS : CsOK P Θ S) {f : FuncId} {key : Nat} {h : StShp} {os : List OShp} {L : h.den → Option (denO os)} (hk : ((loopsOf (bodyOf P f)).filter fun a => loopKey a == some key).length = 1) (hh : okS P h = true) (hos : (os.all fun o => okS P o.s) = true)
    (e : L = iterW (stepLT P Θ S f key h os)) : LoopOK P Θ f key h os L := e ▸ iterW_ok hS hk hh hos
theorem CsOK.addLT (hS : CsOK P Θ S) {f : FuncId} {key : Nat} {h : StShp} {os : List OShp} {L : h.den → Option (denO os)} (hk : ((loopsOf (bodyOf P f)).filter fun a => loopKey a == some key).length = 1) (hh : okS P h = true) (hos : (os.all fun o => okS P o.s) = true) (hL : LoopOK P Θ f key h os L) : CsOK P Θ (S.addLT P f key h os L) where
  bt := hS.bt
  ct := hS.ct
  xt := hS.xt
  st := hS.st
  lt := hS.lt
  bl := fun g j q vs σ b y hq hv hc hy a ha hj hσ => by
    simp only [Cs.addLT] at hq ⊢
    split at hq
    · rename_i hg
      simp only [Bool.and_eq_true] at hg
      obtain ⟨hg, hj'⟩ := hg
      have hg := beqN hg
      subst hg
      have hj' : j = some key := by
        cases j with
        | none => cases hj'
        | some i => rw [beqN (a := i) (b := key) hj']
      subst hj'
      cases hq
      unfold blF at hv
      split at hv
      · rename_i c1 x hd
        cases hv
        obtain ⟨e1, e2⟩ := decSt_sound hd hc hh hσ
        have := hL x y hy
        have ea := theLoop_eq hk ha hj
        subst ea
        refine ⟨fun k => outE_eq os y k, ?_⟩
        simp only [pickE_eq]
        rw [e1, expand_toLs _ _ e2] at this
        refine ⟨this, ?_⟩
        exact encStore_ok (pickO_ok os y hos)
      · split at hv
        · rename_i p hp; exact hS.bl _ _ _ _ _ _ _ hp hv hc hy a ha hj hσ
        · cases hv
    · exact hS.bl _ _ _ _ _ _ _ hq hv hc hy a ha hj hσ
instance {f : FuncId} {key : Nat} {h : StShp} {os : List OShp} {L : h.den → Option (denO os)} : FkOK (S.addLT P f key h os L) := ⟨FkOK.eq (S := S), FkOK.bd (S := S), FkOK.sm (S := S)⟩
end
end Go.Proofs.YticpcfchhcjjeaaGreat.LI
