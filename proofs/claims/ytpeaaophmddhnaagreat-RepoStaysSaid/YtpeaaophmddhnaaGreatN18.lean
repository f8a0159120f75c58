/-
  An interpreter over values is sound, part 18.
-/
import Derived.Test.YtpeaaophmddhnaaGreatN17
import Derived.Shelf.SlicesE.Clone
namespace Go.Proofs.YtpeaaophmddhnaaGreat.LI
open Go Go.RowKit
open Go.Shelf Go.Proofs Go.Lib
section
variable {P : Program} {ρ : Ren}
set_option maxHeartbeats 2000000 in
set_option maxRecDepth 100000 in
theorem dNb (L : SlLaysE0.n41 P ρ) (i0 : TypeInfo) (z : Value) (size bytes : Nat) (hi : P.info? (ρ.t 23) = some i0) (hz0 : i0.zero = some z) (hz1 : i0.size = size) (hz2 : i0.bytes = bytes) (hzs : z.cells.size = size) (hsz : 0 < size)
  (z23 : ∀ w, (Go.sizeOf (ρ.t 23)).run P w = .ok size w) (ad : Addr) (n c : Nat) (news : List Value) (w : World) (hl : news.length = n * size) (hn : n ≤ maxLen) (hbig : n * bytes ≤ 140737488355328)
  (hc : ∀ j u, news[j]? = some u → w.cell? (ad.add j) = some u) (h1 : ∀ u ∈ news, u.oneCell' = true) :
  Calls P (ρ.f 41) #[.slice (some ad) n c] w fun e w' => ∃ v', e = .returned v' ∧ w'.ownsRow w.heap.size (ρ.t 23) size v' n news ∧ v' ≠ .slice none 0 0 ∧ Below w.heap.size w w' := by
 have mixed := L.mixed; have t4 := L.t4; have a4 := L.a4; have z4 := L.z4; have v4 := L.v4; have t22 := L.t22; have a22 := L.a22; have z22 := L.z22; have v22 := L.v22
 have q22 : ∀ (w : World) (a : Option Addr) (n c n' c' : Nat), (binOp .eql (ρ.t 22) (.slice a n c) (.slice none n' c')).run P w = .ok (.bool a.isNone) w := fun w a n c n' c' => Lib.run_eql_slice_nil w _ _ a n c n' c' L.t22
 have u22 : ∀ w, Sem.run P (underlying (ρ.t 22)) w = .ok (TypeDesc.slice (ρ.t 23)) w := run_underlying t22
 have A : Aside (∀ j u, news[j]? = some u → w.cell? (ad.add j) = some u) := hc
 clear hc
 obtain ⟨_, _, FG⟩ := L.f41
 go_enter FG, SlBodyN.n41_ntmps ρ
 go_wp2_with (at_builtin; refine wpList_append_own _ rfl _ _ (ρ.t 22) rfl w.heap.size (ρ.t 23) i0 z size bytes t22 hi hz0 hz1 hz2 hzs hsz _ _ _ rfl (World.ownsRow_made w #[] 0 (Nat.le_refl _) (Nat.zero_le _) (by simp)) ad n c news rfl ?qc1 ?qc2 ?qc3 ?qc4 ?qc5 ?qc6 ?_)
 case qc1 => exact hl
 case qc2 =>
  intro j u hj
  exact Lib.cell?_alloc_some _ (A.out j u hj)
 case qc3 => exact h1
 case qc4 => rw [Nat.zero_add]; exact hn
 case qc5 => rw [Nat.zero_add]; exact hbig
 case qc6 => simp
 intro v' w1 hown hgrow hnil
 go_wp2
 go_ret
 refine ⟨v', rfl, by simpa using hown, ?_, ?_⟩
 ·exact hnil
 ·exact ((Below.refl _ w).alloc (Nat.le_refl _) _).grown hgrow (by simp) (by intro k hk; simp [Value.ownBlock] at hk; omega)
structure oHa (P : Program) (e : TypeId) (sz : Nat) : Prop where
 ex : ∃ i0 z, P.info? e = some i0 ∧ i0.zero = some z ∧ i0.size = sz ∧ i0.bytes ≤ 128 ∧ z.cells.size = sz ∧ 0 < sz
def gHb (P : Program) (e : TypeId) (sz : Nat) : Bool := match P.info? e with
 | some i0 => match i0.zero with
  | some z => Nat.beq i0.size sz && (Nat.ble i0.bytes 128 && (Nat.beq z.cells.size sz && Nat.blt 0 sz))
  | none => false
 | none => false
theorem oHa.of {e : TypeId} {sz : Nat} (h : gHb P e sz = true) : oHa P e sz := by
 unfold gHb at h
 split at h
 ·rename_i i0 hi
  split at h
  ·rename_i z hz
   simp only [Bool.and_eq_true] at h
   exact ⟨i0, z, hi, hz, Nat.eq_of_beq_eq_true h.1, Nat.le_of_ble_eq_true h.2.1, Nat.eq_of_beq_eq_true h.2.2.1, by have := h.2.2.2; unfold Nat.blt at this; exact Nat.le_of_ble_eq_true this⟩
  ·cases h
 ·cases h
theorem bYb (L : SlLaysE0.n41 P ρ) {sz : Nat} (hE : oHa P (ρ.t 23) sz) (z23 : ∀ w, (Go.sizeOf (ρ.t 23)).run P w = .ok sz w) : oJa P (ρ.f 41) (mDa (ρ.t 23) sz) where
 ok := fun args q g w vs hp hok hrf hf hv => by
  unfold mDa at hp
  split at hp
  ·rename_i es
   split at hp
   ·rename_i hc
    cases hp
    obtain ⟨hel, hmx⟩ := hc
    obtain ⟨i0, z, hi, hz0, hz1, hz2, hzs, hsz⟩ := hE.ex
    simp only [aBa] at hv
    obtain ⟨v, vs', hvs, hv1, rfl⟩ := hv
    have hvs' := yCa hvs
    subst hvs'
    rw [callsIn_wide]
    have hs := aMa.empty hf
    have hx : aEa g.bare (.slice es) v := dZa (g := g) (g' := g.bare) (fun b => List.prefix_refl _) _ _ (by simpa [aAa.refFreeL] using hrf) hv1
    have hsrc : ∃ ao cap news, v = .slice ao es.length cap ∧ news.length = es.length * sz ∧ aJa g.bare es sz news ∧ (∀ u ∈ news, u.oneCell' = true) ∧ (es = [] ∨ ∃ ad, ao = some ad ∧ ∀ j u, news[j]? = some u → w.cell? (ad.add j) = some u) := by
     rcases sJa (P := P) hs (tx := ρ.t 22) (sz := sz) hx (by unfold bZa; rw [L.t22]; rfl) hel hsz with ⟨s, h, _⟩ | ⟨e', ao, cap, news, _, h1, h2⟩
     ·rw [L.t22] at h; cases h
     ·exact ⟨ao, cap, news, h1, h2⟩
    obtain ⟨ao, cap, news, rfl, n1, n2, n3, n4⟩ := hsrc
    have hmx' : es.length ≤ 1099511627776 := hmx
    have hbig : es.length * i0.bytes ≤ 140737488355328 := Nat.le_trans (Nat.mul_le_mul hmx' hz2) (Nat.le_refl _)
    have hml : es.length ≤ maxLen := by unfold maxLen; omega
    have done : ∀ (v' : Value) (w' : World), w'.ownsRow w.heap.size (ρ.t 23) sz v' es.length news → Below w.heap.size w w' → (∃ a c, v' = .slice a es.length c) → pVa g (.mref 0 es.length) [⟨es, ρ.t 23, sz, true⟩] w (.returned v') w' := fun v' w' ho hb hsl => by
     have hnew := hs.newRow hb (xs := es) (e := ρ.t 23) (sz := sz) (v := v') (vs := news) ho (fun k hk => (ho.lt k hk).1) n2 hsz
     refine ⟨v', g.bare.addPhys 0 es.length v', rfl, fun b => List.prefix_refl _, hnew, ?_⟩
     exact jDa (by simp [G.addPhys]) hsl
    have hslice : ∀ (v' : Value) (w' : World), w'.ownsRow w.heap.size (ρ.t 23) sz v' es.length news → ∃ a c, v' = .slice a es.length c := fun v' w' ho => by
     rcases ho.2 with ⟨rfl, h0⟩ | ⟨g1, cap1, cur, rfl, _⟩
     ·rw [h0]; exact ⟨none, 0, rfl⟩
     ·exact ⟨_, cap1, rfl⟩
    cases ao with
    | some ad =>
     have hcells : ∀ j u, news[j]? = some u → w.cell? (ad.add j) = some u := by
      rcases n4 with h0 | ⟨ad', h1, h2⟩
      ·intro j u hj
       rw [h0] at n1
       have : news = [] := List.eq_nil_of_length_eq_zero (by simpa using n1)
       rw [this] at hj; simp at hj
      ·cases h1; exact h2
     refine (dNb L i0 z sz i0.bytes hi hz0 hz1 rfl hzs hsz z23 ad es.length cap news w n1 hml hbig hcells n3).mono ?_
     rintro e w' ⟨v', rfl, ho, hn, hb⟩
     exact done v' w' ho hb (hslice v' w' ho)
    | none =>
     have h0 : es = [] := by
      rcases n4 with h0 | ⟨ad', h1, _⟩
      ·exact h0
      ·cases h1
     subst h0
     refine (AnyE.slices_Clone_nil L 0 cap w).mono ?_
     rintro e w' ⟨rfl, rfl⟩
     have hn0 : news = [] := List.eq_nil_of_length_eq_zero (by simpa using n1)
     subst hn0
     exact done _ _ (World.ownsRow_nil _ _ _ _) (Below.refl _ _) ⟨none, 0, rfl⟩
   ·cases hp
  ·cases hp
end
end Go.Proofs.YtpeaaophmddhnaaGreat.LI
