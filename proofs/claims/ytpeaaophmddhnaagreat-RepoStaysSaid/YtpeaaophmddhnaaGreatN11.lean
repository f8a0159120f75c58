/-
  An interpreter over values is sound, part 11.
-/
import Derived.Test.YtpeaaophmddhnaaGreatN10
namespace Go.Proofs.YtpeaaophmddhnaaGreat.LI
open Go Go.RowKit
open KV (toL)
open KV.toL (toLs)
def eZa (P : Program) (f : FuncId) (key : Option Nat) : Code := ((aGa (aWa P f)).filter fun a => aCa a == key).headD .skip
theorem fBb {P : Program} {f : FuncId} {key : Option Nat} (h : ((aGa (aWa P f)).filter fun a => aCa a == key).length = 1) {a : Code} (ha : a ∈ aGa (aWa P f)) (hk : aCa a = key) : a = eZa P f key := by
 have hm : a ∈ (aGa (aWa P f)).filter fun a => aCa a == key := List.mem_filter.2 ⟨ha, by simp [hk]⟩
 unfold eZa
 generalize ((aGa (aWa P f)).filter fun a => aCa a == key) = l at *
 match l, h with
 | [b], _ => simpa using hm
theorem bIb {P : Program} {f : FuncId} {key : Option Nat} (h : ((aGa (aWa P f)).filter fun a => aCa a == key).length = 1) : eZa P f key ∈ aGa (aWa P f) := by
 unfold eZa
 have := fun b => List.mem_filter (x := b) (p := fun a => aCa a == key) (as := aGa (aWa P f))
 generalize hl : ((aGa (aWa P f)).filter fun a => aCa a == key) = l at *
 match l, h with
 | [b], _ => exact ((this b).1 (by simp)).1
theorem bHb {P : Program} {f : FuncId} {key : Option Nat} (h : ((aGa (aWa P f)).filter fun a => aCa a == key).length = 1) : aCa (eZa P f key) = key := by
 unfold eZa
 have := fun b => List.mem_filter (x := b) (p := fun a => aCa a == key) (as := aGa (aWa P f))
 generalize hl : ((aGa (aWa P f)).filter fun a => aCa a == key) = l at *
 match l, h with
 | [b], _ => simpa using ((this b).1 (by simp)).2
theorem bJa : ∀ (c a : Code), a ∈ aGa c → (∀ b ∈ aGa a, b ∈ aGa c) ∧ ∀ b ∈ aFa a, b ∈ aFa c
 | .seq x y, a, ha => by
  simp only [aGa, aFa, List.mem_append] at ha ⊢
  rcases ha with ha | ha
  ·exact ⟨fun b hb => .inl ((bJa x a ha).1 b hb), fun b hb => .inl ((bJa x a ha).2 b hb)⟩
  ·exact ⟨fun b hb => .inr ((bJa y a ha).1 b hb), fun b hb => .inr ((bJa y a ha).2 b hb)⟩
 | .cond _ x y, a, ha => by
  simp only [aGa, aFa, List.mem_append] at ha ⊢
  rcases ha with ha | ha
  ·exact ⟨fun b hb => .inl ((bJa x a ha).1 b hb), fun b hb => .inl ((bJa x a ha).2 b hb)⟩
  ·exact ⟨fun b hb => .inr ((bJa y a ha).1 b hb), fun b hb => .inr ((bJa y a ha).2 b hb)⟩
 | .block _ x, a, ha => by
  simp only [aGa, aFa] at ha ⊢
  exact bJa x a ha
 | .scope x, a, ha => by
  simp only [aGa, aFa] at ha ⊢
  exact bJa x a ha
 | .loop x, a, ha => by
  simp only [aGa, aFa, List.mem_cons] at ha ⊢
  rcases ha with rfl | ha
  ·exact ⟨fun b hb => .inr hb, fun b hb => hb⟩
  ·exact ⟨fun b hb => .inr ((bJa x a ha).1 b hb), (bJa x a ha).2⟩
 | .rangeFunc _ _ x y, a, ha => by
  simp only [aGa, aFa, List.mem_append, List.mem_cons] at ha ⊢
  rcases ha with ha | ha
  ·exact ⟨fun b hb => .inl ((bJa x a ha).1 b hb), fun b hb => .inr (.inl ((bJa x a ha).2 b hb))⟩
  ·exact ⟨fun b hb => .inr ((bJa y a ha).1 b hb), fun b hb => .inr (.inr ((bJa y a ha).2 b hb))⟩
 | .skip, _, ha => by simp [aGa] at ha
 | .label _, _, ha => by simp [aGa] at ha
 | .region _ _ _, _, ha => by simp [aGa] at ha
 | .exit _, _, ha => by simp [aGa] at ha
 | .goto _, _, ha => by simp [aGa] at ha
 | .ret, _, ha => by simp [aGa] at ha
 | .refuse _, _, ha => by simp [aGa] at ha
def iUa (P : Program) (f : FuncId) (key : Option Nat) : List Tmp × Code × Code := ((aFa (aWa P f)).filter fun a => aCa a.2.1 == key).headD ([], .skip, .skip)
theorem bJb {P : Program} {f : FuncId} {key : Option Nat} (h : ((aFa (aWa P f)).filter fun a => aCa a.2.1 == key).length = 1) {a : List Tmp × Code × Code} (ha : a ∈ aFa (aWa P f)) (hk : aCa a.2.1 = key) : a = iUa P f key := by
 have hm : a ∈ (aFa (aWa P f)).filter fun a => aCa a.2.1 == key := List.mem_filter.2 ⟨ha, by simp [hk]⟩
 unfold iUa
 generalize ((aFa (aWa P f)).filter fun a => aCa a.2.1 == key) = l at *
 match l, h with
 | [b], _ => simpa using hm
theorem cEa.same {P : Program} {σ σ' : KSt} (h : cEa P σ) (e : σ'.loops.map (fun l => (l.env.fn, l.params, l.assign, l.body)) = σ.loops.map (fun l => (l.env.fn, l.params, l.assign, l.body))) : cEa P σ' := by
 intro lr hl
 have : (lr.env.fn, lr.params, lr.assign, lr.body) ∈ σ.loops.map (fun l => (l.env.fn, l.params, l.assign, l.body)) := by
  rw [← e]; exact List.mem_map_of_mem hl
 obtain ⟨lr', h1, h2⟩ := List.mem_map.1 this
 have h3 := h lr' h1
 simp only [Prod.mk.injEq] at h2
 obtain ⟨e1, e2, e3, e4⟩ := h2
 rw [← e1, ← e2, ← e3, ← e4]
 exact h3
theorem gXa : ∀ (m : List Bool) (n : Nat) (vs : List KV), hOa m (aOa m n vs) = aOa m n vs
 | _, 0, _ => by simp [aOa, hOa]
 | true :: m, n + 1, v :: vs => by simp only [aOa, hOa, gXa m n vs]
 | true :: m, n + 1, [] => by simp only [aOa, hOa, gXa m n []]
 | false :: m, n + 1, vs => by simp only [aOa, hOa, gXa m n vs]
 | [], n + 1, vs => by simp only [aOa, hOa, gXa [] n vs]
theorem kHa : ∀ (m : List Bool) (n : Nat) (vs : List KV), (aOa m n vs).length = n
 | _, 0, _ => by simp [aOa]
 | true :: m, n + 1, v :: vs => by simp only [aOa, List.length_cons, kHa m n vs]
 | true :: m, n + 1, [] => by simp only [aOa, List.length_cons, kHa m n []]
 | false :: m, n + 1, vs => by simp only [aOa, List.length_cons, kHa m n vs]
 | [], n + 1, vs => by simp only [aOa, List.length_cons, kHa [] n vs]
end Go.Proofs.YtpeaaophmddhnaaGreat.LI
