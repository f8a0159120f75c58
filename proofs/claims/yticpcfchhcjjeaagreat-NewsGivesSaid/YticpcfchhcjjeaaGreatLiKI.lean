/-
  Loops and ranges, by their keys. No program is named here.
-/
import Derived.Test.YticpcfchhcjjeaaGreatLiKH
namespace Go.Proofs.YticpcfchhcjjeaaGreat.LI
open Go Go.RowKit
open KV (toL)
open KV.toL (toLs)

def theLoop (P : Program) (f : FuncId) (key : Option Nat) : Code := ((loopsOf (bodyOf P f)).filter fun a => loopKey a == key).headD .skip
theorem theLoop_eq {P : Program} {f : FuncId} {key : Option Nat} (h : ((loopsOf (bodyOf P f)).filter fun a => loopKey a == key).length = 1) {a : Code} (ha : a ∈ loopsOf (bodyOf P f)) (hk : loopKey a = key) : a = theLoop P f key := by
  have hm : a ∈ (loopsOf (bodyOf P f)).filter fun a => loopKey a == key := List.mem_filter.2 ⟨ha, by simp [hk]⟩
  unfold theLoop
  generalize ((loopsOf (bodyOf P f)).filter fun a => loopKey a == key) = l at *
  match l, h with
  | [b], _ => simpa using hm
theorem theLoop_mem {P : Program} {f : FuncId} {key : Option Nat} (h : ((loopsOf (bodyOf P f)).filter fun a => loopKey a == key).length = 1) : theLoop P f key ∈ loopsOf (bodyOf P f) := by
  unfold theLoop
  have := fun b => List.mem_filter (x := b) (p := fun a => loopKey a == key) (as := loopsOf (bodyOf P f))
  generalize hl : ((loopsOf (bodyOf P f)).filter fun a => loopKey a == key) = l at *
  match l, h with
  | [b], _ => exact ((this b).1 (by simp)).1
theorem theLoop_key {P : Program} {f : FuncId} {key : Option Nat} (h : ((loopsOf (bodyOf P f)).filter fun a => loopKey a == key).length = 1) : loopKey (theLoop P f key) = key := by
  unfold theLoop
  have := fun b => List.mem_filter (x := b) (p := fun a => loopKey a == key) (as := loopsOf (bodyOf P f))
  generalize hl : ((loopsOf (bodyOf P f)).filter fun a => loopKey a == key) = l at *
  match l, h with
  | [b], _ => simpa using ((this b).1 (by simp)).2
theorem loops_sub : ∀ (c a : Code), a ∈ loopsOf c → (∀ b ∈ loopsOf a, b ∈ loopsOf c) ∧ ∀ b ∈ rangesOf a, b ∈ rangesOf c
  | .seq x y, a, ha => by
    simp only [loopsOf, rangesOf, List.mem_append] at ha ⊢
    rcases ha with ha | ha
    · exact ⟨fun b hb => .inl ((loops_sub x a ha).1 b hb), fun b hb => .inl ((loops_sub x a ha).2 b hb)⟩
    · exact ⟨fun b hb => .inr ((loops_sub y a ha).1 b hb), fun b hb => .inr ((loops_sub y a ha).2 b hb)⟩
  | .cond _ x y, a, ha => by
    simp only [loopsOf, rangesOf, List.mem_append] at ha ⊢
    rcases ha with ha | ha
    · exact ⟨fun b hb => .inl ((loops_sub x a ha).1 b hb), fun b hb => .inl ((loops_sub x a ha).2 b hb)⟩
    · exact ⟨fun b hb => .inr ((loops_sub y a ha).1 b hb), fun b hb => .inr ((loops_sub y a ha).2 b hb)⟩
  | .block _ x, a, ha => by
    simp only [loopsOf, rangesOf] at ha ⊢
    exact loops_sub x a ha
  | .loop x, a, ha => by
    simp only [loopsOf, rangesOf, List.mem_cons] at ha ⊢
    rcases ha with rfl | ha
    · exact ⟨fun b hb => .inr hb, fun b hb => hb⟩
    · exact ⟨fun b hb => .inr ((loops_sub x a ha).1 b hb), (loops_sub x a ha).2⟩
  | .rangeFunc _ _ x y, a, ha => by
    simp only [loopsOf, rangesOf, List.mem_append, List.mem_cons] at ha ⊢
    rcases ha with ha | ha
    · exact ⟨fun b hb => .inl ((loops_sub x a ha).1 b hb), fun b hb => .inr (.inl ((loops_sub x a ha).2 b hb))⟩
    · exact ⟨fun b hb => .inr ((loops_sub y a ha).1 b hb), fun b hb => .inr (.inr ((loops_sub y a ha).2 b hb))⟩
  | .skip, _, ha => by simp [loopsOf] at ha
  | .label _, _, ha => by simp [loopsOf] at ha
  | .region _ _ _, _, ha => by simp [loopsOf] at ha
  | .exit _, _, ha => by simp [loopsOf] at ha
  | .goto _, _, ha => by simp [loopsOf] at ha
  | .ret, _, ha => by simp [loopsOf] at ha
  | .scope _, _, ha => by simp [loopsOf] at ha
  | .refuse _, _, ha => by simp [loopsOf] at ha
def theRange (P : Program) (f : FuncId) (key : Option Nat) : List Tmp × Code × Code := ((rangesOf (bodyOf P f)).filter fun a => loopKey a.2.1 == key).headD ([], .skip, .skip)
theorem theRange_eq {P : Program} {f : FuncId} {key : Option Nat} (h : ((rangesOf (bodyOf P f)).filter fun a => loopKey a.2.1 == key).length = 1) {a : List Tmp × Code × Code} (ha : a ∈ rangesOf (bodyOf P f)) (hk : loopKey a.2.1 = key) : a = theRange P f key := by
  have hm : a ∈ (rangesOf (bodyOf P f)).filter fun a => loopKey a.2.1 == key := List.mem_filter.2 ⟨ha, by simp [hk]⟩
  unfold theRange
  generalize ((rangesOf (bodyOf P f)).filter fun a => loopKey a.2.1 == key) = l at *
  match l, h with
  | [b], _ => simpa using hm
theorem StOK.same {P : Program} {σ σ' : KSt} (h : StOK P σ) (e : σ'.loops.map (fun l => (l.env.fn, l.params, l.assign, l.body)) = σ.loops.map (fun l => (l.env.fn, l.params, l.assign, l.body))) : StOK P σ' := by
  intro lr hl
  have : (lr.env.fn, lr.params, lr.assign, lr.body) ∈ σ.loops.map (fun l => (l.env.fn, l.params, l.assign, l.body)) := by
    rw [← e]; exact List.mem_map_of_mem hl
  obtain ⟨lr', h1, h2⟩ := List.mem_map.1 this
  have h3 := h lr' h1
  simp only [Prod.mk.injEq] at h2
  obtain ⟨e1, e2, e3, e4⟩ := h2
  rw [← e1, ← e2, ← e3, ← e4]
  exact h3
theorem mask_expand : ∀ (m : List Bool) (n : Nat) (vs : List KV), maskK m (expand m n vs) = expand m n vs
  | _, 0, _ => by simp [expand, maskK]
  | true :: m, n + 1, v :: vs => by simp only [expand, maskK, mask_expand m n vs]
  | true :: m, n + 1, [] => by simp only [expand, maskK, mask_expand m n []]
  | false :: m, n + 1, vs => by simp only [expand, maskK, mask_expand m n vs]
  | [], n + 1, vs => by simp only [expand, maskK, mask_expand [] n vs]
theorem expand_len : ∀ (m : List Bool) (n : Nat) (vs : List KV), (expand m n vs).length = n
  | _, 0, _ => by simp [expand]
  | true :: m, n + 1, v :: vs => by simp only [expand, List.length_cons, expand_len m n vs]
  | true :: m, n + 1, [] => by simp only [expand, List.length_cons, expand_len m n []]
  | false :: m, n + 1, vs => by simp only [expand, List.length_cons, expand_len m n vs]
  | [], n + 1, vs => by simp only [expand, List.length_cons, expand_len [] n vs]

end Go.Proofs.YticpcfchhcjjeaaGreat.LI
