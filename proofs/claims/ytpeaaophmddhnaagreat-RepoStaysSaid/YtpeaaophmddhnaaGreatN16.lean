/-
  An interpreter over values is sound, part 16.
-/
import Derived.Test.YtpeaaophmddhnaaGreatN15
namespace Go.Proofs.YtpeaaophmddhnaaGreat.LI
open Go Go.RowKit
open KV (toL)
open KV.toL (toLs)
def sRa : List ByteArray → List ByteArray → Nat
 | [], _ => 0
 | _ :: _, [] => 0
 | x :: xs, y :: ys => if x = y then sRa xs ys + 1 else if sRa (x :: xs) ys ≤ sRa xs (y :: ys) then sRa xs (y :: ys) else sRa (x :: xs) ys
termination_by a b => a.length + b.length
theorem cIb (b : List ByteArray) : sRa [] b = 0 := by rw [sRa]
theorem xYa (a : List ByteArray) : sRa a [] = 0 := by cases a <;> rw [sRa]
theorem xXa (x y : ByteArray) (xs ys : List ByteArray) : sRa (x :: xs) (y :: ys) = if x = y then sRa xs ys + 1 else if sRa (x :: xs) ys ≤ sRa xs (y :: ys) then sRa xs (y :: ys) else sRa (x :: xs) ys := by rw [sRa]
theorem vWa : ∀ (a b : List ByteArray), sRa a b ≤ a.length
 | [], b => by rw [cIb]; exact Nat.le_refl _
 | x :: xs, [] => by rw [xYa]; exact Nat.zero_le _
 | x :: xs, y :: ys => by
  have h1 := vWa xs ys
  have h2 := vWa (x :: xs) ys
  have h3 := vWa xs (y :: ys)
  rw [xXa]
  simp only [List.length_cons] at *
  split
  ·omega
  ·split <;> omega
termination_by a b => a.length + b.length
def lIb (a b : List ByteArray) : List (List Int) := (List.range (a.length + 1)).map fun i => (List.range (b.length + 1)).map fun j => ((sRa (a.drop i) (b.drop j) : Nat) : Int)
abbrev fOb : Ty := .list (.int .i64)
def uZa : List LV → Option (LV × List Row)
 | [.slice es, .slice fs] => match jYa es, jYa fs with
  | some a, some b => if a.length ≤ bBa ∧ b.length ≤ bBa then some (.slice ((lIb a b).map (eEa fOb)), []) else none
  | _, _ => none
 | _ => none
def uYa : List KV → Option (Ck × KV × List aYa)
 | [.lst t l, .lst u m] => match qEa t .str l, qEa u .str m with
  | some a, some b => some (.and (.is (decide (List.length a ≤ bBa))) (.is (decide (List.length b ≤ bBa))), .lst fOb (lIb a b), [])
  | _, _ => none
 | _ => none
theorem iWb {args : List KV} {c : Ck} {v : KV} {rows : List aYa} (h : uYa args = some (c, v, rows)) (hc : c.val = true) : uZa (toLs args) = some (v.toL, rows.map aYa.toL) := by
 unfold uYa at h
 split at h
 ·rename_i t l u m
  split at h
  ·rename_i a b ha hb
   cases h
   simp only [Ck.val, Bool.and_eq_true, decide_eq_true_eq] at hc
   have h1 := (cUa ha).1
   have h2 := (cUa hb).1
   simp only [toLs, toL, hNa, h1, h2]
   show (match jYa (List.map (eEa .str) a), jYa (List.map (eEa .str) b) with
    | some a, some b => if a.length ≤ bBa ∧ b.length ≤ bBa then some (LV.slice ((lIb a b).map (eEa fOb)), []) else none
    | _, _ => none) = _
   have e1 : jYa (List.map (eEa .str) a) = some a := nJa a
   have e2 : jYa (List.map (eEa .str) b) = some b := nJa b
   rw [e1, e2]
   show (if List.length a ≤ bBa ∧ List.length b ≤ bBa then some (LV.slice ((lIb a b).map (eEa fOb)), []) else none) = _
   rw [if_pos hc]
   rfl
  ·cases h
 ·cases h
end Go.Proofs.YtpeaaophmddhnaaGreat.LI
