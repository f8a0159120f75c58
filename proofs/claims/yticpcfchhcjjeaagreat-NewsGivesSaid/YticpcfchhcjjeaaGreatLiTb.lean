/-
  The document's Table (layer 3) as a function that is given as a whole: definitions, and the lettered one's agreement. No program is named here.
-/
import Derived.Test.YticpcfchhcjjeaaGreatLiV
namespace Go.Proofs.YticpcfchhcjjeaaGreat.LI
open Go Go.RowKit
open KV (toL)
open KV.toL (toLs)
/-- How many lines two lists have in common. -/
def lcsN : List ByteArray → List ByteArray → Nat
  | [], _ => 0
  | _ :: _, [] => 0
  | x :: xs, y :: ys => if x = y then lcsN xs ys + 1 else if lcsN (x :: xs) ys ≤ lcsN xs (y :: ys) then lcsN xs (y :: ys) else lcsN (x :: xs) ys
termination_by a b => a.length + b.length
theorem lcsN_nil (b : List ByteArray) : lcsN [] b = 0 := by rw [lcsN]
theorem lcsN_nil' (a : List ByteArray) : lcsN a [] = 0 := by cases a <;> rw [lcsN]
theorem lcsN_cons (x y : ByteArray) (xs ys : List ByteArray) : lcsN (x :: xs) (y :: ys) = if x = y then lcsN xs ys + 1 else if lcsN (x :: xs) ys ≤ lcsN xs (y :: ys) then lcsN xs (y :: ys) else lcsN (x :: xs) ys := by rw [lcsN]
theorem lcsN_le : ∀ (a b : List ByteArray), lcsN a b ≤ a.length
  | [], b => by rw [lcsN_nil]; exact Nat.le_refl _
  | x :: xs, [] => by rw [lcsN_nil']; exact Nat.zero_le _
  | x :: xs, y :: ys => by
    have h1 := lcsN_le xs ys
    have h2 := lcsN_le (x :: xs) ys
    have h3 := lcsN_le xs (y :: ys)
    rw [lcsN_cons]
    simp only [List.length_cons] at *
    split
    · omega
    · split <;> omega
termination_by a b => a.length + b.length
def tabN (a b : List ByteArray) : List (List Int) := (List.range (a.length + 1)).map fun i => (List.range (b.length + 1)).map fun j => ((lcsN (a.drop i) (b.drop j) : Nat) : Int)
abbrev TabTy : Ty := .list (.int .i64)
def tableL : List LV → Option (LV × List Row)
  | [.slice es, .slice fs] => match strsL es, strsL fs with
    | some a, some b => if a.length ≤ maxEls ∧ b.length ≤ maxEls then some (.slice ((tabN a b).map (encL TabTy)), []) else none
    | _, _ => none
  | _ => none
def tableK : List KV → Option (Ck × KV × List KRow)
  | [.lst t l, .lst u m] => match castL t .str l, castL u .str m with
    | some a, some b => some (.and (.is (decide (List.length a ≤ maxEls))) (.is (decide (List.length b ≤ maxEls))), .lst TabTy (tabN a b), [])
    | _, _ => none
  | _ => none
theorem tableK_ok {args : List KV} {c : Ck} {v : KV} {rows : List KRow} (h : tableK args = some (c, v, rows)) (hc : c.val = true) : tableL (toLs args) = some (v.toL, rows.map KRow.toL) := by
  unfold tableK at h
  split at h
  · rename_i t l u m
    split at h
    · rename_i a b ha hb
      cases h
      simp only [Ck.val, Bool.and_eq_true, decide_eq_true_eq] at hc
      have h1 := (castL_sound ha).1
      have h2 := (castL_sound hb).1
      simp only [toLs, toL, lstL_eq, h1, h2]
      show (match strsL (List.map (encL .str) a), strsL (List.map (encL .str) b) with
        | some a, some b => if a.length ≤ maxEls ∧ b.length ≤ maxEls then some (LV.slice ((tabN a b).map (encL TabTy)), []) else none
        | _, _ => none) = _
      have e1 : strsL (List.map (encL .str) a) = some a := strsL_enc a
      have e2 : strsL (List.map (encL .str) b) = some b := strsL_enc b
      rw [e1, e2]
      show (if List.length a ≤ maxEls ∧ List.length b ≤ maxEls then some (LV.slice ((tabN a b).map (encL TabTy)), []) else none) = _
      rw [if_pos hc]
      rfl
    · cases h
  · cases h
end Go.Proofs.YticpcfchhcjjeaaGreat.LI
