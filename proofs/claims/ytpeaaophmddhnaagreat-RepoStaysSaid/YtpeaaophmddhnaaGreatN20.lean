/-
  An interpreter over values is sound, part 20.
-/
import Derived.Test.YtpeaaophmddhnaaGreatN19
import Derived.Test.YtpeaaophmddhnaaGreatChecked
import Derived.WalkKit
import Derived.Deep.LoopGhost
import Derived.Deep.OwnRows
import Derived.Deep.Light
import Derived.CellFam
import Derived.KernelRfl
import Derived.Sort.Walk0
namespace Go.Proofs.YtpeaaophmddhnaaGreat.LI
open Go Go.RowKit
theorem kSb : (Tryz.prog.info? 3).map (fun i => (i.zero, i.size, i.bytes)) = some (some (.int .i64 0), 1, 8) := by kernel_rfl
theorem kTb : (Tryz.prog.info? 265).map (fun i => (i.zero, i.size, i.bytes)) = some (some (.slice none 0 0), 1, 24) := by kernel_rfl
def yZa (N m r : Nat) : Nat → Value := fun j => if j < r then .slice (some ⟨N + 1 + j, 0, none⟩) m m else .slice none 0 0
structure vCa (w wr : World) (G m r : Nat) (F : Nat → Nat → Int) : Prop where
 since : w.Since w.heap.size wr
 size : wr.heap.size = w.heap.size + 1 + r
 top : wr.rowIs w.heap.size 265 G (yZa w.heap.size m r)
 done : ∀ j, j < r → wr.rowIs (w.heap.size + 1 + j) 3 m (fun c => .int .i64 (F j c))
theorem kUb (w : World) (G m : Nat) : vCa w (w.alloc (.cells (madeCells #[.slice none 0 0] G) 265)) G m 0 (fun _ _ => 0) :=
 ⟨(World.Since.refl _ _).alloc (Nat.le_refl _) _, by simp, (World.rowIs_made w _ G 265).congr (fun j _ => by simp [yZa]), fun j hj => absurd hj (Nat.not_lt_zero _)⟩
theorem nAb {w wr : World} {G m r : Nat} (h : vCa w wr G m r (fun _ _ => 0)) :
  vCa w ((wr.alloc (.cells (madeCells #[.int .i64 0] m) 3)).setCell ⟨w.heap.size, r, none⟩ (.slice (some ⟨w.heap.size + 1 + r, 0, none⟩) m m)) G m (r + 1) (fun _ _ => 0) := by
 have hnew := World.rowIs_made wr (.int .i64 0) m 3
 rw [h.size] at hnew
 refine ⟨(h.since.alloc (by rw [h.size]; omega) _).setCell (Nat.le_refl _) _, by simp [h.size]; omega, ((h.top.alloc _).set r _).congr (fun j _ => ?_), fun j hj => ?_⟩
 ·simp only [yZa]
  by_cases e : j = r
  ·subst e; simp
  ·rw [if_neg e]
   by_cases hlt : j < r
   ·rw [if_pos hlt, if_pos (by omega)]
   ·rw [if_neg hlt, if_neg (by omega)]
 ·by_cases e : j = r
  ·subst e
   exact hnew.setOther (by show w.heap.size + 1 + j ≠ w.heap.size; omega) _
  ·exact ((h.done j (by omega)).alloc _).setOther (by show w.heap.size + 1 + j ≠ w.heap.size; omega) _
def tbF (Z : Nat → Nat → Nat) (i j : Nat) : Nat → Nat → Int := fun r c => if i < r ∨ (r = i ∧ j ≤ c) then (Z r c : Int) else 0
theorem vCa.congr {w wr : World} {G m r : Nat} {F F' : Nat → Nat → Int} (h : vCa w wr G m r F) (hF : ∀ j c, j < r → c < m → F j c = F' j c) : vCa w wr G m r F' :=
 ⟨h.since, h.size, h.top, fun j hj => (h.done j hj).congr fun c hc => by rw [hF j c hj hc]⟩
theorem nBb {w wr : World} {G m r i j : Nat} {Z : Nat → Nat → Nat} (h : vCa w wr G m r (tbF Z i (j + 1))) (hi : i < r) :
  vCa w (wr.setCell ⟨w.heap.size + 1 + i, j, none⟩ (.int .i64 (Z i j : Int))).drew G m r (tbF Z i j) := by
 refine ⟨(h.since.setCell (by show w.heap.size ≤ w.heap.size + 1 + i; omega) _).drew, by simp [h.size], (h.top.setOther (by show w.heap.size ≠ w.heap.size + 1 + i; omega) _).drew, fun q hq => ?_⟩
 by_cases e : q = i
 ·subst e
  refine (((h.done q hq).set j _).congr (fun c _ => ?_)).drew
  by_cases e : c = j
  ·subst e; simp [tbF]
  ·rw [if_neg e]
   simp only [tbF, Nat.lt_irrefl, false_or, true_and]
   by_cases hc : j ≤ c
   ·rw [if_pos (by omega), if_pos (by omega)]
   ·rw [if_neg (by omega), if_neg (by omega)]
 ·refine (((h.done q hq).setOther (by show w.heap.size + 1 + q ≠ w.heap.size + 1 + i; omega) _).congr (fun c _ => ?_)).drew
  simp only [tbF]
  by_cases hc : i < q
  ·rw [if_pos (by omega), if_pos (by omega)]
  ·rw [if_neg (by omega), if_neg (by omega)]
theorem vCa.drew {w wr : World} {G m r : Nat} {F : Nat → Nat → Int} (h : vCa w wr G m r F) : vCa w wr.drew G m r F :=
 ⟨h.since.drew, by simpa using h.size, h.top.drew, fun j hj => (h.done j hj).drew⟩
theorem wQa {w wr : World} {G m r i j : Nat} {Z : Nat → Nat → Nat} (h : vCa w wr G m r (tbF Z i (j + 1))) (hi : i < r) {v : Int} (hv : v = (Z i j : Int)) :
  vCa w (wr.setCell ⟨w.heap.size + 1 + i, j, none⟩ (.int .i64 v)).drew G m r (tbF Z i j) := by rw [hv]; exact nBb h hi
set_option maxHeartbeats 6400000 in
set_option maxRecDepth 1000000 in
theorem eZb (A B : Option Addr) (ab ao bb bo n m ca cb : Nat) (SA SB : Nat → ByteArray) (Z : Nat → Nat → Nat) (w : World)
  (hA : 0 < n → A = some ⟨ab, ao, none⟩) (hB : 0 < m → B = some ⟨bb, bo, none⟩) (hn : n ≤ 1099511627776) (hm : m ≤ 1099511627776)
  (ha : ∀ i, i < n → w.cell? ⟨ab, ao + i, none⟩ = some (.string (SA i))) (hb : ∀ j, j < m → w.cell? ⟨bb, bo + j, none⟩ = some (.string (SB j)))
  (hZn : ∀ c, Z n c = 0) (hZm : ∀ r, Z r m = 0) (hZb : ∀ r c, Z r c ≤ n)
  (hZ : ∀ i j, i < n → j < m → Z i j = if SA i = SB j then Z (i + 1) (j + 1) + 1 else if Z i (j + 1) ≤ Z (i + 1) j then Z (i + 1) j else Z i (j + 1)) :
  Calls Tryz.prog 240 #[.slice A n ca, .slice B m cb] w fun e w' => e = .returned (.slice (some ⟨w.heap.size, 0, none⟩) (n + 1) (n + 1)) ∧ vCa w w' (n + 1) (m + 1) (n + 1) (fun r c => (Z r c : Int)) := by
 have hmk1 := run_make_row' (P := Tryz.prog) 263 265 (.slice none 0 0) 24 Tryz.underlying263 kTb rfl .i64 .i64 (n + 1) (by omega) (by omega)
 have hw1 : IntKind.i64.wrap ((n : Int) + 1) = (n : Int) + 1 := by rw [IntKind.wrap_i64]; omega
 have hw2 : IntKind.i64.wrap ((m : Int) + 1) = (m : Int) + 1 := by rw [IntKind.wrap_i64]; omega
 rw [Int.natCast_add, Int.natCast_one] at hmk1
 have mixed : Tryz.prog.follows .mixedOrders = true := by kernel_rfl
 go_enter Tryz.func240, Tryz.ntmps240
 go_wp2
 clear hmk1
 go_loopg [6] (n + 1) (fun g i wr => ∃ r : Nat, r ≤ n + 1 ∧ g = n + 1 - r ∧ i = .int .i64 r ∧ vCa w wr (n + 1) (m + 1) r (fun _ _ => 0))
 case atStart => exact ⟨0, Nat.zero_le _, rfl, rfl, kUb w (n + 1) (m + 1)⟩
 case round =>
  obtain ⟨r, hr, rfl, rfl, hO⟩ := hrel
  by_cases hrG : r < n + 1
  ·have hrz : (r : Int) ≤ (n : Int) := by omega
   have hsize := hO.size
   have hmk2 := run_make_row' (P := Tryz.prog) 265 3 (.int .i64 0) 8 Tryz.underlying265 kSb rfl .i64 .i64 (m + 1) (by omega) (by omega)
   rw [Int.natCast_add, Int.natCast_one] at hmk2
   have hst1 : ∀ o, (wr.alloc o).cell? ⟨w.heap.size, r, none⟩ = some (yZa w.heap.size (m + 1) r r) := fun o => (hO.top.alloc o).cell hrG
   have hst2 : ∀ o, (wr.alloc o).frozen? ⟨w.heap.size, r, none⟩ = false := fun o => (hO.top.alloc o).frozen r
   go_wp2
   go_roundg (n + 1 - (r + 1))
   case measure => go_light; omega
   case rel => go_light; exact ⟨r + 1, by omega, rfl, by simp, nAb hO⟩
  ·have hrz : ¬ ((r : Int) ≤ (n : Int)) := by omega
   obtain rfl : r = n + 1 := by omega
   have hw3 : IntKind.i64.wrap ((n : Int) - 1) = (n : Int) - 1 := by rw [IntKind.wrap_i64]; omega
   have hw4 : IntKind.i64.wrap ((m : Int) - 1) = (m : Int) - 1 := by rw [IntKind.wrap_i64]; omega
   go_wp2
   have h2 : vCa w wr (n + 1) (m + 1) (n + 1) (fun r c => if n ≤ r then (Z r c : Int) else 0) := hO.congr fun j c hj _ => by
    by_cases h : n ≤ j
    ·obtain rfl : j = n := by omega
     rw [if_pos h, hZn]; rfl
    ·rw [if_neg h]
   clear hO
   go_loopg [7] n (fun g i wr => ∃ (k : Nat) (x : Int), k ≤ n ∧ g = k ∧ i = .int .i64 x ∧ x = (k : Int) - 1 ∧ vCa w wr (n + 1) (m + 1) (n + 1) (fun r c => if k ≤ r then (Z r c : Int) else 0))
   case atStart => exact ⟨n, _, Nat.le_refl _, rfl, rfl, rfl, h2⟩
   case round =>
    obtain ⟨k, x, hk, rfl, rfl, hx, hO⟩ := hrel
    clear h2
    cases gk with
    | zero =>
     obtain rfl : x = -1 := by omega
     clear hx
     go_wp2
     go_ret
     exact ⟨rfl, hO.congr fun j c _ _ => by rw [if_pos (Nat.zero_le _)]⟩
    | succ i =>
     obtain rfl : x = (i : Int) := by omega
     clear hx
     have hx0 : (i : Int) ≥ 0 := by omega
     obtain rfl := hA (by omega)
     have hiw : IntKind.i64.wrap ((i : Int) + 1) = (i : Int) + 1 := by rw [IntKind.wrap_i64]; omega
     have hiv : IntKind.i64.wrap ((i : Int) - 1) = (i : Int) - 1 := by rw [IntKind.wrap_i64]; omega
     have hit : ((i : Int) + 1).toNat = i + 1 := by omega
     have hab : ab < w.heap.size := World.block_lt_of_cell? _ _ (ha i (by omega))
     go_wp2
     have h3 : vCa w wr (n + 1) (m + 1) (n + 1) (tbF Z i m) := hO.congr fun q c _ hc => by
      simp only [tbF]
      by_cases h : i + 1 ≤ q
      ·rw [if_pos h, if_pos (by omega)]
      ·rw [if_neg h]
       by_cases h' : q = i ∧ m ≤ c
       ·obtain ⟨rfl, h''⟩ := h'
        obtain rfl : c = m := by omega
        rw [if_pos (by omega), hZm]; rfl
       ·rw [if_neg (by omega)]
     clear hO
     go_loopg [8] m (fun g j wi => ∃ (l : Nat) (y : Int), l ≤ m ∧ g = l ∧ j = .int .i64 y ∧ y = (l : Int) - 1 ∧ vCa w wi (n + 1) (m + 1) (n + 1) (tbF Z i l))
     case atStart => exact ⟨m, _, Nat.le_refl _, rfl, rfl, rfl, h3⟩
     case round =>
      obtain ⟨l, y, hl, rfl, rfl, hy, hI⟩ := hrel
      clear h3
      cases gk with
      | zero =>
       obtain rfl : y = -1 := by omega
       clear hy
       go_wp2
       go_roundg i
       case measure => go_light; omega
       case rel => go_light; exact ⟨i, _, by omega, rfl, rfl, rfl, hI.congr fun q c _ _ => by
        simp only [tbF]
        by_cases h : i ≤ q
        ·rw [if_pos h, if_pos (by omega)]
        ·rw [if_neg h, if_neg (by omega)]⟩
      | succ j =>
       obtain rfl : y = (j : Int) := by omega
       clear hy
       have hy0 : (j : Int) ≥ 0 := by omega
       obtain rfl := hB (by omega)
       have hjw : IntKind.i64.wrap ((j : Int) + 1) = (j : Int) + 1 := by rw [IntKind.wrap_i64]; omega
       have hjv : IntKind.i64.wrap ((j : Int) - 1) = (j : Int) - 1 := by rw [IntKind.wrap_i64]; omega
       have hjt : ((j : Int) + 1).toNat = j + 1 := by omega
       have hbb : bb < w.heap.size := World.block_lt_of_cell? _ _ (hb j (by omega))
       have t1 : wr.cell? ⟨ab, ao + i, none⟩ = some (.string (SA i)) := by rw [hI.since.cell (a := ⟨ab, ao + i, none⟩) hab]; exact ha i (by omega)
       have t2 : wr.cell? ⟨bb, bo + j, none⟩ = some (.string (SB j)) := by rw [hI.since.cell (a := ⟨bb, bo + j, none⟩) hbb]; exact hb j (by omega)
       have u1 : wr.cell? ⟨w.heap.size, i, none⟩ = some (.slice (some ⟨w.heap.size + 1 + i, 0, none⟩) (m + 1) (m + 1)) := by rw [hI.top.cell (by omega), yZa, if_pos (by omega)]
       have u2 : wr.cell? ⟨w.heap.size, i + 1, none⟩ = some (.slice (some ⟨w.heap.size + 1 + (i + 1), 0, none⟩) (m + 1) (m + 1)) := by rw [hI.top.cell (by omega), yZa, if_pos (by omega)]
       have v1 : wr.cell? ⟨w.heap.size + 1 + (i + 1), j + 1, none⟩ = some (.int .i64 (Z (i + 1) (j + 1) : Nat)) := by rw [(hI.done (i + 1) (by omega)).cell (by omega)]; simp only [tbF]; rw [if_pos (by omega)]
       have v2 : wr.cell? ⟨w.heap.size + 1 + (i + 1), j, none⟩ = some (.int .i64 (Z (i + 1) j : Nat)) := by rw [(hI.done (i + 1) (by omega)).cell (by omega)]; simp only [tbF]; rw [if_pos (by omega)]
       have v3 : wr.cell? ⟨w.heap.size + 1 + i, j + 1, none⟩ = some (.int .i64 (Z i (j + 1) : Nat)) := by rw [(hI.done i (by omega)).cell (by omega)]; simp [tbF]
       have v4 : wr.cell? ⟨w.heap.size + 1 + i, j, none⟩ = some (.int .i64 0) := by rw [(hI.done i (by omega)).cell (by omega)]; simp [tbF]; omega
       have v5 : wr.frozen? ⟨w.heap.size + 1 + i, j, none⟩ = false := (hI.done i (by omega)).frozen j
       have hz := hZ i j (by omega) (by omega)
       have z1 := hZb (i + 1) (j + 1)
       have hzw : IntKind.i64.wrap ((Z (i + 1) (j + 1) : Nat) + 1 : Int) = (Z (i + 1) (j + 1) : Nat) + 1 := by rw [IntKind.wrap_i64]; omega
       have Hz : Aside (Z i j = if SA i = SB j then Z (i + 1) (j + 1) + 1 else if Z i (j + 1) ≤ Z (i + 1) j then Z (i + 1) j else Z i (j + 1)) := hz
       clear hz
       have hin : i < n := by omega
       have hjm : j < m := by omega
       have hin1 : i < n + 1 := by omega
       have hin2 : i + 1 < n + 1 := by omega
       have hjm1 : j < m + 1 := by omega
       have hjm2 : j + 1 < m + 1 := by omega
       by_cases hs : SA i = SB j
       ·go_wp2_with fail
        go_big_region
        go_wp2_with fail
        go_big_region
        go_wp2
        go_roundg j
        case measure => go_light; omega
        case rel => go_light; exact ⟨j, _, by omega, rfl, rfl, by omega, (wQa hI (by omega) (by have := Hz.out; rw [if_pos hs] at this; omega)).drew⟩
       ·have hs' : ¬ ByteArray.toList (SA i) = ByteArray.toList (SB j) := fun e => hs (by rw [Lib.toList_data, Lib.toList_data] at e; exact ByteArray.ext (Array.toList_inj.1 e))
        have hs2 : (ByteArray.toList (SA i) == ByteArray.toList (SB j)) = false := by simpa using hs'
        by_cases hle : Z i (j + 1) ≤ Z (i + 1) j
        ·have hlez : (Z i (j + 1) : Int) ≤ (Z (i + 1) j : Int) := by omega
         go_wp2_with fail
         go_big_region
         go_wp2_with fail
         go_big_region
         go_wp2_with fail
         go_big_region
         go_wp2
         go_roundg j
         case measure => go_light; omega
         case rel => go_light; exact ⟨j, _, by omega, rfl, rfl, by omega, (wQa hI (by omega) (by have := Hz.out; rw [if_neg hs, if_pos hle] at this; omega)).drew.drew⟩
        ·have hlez : ¬ (Z i (j + 1) : Int) ≤ (Z (i + 1) j : Int) := by omega
         go_wp2_with fail
         go_big_region
         go_wp2_with fail
         go_big_region
         go_wp2_with fail
         go_big_region
         go_wp2
         go_roundg j
         case measure => go_light; omega
         case rel => go_light; exact ⟨j, _, by omega, rfl, rfl, by omega, (wQa hI (by omega) (by have := Hz.out; rw [if_neg hs, if_neg hle] at this; omega)).drew.drew⟩
end Go.Proofs.YtpeaaophmddhnaaGreat.LI
