/-
  What the tables of this seat say is so.
-/
import Derived.Test.YticpcfchhcjjeaaGreatTaA
import Derived.Test.YticpcfchhcjjeaaGreatLiW
import Derived.Test.YticpcfchhcjjeaaGreatLiZi
import Derived.Test.YticpcfchhcjjeaaGreatLiX
import Derived.KernelRfl
import Derived.Shelf.RegionOpenPlain
import Derived.Shelf.Spec.SlicesInsertGrow
set_option linter.unusedVariables false
set_option linter.unusedSimpArgs false
namespace Go.Proofs.YticpcfchhcjjeaaGreat.LI
open Go Go.RowKit
open Go.Shelf Go.Proofs Go.Lib
def lays190_ren : Go.Shelf.Ren := ⟨fun | 190 => 33 | 125 => 44 | 258 => 43 | 128 => 68 | 129 => 69 | 302 => 59 | 303 => 60 | 304 => 61 | 305 => 62 | 306 => 63 | 307 => 64 | 308 => 65 | 309 => 66 | 310 => 67 | 333 => 81 | 329 => 82 | 330 => 83 | 334 => 84 | 335 => 85 | 336 => 86 | 344 => 95 | n => n, fun | 31 => 35 | 9 => 9 | 3 => 3 | 46 => 86 | 0 => 0 | 51 => 108 | 53 => 110 | 4 => 4 | 183 => 100 | 182 => 99 | 131 => 105 | 5 => 5 | 218 => 122 | 222 => 126 | 228 => 136 | 229 => 137 | n => n, fun | n => n⟩
theorem lays190 : Go.Proofs.Lays.n190 Tryz.prog lays190_ren := {
  mixed := by kernel_rfl
  f125 := Tryz.func44.trans (congrArg some (by kernel_rfl))
  f128 := Tryz.func68.trans (congrArg some (by kernel_rfl))
  f129 := Tryz.func69.trans (congrArg some (by kernel_rfl))
  f190 := Tryz.func33.trans (congrArg some (by kernel_rfl))
  f258 := Tryz.func43.trans (congrArg some (by kernel_rfl))
  f302 := Tryz.func59.trans (congrArg some (by kernel_rfl))
  f303 := Tryz.func60.trans (congrArg some (by kernel_rfl))
  f304 := Tryz.func61.trans (congrArg some (by kernel_rfl))
  f305 := Tryz.func62.trans (congrArg some (by kernel_rfl))
  f306 := Tryz.func63.trans (congrArg some (by kernel_rfl))
  f307 := Tryz.func64.trans (congrArg some (by kernel_rfl))
  f308 := Tryz.func65.trans (congrArg some (by kernel_rfl))
  f309 := Tryz.func66.trans (congrArg some (by kernel_rfl))
  f310 := Tryz.func67.trans (congrArg some (by kernel_rfl))
  f329 := Tryz.func82.trans (congrArg some (by kernel_rfl))
  f330 := Tryz.func83.trans (congrArg some (by kernel_rfl))
  f333 := Tryz.func81.trans (congrArg some (by kernel_rfl))
  f334 := Tryz.func84.trans (congrArg some (by kernel_rfl))
  f335 := Tryz.func85.trans (congrArg some (by kernel_rfl))
  f336 := Tryz.func86.trans (congrArg some (by kernel_rfl))
  f344 := Tryz.func95.trans (congrArg some (by kernel_rfl))
  t0 := Tryz.underlying0
  a0 := Tryz.isAgg0
  z0 := Tryz.sizeOf0
  v0 := Tryz.zeroValue0
  t3 := Tryz.underlying3
  a3 := Tryz.isAgg3
  z3 := Tryz.sizeOf3
  v3 := Tryz.zeroValue3
  t4 := Tryz.underlying4
  a4 := Tryz.isAgg4
  z4 := Tryz.sizeOf4
  v4 := Tryz.zeroValue4
  t5 := Tryz.underlying5
  a5 := Tryz.isAgg5
  z5 := Tryz.sizeOf5
  v5 := Tryz.zeroValue5
  t9 := Tryz.underlying9
  a9 := Tryz.isAgg9
  z9 := Tryz.sizeOf9
  v9 := Tryz.zeroValue9
  t31 := Tryz.underlying35
  a31 := Tryz.isAgg35
  z31 := Tryz.sizeOf35
  v31 := Tryz.zeroValue35
  t46 := Tryz.underlying86
  a46 := Tryz.isAgg86
  z46 := Tryz.sizeOf86
  v46 := Tryz.zeroValue86
  t51 := Tryz.underlying108
  a51 := Tryz.isAgg108
  z51 := Tryz.sizeOf108
  v51 := Tryz.zeroValue108
  t53 := Tryz.underlying110
  a53 := Tryz.isAgg110
  z53 := Tryz.sizeOf110
  v53 := Tryz.zeroValue110
  t131 := Tryz.underlying105
  a131 := Tryz.isAgg105
  z131 := Tryz.sizeOf105
  v131 := Tryz.zeroValue105
  t182 := Tryz.underlying99
  a182 := Tryz.isAgg99
  z182 := Tryz.sizeOf99
  v182 := Tryz.zeroValue99
  t183 := Tryz.underlying100
  a183 := Tryz.isAgg100
  z183 := Tryz.sizeOf100
  v183 := Tryz.zeroValue100
  t218 := Tryz.underlying122
  a218 := Tryz.isAgg122
  z218 := Tryz.sizeOf122
  v218 := Tryz.zeroValue122
  t222 := Tryz.underlying126
  a222 := Tryz.isAgg126
  z222 := Tryz.sizeOf126
  v222 := Tryz.zeroValue126
  t228 := Tryz.underlying136
  a228 := Tryz.isAgg136
  z228 := Tryz.sizeOf136
  v228 := Tryz.zeroValue136
  t229 := Tryz.underlying137
  a229 := Tryz.isAgg137
  z229 := Tryz.sizeOf137
  v229 := Tryz.zeroValue137 }
theorem exts33 : ExtSOK Tryz.prog 33 sortL := sort_ok (ρ := lays190_ren) lays190
def laysC46_ren : Go.Shelf.Ren := ⟨fun | 41 => 46 | n => n, fun | 22 => 35 | 23 => 9 | 4 => 4 | n => n, fun | n => n⟩
theorem laysC46 : Go.Proofs.SlLaysE0.n41 Tryz.prog laysC46_ren := {
  mixed := by kernel_rfl
  f41 := ⟨Tryz.f46.name, by decide, Tryz.func46.trans (congrArg some (by kernel_rfl))⟩
  t4 := Tryz.underlying4
  a4 := Tryz.isAgg4
  z4 := Tryz.sizeOf4
  v4 := Tryz.zeroValue4
  t22 := Tryz.underlying35
  a22 := Tryz.isAgg35
  z22 := Tryz.sizeOf35
  v22 := Tryz.zeroValue35 }
theorem prim46 : PrimOK Tryz.prog 46 (cloneL 9 1) := clone_ok (ρ := laysC46_ren) laysC46 (ElemOK.of (by kernel_rfl)) Tryz.sizeOf9
set_option maxHeartbeats 4000000 in
set_option maxRecDepth 100000 in
theorem ins91_shift (b n c i vb voff vc : Nat) (cur : Array Value) (vs : List Value) (w : World) (hi : i < n) (hroom : n + 1 ≤ c) (hc63 : c ≤ 9223372036854775807) (hvb : vb ≠ b)
    (hg : w.heap[b]? = some (.cells cur 37 (0, 0))) (hcs : cur.size = c * 2) (hvl : vs.length = 2)
    (hvs : ∀ j v, vs[j]? = some v → w.cell? ⟨vb, voff + j, none⟩ = some v) (h1c : ∀ v ∈ (cur.toList.take (n * 2)), v.oneCell' = true) (h1v : ∀ v ∈ vs, v.oneCell' = true)
    (tA : TypeId) (kA : Nat) (hsa : w.shape? vb = some (tA, kA)) (hkA : kA ≠ 0) :
    Calls Tryz.prog 91 #[.slice (some ⟨b, 0, none⟩) n c, .int .i64 i, .slice (some ⟨vb, voff, none⟩) 1 vc] w fun e w' =>
      e = .returned (.slice (some ⟨b, 0, none⟩) (n + 1) c) ∧ w'.heap = (w.setRow b (cur.toList.take (i * 2) ++ vs ++ (cur.toList.take (n * 2)).drop (i * 2) ++ cur.toList.drop ((n + 1) * 2)).toArray).heap ∧ w'.os = w.os ∧ w'.tape = w.tape ∧ w'.output = w.output := by
  have hz1 : ¬ ((1 : Int) = 0) := by omega
  have hz2 : ¬ ((i : Int) = (n : Int)) := by omega
  have hov : ∀ off lb cb, (callFunc 98 #[.slice (some ⟨vb, voff, none⟩) 1 vc, .slice (some ⟨b, off, none⟩) lb cb]).run Tryz.prog w = .ok (.value (.bool false)) w := fun off lb cb => by
    rw [run_callFunc_extern Tryz.func98 (by kernel_rfl) (by kernel_rfl) (by kernel_rfl) (e := Extern.SlicesOverlaps.overlaps #[22, 22] #[4]) (by kernel_rfl),
      run_overlaps_row w 22 4 37 Tryz.underlying22 2 Tryz.sizeOf37 ⟨vb, voff, none⟩ ⟨b, off, none⟩ 1 vc lb cb hvb tA kA cur 37 hsa hkA hg (by omega)]
    rfl
  have hw1 : IntKind.i64.wrap ((i : Int) + 1) = (i : Int) + 1 := by rw [IntKind.wrap_i64]; omega
  have hw2 : IntKind.i64.wrap ((n : Int) + 1) = (n : Int) + 1 := by rw [IntKind.wrap_i64]; omega
  have hin : i ≤ n := by omega
  have hb1 : (0 : Int) ≤ (i : Int) + 1 := by omega
  have htn : ((i : Int) + 1).toNat = i + 1 := by omega
  have hb2 : ¬ (c = i + 1) := by omega
  have hb3 : (i : Int) ≤ (n : Int) + 1 := by omega
  have hb4 : ¬ (c = i) := by omega
  have hsz : (Tryz.prog.info? 37).map (·.size) = some 2 := by kernel_rfl
  obtain ⟨mid, hmid⟩ : ∃ mid, mid = (cur.toList.take (n * 2)).drop (i * 2) := ⟨_, rfl⟩
  have hml : mid.length = (n - i) * 2 := by
    rw [hmid, List.length_drop, List.length_take, Array.length_toList, hcs, Nat.sub_mul]
    have : n * 2 ≤ c * 2 := Nat.mul_le_mul_right _ (by omega)
    omega
  obtain ⟨cur1, hcur1⟩ : ∃ cur1, cur1 = (cur.toList.take ((i + 1) * 2) ++ mid ++ cur.toList.drop ((i + 1) * 2 + mid.length)).toArray := ⟨_, rfl⟩
  have hc1s : cur1.size = cur.size := by
    rw [hcur1]
    simp only [List.size_toArray, List.length_append, List.length_take, List.length_drop, Array.length_toList]
    omega
  have hcp1 : ∀ ty dc sc, (Builtin.copy_ #[23, 23] ty #[.slice (some ⟨b, (i + 1) * 2, none⟩) (n - i) dc, .slice (some ⟨b, i * 2, none⟩) (n + 1 - i) sc]).run Tryz.prog w.drew = .ok (goInt ((n - i : Nat) : Int)) (w.drew.setRow b cur1) := fun ty dc sc => by
    rw [hcur1]
    exact run_copyR w.drew 23 23 ty 37 b ((i + 1) * 2) (n - i) dc ⟨b, i * 2, none⟩ (n + 1 - i) sc (n - i) 2 mid cur 37 Tryz.underlying23 hsz (by simp only [Nat.min_def]; split <;> omega) hml
      (fun j v hj => by
        rw [Addr.add_lit]
        rw [hmid, List.getElem?_drop, List.getElem?_take] at hj
        split at hj
        · simp only [World.cell?, World.drew, hg]
          simpa using hj
        · cases hj) hg (by omega) (fun v hv => h1c v (List.mem_of_mem_drop (hmid ▸ hv)))
  obtain ⟨cur2, hcur2⟩ : ∃ cur2, cur2 = (cur1.toList.take (i * 2) ++ vs ++ cur1.toList.drop (i * 2 + vs.length)).toArray := ⟨_, rfl⟩
  have hcp2 : ∀ (W : World), W.heap = (w.drew.setRow b cur1).heap → ∀ ty dc, (Builtin.copy_ #[23, 22] ty #[.slice (some ⟨b, i * 2, none⟩) (n + 1 - i) dc, .slice (some ⟨vb, voff, none⟩) 1 vc]).run Tryz.prog W = .ok (goInt 1) (W.setRow b cur2) := fun W hW ty dc => by
    rw [hcur2]
    have hgW : W.heap[b]? = some (.cells cur1 37 (0, 0)) := by rw [hW]; exact setRow_heap _ _ _ _ _ _ hg
    refine run_copyR W 23 22 ty 37 b (i * 2) (n + 1 - i) dc ⟨vb, voff, none⟩ 1 vc 1 2 vs cur1 37 Tryz.underlying23 hsz (by simp only [Nat.min_def]; split <;> omega) (by omega) (fun j v hj => ?_) hgW (by omega) h1v
    rw [Addr.add_lit]
    have := hvs j v hj
    have hb : W.heap[vb]? = w.heap[vb]? := by rw [hW]; exact setRow_other _ _ _ _ hvb
    simp only [World.cell?, hb] at this ⊢
    exact this
  have hfin : cur2 = (cur.toList.take (i * 2) ++ vs ++ mid ++ cur.toList.drop ((n + 1) * 2)).toArray := by
    rw [hcur2]
    congr 1
    have e1 : cur1.toList.take (i * 2) = cur.toList.take (i * 2) := by
      rw [hcur1, List.append_assoc, List.take_append_of_le_length (by rw [List.length_take, Array.length_toList, hcs]; omega), List.take_take, Nat.min_eq_left (by omega)]
    have e2 : cur1.toList.drop (i * 2 + vs.length) = mid ++ cur.toList.drop ((n + 1) * 2) := by
      rw [hcur1, List.append_assoc]
      have hl : (cur.toList.take ((i + 1) * 2)).length = (i + 1) * 2 := by rw [List.length_take, Array.length_toList, hcs]; omega
      show (cur.toList.take ((i + 1) * 2) ++ (mid ++ cur.toList.drop ((i + 1) * 2 + mid.length))).drop (i * 2 + vs.length) = _
      rw [show i * 2 + vs.length = (cur.toList.take ((i + 1) * 2)).length by rw [hl]; omega, List.drop_left]
      congr 2
      omega
    rw [e1, e2, List.append_assoc, List.append_assoc, List.append_assoc]
  rw [← hmid]
  rw [hfin] at hcp2
  clear hcur1 hmid hcur2 hfin
  obtain ⟨CUR, hCUR⟩ : ∃ CUR, CUR = (cur.toList.take (i * 2) ++ vs ++ mid ++ cur.toList.drop ((n + 1) * 2)).toArray := ⟨_, rfl⟩
  rw [← hCUR] at hcp2 ⊢
  have mixed : Tryz.prog.follows .mixedOrders = true := by kernel_rfl
  go_enter Tryz.func91, Tryz.ntmps91
  go_wp2_with (simp only [hov])
  go_region_law_o (refine step_copy_runI rfl _ _ 23 23 rfl _ _ (by simp [Act.eval, Act.put]) (by simp [Act.eval, Act.put]) (hcp1 _ _ _) ?_)
  go_wp2_with (at_builtin; refine wpList_copy_runI _ rfl _ _ 23 22 rfl _ _ rfl rfl (hcp2 _ rfl _ _) ?_)
  go_ret
  refine ⟨rfl, ?_, rfl, rfl, rfl⟩
  rw [setRow_twice w b _ _ cur 37 hg, hCUR]
  simp only [List.append_assoc]

set_option maxHeartbeats 4000000 in
set_option maxRecDepth 100000 in
theorem ins91_end (ao : Option Addr) (n c vb voff vc : Nat) (w w' : World) (v' : Value) (hnc : n ≤ c)
    (hr : (Builtin.append_ #[23, 22] 23 #[.slice ao n c, .slice (some ⟨vb, voff, none⟩) 1 vc]).run Tryz.prog w = .ok v' w') :
    Calls Tryz.prog 91 #[.slice ao n c, .int .i64 n, .slice (some ⟨vb, voff, none⟩) 1 vc] w fun e w'' => e = .returned v' ∧ w'' = w' := by
  have hz1 : ¬ ((1 : Int) = 0) := by omega
  have mixed : Tryz.prog.follows .mixedOrders = true := by kernel_rfl
  go_enter Tryz.func91, Tryz.ntmps91
  go_wp2_with (at_builtin; refine Lib.wpList_append_run _ rfl _ _ _ _ rfl _ _ rfl rfl _ _ hr ?_)
  all_goals (go_ret; exact ⟨rfl, rfl⟩)

set_option maxHeartbeats 4000000 in
set_option maxRecDepth 100000 in
theorem ins91_grow (b n c i vb voff vc : Nat) (cur : Array Value) (vs : List Value) (w : World) (hi : i < n) (hnc : n ≤ c) (hroom : c < n + 1) (hbig : (n + 1) * 128 ≤ 140737488355328) (hvb : vb ≠ w.heap.size)
    (hg : w.heap[b]? = some (.cells cur 37 (0, 0))) (hcs : cur.size = c * 2) (hvl : vs.length = 2)
    (hvs : ∀ j v, vs[j]? = some v → w.cell? ⟨vb, voff + j, none⟩ = some v) (h1c : ∀ v ∈ (cur.toList.take (n * 2)), v.oneCell' = true) (h1v : ∀ v ∈ vs, v.oneCell' = true) :
    Calls Tryz.prog 91 #[.slice (some ⟨b, 0, none⟩) n c, .int .i64 i, .slice (some ⟨vb, voff, none⟩) 1 vc] w fun e w' =>
      ∃ G ROW, e = .returned (.slice (some ⟨w.heap.size, 0, none⟩) (n + 1) G) ∧ w'.heap = (w.alloc (.cells ROW 37)).heap ∧ ROW.size = G * 2 ∧ n + 1 ≤ G ∧ G ≤ maxLen ∧
        ROW.toList.take ((n + 1) * 2) = cur.toList.take (i * 2) ++ vs ++ (cur.toList.take (n * 2)).drop (i * 2) ∧ w'.os = w.os ∧ w'.tape = w.tape ∧ w'.output = w.output := by
  have hz1 : ¬ ((1 : Int) = 0) := by omega
  have hz2 : ¬ ((i : Int) = (n : Int)) := by omega
  have hz3 : (c : Int) < (n : Int) + 1 := by omega
  have hsz : (Tryz.prog.info? 37).map (·.size) = some 2 := by kernel_rfl
  obtain ⟨i0, z, hi0, hz0, hzs, hzb, hzc, _⟩ := (ElemOK.of (P := Tryz.prog) (e := 37) (sz := 2) (by kernel_rfl)).ex
  have hbw : b < w.heap.size := (Array.getElem?_eq_some_iff.1 hg).1
  have hw1 : IntKind.i64.wrap ((i : Int) + 1) = (i : Int) + 1 := by rw [IntKind.wrap_i64]; omega
  have hw2 : IntKind.i64.wrap ((n : Int) + 1) = (n : Int) + 1 := by rw [IntKind.wrap_i64]; omega
  have hw3 : IntKind.i64.wrap ((n : Int) + 1 - (i : Int)) = (n : Int) + 1 - (i : Int) := by rw [IntKind.wrap_i64]; omega
  have hin : i ≤ n := by omega
  have hb1 : (0 : Int) ≤ (i : Int) + 1 := by omega
  have htn : ((i : Int) + 1).toNat = i + 1 := by omega
  have hb3 : (i : Int) ≤ (n : Int) + 1 := by omega
  have hb4 : ¬ (c = i) := by omega
  have hkk : (n : Int) + 1 - (i : Int) = ((n + 1 - i : Nat) : Int) := by omega
  have hik : i + (n + 1 - i) = n + 1 := by omega
  obtain ⟨pre, hpre⟩ : ∃ pre, pre = cur.toList.take (i * 2) := ⟨_, rfl⟩
  have hpl : pre.length = i * 2 := by rw [hpre, List.length_take, Array.length_toList, hcs]; omega
  obtain ⟨mid, hmid⟩ : ∃ mid, mid = (cur.toList.take (n * 2)).drop (i * 2) := ⟨_, rfl⟩
  have hml : mid.length = (n - i) * 2 := by
    rw [hmid, List.length_drop, List.length_take, Array.length_toList, hcs]
    omega
  have hcur : ∀ (j : Nat) (v : Value), cur.toList[j]? = some v → w.cell? ⟨b, j, none⟩ = some v := fun j v hj => by
    simp only [World.cell?, hg]
    simpa using hj
  have hold : (Builtin.firstCells i0.size i (.slice (some ⟨b, 0, none⟩) i c)).run Tryz.prog w.drew = .ok pre.toArray w.drew := by
    rw [hzs]
    exact run_firstCells_some w.drew 2 i ⟨b, 0, none⟩ i c pre (by rw [hpl]) (fun j v hj => by
      rw [Addr.add_lit, Nat.zero_add]
      rw [hpre, List.getElem?_take] at hj
      split at hj
      · exact hcur j v hj
      · cases hj)
  obtain ⟨G, hG⟩ : ∃ G, G = grownCap w (n + 1) c 37 := ⟨_, rfl⟩
  obtain ⟨ROW, hROW⟩ : ∃ ROW : Array Value, ROW = pre.toArray ++ Builtin.zeroCells z.cells (n + 1 - i) ++ Builtin.zeroCells z.cells (G - (n + 1)) := ⟨_, rfl⟩
  have hrz : ∀ ty, (Builtin.append_ #[23, 3] ty #[.slice (some ⟨b, 0, none⟩) i c, .int .i64 ((n : Int) + 1 - (i : Int))]).run Tryz.prog w =
      .ok (.slice (some ⟨w.heap.size, 0, none⟩) (n + 1) G) (w.drew.alloc (.cells ROW 37)) := fun ty => by
    have hbb : (n + 1) * i0.bytes ≤ (n + 1) * 128 := Nat.mul_le_mul_left _ hzb
    have h := Lib.run_append_grow_zeros w 23 3 ty 37 i0 z .i64 .i64 Tryz.underlying23 Tryz.underlying3 hi0 hz0 (some ⟨b, 0, none⟩) i c pre hold (n + 1 - i) (by omega) (by omega) (by omega) (by omega)
      (by have : (n + 1 - i) * i0.bytes ≤ (n + 1) * 128 := Nat.mul_le_mul (by omega) hzb
          omega)
      (by rw [hik]; exact growslice_fits hroom (by omega))
    rw [hik] at h
    rw [hkk, hROW, hG]
    exact h
  have hGn : n + 1 ≤ G := by rw [hG]; exact grownCap_ge w _ _ _
  have hGm : G ≤ maxLen := by rw [hG]; exact grownCap_le_maxLen w (n + 1) c 37 (by unfold maxLen; omega)
  have hG63 : G ≤ 9223372036854775807 := by unfold maxLen at hGm; omega
  have hGi : ¬ (G = i) := by omega
  have hGim : ¬ (G = i + 1) := by omega
  have hRs : ROW.size = G * 2 := by
    rw [hROW, Array.size_append, Array.size_append, size_zeroCells, size_zeroCells, hzc, List.size_toArray, hpl, ← Nat.add_mul, ← Nat.add_mul]
    congr 1
    omega
  have hRt : ROW.toList.take (i * 2) = pre := by
    rw [hROW, Array.toList_append, Array.toList_append, List.toList_toArray, List.append_assoc, ← hpl]
    exact List.take_left
  obtain ⟨ROW1, hROW1⟩ : ∃ ROW1, ROW1 = (ROW.toList.take (i * 2) ++ vs ++ ROW.toList.drop (i * 2 + vs.length)).toArray := ⟨_, rfl⟩
  obtain ⟨ROW2, hROW2⟩ : ∃ ROW2, ROW2 = (ROW1.toList.take ((i + 1) * 2) ++ mid ++ ROW1.toList.drop ((i + 1) * 2 + mid.length)).toArray := ⟨_, rfl⟩
  have hR1s : ROW1.size = ROW.size := by
    rw [hROW1]
    simp only [List.size_toArray, List.length_append, List.length_take, List.length_drop, Array.length_toList]
    omega
  have hR2s : ROW2.size = ROW.size := by
    rw [hROW2]
    simp only [List.size_toArray, List.length_append, List.length_take, List.length_drop, Array.length_toList]
    omega
  have hNb : b ≠ w.heap.size := by omega
  have hN1 : (w.drew.alloc (.cells ROW 37)).heap[w.heap.size]? = some (.cells ROW 37 (0, 0)) := heap_alloc_new w.drew _
  have hcp1 : ∀ (W : World), W.heap = (w.alloc (.cells ROW 37)).heap → ∀ ty dc, (Builtin.copy_ #[23, 22] ty #[.slice (some ⟨w.heap.size, i * 2, none⟩) (n + 1 - i) dc, .slice (some ⟨vb, voff, none⟩) 1 vc]).run Tryz.prog W = .ok (goInt 1) (W.setRow w.heap.size ROW1) := fun W hW ty dc => by
    rw [hROW1]
    have hgW : W.heap[w.heap.size]? = some (.cells ROW 37 (0, 0)) := by rw [hW]; exact hN1
    refine run_copyR W 23 22 ty 37 w.heap.size (i * 2) (n + 1 - i) dc ⟨vb, voff, none⟩ 1 vc 1 2 vs ROW 37 Tryz.underlying23 hsz (by simp only [Nat.min_def]; split <;> omega) (by omega) (fun j v hj => ?_) hgW (by omega) h1v
    rw [Addr.add_lit]
    have h1 := hvs j v hj
    have h2 : vb < w.heap.size := by
      simp only [World.cell?] at h1
      cases hq : w.heap[vb]? with
      | none => rw [hq] at h1; cases h1
      | some o => exact (Array.getElem?_eq_some_iff.1 hq).1
    have hb : W.heap[vb]? = w.heap[vb]? := by rw [hW]; exact heap_alloc_old w _ _ h2
    simp only [World.cell?, hb] at h1 ⊢
    exact h1
  have hcp2 : ∀ (W : World), W.heap = ((w.alloc (.cells ROW 37)).setRow w.heap.size ROW1).heap → ∀ ty dc sc, (Builtin.copy_ #[23, 23] ty #[.slice (some ⟨w.heap.size, (i + 1) * 2, none⟩) (n - i) dc, .slice (some ⟨b, i * 2, none⟩) (n - i) sc]).run Tryz.prog W = .ok (goInt ((n - i : Nat) : Int)) (W.setRow w.heap.size ROW2) := fun W hW ty dc sc => by
    rw [hROW2]
    have hgW : W.heap[w.heap.size]? = some (.cells ROW1 37 (0, 0)) := by rw [hW]; exact setRow_heap _ _ _ _ _ _ hN1
    refine run_copyR W 23 23 ty 37 w.heap.size ((i + 1) * 2) (n - i) dc ⟨b, i * 2, none⟩ (n - i) sc (n - i) 2 mid ROW1 37 Tryz.underlying23 hsz (by simp only [Nat.min_def]; split <;> omega) hml (fun j v hj => ?_) hgW (by omega) (fun v hv => h1c v (List.mem_of_mem_drop (hmid ▸ hv)))
    rw [Addr.add_lit]
    have hb : W.heap[b]? = w.heap[b]? := by rw [hW]; exact (setRow_other _ _ _ _ hNb).trans (heap_alloc_old w _ _ hbw)
    have h1 : w.cell? ⟨b, i * 2 + j, none⟩ = some v := by
      rw [hmid, List.getElem?_drop, List.getElem?_take] at hj
      split at hj
      · exact hcur _ v hj
      · cases hj
    simp only [World.cell?, hb] at h1 ⊢
    exact h1
  have hfin : ROW2.toList.take ((n + 1) * 2) = pre ++ vs ++ mid := by
    have e1 : ROW1.toList.take ((i + 1) * 2) = pre ++ vs := by
      rw [hROW1]
      show (ROW.toList.take (i * 2) ++ vs ++ ROW.toList.drop (i * 2 + vs.length)).take ((i + 1) * 2) = _
      rw [hRt, show (i + 1) * 2 = (pre ++ vs).length by rw [List.length_append, hpl, hvl]; omega]
      exact List.take_left
    rw [hROW2]
    show (ROW1.toList.take ((i + 1) * 2) ++ mid ++ ROW1.toList.drop ((i + 1) * 2 + mid.length)).take ((n + 1) * 2) = _
    rw [e1, show (n + 1) * 2 = (pre ++ vs ++ mid).length by rw [List.length_append, List.length_append, hpl, hvl, hml]; omega]
    exact List.take_left
  rw [← hpre, ← hmid]
  clear hROW hROW1 hROW2 hRt hmid hpre hold hkk hik hG
  have mixed : Tryz.prog.follows .mixedOrders = true := by kernel_rfl
  go_enter Tryz.func91, Tryz.ntmps91
  have hcp1' := hcp1 (w.alloc (.cells ROW 37)).drew rfl
  have hcp2' := hcp2 ((w.alloc (.cells ROW 37)).drew.setRow w.heap.size ROW1).drew rfl
  go_wp2_with (at_builtin; refine Lib.wpList_append_run _ rfl _ _ _ _ rfl _ _ rfl rfl _ _ (hrz _) ?_)
  go_region_law_o (refine step_copy_runI rfl _ _ 23 23 rfl _ _ (by simp [Act.eval, Act.put]) (by simp [Act.eval, Act.put]) (hcp2' _ _ _) ?_)
  go_wp2
  go_ret
  refine ⟨G, ROW2, rfl, ?_, by rw [hR2s, hRs], hGn, hGm, hfin, rfl, rfl, rfl⟩
  exact alloc_setRow w _ ROW1 ROW2 37 (alloc_setRow w _ ROW ROW1 37 rfl)
theorem ins91 : InsWalk Tryz.prog 91 23 22 37 2 where
  tS := Tryz.underlying23
  tV := Tryz.underlying22
  shift := fun b n c i vb voff vc cur vs w hi hroom hc hvb hg hcs hvl hvs h1 h2 tA kA hsa hkA => ins91_shift b n c i vb voff vc cur vs w hi hroom hc hvb hg hcs hvl hvs h1 h2 tA kA hsa hkA
  end_ := fun ao n c vb voff vc w w' v' hnc hr => ins91_end ao n c vb voff vc w w' v' hnc hr
  grow := fun b n c i vb voff vc cur vs w hi hnc hroom hbig hvb hg hcs hvl hvs h1 h2 => ins91_grow b n c i vb voff vc cur vs w hi hnc hroom hbig hvb hg hcs hvl hvs h1 h2
theorem exts91 : ExtSOK Tryz.prog 91 (insertL 37 2) := insert_ok ins91 (ElemOK.of (by kernel_rfl))
theorem prim_ok (f : FuncId) (p : List LV → Option (LV × List Row)) (h : th.prim f = some p) : PrimOK Tryz.prog f p := by
  simp only [th, primTab] at h
  split at h
  · rename_i hf; subst hf; cases h; exact prim46
  · skip
    cases h
theorem exts_ok (f : FuncId) (p : List LV → St → Option (LV × St)) (h : th.extS f = some p) : ExtSOK Tryz.prog f p := by
  simp only [th, extSTab] at h
  split at h
  · rename_i hf; subst hf; cases h; exact exts33
  · skip
    split at h
    · rename_i hf; subst hf; cases h; exact exts91
    · skip
      cases h
theorem ext_ok (f : FuncId) (p : List LV → Option LV) (h : th.ext f = some p) : ExtOK Tryz.prog f p := by
  simp only [th, extTab] at h
  split at h
  · rename_i hf; subst hf; cases h; exact ext_indexByte Tryz.func80 (by kernel_rfl) (by kernel_rfl) (by kernel_rfl) (by kernel_rfl)
  · skip
    cases h
theorem th_ok : ThOK Tryz.prog th := thOK (by kernel_rfl) (es := entL) (fun f h => List.contains_iff_mem.1 h) (by kernel_rfl) prim_ok ext_ok exts_ok
theorem ct_ok (f : FuncId) (p : List KV → Option (Ck × KV × List KRow)) (args : List KV) (c : Ck) (v : KV) (rows : List KRow) (h : ctTab f = some p) (hv : p args = some (c, v, rows)) (hc : c.val = true) :
    run Tryz.prog th (.call f (KV.toL.toLs args)) = some ⟨.normal, v.toL, default, { rows := rows.map KRow.toL }⟩ := by
  unfold ctTab at h
  split at h
  · rename_i hf; subst hf; cases h; exact clone_run rfl hv hc
  · skip
    cases h
theorem xt_ok (f : FuncId) (p : List KV → Option (Ck × KV)) (args : List KV) (c : Ck) (v : KV) (h : xtTab f = some p) (hv : p args = some (c, v)) : th.ent f = false ∧ ∃ q, th.ext f = some q ∧ q (KV.toL.toLs args) = some v.toL ∧ freeK v = true := by
  unfold xtTab at h
  split at h
  · rename_i hf; subst hf; cases h; exact ⟨by kernel_rfl, _, rfl, indexByteK_ok hv⟩
  · skip
    cases h
theorem st_ok (f : FuncId) (p : List KV → KSt → Option (Ck × KV × KSt)) (args : List KV) (σ : KSt) (c : Ck) (v : KV) (σ' : KSt) (h : stTab f = some p) (hv : p args σ = some (c, v, σ')) (hc : c.val = true) : (∃ q, th.extS f = some q ∧ q (KV.toL.toLs args) σ.toL = some (v.toL, σ'.toL)) ∧ σ'.loops = σ.loops := by
  unfold stTab at h
  split at h
  · rename_i hf; subst hf; cases h; exact ⟨⟨_, rfl, (sortK_ok hv hc).1⟩, (sortK_ok hv hc).2⟩
  · skip
    split at h
    · rename_i hf; subst hf; cases h; exact ⟨⟨_, rfl, (insertK_ok hv hc).1⟩, (insertK_ok hv hc).2⟩
    · skip
      cases h
theorem S0_ok : CsOK Tryz.prog th (S0 condF bindF sumF) where
  bt := fun f p args b y h => by cases h
  bl := fun f key p vs σ b y h => by cases h
  ct := fun f p args c v rows h hv hc => ct_ok f p args c v rows h hv hc
  xt := fun f p args c v h hv _ => xt_ok f p args c v h hv
  st := fun f p args σ c v σ' h hv hc => st_ok f p args σ c v σ' h hv hc
  lt := fun f key p vs σ c o h => by cases h
end Go.Proofs.YticpcfchhcjjeaaGreat.LI
