/-
  An interpreter over values is sound, part 23.
-/
import Derived.Test.YtpeaaophmddhnaaGreatN22
import Derived.KernelRfl
import Derived.Shelf.RegionOpenPlain
import Derived.Shelf.Spec.SlicesInsertGrow
set_option linter.unusedVariables false
set_option linter.unusedSimpArgs false
namespace Go.Proofs.YtpeaaophmddhnaaGreat.LI
open Go Go.RowKit
open Go.Shelf Go.Proofs Go.Lib
def rGa : Go.Shelf.Ren := ⟨fun | 190 => 94 | 125 => 145 | 258 => 144 | 128 => 182 | 129 => 183 | 302 => 173 | 303 => 174 | 304 => 175 | 305 => 176 | 306 => 177 | 307 => 178 | 308 => 179 | 309 => 180 | 310 => 181 | 333 => 209 | 329 => 210 | 330 => 211 | 334 => 212 | 335 => 213 | 336 => 214 | 344 => 229 | n => n, fun | 31 => 56 | 9 => 9 | 3 => 3 | 46 => 182 | 0 => 0 | 51 => 207 | 53 => 209 | 4 => 4 | 183 => 199 | 182 => 198 | 131 => 204 | 5 => 5 | 218 => 231 | 222 => 235 | 228 => 253 | 229 => 254 | n => n, fun | n => n⟩
theorem mEb : Go.Proofs.Lays.n190 Tryz.prog rGa := {
 mixed := by kernel_rfl
 f125 := Tryz.func145.trans (congrArg some (by kernel_rfl))
 f128 := Tryz.func182.trans (congrArg some (by kernel_rfl))
 f129 := Tryz.func183.trans (congrArg some (by kernel_rfl))
 f190 := Tryz.func94.trans (congrArg some (by kernel_rfl))
 f258 := Tryz.func144.trans (congrArg some (by kernel_rfl))
 f302 := Tryz.func173.trans (congrArg some (by kernel_rfl))
 f303 := Tryz.func174.trans (congrArg some (by kernel_rfl))
 f304 := Tryz.func175.trans (congrArg some (by kernel_rfl))
 f305 := Tryz.func176.trans (congrArg some (by kernel_rfl))
 f306 := Tryz.func177.trans (congrArg some (by kernel_rfl))
 f307 := Tryz.func178.trans (congrArg some (by kernel_rfl))
 f308 := Tryz.func179.trans (congrArg some (by kernel_rfl))
 f309 := Tryz.func180.trans (congrArg some (by kernel_rfl))
 f310 := Tryz.func181.trans (congrArg some (by kernel_rfl))
 f329 := Tryz.func210.trans (congrArg some (by kernel_rfl))
 f330 := Tryz.func211.trans (congrArg some (by kernel_rfl))
 f333 := Tryz.func209.trans (congrArg some (by kernel_rfl))
 f334 := Tryz.func212.trans (congrArg some (by kernel_rfl))
 f335 := Tryz.func213.trans (congrArg some (by kernel_rfl))
 f336 := Tryz.func214.trans (congrArg some (by kernel_rfl))
 f344 := Tryz.func229.trans (congrArg some (by kernel_rfl))
 t0 := Tryz.underlying0
 a0 := Tryz.isAgg0
 z0 := Tryz.sizeOf0
 v0 := Tryz.zeroValue0
 t3 := Tryz.underlying3
 a3 := Tryz.isAgg3
 z3 := Tryz.sizeOf3
 v3 := Tryz.zeroValue3
 t4 := Tryz.underlying4
 a4 := Tryz.isAgg4
 z4 := Tryz.sizeOf4
 v4 := Tryz.zeroValue4
 t5 := Tryz.underlying5
 a5 := Tryz.isAgg5
 z5 := Tryz.sizeOf5
 v5 := Tryz.zeroValue5
 t9 := Tryz.underlying9
 a9 := Tryz.isAgg9
 z9 := Tryz.sizeOf9
 v9 := Tryz.zeroValue9
 t31 := Tryz.underlying56
 a31 := Tryz.isAgg56
 z31 := Tryz.sizeOf56
 v31 := Tryz.zeroValue56
 t46 := Tryz.underlying182
 a46 := Tryz.isAgg182
 z46 := Tryz.sizeOf182
 v46 := Tryz.zeroValue182
 t51 := Tryz.underlying207
 a51 := Tryz.isAgg207
 z51 := Tryz.sizeOf207
 v51 := Tryz.zeroValue207
 t53 := Tryz.underlying209
 a53 := Tryz.isAgg209
 z53 := Tryz.sizeOf209
 v53 := Tryz.zeroValue209
 t131 := Tryz.underlying204
 a131 := Tryz.isAgg204
 z131 := Tryz.sizeOf204
 v131 := Tryz.zeroValue204
 t182 := Tryz.underlying198
 a182 := Tryz.isAgg198
 z182 := Tryz.sizeOf198
 v182 := Tryz.zeroValue198
 t183 := Tryz.underlying199
 a183 := Tryz.isAgg199
 z183 := Tryz.sizeOf199
 v183 := Tryz.zeroValue199
 t218 := Tryz.underlying231
 a218 := Tryz.isAgg231
 z218 := Tryz.sizeOf231
 v218 := Tryz.zeroValue231
 t222 := Tryz.underlying235
 a222 := Tryz.isAgg235
 z222 := Tryz.sizeOf235
 v222 := Tryz.zeroValue235
 t228 := Tryz.underlying253
 a228 := Tryz.isAgg253
 z228 := Tryz.sizeOf253
 v228 := Tryz.zeroValue253
 t229 := Tryz.underlying254
 a229 := Tryz.isAgg254
 z229 := Tryz.sizeOf254
 v229 := Tryz.zeroValue254 }
def rHa : Go.Shelf.Ren := ⟨fun | 41 => 69 | n => n, fun | 22 => 56 | 23 => 9 | 4 => 4 | n => n, fun | n => n⟩
theorem mFb : Go.Proofs.SlLaysE0.n41 Tryz.prog rHa := {
 mixed := by kernel_rfl
 f41 := ⟨Tryz.f69.name, by decide, Tryz.func69.trans (congrArg some (by kernel_rfl))⟩
 t4 := Tryz.underlying4
 a4 := Tryz.isAgg4
 z4 := Tryz.sizeOf4
 v4 := Tryz.zeroValue4
 t22 := Tryz.underlying56
 a22 := Tryz.isAgg56
 z22 := Tryz.sizeOf56
 v22 := Tryz.zeroValue56 }
theorem oZb : oJa Tryz.prog 69 (mDa 9 1) := bYb (ρ := rHa) mFb (oHa.of (by kernel_rfl)) Tryz.sizeOf9
set_option maxHeartbeats 4000000 in
set_option maxRecDepth 100000 in
theorem aAb (b n c i vb voff vc : Nat) (cur : Array Value) (vs : List Value) (w : World) (hi : i < n) (hroom : n + 1 ≤ c) (hc63 : c ≤ 9223372036854775807) (hvb : vb ≠ b)
  (hg : w.heap[b]? = some (.cells cur 98 (0, 0))) (hcs : cur.size = c * 2) (hvl : vs.length = 2)
  (hvs : ∀ j v, vs[j]? = some v → w.cell? ⟨vb, voff + j, none⟩ = some v) (h1c : ∀ v ∈ (cur.toList.take (n * 2)), v.oneCell' = true) (h1v : ∀ v ∈ vs, v.oneCell' = true)
  (tA : TypeId) (kA : Nat) (hsa : w.shape? vb = some (tA, kA)) (hkA : kA ≠ 0) :
  Calls Tryz.prog 72 #[.slice (some ⟨b, 0, none⟩) n c, .int .i64 i, .slice (some ⟨vb, voff, none⟩) 1 vc] w fun e w' =>
   e = .returned (.slice (some ⟨b, 0, none⟩) (n + 1) c) ∧ w'.heap = (w.setRow b (cur.toList.take (i * 2) ++ vs ++ (cur.toList.take (n * 2)).drop (i * 2) ++ cur.toList.drop ((n + 1) * 2)).toArray).heap ∧ w'.os = w.os ∧ w'.tape = w.tape ∧ w'.output = w.output := by
 have hz1 : ¬ ((1 : Int) = 0) := by omega
 have hz2 : ¬ ((i : Int) = (n : Int)) := by omega
 have hov : ∀ off lb cb, (callFunc 121 #[.slice (some ⟨vb, voff, none⟩) 1 vc, .slice (some ⟨b, off, none⟩) lb cb]).run Tryz.prog w = .ok (.value (.bool false)) w := fun off lb cb => by
  rw [run_callFunc_extern Tryz.func121 (by kernel_rfl) (by kernel_rfl) (by kernel_rfl) (e := Extern.SlicesOverlaps.overlaps #[44, 44] #[4]) (by kernel_rfl),
   pFa w 44 4 98 Tryz.underlying44 2 Tryz.sizeOf98 ⟨vb, voff, none⟩ ⟨b, off, none⟩ 1 vc lb cb hvb tA kA cur 98 hsa hkA hg (by omega)]
  rfl
 have hw1 : IntKind.i64.wrap ((i : Int) + 1) = (i : Int) + 1 := by rw [IntKind.wrap_i64]; omega
 have hw2 : IntKind.i64.wrap ((n : Int) + 1) = (n : Int) + 1 := by rw [IntKind.wrap_i64]; omega
 have hin : i ≤ n := by omega
 have hb1 : (0 : Int) ≤ (i : Int) + 1 := by omega
 have htn : ((i : Int) + 1).toNat = i + 1 := by omega
 have hb2 : ¬ (c = i + 1) := by omega
 have hb3 : (i : Int) ≤ (n : Int) + 1 := by omega
 have hb4 : ¬ (c = i) := by omega
 have hsz : (Tryz.prog.info? 98).map (·.size) = some 2 := by kernel_rfl
 obtain ⟨mid, hmid⟩ : ∃ mid, mid = (cur.toList.take (n * 2)).drop (i * 2) := ⟨_, rfl⟩
 have hml : mid.length = (n - i) * 2 := by
  rw [hmid, List.length_drop, List.length_take, Array.length_toList, hcs, Nat.sub_mul]
  have : n * 2 ≤ c * 2 := Nat.mul_le_mul_right _ (by omega)
  omega
 obtain ⟨cur1, hcur1⟩ : ∃ cur1, cur1 = (cur.toList.take ((i + 1) * 2) ++ mid ++ cur.toList.drop ((i + 1) * 2 + mid.length)).toArray := ⟨_, rfl⟩
 have hc1s : cur1.size = cur.size := by
  rw [hcur1]
  simp only [List.size_toArray, List.length_append, List.length_take, List.length_drop, Array.length_toList]
  omega
 have hcp1 : ∀ ty dc sc, (Builtin.copy_ #[45, 45] ty #[.slice (some ⟨b, (i + 1) * 2, none⟩) (n - i) dc, .slice (some ⟨b, i * 2, none⟩) (n + 1 - i) sc]).run Tryz.prog w.drew = .ok (goInt ((n - i : Nat) : Int)) (w.drew.setRow b cur1) := fun ty dc sc => by
  rw [hcur1]
  exact nDa w.drew 45 45 ty 98 b ((i + 1) * 2) (n - i) dc ⟨b, i * 2, none⟩ (n + 1 - i) sc (n - i) 2 mid cur 98 Tryz.underlying45 hsz (by simp only [Nat.min_def]; split <;> omega) hml
   (fun j v hj => by
    rw [Addr.add_lit]
    rw [hmid, List.getElem?_drop, List.getElem?_take] at hj
    split at hj
    ·simp only [World.cell?, World.drew, hg]
     simpa using hj
    ·cases hj) hg (by omega) (fun v hv => h1c v (List.mem_of_mem_drop (hmid ▸ hv)))
 obtain ⟨cur2, hcur2⟩ : ∃ cur2, cur2 = (cur1.toList.take (i * 2) ++ vs ++ cur1.toList.drop (i * 2 + vs.length)).toArray := ⟨_, rfl⟩
 have hcp2 : ∀ (W : World), W.heap = (w.drew.setRow b cur1).heap → ∀ ty dc, (Builtin.copy_ #[45, 44] ty #[.slice (some ⟨b, i * 2, none⟩) (n + 1 - i) dc, .slice (some ⟨vb, voff, none⟩) 1 vc]).run Tryz.prog W = .ok (goInt 1) (W.setRow b cur2) := fun W hW ty dc => by
  rw [hcur2]
  have hgW : W.heap[b]? = some (.cells cur1 98 (0, 0)) := by rw [hW]; exact setRow_heap _ _ _ _ _ _ hg
  refine nDa W 45 44 ty 98 b (i * 2) (n + 1 - i) dc ⟨vb, voff, none⟩ 1 vc 1 2 vs cur1 98 Tryz.underlying45 hsz (by simp only [Nat.min_def]; split <;> omega) (by omega) (fun j v hj => ?_) hgW (by omega) h1v
  rw [Addr.add_lit]
  have := hvs j v hj
  have hb : W.heap[vb]? = w.heap[vb]? := by rw [hW]; exact setRow_other _ _ _ _ hvb
  simp only [World.cell?, hb] at this ⊢
  exact this
 have hfin : cur2 = (cur.toList.take (i * 2) ++ vs ++ mid ++ cur.toList.drop ((n + 1) * 2)).toArray := by
  rw [hcur2]
  congr 1
  have e1 : cur1.toList.take (i * 2) = cur.toList.take (i * 2) := by
   rw [hcur1, List.append_assoc, List.take_append_of_le_length (by rw [List.length_take, Array.length_toList, hcs]; omega), List.take_take, Nat.min_eq_left (by omega)]
  have e2 : cur1.toList.drop (i * 2 + vs.length) = mid ++ cur.toList.drop ((n + 1) * 2) := by
   rw [hcur1, List.append_assoc]
   have hl : (cur.toList.take ((i + 1) * 2)).length = (i + 1) * 2 := by rw [List.length_take, Array.length_toList, hcs]; omega
   show (cur.toList.take ((i + 1) * 2) ++ (mid ++ cur.toList.drop ((i + 1) * 2 + mid.length))).drop (i * 2 + vs.length) = _
   rw [show i * 2 + vs.length = (cur.toList.take ((i + 1) * 2)).length by rw [hl]; omega, List.drop_left]
   congr 2
   omega
  rw [e1, e2, List.append_assoc, List.append_assoc, List.append_assoc]
 rw [← hmid]
 rw [hfin] at hcp2
 clear hcur1 hmid hcur2 hfin
 obtain ⟨CUR, hCUR⟩ : ∃ CUR, CUR = (cur.toList.take (i * 2) ++ vs ++ mid ++ cur.toList.drop ((n + 1) * 2)).toArray := ⟨_, rfl⟩
 rw [← hCUR] at hcp2 ⊢
 have mixed : Tryz.prog.follows .mixedOrders = true := by kernel_rfl
 go_enter Tryz.func72, Tryz.ntmps72
 go_wp2_with (simp only [hov])
 go_region_law_o (refine step_copy_runI rfl _ _ 45 45 rfl _ _ (by simp [Act.eval, Act.put]) (by simp [Act.eval, Act.put]) (hcp1 _ _ _) ?_)
 go_wp2_with (at_builtin; refine wpList_copy_runI _ rfl _ _ 45 44 rfl _ _ rfl rfl (hcp2 _ rfl _ _) ?_)
 go_ret
 refine ⟨rfl, ?_, rfl, rfl, rfl⟩
 rw [ySa w b _ _ cur 98 hg, hCUR]
 simp only [List.append_assoc]
set_option maxHeartbeats 4000000 in
set_option maxRecDepth 100000 in
theorem hFb (ao : Option Addr) (n c vb voff vc : Nat) (w w' : World) (v' : Value) (hnc : n ≤ c)
  (hr : (Builtin.append_ #[45, 44] 45 #[.slice ao n c, .slice (some ⟨vb, voff, none⟩) 1 vc]).run Tryz.prog w = .ok v' w') :
  Calls Tryz.prog 72 #[.slice ao n c, .int .i64 n, .slice (some ⟨vb, voff, none⟩) 1 vc] w fun e w'' => e = .returned v' ∧ w'' = w' := by
 have hz1 : ¬ ((1 : Int) = 0) := by omega
 have mixed : Tryz.prog.follows .mixedOrders = true := by kernel_rfl
 go_enter Tryz.func72, Tryz.ntmps72
 go_wp2_with (at_builtin; refine Lib.wpList_append_run _ rfl _ _ _ _ rfl _ _ rfl rfl _ _ hr ?_)
 all_goals (go_ret; exact ⟨rfl, rfl⟩)
set_option maxHeartbeats 4000000 in
set_option maxRecDepth 100000 in
theorem eAb (b n c i vb voff vc : Nat) (cur : Array Value) (vs : List Value) (w : World) (hi : i < n) (hnc : n ≤ c) (hroom : c < n + 1) (hbig : (n + 1) * 128 ≤ 140737488355328) (hvb : vb ≠ w.heap.size)
  (hg : w.heap[b]? = some (.cells cur 98 (0, 0))) (hcs : cur.size = c * 2) (hvl : vs.length = 2)
  (hvs : ∀ j v, vs[j]? = some v → w.cell? ⟨vb, voff + j, none⟩ = some v) (h1c : ∀ v ∈ (cur.toList.take (n * 2)), v.oneCell' = true) (h1v : ∀ v ∈ vs, v.oneCell' = true) :
  Calls Tryz.prog 72 #[.slice (some ⟨b, 0, none⟩) n c, .int .i64 i, .slice (some ⟨vb, voff, none⟩) 1 vc] w fun e w' =>
   ∃ G ROW, e = .returned (.slice (some ⟨w.heap.size, 0, none⟩) (n + 1) G) ∧ w'.heap = (w.alloc (.cells ROW 98)).heap ∧ ROW.size = G * 2 ∧ n + 1 ≤ G ∧ G ≤ maxLen ∧
    ROW.toList.take ((n + 1) * 2) = cur.toList.take (i * 2) ++ vs ++ (cur.toList.take (n * 2)).drop (i * 2) ∧ w'.os = w.os ∧ w'.tape = w.tape ∧ w'.output = w.output := by
 have hz1 : ¬ ((1 : Int) = 0) := by omega
 have hz2 : ¬ ((i : Int) = (n : Int)) := by omega
 have hz3 : (c : Int) < (n : Int) + 1 := by omega
 have hsz : (Tryz.prog.info? 98).map (·.size) = some 2 := by kernel_rfl
 obtain ⟨i0, z, hi0, hz0, hzs, hzb, hzc, _⟩ := (oHa.of (P := Tryz.prog) (e := 98) (sz := 2) (by kernel_rfl)).ex
 have hbw : b < w.heap.size := (Array.getElem?_eq_some_iff.1 hg).1
 have hw1 : IntKind.i64.wrap ((i : Int) + 1) = (i : Int) + 1 := by rw [IntKind.wrap_i64]; omega
 have hw2 : IntKind.i64.wrap ((n : Int) + 1) = (n : Int) + 1 := by rw [IntKind.wrap_i64]; omega
 have hw3 : IntKind.i64.wrap ((n : Int) + 1 - (i : Int)) = (n : Int) + 1 - (i : Int) := by rw [IntKind.wrap_i64]; omega
 have hin : i ≤ n := by omega
 have hb1 : (0 : Int) ≤ (i : Int) + 1 := by omega
 have htn : ((i : Int) + 1).toNat = i + 1 := by omega
 have hb3 : (i : Int) ≤ (n : Int) + 1 := by omega
 have hb4 : ¬ (c = i) := by omega
 have hkk : (n : Int) + 1 - (i : Int) = ((n + 1 - i : Nat) : Int) := by omega
 have hik : i + (n + 1 - i) = n + 1 := by omega
 obtain ⟨pre, hpre⟩ : ∃ pre, pre = cur.toList.take (i * 2) := ⟨_, rfl⟩
 have hpl : pre.length = i * 2 := by rw [hpre, List.length_take, Array.length_toList, hcs]; omega
 obtain ⟨mid, hmid⟩ : ∃ mid, mid = (cur.toList.take (n * 2)).drop (i * 2) := ⟨_, rfl⟩
 have hml : mid.length = (n - i) * 2 := by
  rw [hmid, List.length_drop, List.length_take, Array.length_toList, hcs]
  omega
 have hcur : ∀ (j : Nat) (v : Value), cur.toList[j]? = some v → w.cell? ⟨b, j, none⟩ = some v := fun j v hj => by
  simp only [World.cell?, hg]
  simpa using hj
 have hold : (Builtin.firstCells i0.size i (.slice (some ⟨b, 0, none⟩) i c)).run Tryz.prog w.drew = .ok pre.toArray w.drew := by
  rw [hzs]
  exact run_firstCells_some w.drew 2 i ⟨b, 0, none⟩ i c pre (by rw [hpl]) (fun j v hj => by
   rw [Addr.add_lit, Nat.zero_add]
   rw [hpre, List.getElem?_take] at hj
   split at hj
   ·exact hcur j v hj
   ·cases hj)
 obtain ⟨G, hG⟩ : ∃ G, G = grownCap w (n + 1) c 98 := ⟨_, rfl⟩
 obtain ⟨ROW, hROW⟩ : ∃ ROW : Array Value, ROW = pre.toArray ++ Builtin.zeroCells z.cells (n + 1 - i) ++ Builtin.zeroCells z.cells (G - (n + 1)) := ⟨_, rfl⟩
 have hrz : ∀ ty, (Builtin.append_ #[45, 3] ty #[.slice (some ⟨b, 0, none⟩) i c, .int .i64 ((n : Int) + 1 - (i : Int))]).run Tryz.prog w =
   .ok (.slice (some ⟨w.heap.size, 0, none⟩) (n + 1) G) (w.drew.alloc (.cells ROW 98)) := fun ty => by
  have hbb : (n + 1) * i0.bytes ≤ (n + 1) * 128 := Nat.mul_le_mul_left _ hzb
  have h := Lib.run_append_grow_zeros w 45 3 ty 98 i0 z .i64 .i64 Tryz.underlying45 Tryz.underlying3 hi0 hz0 (some ⟨b, 0, none⟩) i c pre hold (n + 1 - i) (by omega) (by omega) (by omega) (by omega)
   (by have : (n + 1 - i) * i0.bytes ≤ (n + 1) * 128 := Nat.mul_le_mul (by omega) hzb; omega)
   (by rw [hik]; exact growslice_fits hroom (by omega))
  rw [hik] at h
  rw [hkk, hROW, hG]
  exact h
 have hGn : n + 1 ≤ G := by rw [hG]; exact grownCap_ge w _ _ _
 have hGm : G ≤ maxLen := by rw [hG]; exact grownCap_le_maxLen w (n + 1) c 98 (by unfold maxLen; omega)
 have hG63 : G ≤ 9223372036854775807 := by unfold maxLen at hGm; omega
 have hGi : ¬ (G = i) := by omega
 have hGim : ¬ (G = i + 1) := by omega
 have hRs : ROW.size = G * 2 := by
  rw [hROW, Array.size_append, Array.size_append, size_zeroCells, size_zeroCells, hzc, List.size_toArray, hpl, ← Nat.add_mul, ← Nat.add_mul]
  congr 1
  omega
 have hRt : ROW.toList.take (i * 2) = pre := by
  rw [hROW, Array.toList_append, Array.toList_append, List.toList_toArray, List.append_assoc, ← hpl]
  exact List.take_left
 obtain ⟨ROW1, hROW1⟩ : ∃ ROW1, ROW1 = (ROW.toList.take (i * 2) ++ vs ++ ROW.toList.drop (i * 2 + vs.length)).toArray := ⟨_, rfl⟩
 obtain ⟨ROW2, hROW2⟩ : ∃ ROW2, ROW2 = (ROW1.toList.take ((i + 1) * 2) ++ mid ++ ROW1.toList.drop ((i + 1) * 2 + mid.length)).toArray := ⟨_, rfl⟩
 have hR1s : ROW1.size = ROW.size := by
  rw [hROW1]
  simp only [List.size_toArray, List.length_append, List.length_take, List.length_drop, Array.length_toList]
  omega
 have hR2s : ROW2.size = ROW.size := by
  rw [hROW2]
  simp only [List.size_toArray, List.length_append, List.length_take, List.length_drop, Array.length_toList]
  omega
 have hNb : b ≠ w.heap.size := by omega
 have hN1 : (w.drew.alloc (.cells ROW 98)).heap[w.heap.size]? = some (.cells ROW 98 (0, 0)) := heap_alloc_new w.drew _
 have hcp1 : ∀ (W : World), W.heap = (w.alloc (.cells ROW 98)).heap → ∀ ty dc, (Builtin.copy_ #[45, 44] ty #[.slice (some ⟨w.heap.size, i * 2, none⟩) (n + 1 - i) dc, .slice (some ⟨vb, voff, none⟩) 1 vc]).run Tryz.prog W = .ok (goInt 1) (W.setRow w.heap.size ROW1) := fun W hW ty dc => by
  rw [hROW1]
  have hgW : W.heap[w.heap.size]? = some (.cells ROW 98 (0, 0)) := by rw [hW]; exact hN1
  refine nDa W 45 44 ty 98 w.heap.size (i * 2) (n + 1 - i) dc ⟨vb, voff, none⟩ 1 vc 1 2 vs ROW 98 Tryz.underlying45 hsz (by simp only [Nat.min_def]; split <;> omega) (by omega) (fun j v hj => ?_) hgW (by omega) h1v
  rw [Addr.add_lit]
  have h1 := hvs j v hj
  have h2 : vb < w.heap.size := by
   simp only [World.cell?] at h1
   cases hq : w.heap[vb]? with
   | none => rw [hq] at h1; cases h1
   | some o => exact (Array.getElem?_eq_some_iff.1 hq).1
  have hb : W.heap[vb]? = w.heap[vb]? := by rw [hW]; exact heap_alloc_old w _ _ h2
  simp only [World.cell?, hb] at h1 ⊢
  exact h1
 have hcp2 : ∀ (W : World), W.heap = ((w.alloc (.cells ROW 98)).setRow w.heap.size ROW1).heap → ∀ ty dc sc, (Builtin.copy_ #[45, 45] ty #[.slice (some ⟨w.heap.size, (i + 1) * 2, none⟩) (n - i) dc, .slice (some ⟨b, i * 2, none⟩) (n - i) sc]).run Tryz.prog W = .ok (goInt ((n - i : Nat) : Int)) (W.setRow w.heap.size ROW2) := fun W hW ty dc sc => by
  rw [hROW2]
  have hgW : W.heap[w.heap.size]? = some (.cells ROW1 98 (0, 0)) := by rw [hW]; exact setRow_heap _ _ _ _ _ _ hN1
  refine nDa W 45 45 ty 98 w.heap.size ((i + 1) * 2) (n - i) dc ⟨b, i * 2, none⟩ (n - i) sc (n - i) 2 mid ROW1 98 Tryz.underlying45 hsz (by simp only [Nat.min_def]; split <;> omega) hml (fun j v hj => ?_) hgW (by omega) (fun v hv => h1c v (List.mem_of_mem_drop (hmid ▸ hv)))
  rw [Addr.add_lit]
  have hb : W.heap[b]? = w.heap[b]? := by rw [hW]; exact (setRow_other _ _ _ _ hNb).trans (heap_alloc_old w _ _ hbw)
  have h1 : w.cell? ⟨b, i * 2 + j, none⟩ = some v := by
   rw [hmid, List.getElem?_drop, List.getElem?_take] at hj
   split at hj
   ·exact hcur _ v hj
   ·cases hj
  simp only [World.cell?, hb] at h1 ⊢
  exact h1
 have hfin : ROW2.toList.take ((n + 1) * 2) = pre ++ vs ++ mid := by
  have e1 : ROW1.toList.take ((i + 1) * 2) = pre ++ vs := by
   rw [hROW1]
   show (ROW.toList.take (i * 2) ++ vs ++ ROW.toList.drop (i * 2 + vs.length)).take ((i + 1) * 2) = _
   rw [hRt, show (i + 1) * 2 = (pre ++ vs).length by rw [List.length_append, hpl, hvl]; omega]
   exact List.take_left
  rw [hROW2]
  show (ROW1.toList.take ((i + 1) * 2) ++ mid ++ ROW1.toList.drop ((i + 1) * 2 + mid.length)).take ((n + 1) * 2) = _
  rw [e1, show (n + 1) * 2 = (pre ++ vs ++ mid).length by rw [List.length_append, List.length_append, hpl, hvl, hml]; omega]
  exact List.take_left
 rw [← hpre, ← hmid]
 clear hROW hROW1 hROW2 hRt hmid hpre hold hkk hik hG
 have mixed : Tryz.prog.follows .mixedOrders = true := by kernel_rfl
 go_enter Tryz.func72, Tryz.ntmps72
 have hcp1' := hcp1 (w.alloc (.cells ROW 98)).drew rfl
 have hcp2' := hcp2 ((w.alloc (.cells ROW 98)).drew.setRow w.heap.size ROW1).drew rfl
 go_wp2_with (at_builtin; refine Lib.wpList_append_run _ rfl _ _ _ _ rfl _ _ rfl rfl _ _ (hrz _) ?_)
 go_region_law_o (refine step_copy_runI rfl _ _ 45 45 rfl _ _ (by simp [Act.eval, Act.put]) (by simp [Act.eval, Act.put]) (hcp2' _ _ _) ?_)
 go_wp2
 go_ret
 refine ⟨G, ROW2, rfl, ?_, by rw [hR2s, hRs], hGn, hGm, hfin, rfl, rfl, rfl⟩
 exact jGa w _ ROW1 ROW2 98 (jGa w _ ROW ROW1 98 rfl)
theorem qFb : fLb Tryz.prog 72 45 44 98 2 where
 tS := Tryz.underlying45
 tV := Tryz.underlying44
 shift := fun b n c i vb voff vc cur vs w hi hroom hc hvb hg hcs hvl hvs h1 h2 tA kA hsa hkA => aAb b n c i vb voff vc cur vs w hi hroom hc hvb hg hcs hvl hvs h1 h2 tA kA hsa hkA
 end_ := fun ao n c vb voff vc w w' v' hnc hr => hFb ao n c vb voff vc w w' v' hnc hr
 grow := fun b n c i vb voff vc cur vs w hi hnc hroom hbig hvb hg hcs hvl hvs h1 h2 => eAb b n c i vb voff vc cur vs w hi hnc hroom hbig hvb hg hcs hvl hvs h1 h2
theorem oHb : pTa Tryz.prog 72 (nUa 98 2) := hGb qFb (oHa.of (by kernel_rfl))
def rIa : Go.Shelf.Ren := ⟨fun | 41 => 78 | n => n, fun | 22 => 37 | 23 => 31 | 4 => 4 | n => n, fun | n => n⟩
theorem mGb : Go.Proofs.SlLaysE0.n41 Tryz.prog rIa := {
 mixed := by kernel_rfl
 f41 := ⟨Tryz.f78.name, by decide, Tryz.func78.trans (congrArg some (by kernel_rfl))⟩
 t4 := Tryz.underlying4
 a4 := Tryz.isAgg4
 z4 := Tryz.sizeOf4
 v4 := Tryz.zeroValue4
 t22 := Tryz.underlying37
 a22 := Tryz.isAgg37
 z22 := Tryz.sizeOf37
 v22 := Tryz.zeroValue37 }
theorem pAb : oJa Tryz.prog 78 (mDa 31 2) := bYb (ρ := rIa) mGb (oHa.of (by kernel_rfl)) Tryz.sizeOf31
theorem oIb : pTa Tryz.prog 94 eQb := mVb (ρ := rGa) mEb
theorem mNb : oJa Tryz.prog 240 uZa := kRb
theorem mOb (f : FuncId) (p : List LV → Option (LV × List Row)) (h : th.prim f = some p) : oJa Tryz.prog f p := by
 simp only [th, iBb] at h
 split at h
 ·rename_i hf; subst hf; cases h; exact oZb
 ·skip
  split at h
  ·rename_i hf; subst hf; cases h; exact pAb
  ·skip
   split at h
   ·rename_i hf; subst hf; cases h; exact mNb
   ·skip
    cases h
theorem lZb (f : FuncId) (p : List LV → St → Option (LV × St)) (h : th.extS f = some p) : pTa Tryz.prog f p := by
 simp only [th, gWb] at h
 split at h
 ·rename_i hf; subst hf; cases h; exact oHb
 ·skip
  split at h
  ·rename_i hf; subst hf; cases h; exact oIb
  ·skip
   cases h
theorem oGb (f : FuncId) (p : List LV → Option LV) (h : th.ext f = some p) : fJb Tryz.prog f p := by
 simp only [th, lEb] at h
 split at h
 ·rename_i hf; subst hf; cases h; exact vMa Tryz.func221 (by kernel_rfl) (by kernel_rfl) (by kernel_rfl) (by kernel_rfl)
 ·skip
  cases h
theorem rCb : fPb Tryz.prog th := rBb (by kernel_rfl) (es := qRb.keys) (fun f h => FT.has_keys h) (by kernel_rfl) mOb oGb lZb
theorem pXb (f : FuncId) (p : List KV → Option (Ck × KV × List aYa)) (args : List KV) (c : Ck) (v : KV) (rows : List aYa) (h : lVb f = some p) (hv : p args = some (c, v, rows)) (hc : c.val = true) :
  run Tryz.prog th (.call f (KV.toL.toLs args)) = some ⟨.normal, v.toL, default, { rows := rows.map aYa.toL }⟩ := by
 unfold lVb at h
 split at h
 ·rename_i hf; subst hf; cases h; exact xKa rfl hv hc
 ·skip
  split at h
  ·rename_i hf; subst hf; cases h; exact xKa rfl hv hc
  ·skip
   split at h
   ·rename_i hf; subst hf; cases h; exact iXb rfl hv hc
   ·skip
    cases h
theorem qOb (f : FuncId) (p : List KV → Option (Ck × KV)) (args : List KV) (c : Ck) (v : KV) (h : nHb f = some p) (hv : p args = some (c, v)) : th.ent f = false ∧ ∃ q, th.ext f = some q ∧ q (KV.toL.toLs args) = some v.toL ∧ fAa v = true := by
 unfold nHb at h
 split at h
 ·rename_i hf; subst hf; cases h; exact ⟨by kernel_rfl, _, rfl, vVa hv⟩
 ·skip
  cases h
theorem qMb (f : FuncId) (p : List KV → KSt → Option (Ck × KV × KSt)) (args : List KV) (σ : KSt) (c : Ck) (v : KV) (σ' : KSt) (h : mWb f = some p) (hv : p args σ = some (c, v, σ')) (hc : c.val = true) : (∃ q, th.extS f = some q ∧ q (KV.toL.toLs args) σ.toL = some (v.toL, σ'.toL)) ∧ σ'.loops = σ.loops := by
 unfold mWb at h
 split at h
 ·rename_i hf; subst hf; cases h; exact ⟨⟨_, rfl, (uBa hv hc).1⟩, (uBa hv hc).2⟩
 ·skip
  split at h
  ·rename_i hf; subst hf; cases h; exact ⟨⟨_, rfl, (cZb hv hc).1⟩, (cZb hv hc).2⟩
  ·skip
   cases h
theorem pUb : sSa Tryz.prog th (S0 jKa lIa bFb) where
 bt := fun f p args b y h => by cases h
 bl := fun f key p vs σ b y h => by cases h
 ct := fun f p args c v rows h hv hc => pXb f p args c v rows h hv hc
 xt := fun f p args c v h hv _ => qOb f p args c v h hv
 st := fun f p args σ c v σ' h hv hc => qMb f p args σ c v σ' h hv hc
 lt := fun f key p vs σ c o h => by cases h
theorem qXb : fEb Tryz.prog th S0 := ⟨inferInstance, pUb⟩
end Go.Proofs.YtpeaaophmddhnaaGreat.LI
