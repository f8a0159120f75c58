/-
  Layer 1 (text): lines and names: what the functions compute.
-/
import Derived.Test.YtecokfbldjekiaaTxA
namespace Go.Proofs.Ytecokfbldjekiaa.LI
open Go Go.RowKit
set_option maxRecDepth 100000
attribute [local go_sem] run_seq run_region3 run_cond' condRun_bool run_block unblock_normal unblock_ret unblock_goto unblock_exit onTo_normal onTo_ret onTo_exit onTo_goto run_skip run_label run_ret run_exit run_goto exec_nil exec_cons exec_consD opNext_mk opNextD_same gate gate' gateS gateD opGo opGoD opAny_call opAny opEval callV callRun opStep Env.ev Env.put ofConst ofConst1 plainV binTL binLV binInt binStr unLV builtinL elems asInt64 opsRes br_true br_false br_bind br_map br_same pick_true pick_false
attribute [local go_sem] Option.bind_some Option.map_some Option.bind_none Option.map_none if_true if_false List.set_cons_succ List.set_cons_zero List.getD_cons_succ List.getD_cons_zero List.cons_append List.nil_append List.replicate List.length_cons List.length_nil Nat.reduceAdd Nat.reduceSub List.map List.getElem?_cons_succ List.getElem?_cons_zero b_tf b_ft b_tt b_ff List.append_nil Option.isSome_none Bool.false_eq_true Bool.true_eq_false
attribute [local go_sem] frzV frzV.frzL frzS rowsIn rowsIn.rowsInL endCall resultL resOne shutCall shut1 refFree refFree.refFreeL Bool.and_self Bool.and_true Bool.true_and beq_self_eq_true Nat.sub_zero litRun litStart litGo cond_false cond_true tidy maskL sliceBnd again_normal again_exit again_ret trim_same bnd_none bnd_some LV.bool LV.int LV.str LV.byte
attribute [local go_sem] elemsOk_nil elemsOk_cons' layS storable LV.cells sourceL appendL newRowS readCells indexByteL countL bytesL LV.isFn
attribute [local go_sem] Int.cast_ofNat_Int Int.natCast_one Int.natCast_zero decide_true decide_false and_true true_and List.length_map
attribute [local go_sem] Option.bind_eq_bind List.head?_cons List.drop_zero List.take_zero
attribute [local go_sem] List.mapM_cons List.mapM_nil Option.pure_def
attribute [local go_sem] rng1 rng2 rng3 rng4 rng5 rng6 splice List.drop_succ_cons List.drop_nil List.take_succ_cons List.take_nil
attribute [local go_sem] rng0 eq_self bne_self_eq_false
attribute [local go_sem] toO3_mk dstOf_mk ex3_nil ex3_cons nx3_mk op3_call op3 gt3 gs3 go3 reg3 reg3.litGo3 id_eq
attribute [local go_sem] Bool.not_true Bool.not_false
attribute [local go_sem] ap3 ap4 ap5 ap6 ap7 ap8 ap9 ap10 ap11 ap12 ap13 ap14 ap15 ap16 ap17 ap18 ap19 ap20 ap21 ap23 ap24 ap25 ap26 ap27 ap29 ap31 ap32 ap33 ap34 ap35 ap36 ap22 ap30 ap40 ap41 ap28 sz3 ag3 ze3 by3 sz4 ag4 ze4 by4 sz5 ag5 ze5 by5 sz9 ag9 ze9 by9 el22 sz22 ag22 ze22 by22 el24 sz24 ag24 ze24 by24 sz25 ag25 ze25 by25 sz26 ag26 by26 Try.underlying22 Try.underlying9 Try.underlying24 Try.underlying5 Try.underlying3 Try.underlying4 Try.underlying25 Try.underlying26 keep4 keep5 keep9 keep10 keep11 keep13 keep14 keep15 keep16 keep17 keep18 keep19 keep21 keep27 keep29 keep30 keep33 keep34 keep39 keep42
theorem f32 (s : ByteArray) (c : Int) : run Try.prog th (.call 32 [.sc (.string s), .sc (.int .u8 c)]) = some ⟨.normal, .sc (.int .i64 (Lib.indexByte s.data.toList c.toNat.toUInt8)), default, {}⟩ := by
  rw [run_call 32 _ rfl rfl, run_callS 32 _ _ Try.func32 rfl]
  simp only [Try.f32]
  simp only [go_sem]
theorem f24 (s : ByteArray) (c : Int) : run Try.prog th (.call 24 [.sc (.string s), .sc (.int .u8 c)]) = some ⟨.normal, .sc (.int .i64 (Lib.indexByte s.data.toList c.toNat.toUInt8)), default, {}⟩ := by
  rw [run_call 24 _ rfl rfl, run_callS 24 _ _ Try.func24 rfl]
  simp only [Try.f24]
  simp only [go_sem, f32]
def mayB (s : ByteArray) : Bool := decide (s.size ≤ 80) && decide (Lib.indexByte s.data.toList 10 < 0)
theorem f12 (s : ByteArray) : run Try.prog th (.call 12 [.sc (.string s)]) = some ⟨.normal, .sc (.bool (mayB s)), default, {}⟩ := by
  rw [run_call 12 _ rfl rfl, run_callS 12 _ _ Try.func12 rfl]
  simp only [Try.f12]
  simp only [go_sem, f24]
  have e : (Int.toNat 10).toUInt8 = 10 := rfl
  by_cases h : s.size ≤ 80 <;> simp [br_ite, mayB, h, e] <;> omega
/-- A row of bytes. -/
def bsL (l : List UInt8) : LV := .slice (l.map fun b => .sc (.int .u8 b.toNat))
theorem allB (l : List UInt8) : allBytes (l.map fun b => .sc (.int .u8 b.toNat)) = some l := by
  induction l with
  | nil => rfl
  | cons b l ih =>
    have e : UInt8.ofNat (b.toNat : Int).toNat = b := by simp
    simp only [List.map_cons, allBytes, ih, byteOf, e]
theorem freeB (l : List UInt8) : refFree.refFreeL (l.map fun b => .sc (.int .u8 b.toNat)) = true := by
  induction l with
  | nil => rfl
  | cons b l ih => simp only [List.map_cons, refFree.refFreeL, refFree, ih, Bool.and_self]
theorem rowsB (l : List UInt8) : rowsIn.rowsInL (l.map fun b => .sc (.int .u8 b.toNat)) = [] := by
  induction l with
  | nil => rfl
  | cons b l ih => simp only [List.map_cons, rowsIn.rowsInL, rowsIn, ih, List.append_nil]
theorem frzB (σ : St) (l : List UInt8) : frzV.frzL σ (l.map fun b => .sc (.int .u8 b.toNat)) = l.map fun b => .sc (.int .u8 b.toNat) := by
  induction l with
  | nil => rfl
  | cons b l ih => simp only [List.map_cons, frzV.frzL, frzV, ih]
theorem okB (l : List UInt8) : elemsOk 1 (l.map fun b => .sc (.int .u8 b.toNat)) = true := by
  simp [elemsOk, LV.cells, storable]
theorem tkB (l : List UInt8) (n : Nat) : List.take n (l.map fun b => LV.sc (.int .u8 b.toNat)) = (l.take n).map fun b => .sc (.int .u8 b.toNat) := List.map_take.symm
theorem dpB (l : List UInt8) (n : Nat) : List.drop n (l.map fun b => LV.sc (.int .u8 b.toNat)) = (l.drop n).map fun b => .sc (.int .u8 b.toNat) := List.map_drop.symm
attribute [local go_sem] tkB dpB allB freeB rowsB frzB okB List.length_map
theorem f35 (l : List UInt8) (c : Int) : run Try.prog th (.call 35 [.slice (l.map fun b => .sc (.int .u8 b.toNat)), .sc (.int .u8 c)]) = some ⟨.normal, .sc (.int .i64 (Lib.indexByte l c.toNat.toUInt8)), default, {}⟩ := by
  rw [run_call 35 _ rfl (by simp only [go_sem]), run_callS 35 _ _ Try.func35 rfl]
  simp only [Try.f35]
  simp only [go_sem]
theorem f21 (l : List UInt8) (c : Int) : run Try.prog th (.call 21 [.slice (l.map fun b => .sc (.int .u8 b.toNat)), .slice [.sc (.int .u8 c)]]) = some ⟨.normal, .sc (.int .i64 (l.count c.toNat.toUInt8)), default, {}⟩ := by
  rw [run_call 21 _ rfl (by simp only [go_sem]), run_callS 21 _ _ Try.func21 rfl]
  simp only [Try.f21]
  simp only [go_sem, Int.reduceBEq, Int.reduceLE, Int.reduceToNat, Nat.reduceLT]
theorem f29 (l : List UInt8) (c : Int) : run Try.prog th (.call 29 [.slice (l.map fun b => .sc (.int .u8 b.toNat)), .slice [.sc (.int .u8 c)]]) = some ⟨.normal, .sc (.int .i64 (Lib.indexByte l c.toNat.toUInt8)), default, {}⟩ := by
  rw [run_call 29 _ rfl (by simp only [go_sem]), run_callS 29 _ _ Try.func29 rfl]
  simp only [Try.f29]
  simp only [go_sem, f35, Int.reduceBEq, Int.reduceLE, Int.reduceToNat, Nat.reduceLT]
theorem idx_lt (l : List UInt8) (c : UInt8) (h : 0 ≤ Lib.indexByte l c) : Lib.indexByte l c < l.length := by
  induction l with
  | nil => simp [Lib.indexByte] at h
  | cons b l ih =>
    have hg := Lib.indexByte_ge l c
    rw [Lib.indexByte] at h ⊢
    by_cases hb : (b == c) = true
    · rw [if_pos hb, List.length_cons]; omega
    · rw [if_neg hb] at h ⊢
      by_cases hm : (Lib.indexByte l c == -1) = true
      · rw [if_pos hm] at h; omega
      · rw [if_neg hm] at h ⊢
        have : Lib.indexByte l c ≠ -1 := by simpa using hm
        have := ih (by omega)
        rw [List.length_cons]; omega
theorem f31 (l : List UInt8) (hl : l.length ≤ 1000000) : run Try.prog th (.call 31 [.slice (l.map fun b => .sc (.int .u8 b.toNat)), .slice [.sc (.int .u8 10)]]) =
    some ⟨.normal, if 0 ≤ Lib.indexByte l 10 then .tuple [.slice ((l.take (Lib.indexByte l 10).toNat).map fun b => .sc (.int .u8 b.toNat)), .slice ((l.drop ((Lib.indexByte l 10).toNat + 1)).map fun b => .sc (.int .u8 b.toNat)), .sc (.bool true)] else
      .tuple [.slice (l.map fun b => .sc (.int .u8 b.toNat)), .nils, .sc (.bool false)], default, {}⟩ := by
  rw [run_call 31 _ rfl (by simp only [go_sem]), run_callS 31 _ _ Try.func31 rfl]
  simp only [Try.f31]
  have e : Nat.toUInt8 10 = 10 := rfl
  by_cases h : 0 ≤ Lib.indexByte l 10
  · have h1 := idx_lt l 10 h
    simp (disch := omega) only [go_sem, f29, e, Int.reduceBEq, Int.reduceLT, Int.reduceLE, Int.reduceGT, Int.reduceGE, Int.reduceToNat, Nat.reduceLT, Nat.reduceLeDiff, Int.reduceAdd, Int.reduceSub, Int.reduceMul, Int.reduceBNe, Nat.reduceMul, Nat.reduceEqDiff, lt_t, lt_f, le_t, le_f, gt_t, gt_f, ge_t, ge_f, wrap64, if_pos, if_neg]
    rw [run_region_draw]
    · have e2 : (Lib.indexByte l 10 + 1).toNat = (Lib.indexByte l 10).toNat + 1 := by omega
      have e3 : List.take (l.length - ((Lib.indexByte l 10).toNat + 1)) (List.drop ((Lib.indexByte l 10).toNat + 1) l) = List.drop ((Lib.indexByte l 10).toNat + 1) l := List.take_of_length_le (by rw [List.length_drop]; omega)
      simp (maxSteps := 5000000) (disch := omega) only [go_sem, e, Int.reduceBEq, Int.reduceLT, Int.reduceLE, Int.reduceGT, Int.reduceGE, Int.reduceToNat, Nat.reduceLT, Nat.reduceLeDiff, Int.reduceAdd, Int.reduceSub, Int.reduceMul, Int.reduceBNe, Nat.reduceMul, Nat.reduceEqDiff, lt_t, lt_f, le_t, le_f, gt_t, gt_f, ge_t, ge_f, wrap64, if_pos, if_neg, e2, e3, if_pos h]
    · kernel_rfl
  · simp (disch := omega) only [go_sem, f29, e, Int.reduceBEq, Int.reduceLT, Int.reduceLE, Int.reduceGT, Int.reduceGE, Int.reduceToNat, Nat.reduceLT, Nat.reduceLeDiff, Int.reduceAdd, Int.reduceSub, Int.reduceMul, Int.reduceBNe, Nat.reduceMul, Nat.reduceEqDiff, lt_t, lt_f, le_t, le_f, gt_t, gt_f, ge_t, ge_f, wrap64, if_pos, if_neg, if_neg h]
theorem f22 (l : List UInt8) (σ : St) : run Try.prog th (.callS 22 [.slice (l.map fun b => .sc (.int .u8 b.toNat))] σ) =
    some ⟨.normal, .func (.func 30) [] [.bptr σ.boxes.length 0], default, { σ with boxes := σ.boxes ++ [[.slice (l.map fun b => .sc (.int .u8 b.toNat))]] }⟩ := by
  rw [run_callS 22 _ _ Try.func22 rfl]
  simp only [Try.f22]
  simp (disch := omega) only [go_sem, Int.reduceBEq, Int.reduceLT, Int.reduceLE, Int.reduceGT, Int.reduceGE, Int.reduceToNat, Nat.reduceLT, Nat.reduceLeDiff, Int.reduceAdd, Int.reduceSub, Int.reduceMul, Int.reduceBNe, Nat.reduceMul, Nat.reduceEqDiff, lt_t, lt_f, le_t, le_f, gt_t, gt_f, ge_t, ge_f, wrap64, if_pos, if_neg]
theorem ent30 : th.ent 30 = true := rfl
end Go.Proofs.Ytecokfbldjekiaa.LI
