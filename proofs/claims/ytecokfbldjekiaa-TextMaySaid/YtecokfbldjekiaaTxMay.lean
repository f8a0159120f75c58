/-
  TextMay: a line may be just if it has at most 80 bytes, and each of its bytes alone may be one. Without conditions.
-/
import Derived.Test.YtecokfbldjekiaaTxD
import Derived.Test.YtecokfbldjekiaaRows
import Derived.Test.YtecokfbldjekiaaChecked
import Derived.ChangeOld
import Derived.ProofKit
import Derived.ShutString
namespace Go.Proofs.Ytecokfbldjekiaa.LI
open Go Go.RowKit
set_option maxRecDepth 100000
attribute [local go_sem] run_seq run_region3 run_cond' condRun_bool run_block unblock_normal unblock_ret unblock_goto unblock_exit onTo_normal onTo_ret onTo_exit onTo_goto run_skip run_label run_ret run_exit run_goto exec_nil exec_cons exec_consD opNext_mk opNextD_same gate gate' gateS gateD opGo opGoD opAny_call opAny opEval callV callRun opStep Env.ev Env.put ofConst ofConst1 plainV binTL binLV binInt binStr unLV builtinL elems asInt64 opsRes br_true br_false br_bind br_map br_same pick_true pick_false
attribute [local go_sem] Option.bind_some Option.map_some Option.bind_none Option.map_none if_true if_false List.set_cons_succ List.set_cons_zero List.getD_cons_succ List.getD_cons_zero List.cons_append List.nil_append List.replicate List.length_cons List.length_nil Nat.reduceAdd Nat.reduceSub List.map List.getElem?_cons_succ List.getElem?_cons_zero b_tf b_ft b_tt b_ff List.append_nil Option.isSome_none Bool.false_eq_true Bool.true_eq_false
attribute [local go_sem] frzV frzV.frzL frzS rowsIn rowsIn.rowsInL endCall resultL resOne shutCall shut1 refFree refFree.refFreeL Bool.and_self Bool.and_true Bool.true_and beq_self_eq_true Nat.sub_zero litRun litStart litGo cond_false cond_true tidy maskL sliceBnd again_normal again_exit again_ret trim_same bnd_none bnd_some LV.bool LV.int LV.str LV.byte
attribute [local go_sem] elemsOk_nil elemsOk_cons' layS storable LV.cells sourceL appendL newRowS readCells indexByteL countL bytesL LV.isFn
attribute [local go_sem] Int.cast_ofNat_Int Int.natCast_one Int.natCast_zero decide_true decide_false and_true true_and List.length_map
attribute [local go_sem] Option.bind_eq_bind List.head?_cons List.drop_zero List.take_zero
attribute [local go_sem] List.mapM_cons List.mapM_nil Option.pure_def
attribute [local go_sem] rng1 rng2 rng3 rng4 rng5 rng6 splice List.drop_succ_cons List.drop_nil List.take_succ_cons List.take_nil
attribute [local go_sem] rng0 eq_self bne_self_eq_false
attribute [local go_sem] toO3_mk dstOf_mk ex3_nil ex3_cons nx3_mk op3_call op3 gt3 gs3 go3 reg3 reg3.litGo3 id_eq
attribute [local go_sem] Bool.not_true Bool.not_false
attribute [local go_sem] ap3 ap4 ap5 ap6 ap7 ap8 ap9 ap10 ap11 ap12 ap13 ap14 ap15 ap16 ap17 ap18 ap19 ap20 ap21 ap23 ap24 ap25 ap26 ap27 ap29 ap31 ap32 ap33 ap34 ap35 ap36 ap22 ap30 ap40 ap41 ap28 sz3 ag3 ze3 by3 sz4 ag4 ze4 by4 sz5 ag5 ze5 by5 sz9 ag9 ze9 by9 el22 sz22 ag22 ze22 by22 el24 sz24 ag24 ze24 by24 sz25 ag25 ze25 by25 sz26 ag26 by26 Try.underlying22 Try.underlying9 Try.underlying24 Try.underlying5 Try.underlying3 Try.underlying4 Try.underlying25 Try.underlying26 keep4 keep5 keep10 keep11 keep13 keep14 keep15 keep16 keep17 keep18 keep19 keep21 keep27 keep29 keep30 keep33 keep34 keep39 keep42
/-- Is each byte from i on, k of them, alone a line? -/
def allM (s : ByteArray) : Nat → Int → Bool → Bool
  | 0, _, a => a
  | k + 1, i, a => allM s k (i + 1) (a && mayB (s.extract i.toNat (i + 1).toNat))
theorem idx_neg (c : UInt8) : ∀ l : List UInt8, decide (Lib.indexByte l c < 0) = l.all (fun b => b != c)
  | [] => rfl
  | b :: l => by
    have hg := Lib.indexByte_ge l c
    have ih := idx_neg c l
    rw [Lib.indexByte, List.all_cons]
    by_cases hb : b = c
    · subst hb; simp
    · by_cases hm : Lib.indexByte l c = -1
      · rw [hm] at ih ⊢
        simp [hb, ← ih]
      · have : decide (Lib.indexByte l c < 0) = false := by simp; omega
        rw [this] at ih
        simp [hb, hm, ← ih]; omega
theorem one_byte (s : ByteArray) (i : Nat) (h : i < s.size) : (s.extract i (i + 1)).data.toList = [s.data.toList[i]'(by simpa using h)] := by
  have hl : s.data.size = s.size := rfl
  have := ByteArray.data_extract (a := s) (b := i) (e := i + 1)
  rw [this, Array.toList_extract, List.extract_eq_take_drop]
  have e1 : i + 1 - i = 1 := by omega
  rw [e1, List.drop_eq_getElem_cons (by simpa using h)]
  rfl
theorem may_one (s : ByteArray) (i : Nat) (h : i < s.size) : mayB (s.extract i (i + 1)) = (s.data.toList[i]'(by simpa using h) != 10) := by
  unfold mayB
  rw [idx_neg, one_byte s i h]
  have : (s.extract i (i + 1)).size ≤ 80 := by
    rw [ByteArray.size_extract]; omega
  simp only [this, decide_true, Bool.true_and, List.all_cons, List.all_nil, Bool.and_true]
theorem allM_all (s : ByteArray) : ∀ (k : Nat) (i : Nat) (a : Bool), i + k = s.size → allM s k i a = (a && (s.data.toList.drop i).all (fun b => b != 10))
  | 0, i, a, h => by
    have hl : s.data.toList.length = s.size := by simp
    rw [List.drop_eq_nil_of_le (by omega)]; simp [allM]
  | k + 1, i, a, h => by
    have e1 : ((i : Int) + 1) = ((i + 1 : Nat) : Int) := by omega
    rw [allM, e1, allM_all s k (i + 1) _ (by omega)]
    have e2 : (i : Int).toNat = i := by omega
    have e3 : ((i + 1 : Nat) : Int).toNat = i + 1 := by omega
    rw [e2, e3, may_one s i (by omega)]
    have hi : i < s.data.toList.length := by simp; omega
    rw [List.drop_eq_getElem_cons hi, List.all_cons, Bool.and_assoc]
theorem may_law (s : ByteArray) : mayB s = allM s s.size 0 (decide ((s.size : Int) ≤ 80)) := by
  have := allM_all s s.size 0 (decide ((s.size : Int) ≤ 80)) (by omega)
  rw [show ((0 : Nat) : Int) = 0 from rfl] at this
  rw [this, mayB, idx_neg]
  congr 1
  exact decide_eq_decide.2 (by omega)
set_option maxHeartbeats 1000000 in
theorem f5 (s : ByteArray) (hs : s.size ≤ 140737488351232) :
    run Try.prog th (.call 5 [.sc (.string s)]) = some ⟨.normal, .sc (.bool true), default, {}⟩ := by
  rw [run_call 5 _ rfl rfl, run_callS 5 _ _ Try.func5 rfl]
  simp only [Try.f5]
  simp only [go_sem, f8]
  rw [run_loop_tidy]
  simp only [go_sem]
  generalize hC : Code.loop _ = C
  have L : ∀ (k : Nat) (i : Int) (all : Bool) (r : LV), 0 ≤ i → i + k = s.size → run Try.prog th (.code C ⟨5, [.sc (.string s), .undef, r, .sc (.bool true), .sc (.bool all), .sc (.int .i64 i)] ++ List.replicate 31 .undef⟩ {}) =
      some ⟨.exit 0, .undef, ⟨5, [.sc (.string s), .undef, r, .sc (.bool true), .sc (.bool (allM s k i all)), .sc (.int .i64 s.size)] ++ List.replicate 31 .undef⟩, {}⟩ := by
    intro k
    induction k with
    | zero =>
      intro i all r h0 hi
      rw [← hC, run_loop]
      have hi' : i = s.size := by omega
      subst hi'
      simp (disch := omega) only [go_sem, lt_f, allM]
    | succ k ih =>
      intro i all r h0 hi
      rw [← hC, run_loop]
      cases all with
      | true =>
        simp (maxSteps := 5000000) (disch := omega) only [go_sem, lt_t, wrap64, hC, f12]
        exact ih (i + 1) _ r (by omega) (by omega)
      | false =>
        simp (maxSteps := 5000000) (disch := omega) only [go_sem, lt_t, wrap64, hC, f12]
        exact ih (i + 1) _ r (by omega) (by omega)
  have e := L s.size 0 (decide ((s.size : Int) ≤ 80)) (.sc (.bool false)) (by omega) (by omega)
  clear hC L
  simp only [go_sem] at e
  rw [e]
  simp only [go_sem, f12, may_law]
end Go.Proofs.Ytecokfbldjekiaa.LI
namespace Go.Proofs.Ytecokfbldjekiaa.textMay
open Go Go.ChangeShapes Go.WideShapes Go.ChangeAt Go.RowKit Go.Proofs.Ytecokfbldjekiaa.LI
theorem own : ownKnob Try.prog.godebug = none := by kernel_rfl
theorem laidOut : laidOutB Try.prog = true := by kernel_rfl
set_option maxRecDepth 100000 in
theorem lifted (os : Os) (started : os.Started) (H : Type) (enc : TypeId × Value → H) :
    ReturnsInHanded {} Try.checked os 5 .any (Rows.textMaySpec.pre6 enc Try.prog Try.f5 Rows.textMayRow.domain false) (Rows.textMaySpec.post enc Try.prog Try.f5 false true false false) :=
  law_lifted (C := Try.checked) th_ok own started Try.func5 (by kernel_rfl) laidOut (n := 64) (by kernel_rfl) (by kernel_rfl) rfl Try.underlying4 rfl (by first | rfl | kernel_rfl)
    (fun ds h => by
      match ds, h with
      | [d0], _ => rfl)
    (ChangeSpec.witness6 (enc := enc) (C := Try.checked) false ⟨#[], #[.string ByteArray.empty], []⟩ 8 (by kernel_rfl) (by kernel_rfl) (by kernel_rfl) (by kernel_rfl))
    (RepEach.cons (Rep.string Try.underlying9) RepEach.nil) (fun a h => f5 a.1 h.1)
theorem over : Rows.textMayRow.holds Try.pinned (OpenSpec.ofChange Rows.textMaySpec) :=
  OpenClaim.holds_of_wide 5 Try.f5 rfl rfl rfl rfl rfl rfl rfl ⟨rfl, rfl, rfl, rfl, rfl⟩ rfl rfl rfl rfl rfl (by kernel_rfl) Try.func5 (by kernel_rfl)
    (of_decide_eq_true (by kernel_rfl)) (by unfold Func.isWrapper; first | (rw [if_pos (by decide +kernel)]; kernel_rfl) | (rw [if_neg (by decide +kernel)]; exact ⟨rfl, rfl⟩))
    (fun os started H enc _ => lifted os started H enc)
end Go.Proofs.Ytecokfbldjekiaa.textMay
namespace Go.Proofs.Ytecokfbldjekiaa
theorem textMay_holds : Rows.TextMaySaid := textMay.over
#print axioms textMay_holds
end Go.Proofs.Ytecokfbldjekiaa
