/-
  TextBack: what is joined is split, and what is split is joined. Without conditions.
-/
import Derived.Test.YtecokfbldjekiaaTkZb
import Derived.Test.YtecokfbldjekiaaRows
import Derived.Test.YtecokfbldjekiaaChecked
import Derived.ChangeOld
import Derived.ProofKit
import Derived.ShutString
namespace Go.Proofs.Ytecokfbldjekiaa.LI
open Go Go.RowKit
open KV (toL)
open KV.toL (toLs)
set_option maxRecDepth 100000
theorem s15 (n : Bool) (l : List ByteArray) : run Try.prog th (.call 15 [(KV.lst .str n l).toL]) = some ⟨.normal, (KV.tuple [.lst .byte true (joinL l), .int (joinE l)]).toL, default, {}⟩ := by
  have key : ∀ v, fnK Try.prog th (S11 condF) 1000 15 [.lst .str n l] = some v → v.toL = (KV.tuple [.lst .byte true (joinL l), .int (joinE l)]).toL → run Try.prog th (.call 15 [(KV.lst .str n l).toL]) = some ⟨.normal, (KV.tuple [.lst .byte true (joinL l), .int (joinE l)]).toL, default, {}⟩ := by
    intro v h1 h2
    rw [← h2]
    exact fnK_sound S11_ok (args := [.lst .str n l]) h1
  have e := k15 n l
  cases ha : allK l with
  | false =>
    rw [ha, Bool.not_false, condF_true] at e
    refine key _ e ?_
    have h1 : joinL l = [] := by rw [joinL, ha]; rfl
    have h2 : joinE l = 1 := by rw [joinE, ha]; rfl
    simp only [toL, toLs, h1, h2]
    rfl
  | true =>
    obtain ⟨b1, b2⟩ := allK_len ha
    have f1 : fit l.length = true := fit_t (by simp only [big]; omega)
    have f2 : (joinB l).length.ble 1000000 = true := by rw [Nat.ble_eq]; exact b2
    simp only [ha, Bool.not_true, condF_false, decide_true, condF_true, f1, f2] at e
    have h2 : joinE l = 0 := by rw [joinE, if_pos ha]
    have h3 : joinL l = joinB l := by rw [joinL, if_pos ha]
    cases l with
    | nil =>
      refine key _ e ?_
      rw [h2, h3]; rfl
    | cons s t =>
      refine key _ e ?_
      have hne : (joinB (s :: t)).isEmpty = false := by
        have ej : joinB (s :: t) = s.data.toList ++ [ten] ++ joinB t := rfl
        rw [ej]
        cases s.data.toList <;> rfl
      simp only [toL, toLs, h2, h3, lstL, hne, Bool.and_false]
def p15 : List KV → Option (Ck × KV)
  | [.lst .str _ l] => some (.ok, .tuple [.lst .byte true (joinL l), .int (joinE l)])
  | _ => none
theorem c15 (args : List KV) (c : Ck) (v : KV) (h : p15 args = some (c, v)) (hc : c.val = true) : run Try.prog th (.call 15 (toLs args)) = some ⟨.normal, v.toL, default, {}⟩ := by
  unfold p15 at h
  split at h
  · cases h
    exact s15 _ _
  · cases h
theorem ten_eq : ten = 10 := rfl
theorem lns_line : ∀ (s acc rest : List UInt8), s.all (fun b => b != 10) = true → lns acc (s ++ [ten] ++ rest) = ByteArray.mk (Array.mk (acc ++ s)) :: lns [] rest
  | [], acc, rest, _ => by
    have : lns acc (ten :: rest) = ByteArray.mk (Array.mk acc) :: lns [] rest := rfl
    simpa using this
  | c :: s, acc, rest, h => by
    rw [List.all_cons, Bool.and_eq_true] at h
    have hc : (c == 10) = false := by
      have := h.1
      simpa using this
    have ih := lns_line s (acc ++ [c]) rest h.2
    rw [List.cons_append, List.cons_append, lns, hc, cond_false, ih, List.append_assoc]
    rfl
theorem lns_join : ∀ l : List ByteArray, l.all mayK = true → lns [] (joinB l) = l
  | [], _ => rfl
  | s :: l, h => by
    rw [List.all_cons, Bool.and_eq_true] at h
    have hs := h.1
    rw [mayK_eq, Bool.and_eq_true] at hs
    have ej : joinB (s :: l) = s.data.toList ++ [ten] ++ joinB l := rfl
    rw [ej, lns_line _ _ _ hs.2, lns_join l h.2, List.nil_append]
theorem join_lns : ∀ (b acc : List UInt8), (b = [] ∧ acc = []) ∨ b.getLast? = some 10 → joinB (lns acc b) = acc ++ b
  | [], acc, h => by
    rcases h with ⟨_, rfl⟩ | h
    · rfl
    · cases h
  | c :: t, acc, h => by
    have hl : (c :: t).getLast? = some 10 := by
      rcases h with ⟨h, _⟩ | h
      · cases h
      · exact h
    rw [lns]
    cases hc : (c == 10) with
    | true =>
      have hc10 : c = 10 := by simpa using hc
      have ih : joinB (lns [] t) = [] ++ t := join_lns t [] (by
        cases t with
        | nil => exact .inl ⟨rfl, rfl⟩
        | cons d t => exact .inr (by rw [List.getLast?_cons_cons] at hl; exact hl))
      have ej : joinB (ByteArray.mk (Array.mk acc) :: lns [] t) = acc ++ [ten] ++ joinB (lns [] t) := rfl
      rw [cond_true, ej, ih, hc10, List.append_assoc]
      rfl
    | false =>
      rw [cond_false]
      cases t with
      | nil =>
        simp only [List.getLast?_singleton, Option.some.injEq] at hl
        subst hl
        simp at hc
      | cons d t =>
        have ih := join_lns (d :: t) (acc ++ [c]) (.inr (by rw [List.getLast?_cons_cons] at hl; exact hl))
        rw [ih, List.append_assoc]; rfl
theorem join_last (l : List ByteArray) : lastOk (joinB l) = true := by
  rw [lastOk_iff]
  cases hl : l.reverse with
  | nil =>
    have : l = [] := by simpa using hl
    subst this
    exact .inl rfl
  | cons s t =>
    have : l = t.reverse ++ [s] := by
      have := congrArg List.reverse hl
      simpa using this
    subst this
    refine .inr ?_
    have ej : joinB (t.reverse ++ [s]) = joinB t.reverse ++ (s.data.toList ++ [ten]) := by
      simp only [joinB, List.flatMap_append, List.flatMap_cons, List.flatMap_nil, List.append_nil]
    rw [ej, List.getLast?_append, List.getLast?_append]
    rfl
theorem back1 {l : List ByteArray} (h : allK l = true) : splitE (joinL l) = 0 ∧ splitL (joinL l) = l ∧ (joinL l).length ≤ 1000000 := by
  have hj : joinL l = joinB l := by rw [joinL, if_pos h]
  have h' := h
  rw [allK_eq, Bool.and_eq_true, decide_eq_true_eq] at h'
  have hlen := join_len l h'.2
  have hln := lns_join l h'.2
  have hc : List.count 10 (joinB l) = l.length := by rw [← lns_count (joinB l) [], hln]
  rw [hj]
  obtain ⟨e1, e2⟩ := splitE_mk (l := joinB l) (by omega) (by omega) (join_last l) (by rw [hln]; exact h'.2)
  exact ⟨e1, by rw [e2, hln], by omega⟩
theorem back2 {b : List UInt8} (h : splitE b = 0) : joinE (splitL b) = 0 ∧ allK (splitL b) = true ∧ joinL (splitL b) = b := by
  obtain ⟨h1, h2, h3, h4, h5⟩ := splitE_zero h
  rw [linesK_lns] at h4
  have hall : allK (splitL b) = true := by
    rw [allK_eq, h5, h4, lns_count, Bool.and_true, decide_eq_true_eq]; exact h2
  refine ⟨by rw [joinE, if_pos hall], hall, ?_⟩
  rw [joinL, if_pos hall, h5, join_lns b [] ((lastOk_iff b).1 h3 |>.imp (fun h => ⟨h, rfl⟩) id)]
  rfl
noncomputable def S12 (fk : Fk) : Cs := (((((S3 fk).addC 9 p9).addC 10 p10).addC 13 p13).addC 15 p15)
instance : FkOK (S12 condF) := ⟨fun _ _ _ => rfl⟩
theorem S12_ok : CsOK Try.prog th (S12 condF) := (((S3_ok.addC c9).addC c10).addC c13).addC c15
theorem k7_ (fk : Fk) (b : List UInt8) (l : List ByteArray)  : fnK Try.prog th (S12 fk) 1000 7 [.lst .byte false b, .lst .str false l] =
    fk (fit l.length)
      (fk (!lightK l (300 : Int)) (some (KV.sc (Value.bool true)))
        (fk (decide ((↑b.length : Int) > (3000 : Int))) (some (KV.sc (Value.bool true)))
          (fk (!(joinE l == (0 : Int)) == allK l) (some (KV.sc (Value.bool false)))
            (fk (joinE l == (0 : Int))
              (fk ((joinL l).length.ble (1000000 : Nat))
                (fk (fit l.length)
                  (fk (splitE (joinL l) != (0 : Int)) (some (KV.sc (Value.bool false)))
                    (fk (!sameK l (splitL (joinL l))) (some (KV.sc (Value.bool false)))
                      (fk (b.length.ble (1000000 : Nat))
                        (fk (splitE b != (0 : Int)) (some (KV.sc (Value.bool ((↑(splitL b).length : Int) == (0 : Int)))))
                          (fk (joinE (splitL b) == (0 : Int))
                            (fk (allK (splitL b))
                              (some
                                (KV.sc
                                  (Value.bool
                                    ((ByteArray.mk (Array.mk (joinL (splitL b)))).toList ==
                                      (ByteArray.mk (Array.mk b)).toList))))
                              (some (KV.sc (Value.bool false))))
                            (some (KV.sc (Value.bool false)))))
                        none)))
                  none)
                none)
              (fk (b.length.ble (1000000 : Nat))
                (fk (splitE b != (0 : Int)) (some (KV.sc (Value.bool ((↑(splitL b).length : Int) == (0 : Int)))))
                  (fk (joinE (splitL b) == (0 : Int))
                    (fk (allK (splitL b))
                      (some
                        (KV.sc
                          (Value.bool
                            ((ByteArray.mk (Array.mk (joinL (splitL b)))).toList == (ByteArray.mk (Array.mk b)).toList))))
                      (some (KV.sc (Value.bool false))))
                    (some (KV.sc (Value.bool false)))))
                none)))))
      none := by kernel_rfl
theorem k7 (b : List UInt8) (l : List ByteArray)  : fnK Try.prog th (S12 condF) 1000 7 [.lst .byte false b, .lst .str false l] =
    condF (fit l.length)
      (condF (!lightK l (300 : Int)) (some (KV.sc (Value.bool true)))
        (condF (decide ((↑b.length : Int) > (3000 : Int))) (some (KV.sc (Value.bool true)))
          (condF (!(joinE l == (0 : Int)) == allK l) (some (KV.sc (Value.bool false)))
            (condF (joinE l == (0 : Int))
              (condF ((joinL l).length.ble (1000000 : Nat))
                (condF (fit l.length)
                  (condF (splitE (joinL l) != (0 : Int)) (some (KV.sc (Value.bool false)))
                    (condF (!sameK l (splitL (joinL l))) (some (KV.sc (Value.bool false)))
                      (condF (b.length.ble (1000000 : Nat))
                        (condF (splitE b != (0 : Int)) (some (KV.sc (Value.bool ((↑(splitL b).length : Int) == (0 : Int)))))
                          (condF (joinE (splitL b) == (0 : Int))
                            (condF (allK (splitL b))
                              (some
                                (KV.sc
                                  (Value.bool
                                    ((ByteArray.mk (Array.mk (joinL (splitL b)))).toList ==
                                      (ByteArray.mk (Array.mk b)).toList))))
                              (some (KV.sc (Value.bool false))))
                            (some (KV.sc (Value.bool false)))))
                        none)))
                  none)
                none)
              (condF (b.length.ble (1000000 : Nat))
                (condF (splitE b != (0 : Int)) (some (KV.sc (Value.bool ((↑(splitL b).length : Int) == (0 : Int)))))
                  (condF (joinE (splitL b) == (0 : Int))
                    (condF (allK (splitL b))
                      (some
                        (KV.sc
                          (Value.bool
                            ((ByteArray.mk (Array.mk (joinL (splitL b)))).toList == (ByteArray.mk (Array.mk b)).toList))))
                      (some (KV.sc (Value.bool false))))
                    (some (KV.sc (Value.bool false)))))
                none)))))
      none := k7_ condF b l
theorem back_fn (b : List UInt8) (l : List ByteArray) (hf : fit l.length = true) : fnK Try.prog th (S12 condF) 1000 7 [.lst .byte false b, .lst .str false l] = some (.bool true) := by
  rw [k7, hf]
  simp only [condF_true]
  cases hl : lightK l 300 with
  | false => rw [Bool.not_false, condF_true]
  | true =>
    rw [Bool.not_true, condF_false]
    by_cases hb : (b.length : Int) > 3000
    · simp only [hb, decide_true, condF_true]
    · have lb : b.length.ble 1000000 = true := by rw [Nat.ble_eq]; omega
      simp only [hb, decide_false, condF_false, lb, condF_true]
      -- the second half
      have half : condF (splitE b != (0 : Int)) (some (KV.sc (Value.bool ((((splitL b).length : Nat) : Int) == (0 : Int)))))
          (condF (joinE (splitL b) == (0 : Int)) (condF (allK (splitL b))
            (some (KV.sc (Value.bool ((ByteArray.mk (Array.mk (joinL (splitL b)))).toList == (ByteArray.mk (Array.mk b)).toList))))
            (some (KV.sc (Value.bool false)))) (some (KV.sc (Value.bool false)))) = some (.bool true) := by
        by_cases h : splitE b = 0
        · obtain ⟨h1, h2, h3⟩ := back2 h
          have e1 : (splitE b != 0) = false := by rw [h]; rfl
          have e2 : (joinE (splitL b) == 0) = true := by rw [h1]; rfl
          rw [e1, condF_false, e2, condF_true, h2, condF_true, h3, beq_self_eq_true]
        · have e1 : (splitE b != 0) = true := by rw [bne_iff_ne]; exact h
          have e2 : splitL b = [] := by rw [splitL, if_neg h]
          rw [e1, condF_true, e2]
          rfl
      have e0 : (!(joinE l == (0 : Int)) == allK l) = false := by
        unfold joinE
        cases allK l <;> rfl
      rw [half, e0, condF_false]
      cases ha : allK l with
      | false =>
        have ej : (joinE l == 0) = false := by rw [joinE, ha]; rfl
        rw [ej, condF_false]
      | true =>
        obtain ⟨h1, h2, h3⟩ := back1 ha
        have ej : (joinE l == 0) = true := by rw [joinE, if_pos ha]; rfl
        have e1 : (splitE (joinL l) != 0) = false := by rw [h1]; rfl
        have e2 : (joinL l).length.ble 1000000 = true := by rw [Nat.ble_eq]; exact h3
        have e3 : sameK l (splitL (joinL l)) = true := (sameK_iff _ _).2 h2.symm
        rw [ej, condF_true, e2, condF_true, e1, condF_false, e3, Bool.not_true, condF_false]
theorem f7 (b : List UInt8) (l : List ByteArray) (hf : fit l.length = true) : run Try.prog th (.call 7 [.slice (b.map (encL .byte)), .slice (l.map (encL .str))]) = some ⟨.normal, .sc (.bool true), default, {}⟩ :=
  fnK_sound S12_ok (back_fn b l hf)
theorem bytes9 : Try.prog.bytesOf 9 = 16 := by kernel_rfl
theorem fit_len {α : Type} {l : List α} (h : l.length * Try.prog.bytesOf 9 ≤ reachBytes) : fit l.length = true := by
  rw [bytes9] at h
  have hr := reachBytes_lt
  have h47 : (2 : Nat) ^ 47 = 140737488355328 := rfl
  refine fit_t ?_
  show (l.length : Int) < 4611686018427387904
  omega
end Go.Proofs.Ytecokfbldjekiaa.LI
namespace Go.Proofs.Ytecokfbldjekiaa.textBack
open Go Go.ChangeShapes Go.WideShapes Go.ChangeAt Go.RowKit Go.Proofs.Ytecokfbldjekiaa.LI
theorem own : ownKnob Try.prog.godebug = none := by kernel_rfl
theorem laidOut : laidOutB Try.prog = true := by kernel_rfl
set_option maxRecDepth 100000 in
theorem lifted (os : Os) (started : os.Started) (H : Type) (enc : TypeId × Value → H) :
    ReturnsInHanded {} Try.checked os 7 .any (Rows.textBackSpec.pre6 enc Try.prog Try.f7 Rows.textBackRow.domain false) (Rows.textBackSpec.post enc Try.prog Try.f7 false true false false) :=
  law_lifted (C := Try.checked) th_ok own started Try.func7 (by kernel_rfl) laidOut (n := 64) (by kernel_rfl) (by kernel_rfl) rfl Try.underlying4 rfl (by first | rfl | kernel_rfl)
    (fun ds h => by
      match ds, h with
      | [d0, d1], _ => rfl)
    (ChangeSpec.witness6 (enc := enc) (C := Try.checked) false ⟨#[], #[.slice none 0 0, .slice none 0 0], []⟩ 8 (by kernel_rfl) (by kernel_rfl) (by kernel_rfl) (by kernel_rfl))
    (RepEach.cons (Rep.slice Try.underlying22 (Rep.byte Try.underlying5)) (RepEach.cons (Rep.slice Try.underlying24 (Rep.str Try.underlying9)) RepEach.nil)) (fun p h => f7 p.1 p.2.1 (fit_len h.2.1.2))
theorem over : Rows.textBackRow.holds Try.pinned (OpenSpec.ofChange Rows.textBackSpec) :=
  OpenClaim.holds_of_wide 7 Try.f7 rfl rfl rfl rfl rfl rfl rfl ⟨rfl, rfl, rfl, rfl, rfl⟩ rfl rfl rfl rfl rfl (by kernel_rfl) Try.func7 (by kernel_rfl)
    (of_decide_eq_true (by kernel_rfl)) (by unfold Func.isWrapper; first | (rw [if_pos (by decide +kernel)]; kernel_rfl) | (rw [if_neg (by decide +kernel)]; exact ⟨rfl, rfl⟩))
    (fun os started H enc _ => lifted os started H enc)
end Go.Proofs.Ytecokfbldjekiaa.textBack
namespace Go.Proofs.Ytecokfbldjekiaa
theorem textBack_holds : Rows.TextBackSaid := textBack.over
#print axioms textBack_holds
end Go.Proofs.Ytecokfbldjekiaa
