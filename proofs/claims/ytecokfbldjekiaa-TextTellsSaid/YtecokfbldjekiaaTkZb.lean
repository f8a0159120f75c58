/-
  Layer 1 (text): the document's All; text.Join and the document's as contracts.
-/
import Derived.Test.YtecokfbldjekiaaTkZa
namespace Go.Proofs.Ytecokfbldjekiaa.LI
open Go Go.RowKit
open KV (toL)
open KV.toL (toLs)
set_option maxRecDepth 100000
def notMay (s : ByteArray) : Bool := !mayK s
def allFit (l : List ByteArray) : Bool := l.all fun s => fit s.size
theorem n18 : ((loopsOf (bodyOf Try.prog 18)).filter fun a => loopKey a == some 2).length = 1 := by kernel_rfl
def o18 (l : List ByteArray) (n r : Bool) : Out := .two (badLine l == l.length)
  (.one (.exit 0) [.lst .str n l, .sc (.bool r), .sc (.int .i64 l.length)] {})
  (.one .ret [.lst .str n l, .sc (.bool false), .sc (.int .i64 (badLine l))] {})
theorem L18 (l : List ByteArray) (n r : Bool) (hs : (l.length : Int) < big) (hf : allFit l = true) : ∀ (k i : Nat), i + k = l.length → (∀ j, (hj : j < l.length) → j < i → notMay l[j] = false) →
    LoopTo Try.prog th 18 (some 2) [.lst .str n l, .sc (.bool r), .sc (.int .i64 i)] {} (o18 l n r).pick.1 (o18 l n r).pick.2.1 (o18 l n r).pick.2.2
  | 0, i, hi, hb => by
    have e1 : badLine l = l.length := find_all notMay l i (by omega) hb
    have e2 : (o18 l n r).pick = (.exit 0, [.lst .str n l, .sc (.bool r), .sc (.int .i64 l.length)], {}) := by simp [o18, Out.pick, e1]
    rw [e2]
    have e := i18 l n r i
    simp (disch := omega) only [lt_t, lt_f, le_t, le_f, gt_t, gt_f, ge_t, ge_f, eq_tK, eq_fK, ne_tK, ne_fK, condF_true, condF_false, cond_true, cond_false, decide_true, decide_false, Bool.and_true, Bool.true_and, Bool.and_false, Bool.false_and, Bool.and_self, Bool.not_true, Bool.not_false, wrap64, wrapN, Int.toNat_natCast] at e
    have hi' : i = l.length := by omega
    subst hi'
    exact LoopTo.stop S10_ok n18 StOK.nil e (by simp)
  | k + 1, i, hi, hb => by
    have hlt : i < l.length := by omega
    have e := i18 l n r i
    have d1 : decide ((i : Int) < l.length) = true := by rw [decide_eq_true_eq]; omega
    have d2 : decide ((0 : Int) ≤ i) = true := by rw [decide_eq_true_eq]; omega
    have d3 : IntKind.i64.wrap ((i : Int) + 1) = ((i + 1 : Nat) : Int) := wrapN (by omega)
    have d4 : fit l[i].size = true := List.all_eq_true.1 hf _ (List.getElem_mem hlt)
    simp only [d1, d2, d3, d4, condF_true, Int.toNat_natCast, getD_at _ _ _ hlt] at e
    have hd : (!mayK l[i]) = notMay l[i] := rfl
    rw [hd] at e
    cases hq : notMay l[i] with
    | true =>
      have e1 : badLine l = i := find_at notMay l i hlt hb hq
      rw [hq, condF_true] at e
      have e2 : (o18 l n r).pick = (.ret, [.lst .str n l, .sc (.bool false), .sc (.int .i64 i)], {}) := by
        have : (i == l.length) = false := by rw [beq_eq_false_iff_ne]; omega
        simp only [o18, Out.pick, e1, this, cond_false]
      rw [e2]
      exact LoopTo.stop S10_ok n18 StOK.nil e (by simp)
    | false =>
      rw [hq, condF_false] at e
      exact LoopTo.next S10_ok n18 StOK.nil e (L18 l n r hs hf k (i + 1) (by omega) (step_bad hb hlt hq))
def pl18 : List KV → KSt → Option (Ck × Out)
  | [.lst .str n l, .sc (.bool r), .sc (.int .i64 i)], ⟨[], [], []⟩ => some (.and (.is (decide (i = 0))) (.and (.is (fit l.length)) (.is (allFit l))), o18 l n r)
  | _, _ => none
theorem pl18_ok (vs : List KV) (σ : KSt) (c : Ck) (o : Out) (h : pl18 vs σ = some (c, o)) (hc : c.val = true) (_ : StOK Try.prog σ) : LoopTo Try.prog th 18 (some 2) vs σ o.pick.1 o.pick.2.1 o.pick.2.2 ∧ StOK Try.prog o.pick.2.2 := by
  unfold pl18 at h
  split at h
  · rename_i n l r i _
    cases h
    simp only [val_and_t, val_is, fit_iff, decide_eq_true_eq] at hc
    obtain ⟨rfl, hs, hf⟩ := hc
    refine ⟨L18 l n r hs hf l.length 0 (by omega) (fun j _ h => by omega), ?_⟩
    unfold o18 Out.pick
    cases badLine l == List.length (α := ByteArray) l <;> exact StOK.nil
  · cases h
noncomputable def S11 (fk : Fk) : Cs := (((S10 fk).addL 18 2 pl18).addL 15 5 pl15).addL 16 6 pl16
instance : FkOK (S11 condF) := ⟨fun _ _ _ => rfl⟩
theorem pl15_ok' : CsOK Try.prog th ((S10 condF).addL 18 2 pl18) := S10_ok.addL n18 pl18_ok
theorem S11_ok : CsOK Try.prog th (S11 condF) := ((S10_ok.addL n18 pl18_ok).addL n15 pl15_ok).addL n16 pl16_ok
theorem k18_ (fk : Fk) (n : Bool) (l : List ByteArray)  : fnK Try.prog th (S11 fk) 1000 18 [.lst .str n l] =
    fk (decide ((0 : Int) = (0 : Int)))
      (fk (fit l.length)
        (fk (allFit l)
          (fk (badLine l == l.length) (some (KV.sc (Value.bool (decide ((↑l.length : Int) ≤ (200 : Int))))))
            (some (KV.sc (Value.bool false))))
          none)
        none)
      none := by kernel_rfl
theorem k18 (n : Bool) (l : List ByteArray)  : fnK Try.prog th (S11 condF) 1000 18 [.lst .str n l] =
    condF (decide ((0 : Int) = (0 : Int)))
      (condF (fit l.length)
        (condF (allFit l)
          (condF (badLine l == l.length) (some (KV.sc (Value.bool (decide ((↑l.length : Int) ≤ (200 : Int))))))
            (some (KV.sc (Value.bool false))))
          none)
        none)
      none := k18_ condF n l
theorem k15_ (fk : Fk) (n : Bool) (l : List ByteArray)  : fnK Try.prog th (S11 fk) 1000 15 [.lst .str n l] =
    fk (!allK l) (some (KV.tuple [KV.nils, KV.sc (Value.int IntKind.i64 (1 : Int))]))
      (fk (decide ((0 : Int) = (0 : Int)))
        (fk (decide ((↑l.length : Int) = (↑l.length : Int)))
          (fk (fit l.length)
            (fk ((joinB l).length.ble (1000000 : Nat))
              (fk l.isEmpty (some (KV.tuple [KV.nils, KV.sc (Value.int IntKind.i64 (0 : Int))]))
                (fk (decide ((joinB l).length = (joinB l).length))
                  (some (KV.tuple [KV.lst Ty.byte false (joinB l), KV.sc (Value.int IntKind.i64 (0 : Int))])) none))
              none)
            none)
          none)
        none) := by kernel_rfl
theorem k15 (n : Bool) (l : List ByteArray)  : fnK Try.prog th (S11 condF) 1000 15 [.lst .str n l] =
    condF (!allK l) (some (KV.tuple [KV.nils, KV.sc (Value.int IntKind.i64 (1 : Int))]))
      (condF (decide ((0 : Int) = (0 : Int)))
        (condF (decide ((↑l.length : Int) = (↑l.length : Int)))
          (condF (fit l.length)
            (condF ((joinB l).length.ble (1000000 : Nat))
              (condF l.isEmpty (some (KV.tuple [KV.nils, KV.sc (Value.int IntKind.i64 (0 : Int))]))
                (condF (decide ((joinB l).length = (joinB l).length))
                  (some (KV.tuple [KV.lst Ty.byte false (joinB l), KV.sc (Value.int IntKind.i64 (0 : Int))])) none))
              none)
            none)
          none)
        none) := k15_ condF n l
theorem join_len : ∀ l : List ByteArray, l.all mayK = true → (joinB l).length ≤ 81 * l.length
  | [], _ => by simp [joinB]
  | s :: l, h => by
    rw [List.all_cons, Bool.and_eq_true] at h
    have ih := join_len l h.2
    have hs := h.1
    rw [mayK_eq, Bool.and_eq_true, decide_eq_true_eq] at hs
    have hl : s.data.toList.length = s.size := by simp
    have ej : joinB (s :: l) = s.data.toList ++ [ten] ++ joinB l := rfl
    rw [ej]
    simp only [List.length_append, List.length_cons, List.length_nil]
    omega
theorem allK_len {l : List ByteArray} (h : allK l = true) : l.length ≤ 200 ∧ (joinB l).length ≤ 1000000 := by
  rw [allK_eq, Bool.and_eq_true, decide_eq_true_eq] at h
  have := join_len l h.2
  exact ⟨h.1, by omega⟩
def joinE (l : List ByteArray) : Int := if allK l = true then 0 else 1
def joinL (l : List ByteArray) : List UInt8 := if allK l = true then joinB l else []
def p18 : List KV → Option (Ck × KV)
  | [.lst .str _ l] => some (.and (.is (fit l.length)) (.is (allFit l)), .bool (allK l))
  | _ => none
theorem c18 (args : List KV) (c : Ck) (v : KV) (h : p18 args = some (c, v)) (hc : c.val = true) : run Try.prog th (.call 18 (toLs args)) = some ⟨.normal, v.toL, default, {}⟩ := by
  unfold p18 at h
  split at h
  · rename_i n l
    cases h
    simp only [val_and_t, val_is] at hc
    refine fnK_sound S11_ok (n := 1000) (args := [.lst .str n l]) ?_
    rw [k18, hc.1, hc.2]
    unfold allK
    cases decide ((List.length (α := ByteArray) l : Int) ≤ 200) <;> cases badLine l == List.length (α := ByteArray) l <;> rfl
  · cases h
end Go.Proofs.Ytecokfbldjekiaa.LI
