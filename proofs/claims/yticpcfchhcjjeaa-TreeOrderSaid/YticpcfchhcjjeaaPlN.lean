/-
  The laws TreeEqual, TreeKeeps, TreeStays, TreeOrder hold of what was carried out.
-/
import Derived.Test.YticpcfchhcjjeaaPlL
namespace Go.Proofs.Yticpcfchhcjjeaa.LI
open Go
set_option linter.unusedSimpArgs false
set_option maxRecDepth 100000

theorem getD_len {t : Tree} (h : Wee t) (s : Str) : ((getT t s).getD []).length < 4611686018427387903 := by
  cases hg : getT t s with
  | none => simp
  | some x =>
    have := h.2 _ (getT_in hg)
    simp only [Option.getD_some]; dsimp only at this; omega
theorem law07_TreeEqual_sp (a b c : Tree) (s : Str) (ha : SlimT a) (ha2 : a.length < 4611686018427387903) (hb : SlimT b) (hb2 : b.length < 4611686018427387903) (hc : SlimT c) (hc2 : c.length < 4611686018427387903) : law07_TreeEqual (a, b, c, s, ()) = some (true, ()) := by
  rw [law07_TreeEqual_eq]
  cases ea : (decide (a.length ≤ 40) && lightT a) with
  | false =>
    simp (disch := first | omega | assumption) only [Tlaw07_TreeEqual, law07_awake_sp, law07_Light_sp, condF_True, condF_t, condF_f, condF_T, condF_F, condF_not, bindF_some, sumF_inl, sumF_inr, Int.toNat_natCast, wrap_succ, wrap_pred, Option.bind_some, Option.bind_none, Sum.elim_inl, Sum.elim_inr, List.length_append, List.length_cons, List.length_nil, beq_str, less_str, le_str, Bool.not_not, ea, Bool.not_true, Bool.not_false]
  | true =>
  cases eb : (decide (b.length ≤ 40) && lightT b) with
  | false =>
    simp (disch := first | omega | assumption) only [Tlaw07_TreeEqual, law07_awake_sp, law07_Light_sp, condF_True, condF_t, condF_f, condF_T, condF_F, condF_not, bindF_some, sumF_inl, sumF_inr, Int.toNat_natCast, wrap_succ, wrap_pred, Option.bind_some, Option.bind_none, Sum.elim_inl, Sum.elim_inr, List.length_append, List.length_cons, List.length_nil, beq_str, less_str, le_str, Bool.not_not, ea, eb, Bool.not_true, Bool.not_false]
  | true =>
  cases ec : (decide (c.length ≤ 40) && lightT c) with
  | false =>
    simp (disch := first | omega | assumption) only [Tlaw07_TreeEqual, law07_awake_sp, law07_Light_sp, condF_True, condF_t, condF_f, condF_T, condF_F, condF_not, bindF_some, sumF_inl, sumF_inr, Int.toNat_natCast, wrap_succ, wrap_pred, Option.bind_some, Option.bind_none, Sum.elim_inl, Sum.elim_inr, List.length_append, List.length_cons, List.length_nil, beq_str, less_str, le_str, Bool.not_not, ea, eb, ec, Bool.not_true, Bool.not_false]
  | true =>
  by_cases hs : s.size ≤ 100
  · have ea' := ea
    have eb' := eb
    have ec' := ec
    simp only [Bool.and_eq_true, decide_eq_true_eq] at ea' eb' ec'
    obtain ⟨a1, a2, a3⟩ := light_wee ea'.1 ea'.2
    obtain ⟨b1, b2, b3⟩ := light_wee eb'.1 eb'.2
    obtain ⟨c1, c2, c3⟩ := light_wee ec'.1 ec'.2
    by_cases hab : a = b
    · subst hab
      by_cases hbc : a = c
      · subst hbc
        simp (disch := first | omega | assumption) only [Tlaw07_TreeEqual, law07_awake_sp, law07_Light_sp, tree_Same_sp, tree_Get_sp, condF_True, condF_t, condF_f, condF_T, condF_F, bindF_some, ea, Bool.not_true, Bool.not_false, decide_true, beq_self_eq_true]
      · simp (disch := first | omega | assumption) only [Tlaw07_TreeEqual, law07_awake_sp, law07_Light_sp, tree_Same_sp, tree_Get_sp, condF_True, condF_t, condF_f, condF_T, condF_F, bindF_some, ea, ec, hbc, Bool.not_true, Bool.not_false, decide_true, decide_false, beq_self_eq_true]
    · have hba : ¬ b = a := fun e => hab e.symm
      simp (disch := first | omega | assumption) only [Tlaw07_TreeEqual, law07_awake_sp, law07_Light_sp, tree_Same_sp, tree_Get_sp, condF_True, condF_t, condF_f, condF_T, condF_F, bindF_some, ea, eb, ec, hab, hba, Bool.not_true, Bool.not_false, decide_true, decide_false, beq_self_eq_true]
  · simp (disch := first | omega | assumption) only [Tlaw07_TreeEqual, law07_awake_sp, law07_Light_sp, condF_True, condF_t, condF_f, condF_T, condF_F, condF_not, bindF_some, sumF_inl, sumF_inr, Int.toNat_natCast, wrap_succ, wrap_pred, Option.bind_some, Option.bind_none, Sum.elim_inl, Sum.elim_inr, List.length_append, List.length_cons, List.length_nil, beq_str, less_str, le_str, Bool.not_not, ea, eb, ec, Bool.not_true, Bool.not_false]

theorem law07_TreeKeeps_sp (t : Tree) (s o : Str) (l : List Str) (ht : SlimT t) (ht2 : t.length < 4611686018427387903) (hl : l.length < 4611686018427387903) : law07_TreeKeeps (t, s, o, l, ()) = some (true, ()) := by
  rw [law07_TreeKeeps_eq]
  cases ea : (decide (t.length ≤ 40) && lightT t) with
  | false =>
    simp (disch := first | omega | assumption) only [Tlaw07_TreeKeeps, law07_awake_sp, law07_Light_sp, law01_Light_sp, condF_True, condF_t, condF_f, condF_T, condF_F, condF_not, bindF_some, sumF_inl, sumF_inr, Int.toNat_natCast, wrap_succ, wrap_pred, Option.bind_some, Option.bind_none, Sum.elim_inl, Sum.elim_inr, List.length_append, List.length_cons, List.length_nil, beq_str, less_str, le_str, Bool.not_not, ea, Bool.not_true, Bool.not_false]
  | true =>
  cases eb : (decide (l.length ≤ 300) && lightL l) with
  | false =>
    simp (disch := first | omega | assumption) only [Tlaw07_TreeKeeps, law07_awake_sp, law07_Light_sp, law01_Light_sp, condF_True, condF_t, condF_f, condF_T, condF_F, condF_not, bindF_some, sumF_inl, sumF_inr, Int.toNat_natCast, wrap_succ, wrap_pred, Option.bind_some, Option.bind_none, Sum.elim_inl, Sum.elim_inr, List.length_append, List.length_cons, List.length_nil, beq_str, less_str, le_str, Bool.not_not, ea, eb, Bool.not_true, Bool.not_false]
  | true =>
  cases em : mayT t with
  | false =>
    simp (disch := first | omega | assumption) only [Tlaw07_TreeKeeps, law07_awake_sp, law07_Light_sp, law01_Light_sp, tree_May_sp, condF_True, condF_t, condF_f, condF_T, condF_F, condF_not, bindF_some, sumF_inl, sumF_inr, Int.toNat_natCast, wrap_succ, wrap_pred, Option.bind_some, Option.bind_none, Sum.elim_inl, Sum.elim_inr, List.length_append, List.length_cons, List.length_nil, beq_str, less_str, le_str, Bool.not_not, ea, eb, em, Bool.not_true, Bool.not_false]
  | true =>
  by_cases hs : s.size ≤ 100
  · by_cases ho : o.size ≤ 100
    · have ea' := ea
      have eb' := eb
      simp only [Bool.and_eq_true, decide_eq_true_eq] at ea' eb'
      obtain ⟨t1, t2, t3⟩ := light_wee ea'.1 ea'.2
      have hln : l.length ≤ 1000000000 := by omega
      have w1 := t2.put (by omega) s hln
      have w2 := t2.del s
      have hr := may_rising em
      have g1 := getD_len w1
      have g2 := getD_len w2
      have g3 := getD_len t2
      have k1 : getT (putT t s l) s = some l := by rw [get_putT _ _ _ hr, if_pos rfl]
      have k2 : getT (delT t s) s = none := by rw [get_delT _ _ hr, if_pos rfl]
      by_cases hos : o = s
      · subst hos
        simp (disch := first | omega | assumption) only [Tlaw07_TreeKeeps, law07_awake_sp, law07_Light_sp, law01_Light_sp, tree_May_sp, tree_Put_sp, tree_Del_sp, tree_Get_sp, k1, k2, ref01_Same_sp, condF_True, condF_t, condF_f, condF_T, condF_F, bindF_some, ea, eb, em, Option.getD_some, Option.getD_none, Option.isSome_some, Option.isSome_none, Bool.not_true, Bool.not_false, decide_true, beq_self_eq_true]
      · have k3 : getT (putT t s l) o = getT t o := by rw [get_putT _ _ _ hr, if_neg hos]
        have k4 : getT (delT t s) o = getT t o := by rw [get_delT _ _ hr, if_neg hos]
        have g4 := g3 o
        simp (disch := first | omega | assumption) only [Tlaw07_TreeKeeps, law07_awake_sp, law07_Light_sp, law01_Light_sp, tree_May_sp, tree_Put_sp, tree_Del_sp, tree_Get_sp, k1, k2, k3, k4, ref01_Same_sp, condF_True, condF_t, condF_f, condF_T, condF_F, bindF_some, ea, eb, em, Option.getD_some, Option.getD_none, Option.isSome_some, Option.isSome_none, Bool.not_true, Bool.not_false, decide_true, beq_self_eq_true, beq_str, hos, decide_false]
    · simp (disch := first | omega | assumption) only [Tlaw07_TreeKeeps, law07_awake_sp, law07_Light_sp, law01_Light_sp, tree_May_sp, condF_True, condF_t, condF_f, condF_T, condF_F, condF_not, bindF_some, sumF_inl, sumF_inr, Int.toNat_natCast, wrap_succ, wrap_pred, Option.bind_some, Option.bind_none, Sum.elim_inl, Sum.elim_inr, List.length_append, List.length_cons, List.length_nil, beq_str, less_str, le_str, Bool.not_not, ea, eb, em, Bool.not_true, Bool.not_false]
  · simp (disch := first | omega | assumption) only [Tlaw07_TreeKeeps, law07_awake_sp, law07_Light_sp, law01_Light_sp, tree_May_sp, condF_True, condF_t, condF_f, condF_T, condF_F, condF_not, bindF_some, sumF_inl, sumF_inr, Int.toNat_natCast, wrap_succ, wrap_pred, Option.bind_some, Option.bind_none, Sum.elim_inl, Sum.elim_inr, List.length_append, List.length_cons, List.length_nil, beq_str, less_str, le_str, Bool.not_not, ea, eb, em, Bool.not_true, Bool.not_false]

theorem slim_put {t : Tree} (h : SlimT t) (s : Str) {l : List Str} (hs : s.size < 4611686018427387903) (hl : Slim l) (hl2 : l.length < 4611686018427387903) : SlimT (putT t s l) := fun f hf => by
  rcases put_mem hf with rfl | hf
  · exact ⟨hs, hl, hl2⟩
  · exact h f hf
theorem slim_del {t : Tree} (h : SlimT t) (s : Str) : SlimT (delT t s) := fun f hf => h f (del_mem hf)

theorem law07_TreeStays_sp (t : Tree) (s : Str) (l : List Str) (ht : SlimT t) (ht2 : t.length < 4611686018427387903) (hs : s.size < 4611686018427387903) (hl : Slim l) (hl2 : l.length < 4611686018427387903) : law07_TreeStays (t, s, l, ()) = some (true, ()) := by
  rw [law07_TreeStays_eq]
  cases ea : (decide (t.length ≤ 40) && lightT t) with
  | false =>
    simp (disch := first | omega | assumption) only [Tlaw07_TreeStays, law07_awake_sp, law07_Light_sp, law01_Light_sp, ref01_Name_sp, ref01_All_sp, condF_True, condF_t, condF_f, condF_T, condF_F, condF_not, bindF_some, sumF_inl, sumF_inr, Int.toNat_natCast, wrap_succ, wrap_pred, Option.bind_some, Option.bind_none, Sum.elim_inl, Sum.elim_inr, List.length_append, List.length_cons, List.length_nil, beq_str, less_str, le_str, Bool.not_not, ea, Bool.not_true, Bool.not_false]
  | true =>
  cases eb : (decide (l.length ≤ 300) && lightL l) with
  | false =>
    simp (disch := first | omega | assumption) only [Tlaw07_TreeStays, law07_awake_sp, law07_Light_sp, law01_Light_sp, ref01_Name_sp, ref01_All_sp, condF_True, condF_t, condF_f, condF_T, condF_F, condF_not, bindF_some, sumF_inl, sumF_inr, Int.toNat_natCast, wrap_succ, wrap_pred, Option.bind_some, Option.bind_none, Sum.elim_inl, Sum.elim_inr, List.length_append, List.length_cons, List.length_nil, beq_str, less_str, le_str, Bool.not_not, ea, eb, Bool.not_true, Bool.not_false]
  | true =>
  cases em : mayT t with
  | false =>
    simp (disch := first | omega | assumption) only [Tlaw07_TreeStays, law07_awake_sp, law07_Light_sp, law01_Light_sp, ref01_Name_sp, ref01_All_sp, tree_May_sp, condF_True, condF_t, condF_f, condF_T, condF_F, condF_not, bindF_some, sumF_inl, sumF_inr, Int.toNat_natCast, wrap_succ, wrap_pred, Option.bind_some, Option.bind_none, Sum.elim_inl, Sum.elim_inr, List.length_append, List.length_cons, List.length_nil, beq_str, less_str, le_str, Bool.not_not, ea, eb, em, Bool.not_true, Bool.not_false]
  | true =>
  cases en : nameP s with
  | false =>
    simp (disch := first | omega | assumption) only [Tlaw07_TreeStays, law07_awake_sp, law07_Light_sp, law01_Light_sp, ref01_Name_sp, ref01_All_sp, tree_May_sp, condF_True, condF_t, condF_f, condF_T, condF_F, condF_not, bindF_some, sumF_inl, sumF_inr, Int.toNat_natCast, wrap_succ, wrap_pred, Option.bind_some, Option.bind_none, Sum.elim_inl, Sum.elim_inr, List.length_append, List.length_cons, List.length_nil, beq_str, less_str, le_str, Bool.not_not, ea, eb, em, en, Bool.not_true, Bool.not_false]
  | true =>
  cases el : allP l with
  | false =>
    simp (disch := first | omega | assumption) only [Tlaw07_TreeStays, law07_awake_sp, law07_Light_sp, law01_Light_sp, ref01_Name_sp, ref01_All_sp, tree_May_sp, condF_True, condF_t, condF_f, condF_T, condF_F, condF_not, bindF_some, sumF_inl, sumF_inr, Int.toNat_natCast, wrap_succ, wrap_pred, Option.bind_some, Option.bind_none, Sum.elim_inl, Sum.elim_inr, List.length_append, List.length_cons, List.length_nil, beq_str, less_str, le_str, Bool.not_not, ea, eb, em, en, el, Bool.not_true, Bool.not_false]
  | true =>
  have ea' := ea
  have eb' := eb
  simp only [Bool.and_eq_true, decide_eq_true_eq] at ea' eb'
  obtain ⟨t1, t2, t3⟩ := light_wee ea'.1 ea'.2
  have hln : l.length ≤ 1000000000 := by omega
  have w1 := t2.put (by omega) s hln
  have w2 := t2.del s
  have s1 := slim_put t3 s hs hl hl2
  have s2 := slim_del t3 s
  have n1 := put_len t s l
  have n2 := del_len t s
  have w3 := w1.del s
  have hr := may_rising em
  have m1 := may_del s em
  have m2 := may_put s l em en el
  cases hg : getT t s with
  | some x =>
    rw [hg] at m2
    simp (disch := first | omega | assumption) only [Tlaw07_TreeStays, law07_awake_sp, law07_Light_sp, law01_Light_sp, ref01_Name_sp, ref01_All_sp, tree_May_sp, tree_Get_sp, tree_Put_sp, tree_Del_sp, tree_Same_sp, condF_True, condF_t, condF_f, condF_T, condF_F, bindF_some, ea, eb, em, en, el, hg, m1, m2, Option.isSome_some, Bool.true_or, beq_self_eq_true, Bool.not_true, Bool.not_false]
  | none =>
    have d := del_put s l hr hg
    rw [hg] at m2
    have m3 : mayT (putT t s l) = decide ((t.length : Int) < 30) := by
      rw [m2, Option.isSome_none, Bool.false_or, decide_eq_decide]; omega
    simp (disch := first | omega | assumption) only [Tlaw07_TreeStays, law07_awake_sp, law07_Light_sp, law01_Light_sp, ref01_Name_sp, ref01_All_sp, tree_May_sp, tree_Get_sp, tree_Put_sp, tree_Del_sp, tree_Same_sp, condF_True, condF_t, condF_f, condF_T, condF_F, bindF_some, ea, eb, em, en, el, hg, m1, m3, d, Option.isSome_none, beq_self_eq_true, Bool.not_true, Bool.not_false, decide_true]

theorem law07_TreeOrder_sp (t : Tree) (a b : Str) (l m : List Str) (ht : SlimT t) (ht2 : t.length < 4611686018427387903) (hl : l.length < 4611686018427387903) (hm : m.length < 4611686018427387903) : law07_TreeOrder (t, a, b, l, m, ()) = some (true, ()) := by
  rw [law07_TreeOrder_eq]
  cases ea : (decide (t.length ≤ 40) && lightT t) with
  | false =>
    simp (disch := first | omega | assumption) only [Tlaw07_TreeOrder, law07_awake_sp, law07_Light_sp, law01_Light_sp, condF_True, condF_t, condF_f, condF_T, condF_F, condF_not, bindF_some, sumF_inl, sumF_inr, Int.toNat_natCast, wrap_succ, wrap_pred, Option.bind_some, Option.bind_none, Sum.elim_inl, Sum.elim_inr, List.length_append, List.length_cons, List.length_nil, beq_str, less_str, le_str, Bool.not_not, ea, Bool.not_true, Bool.not_false]
  | true =>
  cases eb : (decide (l.length ≤ 300) && lightL l) with
  | false =>
    simp (disch := first | omega | assumption) only [Tlaw07_TreeOrder, law07_awake_sp, law07_Light_sp, law01_Light_sp, condF_True, condF_t, condF_f, condF_T, condF_F, condF_not, bindF_some, sumF_inl, sumF_inr, Int.toNat_natCast, wrap_succ, wrap_pred, Option.bind_some, Option.bind_none, Sum.elim_inl, Sum.elim_inr, List.length_append, List.length_cons, List.length_nil, beq_str, less_str, le_str, Bool.not_not, ea, eb, Bool.not_true, Bool.not_false]
  | true =>
  cases ec : (decide (m.length ≤ 300) && lightL m) with
  | false =>
    simp (disch := first | omega | assumption) only [Tlaw07_TreeOrder, law07_awake_sp, law07_Light_sp, law01_Light_sp, condF_True, condF_t, condF_f, condF_T, condF_F, condF_not, bindF_some, sumF_inl, sumF_inr, Int.toNat_natCast, wrap_succ, wrap_pred, Option.bind_some, Option.bind_none, Sum.elim_inl, Sum.elim_inr, List.length_append, List.length_cons, List.length_nil, beq_str, less_str, le_str, Bool.not_not, ea, eb, ec, Bool.not_true, Bool.not_false]
  | true =>
  cases em : mayT t with
  | false =>
    simp (disch := first | omega | assumption) only [Tlaw07_TreeOrder, law07_awake_sp, law07_Light_sp, law01_Light_sp, tree_May_sp, condF_True, condF_t, condF_f, condF_T, condF_F, condF_not, bindF_some, sumF_inl, sumF_inr, Int.toNat_natCast, wrap_succ, wrap_pred, Option.bind_some, Option.bind_none, Sum.elim_inl, Sum.elim_inr, List.length_append, List.length_cons, List.length_nil, beq_str, less_str, le_str, Bool.not_not, ea, eb, ec, em, Bool.not_true, Bool.not_false]
  | true =>
  by_cases hab : a = b
  · simp (disch := first | omega | assumption) only [Tlaw07_TreeOrder, law07_awake_sp, law07_Light_sp, law01_Light_sp, tree_May_sp, condF_True, condF_t, condF_f, condF_T, condF_F, condF_not, bindF_some, sumF_inl, sumF_inr, Int.toNat_natCast, wrap_succ, wrap_pred, Option.bind_some, Option.bind_none, Sum.elim_inl, Sum.elim_inr, List.length_append, List.length_cons, List.length_nil, beq_str, less_str, le_str, Bool.not_not, ea, eb, ec, em, Bool.not_true, Bool.not_false, hab, decide_true]
  · by_cases ha : a.size ≤ 100
    · by_cases hb : b.size ≤ 100
      · have ea' := ea
        have eb' := eb
        have ec' := ec
        simp only [Bool.and_eq_true, decide_eq_true_eq] at ea' eb' ec'
        obtain ⟨t1, t2, t3⟩ := light_wee ea'.1 ea'.2
        have hln : l.length ≤ 1000000000 := by omega
        have hmn : m.length ≤ 1000000000 := by omega
        have n1 := put_len t a l
        have n2 := put_len t b m
        have w1 := t2.put (by omega) a hln
        have w2 := t2.put (by omega) b hmn
        have w3 := w1.put (by omega) b hmn
        have w4 := w3.del a
        have w5 := w4.del b
        have w6 := t2.del a
        have hr := may_rising em
        have w7 := w6.del b
        have p := (put_put a b l m hr hab).symm
        have d := del_del_put a b l m hr
        simp (disch := first | omega | assumption) only [Tlaw07_TreeOrder, law07_awake_sp, law07_Light_sp, law01_Light_sp, tree_May_sp, tree_Put_sp, tree_Del_sp, tree_Same_sp, condF_True, condF_t, condF_f, condF_T, condF_F, bindF_some, ea, eb, ec, em, p, d, Bool.not_true, Bool.not_false, beq_str, hab, decide_false, decide_true]
      · simp (disch := first | omega | assumption) only [Tlaw07_TreeOrder, law07_awake_sp, law07_Light_sp, law01_Light_sp, tree_May_sp, condF_True, condF_t, condF_f, condF_T, condF_F, condF_not, bindF_some, sumF_inl, sumF_inr, Int.toNat_natCast, wrap_succ, wrap_pred, Option.bind_some, Option.bind_none, Sum.elim_inl, Sum.elim_inr, List.length_append, List.length_cons, List.length_nil, beq_str, less_str, le_str, Bool.not_not, ea, eb, ec, em, Bool.not_true, Bool.not_false, hab, decide_false]
    · simp (disch := first | omega | assumption) only [Tlaw07_TreeOrder, law07_awake_sp, law07_Light_sp, law01_Light_sp, tree_May_sp, condF_True, condF_t, condF_f, condF_T, condF_F, condF_not, bindF_some, sumF_inl, sumF_inr, Int.toNat_natCast, wrap_succ, wrap_pred, Option.bind_some, Option.bind_none, Sum.elim_inl, Sum.elim_inr, List.length_append, List.length_cons, List.length_nil, beq_str, less_str, le_str, Bool.not_not, ea, eb, ec, em, Bool.not_true, Bool.not_false, hab, decide_false]
end Go.Proofs.Yticpcfchhcjjeaa.LI
