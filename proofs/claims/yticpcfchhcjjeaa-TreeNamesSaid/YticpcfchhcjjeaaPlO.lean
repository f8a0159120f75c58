/-
  The law TreeNames holds of what was carried out.
-/
import Derived.Test.YticpcfchhcjjeaaPlL
namespace Go.Proofs.Yticpcfchhcjjeaa.LI
open Go
set_option linter.unusedSimpArgs false
set_option maxRecDepth 100000

theorem names_in (a b : Tree) (n : Str) : n ∈ namesT a b ↔ ∃ f, (f ∈ a ∨ f ∈ b) ∧ f.1 = n := by
  obtain ⟨h3, h4⟩ := uniq_spec ((a ++ b).map (·.1)) [] List.nodup_nil
  rw [namesT, sortS_mem, h4]
  simp only [List.not_mem_nil, false_or, List.mem_map, List.mem_append]
theorem names_rising (a b : Tree) : Rising (namesT a b) := by
  obtain ⟨h3, h4⟩ := uniq_spec ((a ++ b).map (·.1)) [] List.nodup_nil
  exact sortS_rising h3
theorem rising_at {l : List Str} (h : Rising l) {i : Nat} (h0 : 0 < i) (hi : i < l.length) : ltS (l.getD (i - 1) ByteArray.empty) (l.getD i ByteArray.empty) := by
  rw [List.getD_eq_getElem?_getD, List.getD_eq_getElem?_getD, List.getElem?_eq_getElem hi, List.getElem?_eq_getElem (show i - 1 < l.length by omega)]
  exact (List.pairwise_iff_getElem.1 h) (i - 1) i (by omega) hi (by omega)
theorem law07_TreeNames_L8_sp (t u : Tree) (l : List Str) (ht : Wee t) (hu : Wee u) (hb : l.length < 4611686018427387903) (hr : Rising l) (hg : ∀ n ∈ l, ((getT t n).isSome || (getT u n).isSome) = true) : ∀ (r : List Str) (i : Nat), l.drop i = r → i ≤ l.length →
    law07_TreeNames_L8 (t, u, l, (i : Int), ()) = some (.inr (t, u, l, (l.length : Int), ()))
  | [], i, h, hi => by
    have := drop_nil h hi
    subst this
    rw [law07_TreeNames_L8_eq]
    simp (disch := omega) only [Tlaw07_TreeNames_L8, condF_True, condF_t, condF_f, condF_T, condF_F, condF_not, bindF_some, sumF_inl, sumF_inr, Int.toNat_natCast, wrap_succ, wrap_pred, Option.bind_some, Option.bind_none, Sum.elim_inl, Sum.elim_inr, List.length_append, List.length_cons, List.length_nil, beq_str, less_str, le_str, Bool.not_not]
  | n :: r, i, h, hi => by
    obtain ⟨h1, h2, h3, h4⟩ := drop_cons h
    have ih := law07_TreeNames_L8_sp t u l ht hu hb hr hg r (i + 1) h3 (by omega)
    have hgn := hg n h4
    rw [law07_TreeNames_L8_eq]
    by_cases h0 : i = 0
    · subst h0
      have hb1 : 0 < l.length := h1
      have hw1 : IntKind.wrap .i64 ((0 : Int) + 1) = 1 := by rw [wrap_id (by omega) (by omega)]; rfl
      simp only [Int.natCast_zero] at *
      have ih' : law07_TreeNames_L8 (t, u, l, 1, ()) = some (.inr (t, u, l, (l.length : Int), ())) := by simpa using ih
      cases g1 : (getT t n).isSome with
      | true => simp (disch := first | omega | assumption) only [Tlaw07_TreeNames_L8, condF_True, condF_t, condF_f, condF_T, condF_F, condF_not, bindF_some, sumF_inl, sumF_inr, Int.toNat_natCast, wrap_succ, wrap_pred, Option.bind_some, Option.bind_none, Sum.elim_inl, Sum.elim_inr, List.length_append, List.length_cons, List.length_nil, beq_str, less_str, le_str, Bool.not_not, tree_Get_sp, h2, Int.toNat_zero, hw1, g1, Bool.not_true, ih']
      | false =>
        rw [g1, Bool.false_or] at hgn
        simp (disch := first | omega | assumption) only [Tlaw07_TreeNames_L8, condF_True, condF_t, condF_f, condF_T, condF_F, condF_not, bindF_some, sumF_inl, sumF_inr, Int.toNat_natCast, wrap_succ, wrap_pred, Option.bind_some, Option.bind_none, Sum.elim_inl, Sum.elim_inr, List.length_append, List.length_cons, List.length_nil, beq_str, less_str, le_str, Bool.not_not, tree_Get_sp, h2, Int.toNat_zero, hw1, g1, hgn, Bool.not_true, Bool.not_false, ih']
    · have hlt := rising_at hr (show 0 < i by omega) h1
      rw [h2] at hlt
      generalize hq : l.getD (i - 1) ByteArray.empty = q at hlt
      have hna := ltS_asymm hlt
      cases g1 : (getT t n).isSome with
      | true => simp (disch := first | omega | assumption) only [Tlaw07_TreeNames_L8, condF_True, condF_t, condF_f, condF_T, condF_F, condF_not, bindF_some, sumF_inl, sumF_inr, Int.toNat_natCast, wrap_succ, wrap_pred, Option.bind_some, Option.bind_none, Sum.elim_inl, Sum.elim_inr, List.length_append, List.length_cons, List.length_nil, beq_str, less_str, le_str, Bool.not_not, tree_Get_sp, h2, g1, Bool.not_true, ih, hq, hlt, decide_true]
      | false =>
        rw [g1, Bool.false_or] at hgn
        simp (disch := first | omega | assumption) only [Tlaw07_TreeNames_L8, condF_True, condF_t, condF_f, condF_T, condF_F, condF_not, bindF_some, sumF_inl, sumF_inr, Int.toNat_natCast, wrap_succ, wrap_pred, Option.bind_some, Option.bind_none, Sum.elim_inl, Sum.elim_inr, List.length_append, List.length_cons, List.length_nil, beq_str, less_str, le_str, Bool.not_not, tree_Get_sp, h2, g1, hgn, Bool.not_true, Bool.not_false, ih, hq, hlt, decide_true]
theorem law07_TreeNames_L20_sp (all t u : Tree) (l : List Str) (i4 : Int) (f : File) (ha : 0 < all.length) (hf : ∀ d, all.getD 0 d = f) (hb : l.length < 4611686018427387903) : ∀ (r : List Str) (k : Nat) (b : Bool), l.drop k = r → k ≤ l.length →
    law07_TreeNames_L20 (all, t, u, l, i4, b, (k : Int), ()) = some (all, t, u, l, i4, b || memS f.1 r, (l.length : Int), ())
  | [], k, b, h, hk => by
    have := drop_nil h hk
    subst this
    rw [law07_TreeNames_L20_eq]
    simp (disch := omega) only [Tlaw07_TreeNames_L20, condF_True, condF_t, condF_f, condF_T, condF_F, condF_not, bindF_some, sumF_inl, sumF_inr, Int.toNat_natCast, wrap_succ, wrap_pred, Option.bind_some, Option.bind_none, Sum.elim_inl, Sum.elim_inr, List.length_append, List.length_cons, List.length_nil, beq_str, less_str, le_str, Bool.not_not, memS, List.any_nil, Bool.or_false]
  | n :: r, k, b, h, hk => by
    obtain ⟨h1, h2, h3, h4⟩ := drop_cons h
    rw [law07_TreeNames_L20_eq]
    cases b with
    | true =>
      simp (disch := first | omega | assumption) only [Tlaw07_TreeNames_L20, condF_True, condF_t, condF_f, condF_T, condF_F, condF_not, bindF_some, sumF_inl, sumF_inr, Int.toNat_natCast, wrap_succ, wrap_pred, Option.bind_some, Option.bind_none, Sum.elim_inl, Sum.elim_inr, List.length_append, List.length_cons, List.length_nil, beq_str, less_str, le_str, Bool.not_not, Bool.true_or]
      rw [law07_TreeNames_L20_sp all t u l i4 f ha hf hb r (k + 1) true h3 (by omega), Bool.true_or]
    | false =>
      simp (disch := first | omega | assumption) only [Tlaw07_TreeNames_L20, condF_True, condF_t, condF_f, condF_T, condF_F, condF_not, bindF_some, sumF_inl, sumF_inr, Int.toNat_natCast, wrap_succ, wrap_pred, Option.bind_some, Option.bind_none, Sum.elim_inl, Sum.elim_inr, List.length_append, List.length_cons, List.length_nil, beq_str, less_str, le_str, Bool.not_not, h2, hf, Int.toNat_zero, Bool.false_or]
      rw [law07_TreeNames_L20_sp all t u l i4 f ha hf hb r (k + 1) _ h3 (by omega)]
      simp only [memS, List.any_cons]
theorem law07_TreeNames_L20b_sp (all t u : Tree) (l : List Str) (i4 : Int) (i : Nat) (f : File) (ha : i < all.length) (hf : ∀ d, all.getD i d = f) (hb : l.length < 4611686018427387903) : ∀ (r : List Str) (k : Nat) (b : Bool), l.drop k = r → k ≤ l.length →
    law07_TreeNames_L20b (all, t, u, l, i4, (i : Int), b, (k : Int), ()) = some (all, t, u, l, i4, (i : Int), b || memS f.1 r, (l.length : Int), ())
  | [], k, b, h, hk => by
    have := drop_nil h hk
    subst this
    rw [law07_TreeNames_L20b_eq]
    simp (disch := omega) only [Tlaw07_TreeNames_L20b, condF_True, condF_t, condF_f, condF_T, condF_F, condF_not, bindF_some, sumF_inl, sumF_inr, Int.toNat_natCast, wrap_succ, wrap_pred, Option.bind_some, Option.bind_none, Sum.elim_inl, Sum.elim_inr, List.length_append, List.length_cons, List.length_nil, beq_str, less_str, le_str, Bool.not_not, memS, List.any_nil, Bool.or_false]
  | n :: r, k, b, h, hk => by
    obtain ⟨h1, h2, h3, h4⟩ := drop_cons h
    rw [law07_TreeNames_L20b_eq]
    cases b with
    | true =>
      simp (disch := first | omega | assumption) only [Tlaw07_TreeNames_L20b, condF_True, condF_t, condF_f, condF_T, condF_F, condF_not, bindF_some, sumF_inl, sumF_inr, Int.toNat_natCast, wrap_succ, wrap_pred, Option.bind_some, Option.bind_none, Sum.elim_inl, Sum.elim_inr, List.length_append, List.length_cons, List.length_nil, beq_str, less_str, le_str, Bool.not_not, Bool.true_or]
      rw [law07_TreeNames_L20b_sp all t u l i4 i f ha hf hb r (k + 1) true h3 (by omega), Bool.true_or]
    | false =>
      simp (disch := first | omega | assumption) only [Tlaw07_TreeNames_L20b, condF_True, condF_t, condF_f, condF_T, condF_F, condF_not, bindF_some, sumF_inl, sumF_inr, Int.toNat_natCast, wrap_succ, wrap_pred, Option.bind_some, Option.bind_none, Sum.elim_inl, Sum.elim_inr, List.length_append, List.length_cons, List.length_nil, beq_str, less_str, le_str, Bool.not_not, h2, hf, Bool.false_or]
      rw [law07_TreeNames_L20b_sp all t u l i4 i f ha hf hb r (k + 1) _ h3 (by omega)]
      simp only [memS, List.any_cons]
theorem law07_TreeNames_L16b_sp (all t u : Tree) (l : List Str) (i4 : Int) (hb : l.length < 4611686018427387903) (hb2 : all.length < 4611686018427387903) (hm : ∀ f ∈ all, memS f.1 l = true) : ∀ (r : Tree) (i : Nat) (b : Bool) (k : Int), all.drop i = r → i ≤ all.length →
    ∃ y, law07_TreeNames_L16b (all, t, u, l, i4, (i : Int), b, k, ()) = some (.inr y)
  | [], i, b, k, h, hi => by
    have := drop_nil h hi
    subst this
    rw [law07_TreeNames_L16b_eq]
    simp (disch := omega) only [Tlaw07_TreeNames_L16b, condF_True, condF_t, condF_f, condF_T, condF_F, condF_not, bindF_some, sumF_inl, sumF_inr, Int.toNat_natCast, wrap_succ, wrap_pred, Option.bind_some, Option.bind_none, Sum.elim_inl, Sum.elim_inr, List.length_append, List.length_cons, List.length_nil, beq_str, less_str, le_str, Bool.not_not]
    exact ⟨_, rfl⟩
  | f :: r, i, b, k, h, hi => by
    obtain ⟨h1, h2, h3, h4⟩ := drop_cons h
    have e := law07_TreeNames_L20b_sp all t u l i4 i f h1 h2 hb l 0 false rfl (by omega)
    rw [Int.natCast_zero, Bool.false_or, hm f h4] at e
    obtain ⟨y, ih⟩ := law07_TreeNames_L16b_sp all t u l i4 hb hb2 hm r (i + 1) true (l.length : Int) h3 (by omega)
    rw [law07_TreeNames_L16b_eq]
    simp (disch := first | omega | assumption) only [Tlaw07_TreeNames_L16b, condF_True, condF_t, condF_f, condF_T, condF_F, condF_not, bindF_some, sumF_inl, sumF_inr, Int.toNat_natCast, wrap_succ, wrap_pred, Option.bind_some, Option.bind_none, Sum.elim_inl, Sum.elim_inr, List.length_append, List.length_cons, List.length_nil, beq_str, less_str, le_str, Bool.not_not, e, Bool.not_true, ih]
    exact ⟨y, rfl⟩
theorem law07_TreeNames_L16_sp (all t u : Tree) (l : List Str) (i4 : Int) (hb : l.length < 4611686018427387903) (hb2 : all.length < 4611686018427387903) (hm : ∀ f ∈ all, memS f.1 l = true) :
    law07_TreeNames_L16 (all, t, u, l, i4, ()) = some (.inr (if all = [] then .inr (all, t, u, l, i4, ()) else .inl (all, t, u, l, i4, true, (l.length : Int), ()))) := by
  rw [law07_TreeNames_L16_eq]
  cases all with
  | nil => simp (disch := first | omega | assumption) only [Tlaw07_TreeNames_L16, condF_True, condF_t, condF_f, condF_T, condF_F, condF_not, bindF_some, sumF_inl, sumF_inr, Int.toNat_natCast, wrap_succ, wrap_pred, Option.bind_some, Option.bind_none, Sum.elim_inl, Sum.elim_inr, List.length_append, List.length_cons, List.length_nil, beq_str, less_str, le_str, Bool.not_not, List.length_nil, if_true]
  | cons f r =>
    have e := law07_TreeNames_L20_sp (f :: r) t u l i4 f (by simp) (fun d => rfl) hb l 0 false rfl (by omega)
    rw [Int.natCast_zero, Bool.false_or, hm f List.mem_cons_self] at e
    have h0 : 0 < (f :: r).length := by simp
    simp (disch := first | omega | assumption) only [Tlaw07_TreeNames_L16, condF_True, condF_t, condF_f, condF_T, condF_F, condF_not, bindF_some, sumF_inl, sumF_inr, Int.toNat_natCast, wrap_succ, wrap_pred, Option.bind_some, Option.bind_none, Sum.elim_inl, Sum.elim_inr, List.length_append, List.length_cons, List.length_nil, beq_str, less_str, le_str, Bool.not_not, e, Bool.not_true, if_neg (List.cons_ne_nil f r)]
theorem law07_TreeNames_sp (t u : Tree) (ht : SlimT t) (ht2 : t.length < 4611686018427387903) (hu : SlimT u) (hu2 : u.length < 4611686018427387903) : law07_TreeNames (t, u, ()) = some (true, ()) := by
  rw [law07_TreeNames_eq]
  cases ha : (decide (t.length ≤ 40) && lightT t) with
  | false =>
    cases hb : (decide (u.length ≤ 40) && lightT u) <;>
    simp (disch := first | omega | assumption) only [Tlaw07_TreeNames, law07_awake_sp, law07_Light_sp, condF_True, condF_t, condF_f, condF_T, condF_F, condF_not, bindF_some, sumF_inl, sumF_inr, Int.toNat_natCast, wrap_succ, wrap_pred, Option.bind_some, Option.bind_none, Sum.elim_inl, Sum.elim_inr, List.length_append, List.length_cons, List.length_nil, beq_str, less_str, le_str, Bool.not_not, ha, hb, Bool.not_true, Bool.not_false]
  | true =>
  cases hb : (decide (u.length ≤ 40) && lightT u) with
  | false =>
    simp (disch := first | omega | assumption) only [Tlaw07_TreeNames, law07_awake_sp, law07_Light_sp, condF_True, condF_t, condF_f, condF_T, condF_F, condF_not, bindF_some, sumF_inl, sumF_inr, Int.toNat_natCast, wrap_succ, wrap_pred, Option.bind_some, Option.bind_none, Sum.elim_inl, Sum.elim_inr, List.length_append, List.length_cons, List.length_nil, beq_str, less_str, le_str, Bool.not_not, ha, hb, Bool.not_true, Bool.not_false]
  | true =>
  have ha' := ha
  have hb' := hb
  simp only [Bool.and_eq_true, decide_eq_true_eq] at ha' hb'
  obtain ⟨t1, t2, t3⟩ := light_wee ha'.1 ha'.2
  obtain ⟨u1, u2, u3⟩ := light_wee hb'.1 hb'.2
  have hM := maxEls_eq
  have hn := names_len t u
  have hn1 : tree_Names (t, u, ()) = some (namesT t u, ()) := tree_Names_sp t u (by omega) (by omega)
  have hl : (t ++ u).length = t.length + u.length := List.length_append
  have e8 := law07_TreeNames_L8_sp t u (namesT t u) t2 u2 (by omega) (names_rising t u) (fun n h => by
    obtain ⟨f, hf | hf, rfl⟩ := (names_in t u n).1 h
    · rw [getT_mem hf]; rfl
    · rw [getT_mem hf, Bool.or_true]) (namesT t u) 0 rfl (by omega)
  rw [Int.natCast_zero] at e8
  have hm : ∀ f ∈ t ++ u, memS f.1 (namesT t u) = true := fun f hf => by
    rw [memS_iff, names_in]
    exact ⟨f, List.mem_append.1 hf, rfl⟩
  have e16 := law07_TreeNames_L16_sp (t ++ u) t u (namesT t u) ((namesT t u).length : Int) (by omega) (by omega) hm
  by_cases hnil : t ++ u = []
  · rw [if_pos hnil] at e16
    simp (disch := first | omega | assumption) only [Tlaw07_TreeNames, law07_awake_sp, law07_Light_sp, condF_True, condF_t, condF_f, condF_T, condF_F, condF_not, bindF_some, sumF_inl, sumF_inr, Int.toNat_natCast, wrap_succ, wrap_pred, Option.bind_some, Option.bind_none, Sum.elim_inl, Sum.elim_inr, List.length_append, List.length_cons, List.length_nil, beq_str, less_str, le_str, Bool.not_not, ha, hb, Bool.not_true, Bool.not_false, hn1, e8, e16]
  · rw [if_neg hnil] at e16
    have h1 : 1 ≤ (t ++ u).length := by
      cases h : t ++ u with
      | nil => exact absurd h hnil
      | cons => simp
    obtain ⟨y, e⟩ := law07_TreeNames_L16b_sp (t ++ u) t u (namesT t u) ((namesT t u).length : Int) (by omega) (by omega) hm _ 1 true ((namesT t u).length : Int) rfl h1
    rw [show ((1 : Nat) : Int) = 1 from rfl] at e
    simp (disch := first | omega | assumption) only [Tlaw07_TreeNames, law07_awake_sp, law07_Light_sp, condF_True, condF_t, condF_f, condF_T, condF_F, condF_not, bindF_some, sumF_inl, sumF_inr, Int.toNat_natCast, wrap_succ, wrap_pred, Option.bind_some, Option.bind_none, Sum.elim_inl, Sum.elim_inr, List.length_append, List.length_cons, List.length_nil, beq_str, less_str, le_str, Bool.not_not, ha, hb, Bool.not_true, Bool.not_false, hn1, e8, e16, e]
end Go.Proofs.Yticpcfchhcjjeaa.LI
