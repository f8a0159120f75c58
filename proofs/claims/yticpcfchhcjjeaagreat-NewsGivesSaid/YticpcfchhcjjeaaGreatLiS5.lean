/-
  Each operation of the machine does what the logical one says. No program is named here.
-/
import Derived.Test.YticpcfchhcjjeaaGreatLiS4
import Derived.Laws.Slices
import Derived.RowKit3
import Derived.Laws.Small
import Derived.Lib.SliceRun
namespace Go.Proofs.YticpcfchhcjjeaaGreat.LI
open Go Go.RowKit

/-- What is asked of the program's tables: nothing, as it is. -/
structure TyOK (_P : Program) : Prop where
  fine : True
theorem zeroB_inv {P : Program} {t : TypeId} {zs : List LV} (h : zeroB P t = some zs) : ∃ i z, P.info? t = some i ∧ i.zero = some z ∧ z.cells.size = i.size ∧ (∀ u ∈ z.cells.toList, u.oneCell' = true) ∧ zs = z.cells.toList.map ofConst1 := by
  unfold zeroB at h
  simp only [Option.bind_eq_some_iff] at h
  obtain ⟨i, hi, z, hz, h⟩ := h
  split at h
  · rename_i hc
    cases h
    exact ⟨i, z, hi, hz, hc.1, fun u hu => List.all_eq_true.1 hc.2 u hu, rfl⟩
  · cases h

theorem zeroLV_inv {P : Program} {t : TypeId} {x : LV} (h : zeroLV P t = some x) : ∃ i z, P.info? t = some i ∧ i.zero = some z ∧ z.cells.size = i.size ∧ (∀ u ∈ z.cells.toList, u.oneCell' = true) ∧ ∀ g, VRel g x z := by
  unfold zeroLV at h
  simp only [Option.bind_eq_some_iff] at h
  obtain ⟨i, hi, z, hz, h⟩ := h
  split at h
  · rename_i hc
    refine ⟨i, z, hi, hz, hc.1, fun u hu => List.all_eq_true.1 hc.2 u hu, fun g => ?_⟩
    cases h
    have hno : ∀ u : Value, rowsIn (ofConst1 u) = [] := fun u => by
      unfold ofConst1
      split
      · rfl
      · split <;> rfl
    have hnos : ∀ us : List Value, rowsIn.rowsInL (us.map ofConst1) = [] := fun us => by
      induction us with
      | nil => rfl
      | cons u us ih => simp only [List.map_cons, rowsIn.rowsInL, hno, ih, List.append_nil]
    refine frzV_rel (G.le.refl g) _ _ ?_ ?_
    · intro r hr
      split at hr
      · simp only [rowsIn, hnos, List.not_mem_nil] at hr
      · rw [hno] at hr; cases hr
    split
    · rename_i cs
      simp only [VRel]
      exact ⟨cs, rfl, by simpa using VsRel_map ofConst1 id cs.toList (fun x _ => ofConst1_rel g x), fun u hu => List.all_eq_true.1 hc.2 u (by simpa [Value.cells] using hu)⟩
    · exact ofConst1_rel g _
  · cases h

/-- One operation has gone well. -/
def OpGood (w0 : World) (f0 : Nat → List Value) (ms : List Nat) (g : G) (lv : LV) (σ' : St) (r : Result Next) : Prop :=
  ∃ v w' g', (r = .ok (.value v) w' ∨ (r = .ok .skip w' ∧ v = Go.undef)) ∧ VRel g' lv v ∧ g.le g' ∧ SRel w0 f0 ms σ' g' w'

section
variable {P : Program} {w0 w : World} {f0 : Nat → List Value} {ms : List Nat} {σ : St} {g : G}

theorem good_same (h : SRel w0 f0 ms σ g w) {lv : LV} {v : Value} (hv : VRel g lv v) {r : Result Next} (hr : r = .ok (.value v) w) : OpGood w0 f0 ms g lv σ r :=
  ⟨v, w, g, .inl hr, hv, G.le.refl g, h⟩

theorem ev_rel {e : Env} {a : Act} (hT : TRel g e.t a.tmps) (x : Operand) : VRel g (e.ev x) (a.eval x) := by
  cases x with
  | tmp t => exact hT.2 t
  | const v =>
    simp only [Env.ev, Act.eval]
    unfold ofConst
    split
    · rename_i cs
      split
      · rename_i h
        simp only [VRel]
        exact ⟨cs, rfl, by simpa using VsRel_map ofConst1 id cs.toList (fun x _ => ofConst1_rel g x), List.all_eq_true.1 h⟩
      · simp [VRel]
    · split
      · rename_i vs h
        simp only [VRel]
        exact ⟨vs, rfl, by have : vs = #[] := Array.eq_empty_of_size_eq_zero h; subst this; simp [VsRel]⟩
      · simp [VRel]
    · exact ofConst1_rel g _
  | global k => simp [Env.ev, VRel]
  | func f => simp only [Env.ev, Act.eval, VRel]; exact ⟨.func f, #[], #[], rfl, rfl, by simp [VsRel], by simp [VsRel]⟩

theorem ev_map {e : Env} {a : Act} (hT : TRel g e.t a.tmps) (xs : List Operand) : VsRel g (xs.map e.ev) (xs.map a.eval) := VsRel_map _ _ xs (fun x _ => ev_rel hT x)

theorem VRel_int {k : IntKind} {n : Int} {v : Value} (h : VRel g (.sc (.int k n)) v) : v = .int k n := by simp only [VRel] at h; exact h.1
theorem VRel_bool {b : Bool} {v : Value} (h : VRel g (.sc (.bool b)) v) : v = .bool b := by simp only [VRel] at h; exact h.1
theorem VRel_str {s : ByteArray} {v : Value} (h : VRel g (.sc (.string s)) v) : v = .string s := by simp only [VRel] at h; exact h.1
theorem VRel_mkint (k : IntKind) (n : Int) : VRel g (.sc (.int k n)) (.int k n) := by simp [VRel, plainV]
theorem VRel_mkbool (b : Bool) : VRel g (.sc (.bool b)) (.bool b) := by simp [VRel, plainV]
theorem VRel_mkstr (s : ByteArray) : VRel g (.sc (.string s)) (.string s) := by simp [VRel, plainV]

theorem binLV_sound {op : BinOp} {t : TypeId} {x y lv : LV} {xo yo : Operand} {u v : Value} (hx : VRel g x u) (hy : VRel g y v) (hb : binLV op x y = some lv) :
    ∃ z, (do eqGuard op t xo yo u v; binOp op t u v : Sem Value).run P w = .ok z w ∧ VRel g lv z := by
  unfold binLV at hb
  split at hb
  · rename_i k a k' b
    rw [VRel_int hx, VRel_int hy]
    split at hb
    · rename_i hk
      subst hk
      unfold binInt at hb
      cases op <;> simp only [Option.some.injEq, reduceCtorEq] at hb
      all_goals (try (split at hb <;> simp only [Option.some.injEq, reduceCtorEq] at hb))
      all_goals (first | (subst hb; refine ⟨_, ?_, VRel_mkint _ _⟩; simp [eqGuard, binOp, Op.intArith, Op.intDiv, *]; done) | (subst hb; refine ⟨_, ?_, VRel_mkbool _⟩; simp [eqGuard, binOp, Op.intCmp]; done))
    · cases hb
  · rename_i a b
    rw [VRel_str hx, VRel_str hy]
    unfold binStr at hb
    cases op <;> simp only [Option.some.injEq, reduceCtorEq] at hb
    all_goals (try (split at hb <;> simp only [Option.some.injEq, reduceCtorEq] at hb))
    all_goals (first | (subst hb; refine ⟨_, ?_, VRel_mkbool _⟩; simp [eqGuard, binOp, Op.stringOp]; done) | skip)
    rename_i hlt
    subst hb
    refine ⟨_, ?_, VRel_mkstr _⟩
    have hn : ¬ (((a.size + b.size : Nat) : Int) > IntKind.i64.max) := by
      have : IntKind.i64.max = 9223372036854775807 := by decide
      rw [this]; omega
    simp only [eqGuard, binOp, Op.stringOp]
    rw [Sem.run_bind]
    simp only [if_neg hn]
    rfl
  · cases hb

theorem nilT_sound {op : BinOp} {t : TypeId} {xo yo : Operand} {b : Bool} {lv : LV} {a : Option Addr} {n c : Nat} (hb : nilT P op t b = some lv) (ha : a.isNone = b) :
    ∃ z, (do eqGuard op t xo yo (.slice a n c) (.slice none 0 0); binOp op t (.slice a n c) (.slice none 0 0) : Sem Value).run P w = .ok z w ∧ VRel g lv z := by
  subst ha
  unfold nilT at hb
  split at hb
  · rename_i e hu
    cases hb
    refine ⟨_, ?_, VRel_mkbool _⟩
    simp only [eqGuard, binOp]
    simp [Op.equal, Op.maxDepth, Lib.run_equalIn_slice_nil w 9999 t e a n c 0 0 hu]
  · rename_i e hu
    cases hb
    refine ⟨_, ?_, VRel_mkbool _⟩
    simp only [eqGuard, binOp]
    simp [Op.equal, Op.maxDepth, Lib.run_equalIn_slice_nil w 9999 t e a n c 0 0 hu]
  · cases hb
theorem binTL_sound {op : BinOp} {t : TypeId} {x y lv : LV} {xo yo : Operand} {u v : Value} (hx : VRel g x u) (hy : VRel g y v) (hb : binTL P op t x y = some lv) :
    ∃ z, (do eqGuard op t xo yo u v; binOp op t u v : Sem Value).run P w = .ok z w ∧ VRel g lv z := by
  unfold binTL at hb
  split at hb
  · rename_i a b
    rw [VRel_bool hx, VRel_bool hy]
    split at hb
    · rename_i ht
      cases hb
      exact ⟨_, by simp [eqGuard, binOp, run_equal_bool w t a b ht], VRel_mkbool _⟩
    · rename_i ht
      cases hb
      exact ⟨_, by simp [eqGuard, binOp, run_equal_bool w t a b ht], VRel_mkbool _⟩
    · cases hb
  · simp only [VRel] at hx hy
    subst hx hy
    exact nilT_sound hb rfl
  · simp only [VRel] at hx hy
    obtain ⟨a, cap, rfl, _⟩ := hx
    subst hy
    exact nilT_sound hb rfl
  · simp only [VRel] at hx hy
    obtain ⟨a, cap, rfl, _, he⟩ := hx
    subst hy
    refine nilT_sound hb ?_
    rcases he with he | ⟨k, off, sz, _, rfl, _⟩
    · cases he
    · rfl
  · exact binLV_sound hx hy hb

theorem unLV_sound {op : UnOp} {x lv : LV} {u : Value} (hx : VRel g x u) (hb : unLV op x = some lv) : ∃ z, (Op.unary op u).run P w = .ok z w ∧ VRel g lv z := by
  unfold unLV at hb
  split at hb
  · rename_i b
    cases hb
    rw [VRel_bool hx]
    exact ⟨_, by simp [Op.unary], VRel_mkbool _⟩
  · rename_i k n
    cases hb
    rw [VRel_int hx]
    exact ⟨_, by simp [Op.unary, Op.intArith], VRel_mkint _ _⟩
  · cases hb

end
end Go.Proofs.YticpcfchhcjjeaaGreat.LI
