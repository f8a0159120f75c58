/-
  Slices of slices, conversions, structs that are built. No program is named here.
-/
import Derived.Test.YticpcfchhcjjeaaGreatLiS7
namespace Go.Proofs.YticpcfchhcjjeaaGreat.LI
open Go Go.RowKit
set_option linter.unusedSimpArgs false
set_option linter.unusedVariables false
section
variable {P : Program} {w0 w : World} {f0 : Nat → List Value} {ms : List Nat} {σ : St} {g : G}

/-- What a slice reads as, once it is frozen. -/
theorem elems_rel (h : SRel w0 f0 ms σ g w) {x : LV} {es : List LV} {v : Value} (hx : VRel g x v) (he : elems σ x = some es) :
    ∃ g', g.only w0 g' ∧ SRel w0 f0 ms (frzS σ (rowsIn x)) g' w ∧ VRel g' (.slice es) v := by
  obtain ⟨g', k1, k2, k3⟩ := h.freeze (rowsIn x)
  refine ⟨g', k1, k2, ?_⟩
  have hf := frzV_rel k1.le x v k3 hx
  unfold elems at he
  split at he
  · cases he
    simpa only [frzV] using hf
  · cases he
    simpa [frzV] using hf
  · cases he
    simpa [frzV] using hf
  · rename_i r n
    split at he
    · rename_i row hrow
      split at he
      · rename_i hn
        cases he
        simpa [frzV, hrow, hn] using hf
      · cases he
    · cases he
  · rename_i r n lo hi sz
    split at he
    · rename_i row hrow
      split at he
      · rename_i hn
        cases he
        simpa only [frzV, hrow, if_pos hn] using hf
      · cases he
    · cases he
  · cases he

def BndOk (v : Option LV) (d m q : Nat) : Prop :=
  match v with
  | none => q = d
  | some v => ∃ x, asInt64 v = some x ∧ 0 ≤ x ∧ x ≤ m ∧ q = x.toNat
theorem bndL_inv {v : Option LV} {d m q : Nat} (hq : bndL v d m = some q) : BndOk v d m q := by
  unfold bndL at hq
  unfold BndOk
  cases v with
  | none => simpa using hq.symm
  | some v =>
    simp only at hq ⊢
    cases hv : asInt64 v with
    | none => rw [hv] at hq; cases hq
    | some x =>
      rw [hv] at hq
      simp only at hq
      split at hq
      · rename_i hb; cases hq; exact ⟨x, rfl, hb.1, hb.2, rfl⟩
      · cases hq
theorem sliceBnd_inv {lo hi : Option LV} {n q l k : Nat} (h : sliceBnd lo hi n q = some (l, k)) : BndOk hi n q k ∧ BndOk lo 0 k l := by
  unfold sliceBnd at h
  simp only [Option.bind_eq_some_iff] at h
  obtain ⟨k', hk, l', hl, he⟩ := h
  cases he
  exact ⟨bndL_inv hk, bndL_inv hl⟩

theorem sliceBnd_le {lo hi : Option LV} {n q l k : Nat} (h : sliceBnd lo hi n q = some (l, k)) (hq : n ≤ q) : l ≤ k ∧ k ≤ q := by
  obtain ⟨h1, h2⟩ := sliceBnd_inv h
  unfold BndOk at h1 h2
  cases hi with
  | none =>
    cases lo with
    | none => simp only at h1 h2; omega
    | some v => simp only at h1 h2; obtain ⟨x, _, a, b, c⟩ := h2; omega
  | some u =>
    simp only at h1
    obtain ⟨y, _, a1, b1, c1⟩ := h1
    cases lo with
    | none => simp only at h2; omega
    | some v => simp only at h2; obtain ⟨x, _, a, b, c⟩ := h2; omega

/-- The bounds as the machine reckons them. -/
theorem run_bounds {e : Env} {a : Act} (hT : TRel g e.t a.tmps) {lo hi : Option Operand} {isS : Bool} {n q len cap l k : Nat} (h : sliceBnd (lo.map e.ev) (hi.map e.ev) n q = some (l, k)) (hn : len = n) (hc : q ≤ cap) (w : World) :
    (Instr.sliceBounds isS len cap (lo.map a.eval) (hi.map a.eval) none).run P w = .ok (l, k, cap) w := by
  subst hn
  obtain ⟨h1, h2⟩ := sliceBnd_inv h
  unfold BndOk at h1 h2
  have bnd : ∀ {x : Operand} {m : Int} {y : Nat} (c : BoundsCode), asInt64 (e.ev x) = some m → 0 ≤ m → m ≤ y → (Instr.sliceBound (a.eval x) y c).run P w = .ok m.toNat w := fun {x m y} c hm h0 hy => by
    obtain ⟨kd, hv⟩ := asInt64_rel (ev_rel hT x) hm
    simp [Instr.sliceBound, hv, asIntOf, h0, hy]
  cases hi with
  | none =>
    simp only [Option.map_none] at h1 h2 ⊢
    subst h1
    cases lo with
    | none =>
      simp only [Option.map_none] at h2 ⊢
      subst h2
      simp [Instr.sliceBounds]
    | some u =>
      simp only [Option.map_some] at h2 ⊢
      obtain ⟨x, hx, a1, a2, rfl⟩ := h2
      simp [Instr.sliceBounds, bnd _ hx a1 a2]
  | some v =>
    simp only [Option.map_some] at h1 h2 ⊢
    obtain ⟨y, hy, b1, b2, rfl⟩ := h1
    have hyc : y ≤ (cap : Int) := by omega
    cases lo with
    | none =>
      simp only [Option.map_none] at h2 ⊢
      subst h2
      cases isS <;> simp [Instr.sliceBounds, bnd _ hy b1 hyc]
    | some u =>
      simp only [Option.map_some] at h2 ⊢
      obtain ⟨x, hx, a1, a2, rfl⟩ := h2
      cases isS <;> simp [Instr.sliceBounds, bnd _ hy b1 hyc, bnd _ hx a1 a2]

/-- The elements' size, as the type has it, is the one that they lie in memory with. -/
theorem size_of_ok {es : List LV} {sz sz' : Nat} {vs : List Value} (hok : elemsOk sz es = true) (hne : es ≠ []) (he : EsRel g es sz' vs) : sz' = sz := by
  cases es with
  | nil => exact absurd rfl hne
  | cons y es =>
    simp only [elemsOk, List.all_cons, Bool.and_eq_true, beq_iff_eq] at hok
    simp only [EsRel] at he
    obtain ⟨⟨u, h1, h2, h3, _⟩, _⟩ := he
    obtain ⟨d1, _⟩ := cells_rel h1 hok.1.2
    have := VsRel_length d1
    rw [Array.length_toList, h3] at this
    omega

theorem slice_rel {es : List LV} {v : Value} {l k sz : Nat} (hok : elemsOk sz es = true) (hv : VRel g (.slice es) v) (hl : l ≤ k) (hk : k ≤ es.length) :
    ∃ ao cap, v = .slice ao es.length cap ∧ es.length ≤ cap ∧ VRel g (.slice ((es.drop l).take (k - l))) (.slice (if cap = l then ao else ao.map (·.add (l * sz))) (k - l) (cap - l)) := by
  simp only [VRel] at hv
  obtain ⟨ao, cap, rfl, hle, he⟩ := hv
  refine ⟨ao, cap, rfl, hle, ?_⟩
  have hlen : ((es.drop l).take (k - l)).length = k - l := by rw [List.length_take, List.length_drop]; omega
  simp only [VRel]
  refine ⟨_, cap - l, by rw [hlen], by omega, ?_⟩
  by_cases hz : k - l = 0
  · exact .inl (List.eq_nil_of_length_eq_zero (by rw [hlen]; exact hz))
  · rcases he with he | ⟨b, off, sz', hs0, hao, hes⟩
    · subst he; simp at hk; omega
    · subst hao
      have hne : es ≠ [] := by intro h0; subst h0; simp at hk; omega
      have hss := size_of_ok hok hne hes
      subst hss
      refine .inr ⟨b, off + l * sz', sz', hs0, ?_, ?_⟩
      · rw [if_neg (by omega)]
        simp [addr_add]
      · rw [← List.drop_drop]
        exact EsRel_take _ (EsRel_drop _ hes)

/-- .. where a bound on the capacity is given, too. -/
theorem run_bounds3 {e : Env} {a : Act} (hT : TRel g e.t a.tmps) {lo hi : Option Operand} {mx : Operand} {n len cap l k q : Nat} (h1 : bndL (some (e.ev mx)) 0 n = some q) (h2 : (hi.bind fun h => bndL (some (e.ev h)) 0 q) = some k) (h3 : bndL (lo.map e.ev) 0 k = some l) (hc : n ≤ cap) (w : World) :
    (Instr.sliceBounds true len cap (lo.map a.eval) (hi.map a.eval) (some (a.eval mx))).run P w = .ok (l, k, q) w ∧ l ≤ k ∧ k ≤ q ∧ q ≤ n := by
  have bnd : ∀ {x : Operand} {m : Int} {y : Nat} (c : BoundsCode), asInt64 (e.ev x) = some m → 0 ≤ m → m ≤ y → (Instr.sliceBound (a.eval x) y c).run P w = .ok m.toNat w := fun {x m y} c hm h0 hy => by
    obtain ⟨kd, hv⟩ := asInt64_rel (ev_rel hT x) hm
    simp [Instr.sliceBound, hv, asIntOf, h0, hy]
  have b1 := bndL_inv h1
  obtain ⟨x1, e1, p1, q1, rfl⟩ := b1
  obtain ⟨hh, rfl, h2'⟩ := Option.bind_eq_some_iff.1 h2
  obtain ⟨x2, e2, p2, q2, rfl⟩ := bndL_inv h2'
  have b3 := bndL_inv h3
  have hcap : x1 ≤ (cap : Int) := by omega
  cases lo with
  | none =>
    simp only [BndOk, Option.map_none] at b3
    subst b3
    refine ⟨?_, by omega, by omega, by omega⟩
    simp [Instr.sliceBounds, bnd _ e1 p1 hcap, bnd _ e2 p2 q2]
  | some u =>
    simp only [BndOk, Option.map_some] at b3
    obtain ⟨x3, e3, p3, q3, rfl⟩ := b3
    refine ⟨?_, by omega, by omega, by omega⟩
    simp [Instr.sliceBounds, bnd _ e1 p1 hcap, bnd _ e2 p2 q2, bnd _ e3 p3 q3]

theorem partOf_mref {σ : St} {r n : Nat} {p : Nat × Row × Nat × Nat} (h : partOf σ (.mref r n) = some p) : ∃ row, σ.rows[r]? = some row ∧ row.xs.length = n ∧ p = (r, row, 0, n) := by
  simp only [partOf] at h
  split at h
  · rename_i row hrow
    split at h
    · rename_i hn; cases h; exact ⟨row, hrow, hn, rfl⟩
    · cases h
  · cases h
theorem partOf_mview {σ : St} {r n lo hi sz : Nat} {p : Nat × Row × Nat × Nat} (h : partOf σ (.mview r n lo hi sz) = some p) : ∃ row, σ.rows[r]? = some row ∧ row.xs.length = n ∧ row.sz = sz ∧ lo ≤ hi ∧ hi ≤ n ∧ p = (r, row, lo, hi) := by
  simp only [partOf] at h
  split at h
  · rename_i row hrow
    split at h
    · rename_i hn; cases h; exact ⟨row, hrow, hn.1, hn.2.1, hn.2.2.1, hn.2.2.2, rfl⟩
    · cases h
  · cases h
theorem partOf_inv {σ : St} {x : LV} {p : Nat × Row × Nat × Nat} (h : partOf σ x = some p) : (∃ r n, x = .mref r n) ∨ ∃ r n lo hi sz, x = .mview r n lo hi sz := by
  unfold partOf at h
  split at h
  · exact .inl ⟨_, _, rfl⟩
  · exact .inr ⟨_, _, _, _, _, rfl⟩
  · cases h
/-- A part of a row of the call's own, as the machine has it. -/
theorem partOf_rel (h : SRel w0 f0 ms σ g w) {x : LV} {p : Nat × Row × Nat × Nat} {v : Value} (hp : partOf σ x = some p) (hx : VRel g x v) :
    ∃ r row lo hi a cap a', p = (r, row, lo, hi) ∧ σ.rows[r]? = some row ∧ lo ≤ hi ∧ hi ≤ row.xs.length ∧ g.phys r row.xs.length = some (.slice a row.xs.length cap) ∧ v = .slice a' (hi - lo) (cap - lo) ∧ (lo < cap → a' = a.map (·.add (lo * row.sz))) ∧ row.xs.length ≤ cap := by
  have hcap : ∀ {r : Nat} {row : Row} {a : Option Addr} {cap : Nat}, σ.rows[r]? = some row → g.phys r row.xs.length = some (.slice a row.xs.length cap) → row.xs.length ≤ cap := fun {r row a cap} hr hq => by
    obtain ⟨v, vs, e1, e2, _⟩ := h.row r row hr
    rw [hq] at e1; cases e1
    rcases e2.2 with ⟨hc, h0⟩ | ⟨g1, cap1, cur1, hv', _, _, hnc, _⟩
    · omega
    · cases hv'; exact hnc
  rcases partOf_inv hp with ⟨r, n, rfl⟩ | ⟨r, n, lo, hi, sz, rfl⟩
  · obtain ⟨row, hr, rfl, rfl⟩ := partOf_mref hp
    simp only [VRel] at hx
    obtain ⟨hq, a, cap, rfl⟩ := hx
    refine ⟨r, row, 0, _, a, cap, a, rfl, hr, Nat.zero_le _, Nat.le_refl _, hq, rfl, fun _ => ?_, hcap hr hq⟩
    cases a with
    | none => rfl
    | some a => simp [Addr.add]
  · obtain ⟨row, hr, rfl, rfl, h1, h2, rfl⟩ := partOf_mview hp
    simp only [VRel] at hx
    obtain ⟨a, cap, a', hq, rfl, _, _, ha⟩ := hx
    exact ⟨r, row, lo, hi, a, cap, a', rfl, hr, h1, h2, hq, rfl, ha, hcap hr hq⟩

theorem addr_map_add (a : Option Addr) (i j : Nat) (h : ∀ b, a = some b → b.spot = none) : (a.map (·.add i)).map (·.add j) = a.map (·.add (i + j)) := by
  cases a with
  | none => rfl
  | some b =>
    obtain ⟨k, o, sp⟩ := b
    have := h _ rfl
    simp only at this
    subst this
    simp only [Option.map_some, addr_add, Nat.add_assoc]

theorem phys_spot (h : SRel w0 f0 ms σ g w) {r n cap : Nat} {row : Row} {a : Option Addr} (hr : σ.rows[r]? = some row) (hn : row.xs.length = n) (hp : g.phys r n = some (.slice a n cap)) : ∀ b, a = some b → b.spot = none := by
  intro b hb
  subst hb
  obtain ⟨v, vs, e1, e2, _⟩ := h.row r row hr
  rw [hn, hp] at e1; cases e1
  rcases e2.2 with ⟨hc, h0⟩ | ⟨g1, cap1, cur1, hv', _⟩
  · cases hc
  · cases hv'; rfl

theorem sound_slice {t : TypeId} {x : Operand} {lo hi mx : Option Operand} {e : Env} {a : Act} (hT : TRel g e.t a.tmps) (h : SRel w0 f0 ms σ g w) {o : Oper} (ho : o.op = .slice t x lo hi mx) {own : Bool} {r : LV × St} (hop : opStep P own o e.ev σ = some r) :
    OpGood w0 f0 ms g r.1 r.2 ((execOp a.eval o).run P w) := by
  have hx := ev_rel hT x
  simp only [opStep, ho] at hop
  have nomax : ∀ {β : Type} {u : Option β} {y : β}, (if mx.isSome = true then none else u) = some y → mx = none ∧ u = some y := fun {β u y} hh => by
    cases mx with
    | none => exact ⟨rfl, by simpa using hh⟩
    | some m => simp at hh
  split at hop
  · rename_i s hu hb
    rw [hb] at hx
    obtain ⟨rfl, hop'⟩ := nomax hop
    simp only [Option.map_eq_some_iff] at hop'
    obtain ⟨⟨l, k⟩, hbd, hr⟩ := hop'
    cases hr
    have hb2 := run_bounds (P := P) hT (isS := false) (len := s.size) (cap := s.size) hbd rfl (Nat.le_refl _) w
    refine good_same h (VRel_mkstr _) ?_
    simp [execOp, ho, Instr.sliceAt, Instr.slice, run_underlying hu, VRel_str hx, hb2]
  · rename_i el hu hb
    rw [hb] at hx
    obtain ⟨rfl, hop'⟩ := nomax hop
    simp only [Option.bind_eq_some_iff, Option.map_eq_some_iff] at hop'
    obtain ⟨sz, hsz, ⟨l, k⟩, hbd, hr⟩ := hop'
    cases hr
    obtain ⟨hl1, hl2⟩ := sliceBnd_le hbd (Nat.le_refl _)
    have hl0 : l = 0 := by omega
    have hk0 : k = 0 := by omega
    subst hl0 hk0
    simp only [VRel] at hx
    have hb2 := run_bounds (P := P) hT (isS := true) (len := 0) (cap := 0) hbd rfl (Nat.le_refl _) w
    obtain ⟨inf, hinf, hins⟩ := info_of_size hsz
    refine good_same h (v := .slice none 0 0) (by simp only [VRel]) ?_
    simp [execOp, ho, Instr.sliceAt, Instr.slice, run_underlying hu, hx, hb2, sizeOf, typeInfo, hinf, hins]
  · rename_i _ _ el hu hnn
    simp only [Option.bind_eq_some_iff] at hop
    obtain ⟨sz, hsz, hop⟩ := hop
    obtain ⟨inf, hinf, hins⟩ := info_of_size hsz
    cases own with
    | true =>
      simp only [if_true, Option.bind_eq_some_iff] at hop
      obtain ⟨p, hp, hop⟩ := hop
      obtain ⟨q, row, lo', hi', ao, cap, a', rfl, hrow, h1, h2, h3, hv, ha, hcap⟩ := partOf_rel h hp hx
      cases mx with
      | some m =>
        simp only [Option.bind_eq_some_iff] at hop
        obtain ⟨q2, hq, k, hk, l, hl, hop⟩ := hop
        cases hop
        obtain ⟨hb2, b1, b2, b3⟩ := run_bounds3 (P := P) hT (len := hi' - lo') (cap := cap - lo') hq (Option.bind_eq_some_iff.2 hk) hl (by omega) w
        refine good_same h (v := .slice (if q2 = l then a' else a'.map (·.add (l * sz))) (k - l) (q2 - l)) (by simp only [VRel]) ?_
        simp [execOp, ho, Instr.sliceAt, Instr.slice, run_underlying hu, hv, hb2, sizeOf, typeInfo, hinf, hins]
      | none =>
      simp only at hop
      have fin : ∀ {n : Nat}, (if (none : Option Operand).isSome = false ∧ row.sz = sz then (sliceBnd (lo.map e.ev) (hi.map e.ev) (hi' - lo') (n - lo')).map fun b => ((.mview q n (lo' + b.1) (lo' + b.2) sz, σ) : LV × St) else none) = some r → row.xs.length = n → OpGood w0 f0 ms g r.1 r.2 ((execOp a.eval o).run P w) := fun {n} hh hn => by
        subst hn
        split at hh
        · rename_i hc
          obtain ⟨hm, rfl⟩ := hc
          obtain ⟨⟨l, k⟩, hbd, rfl⟩ := Option.map_eq_some_iff.1 hh
          obtain ⟨hl1, hl2⟩ := sliceBnd_le hbd (by omega)
          have hb2 := run_bounds (P := P) hT (isS := true) (len := hi' - lo') (cap := cap - lo') hbd rfl (by omega) w
          refine good_same h (v := .slice (if cap - lo' = l then a' else a'.map (·.add (l * row.sz))) (k - l) (cap - lo' - l)) ?_ ?_
          · simp only [VRel]
            refine ⟨ao, cap, _, h3, by congr 1 <;> omega, by omega, by omega, fun hlt => ?_⟩
            rw [if_neg (by omega), ha (by omega), addr_map_add _ _ _ (phys_spot h hrow rfl h3), Nat.add_mul]
          · simp [execOp, ho, Instr.sliceAt, Instr.slice, run_underlying hu, hv, hb2, sizeOf, typeInfo, hinf, hins]
        · cases hh
      split at hop
      · rename_i q' n' hb
        rw [hb] at hp
        obtain ⟨row', hr', hn', he⟩ := partOf_mref hp
        cases he
        exact fin hop hn'
      · rename_i q' n' l' k' z' hb
        rw [hb] at hp
        obtain ⟨row', hr', hn', _, _, _, he⟩ := partOf_mview hp
        cases he
        exact fin hop hn'
      · cases hop
    | false =>
      simp only [Bool.false_eq_true, if_false, Option.bind_eq_some_iff] at hop
      obtain ⟨es, hes, hop⟩ := hop
      split at hop
      · simp only [Option.bind_eq_some_iff] at hop
        obtain ⟨⟨l, k⟩, hbd, hop⟩ := hop
        split at hop
        · rename_i hok
          cases hop
          obtain ⟨g', k1, k2, k3⟩ := elems_rel h hx hes
          obtain ⟨hl1, hl2⟩ := sliceBnd_le hbd (Nat.le_refl _)
          obtain ⟨ao, cap, hv, hcap, hrel⟩ := slice_rel hok k3 hl1 hl2
          have hb2 := run_bounds (P := P) hT (isS := true) (len := es.length) (cap := cap) hbd rfl hcap w
          refine ⟨_, w, g', .inl ?_, hrel, k1.le, k2⟩
          simp [execOp, ho, Instr.sliceAt, Instr.slice, run_underlying hu, hv, hb2, sizeOf, typeInfo, hinf, hins]
        · cases hop
      · rename_i m
        simp only [Option.bind_eq_some_iff] at hop
        obtain ⟨q, hq, k, hk, l, hl, hop⟩ := hop
        split at hop
        · rename_i hok
          cases hop
          obtain ⟨g', k1, k2, k3⟩ := elems_rel h hx hes
          have k4 := k3
          simp only [VRel] at k4
          obtain ⟨_, cap0, _, hcap0, _⟩ := k4
          obtain ⟨hb2, b1, b2, b3⟩ := run_bounds3 (P := P) hT (len := es.length) (cap := cap0) hq (Option.bind_eq_some_iff.2 hk) hl hcap0 w
          obtain ⟨ao, cap, hv, hcap, hrel⟩ := slice_rel hok k3 b1 (Nat.le_trans b2 b3)
          obtain ⟨hb2, b1, b2, b3⟩ := run_bounds3 (P := P) hT (len := es.length) (cap := cap) hq (Option.bind_eq_some_iff.2 hk) hl hcap w
          refine ⟨.slice (if q = l then ao else ao.map (·.add (l * sz))) (k - l) (q - l), w, g', .inl ?_, ?_, k1.le, k2⟩
          · simp [execOp, ho, Instr.sliceAt, Instr.slice, run_underlying hu, hv, hb2, sizeOf, typeInfo, hinf, hins]
          · simp only [VRel] at hrel ⊢
            have hlk : ((es.drop l).take (k - l)).length = k - l := by rw [List.length_take, List.length_drop]; omega
            rw [hlk] at hrel ⊢
            obtain ⟨a2, c2, he, hle, hes'⟩ := hrel
            cases he
            refine ⟨_, q - l, rfl, by omega, ?_⟩
            by_cases hql : q = l
            · refine .inl ?_
              apply List.eq_nil_of_length_eq_zero
              rw [List.length_take]; omega
            · rw [if_neg hql]
              rw [if_neg (by omega)] at hes'
              exact hes'
        · cases hop
  · cases hop

end
end Go.Proofs.YticpcfchhcjjeaaGreat.LI
