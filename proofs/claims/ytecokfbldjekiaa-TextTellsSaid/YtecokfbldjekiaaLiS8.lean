/-
  Slices of slices, conversions, structs that are built. No program is named here.
-/
import Derived.Test.YtecokfbldjekiaaLiS7
namespace Go.Proofs.Ytecokfbldjekiaa.LI
open Go Go.RowKit
section
variable {P : Program} {w0 w : World} {f0 : Nat → List Value} {ms : List Nat} {σ : St} {g : G}

/-- What a slice reads as, once it is frozen. -/
theorem elems_rel (h : SRel w0 f0 ms σ g w) {x : LV} {es : List LV} {v : Value} (hx : VRel g x v) (he : elems σ x = some es) :
    ∃ g', g.only w0 g' ∧ SRel w0 f0 ms (frzS σ (rowsIn x)) g' w ∧ VRel g' (.slice es) v := by
  obtain ⟨g', k1, k2, k3⟩ := h.freeze (rowsIn x)
  refine ⟨g', k1, k2, ?_⟩
  have hf := frzV_rel k1.le x v k3 hx
  unfold elems at he
  split at he
  · cases he
    simp only [frzV, VRel] at hf
    subst hf
    simp only [VRel]
    exact ⟨none, 0, rfl, by simp, .inl trivial⟩
  · cases he
    simpa [frzV] using hf
  · rename_i r n
    split at he
    · rename_i row hrow
      split at he
      · rename_i hn
        cases he
        simpa [frzV, hrow, hn] using hf
      · cases he
    · cases he
  · cases he

def BndOk (v : Option LV) (d m q : Nat) : Prop :=
  match v with
  | none => q = d
  | some v => ∃ x, asInt64 v = some x ∧ 0 ≤ x ∧ x ≤ m ∧ q = x.toNat
theorem bndL_inv {v : Option LV} {d m q : Nat} (hq : bndL v d m = some q) : BndOk v d m q := by
  unfold bndL at hq
  unfold BndOk
  cases v with
  | none => simpa using hq.symm
  | some v =>
    simp only at hq ⊢
    cases hv : asInt64 v with
    | none => rw [hv] at hq; cases hq
    | some x =>
      rw [hv] at hq
      simp only at hq
      split at hq
      · rename_i hb; cases hq; exact ⟨x, rfl, hb.1, hb.2, rfl⟩
      · cases hq
theorem sliceBnd_inv {lo hi : Option LV} {n l k : Nat} (h : sliceBnd lo hi n = some (l, k)) : BndOk hi n n k ∧ BndOk lo 0 k l := by
  unfold sliceBnd at h
  simp only [Option.bind_eq_some_iff] at h
  obtain ⟨k', hk, l', hl, he⟩ := h
  cases he
  exact ⟨bndL_inv hk, bndL_inv hl⟩

theorem sliceBnd_le {lo hi : Option LV} {n l k : Nat} (h : sliceBnd lo hi n = some (l, k)) : l ≤ k ∧ k ≤ n := by
  obtain ⟨h1, h2⟩ := sliceBnd_inv h
  unfold BndOk at h1 h2
  cases hi with
  | none =>
    cases lo with
    | none => simp only at h1 h2; omega
    | some v => simp only at h1 h2; obtain ⟨x, _, a, b, c⟩ := h2; omega
  | some u =>
    simp only at h1
    obtain ⟨y, _, a1, b1, c1⟩ := h1
    cases lo with
    | none => simp only at h2; omega
    | some v => simp only at h2; obtain ⟨x, _, a, b, c⟩ := h2; omega

/-- The bounds as the machine reckons them. -/
theorem run_bounds {e : Env} {a : Act} (hT : TRel g e.t a.tmps) {lo hi : Option Operand} {isS : Bool} {n len cap l k : Nat} (h : sliceBnd (lo.map e.ev) (hi.map e.ev) n = some (l, k)) (hn : len = n) (hc : n ≤ cap) (w : World) :
    (Instr.sliceBounds isS len cap (lo.map a.eval) (hi.map a.eval) none).run P w = .ok (l, k, cap) w := by
  subst hn
  obtain ⟨h1, h2⟩ := sliceBnd_inv h
  unfold BndOk at h1 h2
  have bnd : ∀ {x : Operand} {m : Int} {y : Nat} (c : BoundsCode), asInt64 (e.ev x) = some m → 0 ≤ m → m ≤ y → (Instr.sliceBound (a.eval x) y c).run P w = .ok m.toNat w := fun {x m y} c hm h0 hy => by
    obtain ⟨kd, hv⟩ := asInt64_rel (ev_rel hT x) hm
    simp [Instr.sliceBound, hv, asIntOf, h0, hy]
  cases hi with
  | none =>
    simp only [Option.map_none] at h1 h2 ⊢
    subst h1
    cases lo with
    | none =>
      simp only [Option.map_none] at h2 ⊢
      subst h2
      simp [Instr.sliceBounds]
    | some u =>
      simp only [Option.map_some] at h2 ⊢
      obtain ⟨x, hx, a1, a2, rfl⟩ := h2
      simp [Instr.sliceBounds, bnd _ hx a1 a2]
  | some v =>
    simp only [Option.map_some] at h1 h2 ⊢
    obtain ⟨y, hy, b1, b2, rfl⟩ := h1
    have hyc : y ≤ (cap : Int) := by omega
    cases lo with
    | none =>
      simp only [Option.map_none] at h2 ⊢
      subst h2
      cases isS <;> simp [Instr.sliceBounds, bnd _ hy b1 hyc]
    | some u =>
      simp only [Option.map_some] at h2 ⊢
      obtain ⟨x, hx, a1, a2, rfl⟩ := h2
      cases isS <;> simp [Instr.sliceBounds, bnd _ hy b1 hyc, bnd _ hx a1 a2]

theorem EsRel_drop : ∀ {xs : List LV} {sz : Nat} {vs : List Value} (n : Nat), EsRel g xs sz vs → EsRel g (xs.drop n) sz (vs.drop (n * sz))
  | xs, sz, vs, 0, h => by simpa using h
  | [], sz, vs, n + 1, h => by simp [EsRel]
  | x :: xs, sz, vs, n + 1, h => by
    simp only [EsRel] at h
    have := EsRel_drop n h.2
    rw [List.drop_drop] at this
    have e1 : (n + 1) * sz = sz + n * sz := by rw [Nat.add_mul]; omega
    rw [e1]; simpa using this
theorem EsRel_take : ∀ {xs : List LV} {sz : Nat} {vs : List Value} (n : Nat), EsRel g xs sz vs → EsRel g (xs.take n) sz vs
  | xs, sz, vs, 0, h => by simp [EsRel]
  | [], sz, vs, n + 1, h => by simp [EsRel]
  | x :: xs, sz, vs, n + 1, h => by
    simp only [EsRel] at h
    simp only [List.take_succ_cons, EsRel]
    exact ⟨h.1, EsRel_take n h.2⟩

/-- The elements' size, as the type has it, is the one that they lie in memory with. -/
theorem size_of_ok {es : List LV} {sz sz' : Nat} {vs : List Value} (hok : elemsOk sz es = true) (hne : es ≠ []) (he : EsRel g es sz' vs) : sz' = sz := by
  cases es with
  | nil => exact absurd rfl hne
  | cons y es =>
    simp only [elemsOk, List.all_cons, Bool.and_eq_true, beq_iff_eq] at hok
    simp only [EsRel] at he
    obtain ⟨⟨u, h1, h2, h3, _⟩, _⟩ := he
    obtain ⟨d1, _⟩ := cells_rel h1 hok.1.2
    have := VsRel_length d1
    rw [Array.length_toList, h3] at this
    omega

theorem slice_rel {es : List LV} {v : Value} {l k sz : Nat} (hok : elemsOk sz es = true) (hv : VRel g (.slice es) v) (hl : l ≤ k) (hk : k ≤ es.length) :
    ∃ ao cap, v = .slice ao es.length cap ∧ es.length ≤ cap ∧ VRel g (.slice ((es.drop l).take (k - l))) (.slice (if cap = l then ao else ao.map (·.add (l * sz))) (k - l) (cap - l)) := by
  simp only [VRel] at hv
  obtain ⟨ao, cap, rfl, hle, he⟩ := hv
  refine ⟨ao, cap, rfl, hle, ?_⟩
  have hlen : ((es.drop l).take (k - l)).length = k - l := by rw [List.length_take, List.length_drop]; omega
  simp only [VRel]
  refine ⟨_, cap - l, by rw [hlen], by omega, ?_⟩
  by_cases hz : k - l = 0
  · exact .inl (List.eq_nil_of_length_eq_zero (by rw [hlen]; exact hz))
  · rcases he with he | ⟨b, off, sz', hs0, hao, hes⟩
    · subst he; simp at hk; omega
    · subst hao
      have hne : es ≠ [] := by intro h0; subst h0; simp at hk; omega
      have hss := size_of_ok hok hne hes
      subst hss
      refine .inr ⟨b, off + l * sz', sz', hs0, ?_, ?_⟩
      · rw [if_neg (by omega)]
        simp [addr_add]
      · rw [← List.drop_drop]
        exact EsRel_take _ (EsRel_drop _ hes)

theorem sound_slice {t : TypeId} {x : Operand} {lo hi mx : Option Operand} {e : Env} {a : Act} (hT : TRel g e.t a.tmps) (h : SRel w0 f0 ms σ g w) {o : Oper} (ho : o.op = .slice t x lo hi mx) {r : LV × St} (hop : opStep P o e.ev σ = some r) :
    OpGood w0 f0 ms g r.1 r.2 ((execOp a.eval o).run P w) := by
  have hx := ev_rel hT x
  simp only [opStep, ho] at hop
  split at hop
  · cases hop
  · rename_i hmx
    have hmx' : mx = none := by cases mx <;> simp_all
    subst hmx'
    split at hop
    · rename_i s hu hb
      rw [hb] at hx
      simp only [Option.map_eq_some_iff] at hop
      obtain ⟨⟨l, k⟩, hbd, hr⟩ := hop
      cases hr
      have hb2 := run_bounds (P := P) hT (isS := false) (len := s.size) (cap := s.size) hbd rfl (Nat.le_refl _) w
      refine good_same h (VRel_mkstr _) ?_
      simp [execOp, ho, Instr.sliceAt, Instr.slice, run_underlying hu, VRel_str hx, hb2]
    · rename_i _ _ el hu
      simp only [Option.bind_eq_some_iff] at hop
      obtain ⟨sz, hsz, es, hes, ⟨l, k⟩, hbd, hop⟩ := hop
      obtain ⟨inf, hinf, hins⟩ := info_of_size hsz
      split at hop
      · rename_i hok
        cases hop
        obtain ⟨g', k1, k2, k3⟩ := elems_rel h hx hes
        obtain ⟨hl1, hl2⟩ := sliceBnd_le hbd
        obtain ⟨ao, cap, hv, hcap, hrel⟩ := slice_rel hok k3 hl1 hl2
        have hb2 := run_bounds (P := P) hT (isS := true) (len := es.length) (cap := cap) hbd rfl hcap w
        refine ⟨_, w, g', .inl ?_, hrel, k1.le, k2⟩
        simp [execOp, ho, Instr.sliceAt, Instr.slice, run_underlying hu, hv, hb2, sizeOf, typeInfo, hinf, hins]
      · cases hop
    · cases hop

end
end Go.Proofs.Ytecokfbldjekiaa.LI
