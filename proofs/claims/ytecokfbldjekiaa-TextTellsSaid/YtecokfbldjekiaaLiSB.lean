/-
  Built-in functions; all operations together. No program is named here.
-/
import Derived.Test.YtecokfbldjekiaaLiSA
import Derived.Deep.AppendSrc
namespace Go.Proofs.Ytecokfbldjekiaa.LI
open Go Go.RowKit
section
variable {P : Program} {w0 w : World} {f0 : Nat → List Value} {ms : List Nat} {σ : St} {g : G}

theorem EsRel_short : ∀ {xs : List LV} {sz : Nat} {vs : List Value}, EsRel g xs sz vs → xs.length * sz ≤ vs.length ∧ EsRel g xs sz (vs.take (xs.length * sz))
  | [], sz, vs, h => by simp [EsRel]
  | x :: xs, sz, vs, h => by
    simp only [EsRel] at h
    obtain ⟨⟨u, h1, h2, h3, h4⟩, h5⟩ := h
    obtain ⟨i1, i2⟩ := EsRel_short h5
    have hl := congrArg List.length h2
    rw [Array.length_toList, h3, List.length_take] at hl
    rw [List.length_drop] at i1
    have e1 : (x :: xs).length * sz = sz + xs.length * sz := by rw [List.length_cons, Nat.add_mul]; omega
    refine ⟨by omega, ?_⟩
    simp only [EsRel]
    refine ⟨⟨u, h1, ?_, h3, h4⟩, ?_⟩
    · rw [e1, List.take_take, Nat.min_eq_left (by omega)]; exact h2
    · rw [e1, List.drop_take]
      rw [show sz + xs.length * sz - sz = xs.length * sz from by omega]
      exact i2

theorem EsRel_bytesLV (g : G) (s : ByteArray) : EsRel g (bytesLV s) 1 (byteCells s) := by
  have gen : ∀ l : List UInt8, EsRel g (l.map fun b => LV.byte b.toNat) 1 (l.map fun b => Value.int .u8 b.toNat) := by
    intro l
    induction l with
    | nil => simp [EsRel]
    | cons b l ih =>
      simp only [List.map_cons, EsRel, List.drop_succ_cons, List.drop_zero]
      exact ⟨⟨_, VRel_mkint _ _, by simp [Value.cells], rfl, by simp [Value.cells, Value.oneCell']⟩, ih⟩
  exact gen s.data.toList

/-- What is appended lies there, or is read off a string. -/
theorem source_rel (h : SRel w0 f0 ms σ g w) {tx : TypeId} {sz : Nat} {x : LV} {v : Value} {ys : List LV} (hx : VRel g x v) (hs : sourceL P tx sz σ x = some ys) (hok : elemsOk sz ys = true) (_hpos : 0 < sz) :
    ∃ news, Src P sz tx v ys.length news w ∧ EsRel g ys sz news := by
  unfold sourceL at hs
  split at hs
  · rename_i s hu
    split at hs
    · rename_i h1
      subst h1
      cases hs
      rw [VRel_str hx]
      have hl : (bytesLV s).length = s.size := by simp [bytesLV]
      rw [hl]
      exact ⟨byteCells s, Src.ofString w hu s, EsRel_bytesLV g s⟩
    · cases hs
  · rename_i e' hu
    unfold elems at hs
    split at hs
    · cases hs
      simp only [VRel] at hx
      subst hx
      exact ⟨[], Src.ofNil w hu 0, by simp [EsRel]⟩
    · cases hs
      simp only [VRel] at hx
      obtain ⟨a, cap, rfl, hle, he⟩ := hx
      by_cases hne : ys = []
      · subst hne
        cases a with
        | none => exact ⟨[], Src.ofNil w hu cap, by simp [EsRel]⟩
        | some a => exact ⟨[], Src.ofSlice w hu a 0 cap [] (by simp) (fun j u hj => by simp at hj) (fun _ hm => by simp at hm), by simp [EsRel]⟩
      · rcases he with he | ⟨b, off, sz', h0, ha, hes⟩
        · exact absurd he hne
        · have := size_of_ok hok hne hes
          subst this
          subst ha
          obtain ⟨s1, s2⟩ := EsRel_short hes
          have hd : (g.fz b).drop off = ((g.fz b).drop off).take (ys.length * sz') ++ ((g.fz b).drop off).drop (ys.length * sz') := (List.take_append_drop _ _).symm
          refine ⟨_, Src.ofSlice w hu ⟨b, off, none⟩ ys.length cap _ (by rw [List.length_take]; omega) (fun j u hj => ?_) (EsRel_one s2 (by rw [List.length_take]; omega)), s2⟩
          simp only [Addr.add_lit]
          exact lies_fz h.fz hd j u hj
    · rename_i r n
      split at hs
      · rename_i row hrow
        split at hs
        · rename_i hn
          cases hs
          subst hn
          simp only [VRel] at hx
          obtain ⟨v', vs, p1, p2, p3, p4, p5⟩ := h.row r row hrow
          rw [hx.1] at p1; cases p1
          by_cases hne : row.xs = []
          · have hvs : vs = [] := List.eq_nil_of_length_eq_zero (by rw [p2.1, hne]; simp)
            obtain ⟨a, cap, rfl⟩ := hx.2
            rw [hne]
            cases a with
            | none => exact ⟨[], Src.ofNil w hu cap, by simp [EsRel]⟩
            | some a => exact ⟨[], Src.ofSlice w hu a 0 cap [] (by simp) (fun j u hj => by simp at hj) (fun _ hm => by simp at hm), by simp [EsRel]⟩
          · have hsz := size_of_ok hok hne p3
            have hlen := p2.1
            rcases p2.2 with ⟨_, h0⟩ | ⟨k, cap, cur, rfl, _⟩
            · exact absurd (List.eq_nil_of_length_eq_zero h0) hne
            · rw [← hsz]
              exact ⟨vs, Src.ofSlice w hu ⟨k, 0, none⟩ _ cap vs hlen (p2.cells (g := k) rfl) (EsRel_one p3 hlen), p3⟩
        · cases hs
      · cases hs
    · cases hs
  · cases hs

theorem set_same_row {α : Type} {l : List α} {i : Nat} {x : α} (h : l[i]? = some x) : l.set i x = l := by
  obtain ⟨hl, rfl⟩ := List.getElem?_eq_some_iff.1 h
  exact List.set_getElem_self hl

theorem sound_append (_hTy : TyOK P) (h : SRel w0 f0 ms σ g w) {t tx ty e : TypeId} {sz bs : Nat} {d x : LV} {vd vx : Value} {ys : List LV} (hd : VRel g d vd) (hx : VRel g x vx)
    (he : elemB P t = some e) (hsz : sizeB P e = some sz) {zs : List LV} (hzb : zeroB P e = some zs) (hbs : bytesB P e = some bs) (hs : sourceL P tx sz σ x = some ys) (hb128 : bs ≤ 128) (hpos : 0 < sz) (hok : elemsOk sz ys = true)
    {r : LV × St} (hop : appendL d ys e sz σ = some r) :
    ∃ v' w' g', (Builtin.append_ #[t, tx] ty #[vd, vx]).run P w = .ok v' w' ∧ VRel g' r.1 v' ∧ g.le g' ∧ SRel w0 f0 ms r.2 g' w' := by
  have hu := elemB_inv he
  obtain ⟨i, hi, hisz⟩ := info_of_size hsz
  have hib : i.bytes = bs := by
    simp only [bytesB, hi, Option.map_some, Option.some.injEq] at hbs
    exact hbs
  obtain ⟨i', z, hi', hz, hzs, _, _⟩ := zeroB_inv hzb
  rw [hi] at hi'
  obtain rfl := Option.some.inj hi'
  obtain ⟨news, n1, n2⟩ := source_rel h hx hs hok hpos
  have hmaxEls : maxEls = 1099511627776 := by decide
  have fit : ∀ n : Nat, n ≤ maxEls → n ≤ maxLen ∧ n * i.bytes ≤ 140737488355328 := fun n hn => by
    have h1 : n * i.bytes ≤ 1099511627776 * 128 := Nat.mul_le_mul (by omega) (by omega)
    refine ⟨?_, by omega⟩
    simp only [maxLen]; omega
  subst hisz
  unfold appendL at hop
  split at hop
  · -- a new row
    split at hop
    · rename_i hle
      cases hop
      simp only [VRel] at hd
      subst hd
      obtain ⟨f1, f2⟩ := fit ys.length hle
      obtain ⟨v', w', r1, r2, r3, r4⟩ := run_append_row w w0.heap.size t tx ty e i z hu hi hz hzs (.slice none 0 0) 0 [] (World.ownsRow_nil _ _ _ _) vx ys.length news n1 (by omega) (by rw [Nat.zero_add]; exact f2) h.below.size
      rw [Nat.zero_add, List.nil_append] at r2
      have hbel : Below w.heap.size w w' := by
        rcases r3 with ⟨_, hg⟩ | ⟨_, hg⟩
        · exact ⟨hg.os, hg.tape, hg.output, hg.size, fun k hk => hg.block k hk (by simp [Value.ownBlock])⟩
        · exact ⟨hg.os, hg.tape, hg.output, hg.size, fun k hk => hg.block k hk (by simp)⟩
      have hnew : ∀ k, v'.ownBlock = some k → w.heap.size ≤ k := fun k hk => by
        rcases r3 with ⟨hv, _⟩ | ⟨hv, _⟩
        · rw [hv] at hk; simp [Value.ownBlock] at hk
        · rw [hv] at hk; cases hk; exact Nat.le_refl _
      have hsl : ∃ a cap, v' = .slice a ys.length cap := by
        rcases r2.2 with ⟨hv, h0⟩ | ⟨k, cap, cur, hv, _⟩
        · exact ⟨none, 0, by rw [hv, h0]⟩
        · exact ⟨_, cap, hv⟩
      have hnone : ∀ n, g.phys σ.rows.length n = none := fun n => by
        cases hp : g.phys σ.rows.length n with
        | none => rfl
        | some u =>
          obtain ⟨row, hr, _⟩ := h.phys _ _ _ hp
          have := (List.getElem?_eq_some_iff.1 hr).1
          omega
      refine ⟨v', w', _, r1, ?_, g.le_addPhys σ.rows.length ys.length v' (.inl (hnone _)), h.newRow hbel r2 hnew n2 hpos⟩
      simp only [newRowS, VRel]
      exact ⟨by simp [G.addPhys], hsl⟩
    · cases hop
  · rename_i r n
    split at hop
    · rename_i row hrow
      split at hop
      · rename_i hc
        obtain ⟨hn, hre, hrs, hle⟩ := hc
        cases hop
        subst hn
        subst hre
        simp only [VRel] at hd
        obtain ⟨v, vs, p1, p2, p3, p4, p5⟩ := h.row r row hrow
        have p1' := p1
        rw [hd.1] at p1'
        obtain rfl := Option.some.inj p1'
        obtain ⟨f1, f2⟩ := fit _ hle
        have hown : w.ownsRow w0.heap.size row.e i.size vd row.xs.length vs := by rw [← hrs]; exact p2
        obtain ⟨v', w', r1, r2, r3, r4⟩ := run_append_row w w0.heap.size t tx ty row.e i z hu hi hz hzs vd row.xs.length vs hown vx ys.length news n1 f1 f2 h.below.size
        by_cases hne : ys = []
        · subst hne
          obtain ⟨q1, q2⟩ := r4 rfl
          rw [q1, q2] at r1
          refine ⟨_, _, g, r1, ?_, G.le.refl g, ?_⟩
          · simp only [VRel, List.length_nil, Nat.add_zero]; exact hd
          · rw [List.append_nil, set_same_row hrow]
            exact h
        · have hyl : 0 < ys.length := List.length_pos_iff.2 hne
          have hnone : g.phys r (row.xs.length + ys.length) = none := by
            cases hq : g.phys r (row.xs.length + ys.length) with
            | none => rfl
            | some u =>
              obtain ⟨row', hr', hle'⟩ := h.phys _ _ _ hq
              rw [hrow] at hr'; cases hr'; omega
          have hgrow := h.growRow hrow p1 hne (v' := v') (w' := w') (news := news) (fun vs' hvs' => ?_) r3 (by rw [hrs]; exact n2)
          · refine ⟨v', w', _, r1, ?_, g.le_addPhys _ _ _ (.inl hnone), hgrow⟩
            simp only [VRel]
            refine ⟨by simp [G.addPhys], ?_⟩
            rcases r2.2 with ⟨hv, h0⟩ | ⟨k, cap, cur, hv, _⟩
            · omega
            · exact ⟨_, cap, hv⟩
          · have : vs' = vs := by
              obtain ⟨a1, a2⟩ := hvs'
              obtain ⟨b1, b2⟩ := p2
              rcases a2 with ⟨_, h0⟩ | ⟨k, cap, cur, hv, _, hc1, _, _, _, ht⟩
              · rw [h0, Nat.zero_mul] at a1 b1
                rw [List.eq_nil_of_length_eq_zero a1, List.eq_nil_of_length_eq_zero b1]
              · rcases b2 with ⟨_, h0⟩ | ⟨k2, cap2, cur2, hv2, _, hc2, _, _, _, ht2⟩
                · rw [h0, Nat.zero_mul] at a1 b1
                  rw [List.eq_nil_of_length_eq_zero a1, List.eq_nil_of_length_eq_zero b1]
                · rw [hv] at hv2
                  cases hv2
                  rw [hc1] at hc2
                  cases hc2
                  rw [← ht, ← ht2]
            rw [this, hrs]
            exact r2
      · cases hop
    · cases hop
  · cases hop

theorem list2 {α : Type} {xs : Array α} {a b : α} (h : xs.toList = [a, b]) : xs = #[a, b] := by
  apply Array.ext'; simp [h]
theorem list1 {α : Type} {xs : Array α} {a : α} (h : xs.toList = [a]) : xs = #[a] := by
  apply Array.ext'; simp [h]

theorem sound_builtin (hTy : TyOK P) {b : Builtin} {args : Array Operand} {ats : Array TypeId} {e : Env} {a : Act} (hT : TRel g e.t a.tmps) (h : SRel w0 f0 ms σ g w) {o : Oper}
    (ho : o.op = .call { callee := .builtin b, args, argTypes := ats }) {r : LV × St} (hop : builtinL P b ats.toList (args.toList.map e.ev) σ = some r) :
    OpGood w0 f0 ms g r.1 r.2 ((execOp a.eval o).run P w) := by
  have hA : VsRel g (args.toList.map e.ev) (args.toList.map a.eval) := ev_map hT _
  have hmap : (args.map a.eval).toList = args.toList.map a.eval := by simp
  unfold builtinL at hop
  split at hop
  · rename_i t x h1 h2
    rw [h2] at hA
    simp only [VsRel] at hA
    obtain ⟨v, vs', hv, hx, rfl⟩ := hA
    have hargs := list1 (hmap.trans hv)
    have hats := list1 h1
    have run : ∀ z, (Builtin.len_ #[t] o.type #[v]).run P w = .ok z w → (execOp a.eval o).run P w = .ok (.value z) w := fun z hz => by
      simp [execOp, ho, resolve, invoke, Go.builtin, hargs, hats, hz]
    split at hop
    · rename_i s hu
      cases hop
      rw [VRel_str hx] at run
      exact good_same h (VRel_mkint _ _) (run _ (by simp [Builtin.len_, run_underlying hu, goInt]))
    · rename_i el hu
      simp only [Option.map_eq_some_iff] at hop
      obtain ⟨es, hes, rfl⟩ := hop
      obtain ⟨g', k1, k2, k3⟩ := elems_rel h hx hes
      simp only [VRel] at k3
      obtain ⟨ao, cap, hv', _⟩ := k3
      rw [hv'] at run
      exact good_same h (VRel_mkint _ _) (run _ (by simp [Builtin.len_, run_underlying hu, goInt]))
    · cases hop
  · rename_i t tx d x h1 h2
    rw [h2] at hA
    simp only [VsRel] at hA
    obtain ⟨vd, vs', hv, hd, vx, vs2, rfl, hx, rfl⟩ := hA
    have hargs := list2 (hmap.trans hv)
    have hats := list2 h1
    simp only [Option.bind_eq_some_iff] at hop
    obtain ⟨el, he, sz, hsz, zs, hzb, bs, hbs, ys, hys, hop⟩ := hop
    split at hop
    · rename_i hc
      obtain ⟨v', w', g', r1, r2, r3, r4⟩ := sound_append hTy h (ty := o.type) hd hx he hsz hzb hbs hys hc.1 hc.2.1 hc.2.2 hop
      exact ⟨v', w', g', .inl (by simp [execOp, ho, resolve, invoke, Go.builtin, hargs, hats, r1]), r2, r3, r4⟩
    · cases hop
  · rename_i ats' k x k' y h1 h2
    rw [h2] at hA
    simp only [VsRel] at hA
    obtain ⟨vd, vs', hv, hd, vx, vs2, rfl, hx, rfl⟩ := hA
    have hargs := list2 (hmap.trans hv)
    rw [VRel_int (g := g) hd, VRel_int (g := g) hx] at hargs
    split at hop
    · rename_i hk
      subst hk
      cases hop
      exact good_same h (VRel_mkint _ _) (by simp [execOp, ho, resolve, invoke, Go.builtin, hargs, Builtin.min_, Builtin.min2])
    · cases hop
  · rename_i ats' k x k' y h1 h2
    rw [h2] at hA
    simp only [VsRel] at hA
    obtain ⟨vd, vs', hv, hd, vx, vs2, rfl, hx, rfl⟩ := hA
    have hargs := list2 (hmap.trans hv)
    rw [VRel_int (g := g) hd, VRel_int (g := g) hx] at hargs
    split at hop
    · rename_i hk
      subst hk
      cases hop
      exact good_same h (VRel_mkint _ _) (by simp [execOp, ho, resolve, invoke, Go.builtin, hargs, Builtin.max_, Builtin.max2])
    · cases hop
  · cases hop

end
end Go.Proofs.Ytecokfbldjekiaa.LI
