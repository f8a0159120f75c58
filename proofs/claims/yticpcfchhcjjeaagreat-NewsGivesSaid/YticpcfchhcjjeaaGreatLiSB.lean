/-
  Built-in functions; all operations together. No program is named here.
-/
import Derived.Test.YticpcfchhcjjeaaGreatLiSM
import Derived.Deep.AppendSrc
import Derived.Lib.AppendZeros
namespace Go.Proofs.YticpcfchhcjjeaaGreat.LI
open Go Go.RowKit
set_option linter.unusedSimpArgs false
set_option linter.unusedVariables false
section
variable {P : Program} {w0 w : World} {f0 : Nat → List Value} {ms : List Nat} {σ : St} {g : G}

theorem EsRel_short : ∀ {xs : List LV} {sz : Nat} {vs : List Value}, EsRel g xs sz vs → xs.length * sz ≤ vs.length ∧ EsRel g xs sz (vs.take (xs.length * sz))
  | [], sz, vs, h => by simp [EsRel]
  | x :: xs, sz, vs, h => by
    simp only [EsRel] at h
    obtain ⟨⟨u, h1, h2, h3, h4⟩, h5⟩ := h
    obtain ⟨i1, i2⟩ := EsRel_short h5
    have hl := congrArg List.length h2
    rw [Array.length_toList, h3, List.length_take] at hl
    rw [List.length_drop] at i1
    have e1 : (x :: xs).length * sz = sz + xs.length * sz := by rw [List.length_cons, Nat.add_mul]; omega
    refine ⟨by omega, ?_⟩
    simp only [EsRel]
    refine ⟨⟨u, h1, ?_, h3, h4⟩, ?_⟩
    · rw [e1, List.take_take, Nat.min_eq_left (by omega)]; exact h2
    · rw [e1, List.drop_take]
      rw [show sz + xs.length * sz - sz = xs.length * sz from by omega]
      exact i2

theorem EsRel_bytesLV (g : G) (s : ByteArray) : EsRel g (bytesLV s) 1 (byteCells s) := by
  have gen : ∀ l : List UInt8, EsRel g (l.map fun b => LV.byte b.toNat) 1 (l.map fun b => Value.int .u8 b.toNat) := by
    intro l
    induction l with
    | nil => simp [EsRel]
    | cons b l ih =>
      simp only [List.map_cons, EsRel, List.drop_succ_cons, List.drop_zero]
      exact ⟨⟨_, VRel_mkint _ _, by simp [Value.cells], rfl, by simp [Value.cells, Value.oneCell']⟩, ih⟩
  exact gen s.data.toList

/-- Elements that lie there, or are read off a string. -/
def SrcAt (P : Program) (g : G) (sz : Nat) (tx : TypeId) (v : Value) (ys : List LV) (w : World) : Prop :=
  (∃ s, P.underlying tx = some .string ∧ v = .string s ∧ sz = 1 ∧ ys = bytesLV s) ∨
  ∃ e' ao cap news, P.underlying tx = some (.slice e') ∧ v = .slice ao ys.length cap ∧ news.length = ys.length * sz ∧ EsRel g ys sz news ∧ (∀ u ∈ news, u.oneCell' = true) ∧
    (ys = [] ∨ ∃ ad, ao = some ad ∧ ∀ j u, news[j]? = some u → w.cell? (ad.add j) = some u)

theorem srcAt_rel (h : SRel w0 f0 ms σ g w) {tx : TypeId} {sz : Nat} {x : LV} {v : Value} {ys : List LV} (hx : VRel g x v) (hs : sourceL P tx sz σ x = some ys) (hok : elemsOk sz ys = true) (_hpos : 0 < sz) : SrcAt P g sz tx v ys w := by
  unfold sourceL at hs
  split at hs
  · rename_i s hu
    split at hs
    · rename_i h1
      subst h1
      cases hs
      exact .inl ⟨s, hu, VRel_str hx, rfl, rfl⟩
    · cases hs
  · rename_i e' hu
    have none' : ∀ ao cap, v = .slice ao 0 cap → ys = [] → SrcAt P g sz tx v ys w := fun ao cap hv hy => by
      subst hy
      exact .inr ⟨e', ao, cap, [], hu, hv, by simp, by simp [EsRel], by simp, .inl rfl⟩
    unfold elems at hs
    split at hs
    · cases hs
      simp only [VRel] at hx
      exact none' none 0 hx rfl
    · cases hs
      simp only [VRel] at hx
      obtain ⟨a, cap, rfl, hle, he⟩ := hx
      by_cases hne : ys = []
      · subst hne; exact none' a cap rfl rfl
      · rcases he with he | ⟨b, off, sz', h0, ha, hes⟩
        · exact absurd he hne
        · have := size_of_ok hok hne hes
          subst this
          subst ha
          obtain ⟨s1, s2⟩ := EsRel_short hes
          have hd : (g.fz b).drop off = ((g.fz b).drop off).take (ys.length * sz') ++ ((g.fz b).drop off).drop (ys.length * sz') := (List.take_append_drop _ _).symm
          refine .inr ⟨e', _, cap, ((g.fz b).drop off).take (ys.length * sz'), hu, rfl, by rw [List.length_take]; omega, s2, EsRel_one s2 (by rw [List.length_take]; omega), .inr ⟨⟨b, off, none⟩, rfl, fun j u hj => ?_⟩⟩
          simp only [Addr.add_lit]
          exact lies_fz h.fz hd j u hj
    · cases hs
      simp only [VRel] at hx
      obtain ⟨a0, cap, rfl, hle, he⟩ := hx
      by_cases hne : ys = []
      · subst hne; exact none' (some a0) cap rfl rfl
      · rcases he with he | ⟨b, off, sz', h0, ha, hes⟩
        · exact absurd he hne
        · have := size_of_ok hok hne hes
          subst this
          cases ha
          obtain ⟨s1, s2⟩ := EsRel_short hes
          have hd : (g.fz b).drop off = ((g.fz b).drop off).take (ys.length * sz') ++ ((g.fz b).drop off).drop (ys.length * sz') := (List.take_append_drop _ _).symm
          refine .inr ⟨e', _, cap, ((g.fz b).drop off).take (ys.length * sz'), hu, rfl, by rw [List.length_take]; omega, s2, EsRel_one s2 (by rw [List.length_take]; omega), .inr ⟨⟨b, off, none⟩, rfl, fun j u hj => ?_⟩⟩
          simp only [Addr.add_lit]
          exact lies_fz h.fz hd j u hj
    · rename_i r n
      split at hs
      · rename_i row hrow
        split at hs
        · rename_i hn
          cases hs
          subst hn
          simp only [VRel] at hx
          obtain ⟨v', vs, p1, p2, p3, p4, p5⟩ := h.row r row hrow
          rw [hx.1] at p1; cases p1
          obtain ⟨a, cap, rfl⟩ := hx.2
          by_cases hne : row.xs = []
          · exact none' a cap (by rw [hne]; rfl) hne
          · have hsz := size_of_ok hok hne p3
            have hlen := p2.1
            rcases p2.2 with ⟨_, h0⟩ | ⟨k, cap', cur, he, _⟩
            · exact absurd (List.eq_nil_of_length_eq_zero h0) hne
            · rw [← hsz]
              cases he
              exact .inr ⟨e', _, cap, vs, hu, rfl, hlen, p3, EsRel_one p3 hlen, .inr ⟨⟨k, 0, none⟩, rfl, p2.cells (g := k) rfl⟩⟩
        · cases hs
      · cases hs
    · rename_i r n lo hi z
      split at hs
      · rename_i row hrow
        split at hs
        · rename_i hc
          obtain ⟨rfl, rfl, hlh, hhn⟩ := hc
          cases hs
          simp only [VRel] at hx
          obtain ⟨a, cap, a', hp, rfl, _, _, ha⟩ := hx
          have hlen : ((row.xs.drop lo).take (hi - lo)).length = hi - lo := by rw [List.length_take, List.length_drop]; omega
          by_cases hne : (row.xs.drop lo).take (hi - lo) = []
          · refine none' a' (cap - lo) ?_ hne
            rw [hne] at hlen
            rw [← hlen]; rfl
          · obtain ⟨v', vs, p1, p2, p3, p4, p5⟩ := h.row r row hrow
            rw [hp] at p1; cases p1
            have p6 := EsRel_take (hi - lo) (EsRel_drop lo p3)
            have hsz := size_of_ok hok hne p6
            have hl0 : hi - lo ≠ 0 := fun h0 => hne (List.eq_nil_of_length_eq_zero (by rw [hlen, h0]))
            have hvl := p2.1
            rcases p2.2 with ⟨_, h0⟩ | ⟨k, cap', cur, he, _, _, hnc, _⟩
            · omega
            · cases he
              obtain ⟨s1, s2⟩ := EsRel_short p6
              rw [hlen] at s1 s2
              rw [← hsz]
              refine .inr ⟨e', a', cap - lo, (vs.drop (lo * row.sz)).take ((hi - lo) * row.sz), hu, by rw [hlen], by rw [List.length_take, hlen]; omega, by simpa [hlen] using s2, EsRel_one (by simpa [hlen] using s2) (by rw [List.length_take, hlen]; omega), .inr ⟨⟨k, lo * row.sz, none⟩, ?_, fun j u hj => ?_⟩⟩
              · rw [ha (by omega)]; simp [addr_add]
              · have := p2.cells (g := k) rfl (lo * row.sz + j) u (by
                  have := (take_some hj).1
                  rwa [List.getElem?_drop] at this)
                simpa [Addr.add_lit] using this
        · cases hs
      · cases hs
    · cases hs
  · cases hs

/-- What is appended. -/
theorem SrcAt.src {sz : Nat} {tx : TypeId} {v : Value} {ys : List LV} (h : SrcAt P g sz tx v ys w) : ∃ news, Src P sz tx v ys.length news w ∧ EsRel g ys sz news := by
  rcases h with ⟨s, hu, rfl, rfl, rfl⟩ | ⟨e', ao, cap, news, hu, rfl, hl, he, h1, hm⟩
  · have hl : (bytesLV s).length = s.size := by simp [bytesLV]
    rw [hl]
    exact ⟨byteCells s, Src.ofString w hu s, EsRel_bytesLV g s⟩
  · by_cases hne : ys = []
    · subst hne
      have : news = [] := List.eq_nil_of_length_eq_zero (by simpa using hl)
      subst this
      cases ao with
      | none => exact ⟨[], Src.ofNil w hu cap, by simp [EsRel]⟩
      | some a => exact ⟨[], Src.ofSlice w hu a 0 cap [] (by simp) (fun j u hj => by simp at hj) (fun _ hm => by simp at hm), by simp [EsRel]⟩
    · obtain ⟨ad, rfl, hc⟩ := hm.resolve_left hne
      exact ⟨news, Src.ofSlice w hu ad _ cap news hl hc h1, he⟩
/-- What is copied: so many of the first ones. -/
theorem SrcAt.first {sz : Nat} {tx : TypeId} {v : Value} {ys : List LV} (h : SrcAt P g sz tx v ys w) (n : Nat) (hn : n ≤ ys.length) :
    (∀ w', (Builtin.lenOf v).run P w' = .ok ys.length w') ∧ ∃ news, (Builtin.firstCells sz n v).run P w = .ok news.toArray w ∧ news.length = n * sz ∧ EsRel g (ys.take n) sz news ∧ ∀ u ∈ news, u.oneCell' = true := by
  rcases h with ⟨s, hu, rfl, rfl, rfl⟩ | ⟨e', ao, cap, news, hu, rfl, hl, he, h1, hm⟩
  · have hl : (bytesLV s).length = s.size := by simp [bytesLV]
    rw [hl] at hn ⊢
    refine ⟨fun _ => rfl, (byteCells s).take n, ?_, by rw [List.length_take, byteCells_length]; omega, ?_, fun u hm => (Src.ofString w hu s).one u (List.mem_of_mem_take hm)⟩
    · simp only [Builtin.firstCells, byteCells, Sem.run_pure]
      congr 1
      apply Array.ext'
      simp [List.map_take]
    · have := EsRel_bytesLV g s
      have := EsRel_front this (by rw [byteCells_length, hl, Nat.mul_one]) (by rw [hl]; exact hn) (lo := n)
      rwa [Nat.mul_one] at this
  · refine ⟨fun _ => rfl, news.take (n * sz), ?_, ?_, EsRel_front he hl hn, fun u hu => h1 u (List.mem_of_mem_take hu)⟩
    · by_cases hne : ys = []
      · subst hne
        have h0 : n = 0 := by simpa using hn
        subst h0
        have : news = [] := List.eq_nil_of_length_eq_zero (by simpa using hl)
        subst this
        cases ao with
        | none => simp [Builtin.firstCells]
        | some a => simp [Builtin.firstCells, loadCells, loadCellsFrom]
      · obtain ⟨ad, rfl, hc⟩ := hm.resolve_left hne
        have e0 : n * sz ≤ ys.length * sz := Nat.mul_le_mul_right _ hn
        exact run_firstCells_some (P := P) w sz n ad ys.length cap (news.take (n * sz)) (by rw [List.length_take]; omega) (fun j u hj => hc j u (take_some hj).1)
    · have e0 : n * sz ≤ ys.length * sz := Nat.mul_le_mul_right _ hn
      rw [List.length_take]; omega
theorem source_rel (h : SRel w0 f0 ms σ g w) {tx : TypeId} {sz : Nat} {x : LV} {v : Value} {ys : List LV} (hx : VRel g x v) (hs : sourceL P tx sz σ x = some ys) (hok : elemsOk sz ys = true) (hpos : 0 < sz) :
    ∃ news, Src P sz tx v ys.length news w ∧ EsRel g ys sz news := (srcAt_rel h hx hs hok hpos).src

theorem set_same_row {α : Type} {l : List α} {i : Nat} {x : α} (h : l[i]? = some x) : l.set i x = l := by
  obtain ⟨hl, rfl⟩ := List.getElem?_eq_some_iff.1 h
  exact List.set_getElem_self hl

theorem sound_append (_hTy : TyOK P) (h : SRel w0 f0 ms σ g w) {t tx ty e : TypeId} {sz bs : Nat} {d x : LV} {vd vx : Value} {ys : List LV} (hd : VRel g d vd) (hx : VRel g x vx)
    (he : elemB P t = some e) (hsz : sizeB P e = some sz) {zs : List LV} (hzb : zeroB P e = some zs) (hbs : bytesB P e = some bs) (hs : sourceL P tx sz σ x = some ys) (hb128 : bs ≤ 128) (hpos : 0 < sz) (hok : elemsOk sz ys = true)
    {r : LV × St} (hop : appendL d ys e sz σ = some r) :
    ∃ v' w' g', (Builtin.append_ #[t, tx] ty #[vd, vx]).run P w = .ok v' w' ∧ VRel g' r.1 v' ∧ g.le g' ∧ SRel w0 f0 ms r.2 g' w' := by
  have hu := elemB_inv he
  obtain ⟨i, hi, hisz⟩ := info_of_size hsz
  have hib : i.bytes = bs := by
    simp only [bytesB, hi, Option.map_some, Option.some.injEq] at hbs
    exact hbs
  obtain ⟨i', z, hi', hz, hzs, _, _⟩ := zeroB_inv hzb
  rw [hi] at hi'
  obtain rfl := Option.some.inj hi'
  obtain ⟨news, n1, n2⟩ := source_rel h hx hs hok hpos
  have hmaxEls : maxEls = 1099511627776 := by decide
  have fit : ∀ n : Nat, n ≤ maxEls → n ≤ maxLen ∧ n * i.bytes ≤ 140737488355328 := fun n hn => by
    have h1 : n * i.bytes ≤ 1099511627776 * 128 := Nat.mul_le_mul (by omega) (by omega)
    refine ⟨?_, by omega⟩
    simp only [maxLen]; omega
  subst hisz
  unfold appendL at hop
  split at hop
  · -- a new row
    split at hop
    · rename_i hle
      cases hop
      simp only [VRel] at hd
      subst hd
      obtain ⟨f1, f2⟩ := fit ys.length hle
      obtain ⟨v', w', r1, r2, r3, r4⟩ := run_append_row w w0.heap.size t tx ty e i z hu hi hz hzs (.slice none 0 0) 0 [] (World.ownsRow_nil _ _ _ _) vx ys.length news n1 (by omega) (by rw [Nat.zero_add]; exact f2) h.below.size
      rw [Nat.zero_add, List.nil_append] at r2
      have hbel : Below w.heap.size w w' := by
        rcases r3 with ⟨_, hg⟩ | ⟨_, hg⟩
        · exact ⟨hg.os, hg.tape, hg.output, hg.size, fun k hk => hg.block k hk (by simp [Value.ownBlock])⟩
        · exact ⟨hg.os, hg.tape, hg.output, hg.size, fun k hk => hg.block k hk (by simp)⟩
      have hnew : ∀ k, v'.ownBlock = some k → w.heap.size ≤ k := fun k hk => by
        rcases r3 with ⟨hv, _⟩ | ⟨hv, _⟩
        · rw [hv] at hk; simp [Value.ownBlock] at hk
        · rw [hv] at hk; cases hk; exact Nat.le_refl _
      have hsl : ∃ a cap, v' = .slice a ys.length cap := by
        rcases r2.2 with ⟨hv, h0⟩ | ⟨k, cap, cur, hv, _⟩
        · exact ⟨none, 0, by rw [hv, h0]⟩
        · exact ⟨_, cap, hv⟩
      have hnone : ∀ n, g.phys σ.rows.length n = none := fun n => by
        cases hp : g.phys σ.rows.length n with
        | none => rfl
        | some u =>
          obtain ⟨row, hr, _⟩ := h.phys _ _ _ hp
          have := (List.getElem?_eq_some_iff.1 hr).1
          omega
      refine ⟨v', w', _, r1, ?_, g.le_addPhys σ.rows.length ys.length v' (.inl (hnone _)), h.newRow hbel r2 hnew n2 hpos⟩
      simp only [newRowS, VRel]
      exact ⟨by simp [G.addPhys], hsl⟩
    · cases hop
  · rename_i r n
    split at hop
    · rename_i row hrow
      split at hop
      · rename_i hc
        obtain ⟨hn, hre, hrs, hle⟩ := hc
        cases hop
        subst hn
        subst hre
        simp only [VRel] at hd
        obtain ⟨v, vs, p1, p2, p3, p4, p5⟩ := h.row r row hrow
        have p1' := p1
        rw [hd.1] at p1'
        obtain rfl := Option.some.inj p1'
        obtain ⟨f1, f2⟩ := fit _ hle
        have hown : w.ownsRow w0.heap.size row.e i.size vd row.xs.length vs := by rw [← hrs]; exact p2
        obtain ⟨v', w', r1, r2, r3, r4⟩ := run_append_row w w0.heap.size t tx ty row.e i z hu hi hz hzs vd row.xs.length vs hown vx ys.length news n1 f1 f2 h.below.size
        by_cases hne : ys = []
        · subst hne
          obtain ⟨q1, q2⟩ := r4 rfl
          rw [q1, q2] at r1
          refine ⟨_, _, g, r1, ?_, G.le.refl g, ?_⟩
          · simp only [VRel, List.length_nil, Nat.add_zero]; exact hd
          · rw [List.append_nil, set_same_row hrow]
            exact h
        · have hyl : 0 < ys.length := List.length_pos_iff.2 hne
          have hnone : g.phys r (row.xs.length + ys.length) = none := by
            cases hq : g.phys r (row.xs.length + ys.length) with
            | none => rfl
            | some u =>
              obtain ⟨row', hr', hle'⟩ := h.phys _ _ _ hq
              rw [hrow] at hr'; cases hr'; omega
          have hgrow := h.growRow hrow p1 hne (v' := v') (w' := w') (news := news) (fun vs' hvs' => ?_) r3 (by rw [hrs]; exact n2)
          · refine ⟨v', w', _, r1, ?_, g.le_addPhys _ _ _ (.inl hnone), hgrow⟩
            simp only [VRel]
            refine ⟨by simp [G.addPhys], ?_⟩
            rcases r2.2 with ⟨hv, h0⟩ | ⟨k, cap, cur, hv, _⟩
            · omega
            · exact ⟨_, cap, hv⟩
          · have : vs' = vs := by
              obtain ⟨a1, a2⟩ := hvs'
              obtain ⟨b1, b2⟩ := p2
              rcases a2 with ⟨_, h0⟩ | ⟨k, cap, cur, hv, _, hc1, _, _, _, ht⟩
              · rw [h0, Nat.zero_mul] at a1 b1
                rw [List.eq_nil_of_length_eq_zero a1, List.eq_nil_of_length_eq_zero b1]
              · rcases b2 with ⟨_, h0⟩ | ⟨k2, cap2, cur2, hv2, _, hc2, _, _, _, ht2⟩
                · rw [h0, Nat.zero_mul] at a1 b1
                  rw [List.eq_nil_of_length_eq_zero a1, List.eq_nil_of_length_eq_zero b1]
                · rw [hv] at hv2
                  cases hv2
                  rw [hc1] at hc2
                  cases hc2
                  rw [← ht, ← ht2]
            rw [this, hrs]
            exact r2
      · cases hop
    · cases hop
  · rename_i r n lo hi' sz'
    split at hop
    · rename_i row hrow
      split at hop
      · rename_i hc
        obtain ⟨rfl, hre, hrs, rfl, hwr, hlh, hfit⟩ := hc
        cases hop
        subst hre
        simp only [VRel] at hd
        obtain ⟨a, cap, a', hp, rfl, _, hhn, ha⟩ := hd
        obtain ⟨v', vs, p1, p2, p3, p4, p5⟩ := h.row r row hrow
        rw [hp] at p1; cases p1
        have hcap : row.xs.length ≤ cap := by
          rcases p2.2 with ⟨he, h0⟩ | ⟨k, cap', cur, he, _, _, hnc, _⟩
          · omega
          · cases he; exact hnc
        have hroom : hi' - lo + ys.length ≤ cap - lo := by omega
        have hv : ∀ g', g'.phys r row.xs.length = some (.slice a row.xs.length cap) → VRel g' (.mview r row.xs.length lo (hi' + ys.length) i.size) (.slice a' (hi' - lo + ys.length) (cap - lo)) := fun g' hg' => by
          simp only [VRel]
          exact ⟨a, cap, a', hg', by congr 1; omega, by omega, hfit, ha⟩
        by_cases hne : ys = []
        · subst hne
          have hn0 : news = [] := List.eq_nil_of_length_eq_zero (by rw [n1.newsLen]; simp)
          subst hn0
          refine ⟨_, w, g, ?_, hv g hp, G.le.refl g, ?_⟩
          · simp only [List.length_nil, Nat.add_zero] at hroom
            have hr2 : hi' - lo ≤ cap - lo := hroom
            have n0 : Src P i.size tx vx 0 [] w := n1
            cases a' with
            | none => rcases n0.kind with ⟨e', hk⟩ | hk <;> simp [Builtin.append_, run_underlying hu, run_underlying hk, sizeOf, typeInfo, hi, n0.len, hr2, n0.cells]
            | some ad => rcases n0.kind with ⟨e', hk⟩ | hk <;> simp [Builtin.append_, run_underlying hu, run_underlying hk, sizeOf, typeInfo, hi, n0.len, hr2, n0.cells, storeCells]
          · simp only [overL, List.append_nil, List.length_nil, Nat.add_zero, List.take_append_drop, set_same_row hrow]
            exact h
        · have hyl : 0 < ys.length := List.length_pos_iff.2 hne
          rcases p2.2 with ⟨he, h0⟩ | ⟨k, cap', cur, he, hbk, hk, hnc, _, hcs, htk⟩
          · omega
          · cases he
            have ha' := ha (by omega)
            simp only [Option.map_some, addr_add, Nat.zero_add] at ha'
            subst ha'
            obtain ⟨f1, f2⟩ := h.setOver (ys := ys) (news := news) (lo := hi') hrow hwr hp (by omega) (by rw [hrs]; exact n2) (by rw [n1.newsLen, hrs]) hk
            have hst := run_storeCells_at P k (hi' * row.sz) row.e news 0 cur w hk (by simpa using f1) n1.one
            simp only [Nat.add_zero] at hst
            have hadr : lo * row.sz + (hi' - lo) * row.sz = hi' * row.sz := by rw [← Nat.add_mul]; congr 1; omega
            have n2' : Src P row.sz tx vx ys.length news w := by rw [hrs]; exact n1
            refine ⟨_, _, g, ?_, hv g hp, G.le.refl g, f2⟩
            rcases n2'.kind with ⟨e', hk'⟩ | hk' <;> simp [Builtin.append_, run_underlying hu, run_underlying hk', sizeOf, typeInfo, hi, n2'.len, hroom, n2'.cells, ← hrs, Addr.add_lit, hadr, hst]
      · cases hop
    · cases hop
  · cases hop

/-! ### zero values -/
/-- Appended to nil, as data. -/
theorem sound_appendNew (h : SRel w0 f0 ms σ g w) {args : Array Operand} {ats : Array TypeId} {e : Env} {a : Act} (hT : TRel g e.t a.tmps) {o : Oper}
    (ho : o.op = .call { callee := .builtin .append, args, argTypes := ats }) {r : LV × St} (hop : appendNew P ats.toList (args.toList.map e.ev) σ = some r) :
    OpGood w0 f0 ms g r.1 r.2 ((execOp a.eval o).run P w) := by
  have hA : VsRel g (args.toList.map e.ev) (args.toList.map a.eval) := ev_map hT _
  have hmap : (args.map a.eval).toList = args.toList.map a.eval := by simp
  unfold appendNew at hop
  split at hop
  · rename_i t tx x h1 h2
    rw [h2] at hA
    simp only [VsRel] at hA
    obtain ⟨vd, vs', hv, hd, vx, vs2, rfl, hx, rfl⟩ := hA
    have hargs : args.map a.eval = #[vd, vx] := Array.toList_inj.1 (hmap.trans hv)
    have hats : ats = #[t, tx] := Array.toList_inj.1 h1
    simp only [Option.bind_eq_some_iff] at hop
    obtain ⟨el, he, sz, hsz, zs, hzb, bs, hbs, ys, hs, hop⟩ := hop
    split at hop
    · rename_i hc
      obtain ⟨hb128, hpos, hok, hle, _⟩ := hc
      cases hop
      have hu := elemB_inv he
      obtain ⟨i, hi, hisz⟩ := info_of_size hsz
      have hib : i.bytes = bs := by
        simp only [bytesB, hi, Option.map_some, Option.some.injEq] at hbs
        exact hbs
      obtain ⟨i', z, hi', hz, hzs, _, _⟩ := zeroB_inv hzb
      rw [hi] at hi'
      obtain rfl := Option.some.inj hi'
      obtain ⟨news, n1, n2⟩ := source_rel h hx hs hok hpos
      have hmaxEls : maxEls = 1099511627776 := by decide
      have f1 : ys.length ≤ maxLen := by simp only [maxLen]; omega
      have f2 : ys.length * i.bytes ≤ 140737488355328 := by
        have h1 : ys.length * i.bytes ≤ 1099511627776 * 128 := Nat.mul_le_mul (by omega) (by omega)
        omega
      subst hisz
      obtain rfl := hd
      obtain ⟨v', w', r1, r2, r3, r4⟩ := run_append_row w w0.heap.size t tx o.type el i z hu hi hz hzs (.slice none 0 0) 0 [] (World.ownsRow_nil _ _ _ _) vx ys.length news n1 (by omega) (by rw [Nat.zero_add]; exact f2) h.below.size
      rw [Nat.zero_add, List.nil_append] at r2
      have hrun : (execOp a.eval o).run P w = .ok (.value v') w' := by simp [execOp, ho, resolve, invoke, Go.builtin, hargs, hats, r1]
      have hbel : Below w.heap.size w w' := by
        rcases r3 with ⟨_, hg⟩ | ⟨_, hg⟩
        · exact ⟨hg.os, hg.tape, hg.output, hg.size, fun k hk => hg.block k hk (by simp [Value.ownBlock])⟩
        · exact ⟨hg.os, hg.tape, hg.output, hg.size, fun k hk => hg.block k hk (by simp)⟩
      rcases r2.2 with ⟨hv0, h0⟩ | ⟨k, cap, cur, hv0, hk0, hk, hnc, hcm, hcs, ht⟩
      · have : ys = [] := List.eq_nil_of_length_eq_zero h0
        subst this
        refine ⟨v', w', g, .inl hrun, ?_, G.le.refl g, h.kept hbel⟩
        simp only [VRel]
        exact ⟨none, 0, by rw [hv0]; simp, by simp, by simp⟩
      · have hkk : k = w.heap.size := by
          rcases r3 with ⟨hv, _⟩ | ⟨hv, _⟩
          · rw [hv0] at hv; cases hv
          · rw [hv0] at hv
            simpa [Value.ownBlock] using hv
        subst hkk
        obtain ⟨g', q1, q2, q3, q4⟩ := h.newFz hbel hk (cs := news) (by rw [← ht]; exact List.take_prefix _ _)
        refine ⟨v', w', g', .inl hrun, ?_, q1, q2⟩
        simp only [VRel]
        refine ⟨_, cap, hv0, hnc, .inr ⟨_, 0, _, hpos, rfl, ?_⟩⟩
        rw [q3, List.drop_zero]
        exact EsRel_mono q1 _ _ _ _ (List.prefix_refl _) n2
    · cases hop
  · cases hop

theorem EsRel_rep {z : LV} {zv : Value} {sz : Nat} (hz : VRel g z zv) (hs : zv.cells.size = sz) (h1 : ∀ u ∈ zv.cells.toList, u.oneCell' = true) (h0 : 0 < sz) : ∀ (n : Nat) (vs : List Value), (∀ j, j < n * sz → vs[j]? = zv.cells.toList[j % sz]?) → EsRel g (List.replicate n z) sz vs
  | 0, vs, _ => by simp [EsRel]
  | n + 1, vs, h => by
    have e1 : (n + 1) * sz = sz + n * sz := by rw [Nat.add_mul]; omega
    rw [List.replicate_succ]
    simp only [EsRel]
    refine ⟨⟨zv, hz, ?_, hs, h1⟩, EsRel_rep hz hs h1 h0 n _ fun j hj => ?_⟩
    · apply List.ext_getElem?
      intro j
      rw [List.getElem?_take]
      split
      · rename_i hj
        rw [h j (by omega), Nat.mod_eq_of_lt hj]
      · rw [List.getElem?_eq_none (by rw [Array.length_toList]; omega)]
    · rw [List.getElem?_drop, h (sz + j) (by omega), Nat.add_mod_left]
theorem zeroCells_get (zs : Array Value) (n j : Nat) (hj : j < n * zs.size) : (Builtin.zeroCells zs n).toList[j]? = zs.toList[j % zs.size]? := by
  have h0 : 0 < zs.size := by
    rcases Nat.eq_zero_or_pos zs.size with h | h
    · rw [h] at hj; simp at hj
    · exact h
  have hm := Nat.mod_lt j h0
  simp [Builtin.zeroCells, hj, hm]
theorem zeros_rel {z : LV} {zv : Value} (hz : VRel g z zv) (h1 : ∀ u ∈ zv.cells.toList, u.oneCell' = true) (h0 : 0 < zv.cells.size) (n : Nat) : EsRel g (List.replicate n z) zv.cells.size (Builtin.zeroCells zv.cells n).toList ∧ (Builtin.zeroCells zv.cells n).toList.length = n * zv.cells.size ∧ ∀ u ∈ (Builtin.zeroCells zv.cells n).toList, u.oneCell' = true := by
  refine ⟨EsRel_rep hz rfl h1 h0 n _ (fun j hj => zeroCells_get _ n j hj), by simp [size_zeroCells], fun u hu => ?_⟩
  obtain ⟨j, hj⟩ := List.mem_iff_getElem?.1 hu
  have hlt : j < n * zv.cells.size := by
    have := (List.getElem?_eq_some_iff.1 hj).1
    simpa [size_zeroCells] using this
  rw [zeroCells_get _ n j hlt] at hj
  exact h1 u (List.mem_of_getElem? hj)

/-- A row that is made. -/
theorem SRel.madeRow (h : SRel w0 f0 ms σ g w) {w' : World} {e : TypeId} {sz n cap : Nat} {xs : List LV} {vs : List Value} {cur : Array Value} (hb : Below w.heap.size w w') (hk : w'.heap[w.heap.size]? = some (.cells cur e (0, 0)))
    (hl : xs.length = n) (hnc : n ≤ cap) (hcm : cap ≤ maxLen) (hcs : cur.size = cap * sz) (ht : cur.toList.take (n * sz) = vs) (hx : EsRel g xs sz vs) (hv : vs.length = n * sz) (h0 : 0 < sz) :
    ∃ g', g.le g' ∧ VRel g' (newRowS σ xs e sz).1 (.slice (some ⟨w.heap.size, 0, none⟩) n cap) ∧ SRel w0 f0 ms (newRowS σ xs e sz).2 g' w' := by
  subst hl
  have hnone : g.phys σ.rows.length xs.length = none := by
    cases hp : g.phys σ.rows.length xs.length with
    | none => rfl
    | some u =>
      obtain ⟨row, hr, _⟩ := h.phys _ _ _ hp
      simp at hr
  refine ⟨_, g.le_addPhys σ.rows.length xs.length (.slice (some ⟨w.heap.size, 0, none⟩) xs.length cap) (.inl hnone), ?_, h.newRow hb (v := .slice (some ⟨w.heap.size, 0, none⟩) xs.length cap) (vs := vs) ⟨hv, .inr ⟨w.heap.size, cap, cur, rfl, h.below.size, hk, hnc, hcm, hcs, ht⟩⟩ (fun k hk' => by simp [Value.ownBlock] at hk'; omega) hx h0⟩
  exact VRel_phys (by simp [G.addPhys]) ⟨_, cap, rfl⟩

/-- A literal without elements that is the call's own. -/
theorem sound_buildSlice0 {t : TypeId} {len : Nat} {parts : Array (Nat × Operand)} {e : Env} {a : Act} (_hT : TRel g e.t a.tmps) (h : SRel w0 f0 ms σ g w) {o : Oper} (ho : o.op = .buildSlice t len parts) {own : Bool} {r : LV × St} (hop : opStep P own o e.ev σ = some r) (hno : (own && (Nat.beq len 0 && parts.toList.isEmpty)) = true) :
    OpGood w0 f0 ms g r.1 r.2 ((execOp a.eval o).run P w) := by
  simp only [opStep, ho, hno, cond_true, Option.bind_eq_some_iff] at hop
  obtain ⟨el, hel, sz, hsz, _, hzb, hop⟩ := hop
  have hu := elemB_inv hel
  obtain ⟨inf, hinf, hins⟩ := info_of_size hsz
  simp only [Bool.and_eq_true, List.isEmpty_iff] at hno
  obtain ⟨_, hl, hp⟩ := hno
  have hl := Nat.eq_of_beq_eq_true hl
  subst hl
  split at hop
  · rename_i hpos
    cases hop
    have hrun : (execOp a.eval o).run P w = .ok (.value (.slice (some ⟨w.heap.size, 0, none⟩) 0 0)) (w.alloc (.cells #[] el)) := by
      simp [execOp, ho, Instr.buildSlice, run_underlying hu, sizeOf, typeInfo, hinf, newRow, hp, Instr.fill]
      congr 2
      exact Array.eq_empty_of_size_eq_zero (by simp)
    obtain ⟨g', k1, k2, k3⟩ := h.madeRow (xs := []) (e := el) (sz := sz) (n := 0) (cap := 0) (vs := []) (cur := #[]) ((Below.refl _ _).alloc (Nat.le_refl _) _) (heap_alloc_new w (.cells #[] el)) rfl (Nat.le_refl _) (Nat.zero_le _) (by simp) (by simp) (by simp [EsRel]) (by simp) hpos
    exact ⟨_, _, g', .inl hrun, k2, k1, k3⟩
  · cases hop
theorem sound_zeros (h : SRel w0 f0 ms σ g w) {t tx ty e : TypeId} {sz bs : Nat} {d x : LV} {vd vx : Value} (hd : VRel g d vd) (hx : VRel g x vx)
    (he : elemB P t = some e) (htx : isIntB P tx = true) (hsz : sizeB P e = some sz) (hbs : bytesB P e = some bs) {r : LV × St} (hop : zerosL P d x e sz bs σ = some r) :
    ∃ v' w' g', (Builtin.append_ #[t, tx] ty #[vd, vx]).run P w = .ok v' w' ∧ VRel g' r.1 v' ∧ g.le g' ∧ SRel w0 f0 ms r.2 g' w' := by
  have hu := elemB_inv he
  unfold zerosL at hop
  split at hop
  · rename_i kd m
    simp only [Option.bind_eq_some_iff] at hop
    obtain ⟨z, hz, hop⟩ := hop
    obtain ⟨i, zv, hi, hzv, hzs, hz1, hzr⟩ := zeroLV_inv hz
    split at hop
    · rename_i hc
      obtain ⟨hm0, hmx, hb128, hpos, hzl, _⟩ := hc
      cases hop
      have hmaxEls : maxEls = 1099511627776 := by decide
      have hib : i.bytes = bs := by
        simp only [bytesB, hi, Option.map_some, Option.some.injEq] at hbs
        exact hbs
      have his : i.size = sz := by
        simp only [sizeB, hi, Option.map_some, Option.some.injEq] at hsz
        exact hsz
      obtain ⟨kn, hkn⟩ : ∃ kn, P.underlying tx = some (.int kn) := by
        unfold isIntB at htx
        split at htx
        · exact ⟨_, ‹_›⟩
        · cases htx
      simp only [VRel] at hd
      subst hd
      rw [VRel_int hx]
      obtain ⟨n, rfl⟩ : ∃ n : Nat, m = (n : Int) := ⟨m.toNat, by omega⟩
      have hn0 : 0 < n := by omega
      have hnm : n ≤ 1099511627776 := by omega
      have hbytes : n * i.bytes ≤ 1099511627776 * 128 := Nat.mul_le_mul hnm (by omega)
      have hrun := Lib.run_append_nil_zeros (P := P) w t tx ty e i zv kd kn hu hkn hi hzv n hn0 (by omega) (by omega) (by omega)
      have hge := grownCap_ge w n 0 e
      have hcm : grownCap w n 0 e ≤ maxLen := grownCap_le_maxLen w n 0 e (by simp only [maxLen]; omega)
      have hzp : 0 < zv.cells.size := by omega
      obtain ⟨r1, r2, r3⟩ := zeros_rel (hzr g) hz1 hzp n
      have hzz : zv.cells.size = sz := by omega
      rw [hzz] at r1 r2
      have hbel : Below w.heap.size w (w.drew.alloc (.cells (Builtin.zeroCells zv.cells n ++ Builtin.zeroCells zv.cells (grownCap w n 0 e - n)) e)) := by
        refine ⟨rfl, rfl, rfl, by simp, fun k hk => heap_alloc_old w.drew _ k hk⟩
      obtain ⟨g', k1, k2, k3⟩ := h.madeRow (xs := List.replicate n z) (e := e) (sz := sz) (n := n) (cap := grownCap w n 0 e) (vs := (Builtin.zeroCells zv.cells n).toList) hbel (heap_alloc_new w.drew _) (by simp) hge hcm
        (by rw [Array.size_append, size_zeroCells, size_zeroCells, hzz, ← Nat.add_mul]; congr 1; omega)
        (by rw [Array.toList_append, ← r2]; exact List.take_left) r1 r2 hpos
      exact ⟨_, _, g', hrun, by simpa using k2, k1, by simpa using k3⟩
    · cases hop
  · cases hop

/-! ### a part of a row is written -/
theorem part_write (h : SRel w0 f0 ms σ g w) {d : LV} {vd : Value} {p : Nat × Row × Nat × Nat} (hd : VRel g d vd) (hp : partOf σ d = some p) (hwr : p.2.1.wr = true) {ys : List LV} {news : List Value} (hy : EsRel g ys p.2.1.sz news) (hn : news.length = ys.length * p.2.1.sz) (h1 : ∀ u ∈ news, u.oneCell' = true) (hfit : ys.length ≤ p.2.2.2 - p.2.2.1) :
    ∃ a' cap w', vd = .slice a' (p.2.2.2 - p.2.2.1) cap ∧ (match a' with | some ad => (storeCells ad news).run P w = .ok () w' | none => w' = w ∧ news = []) ∧ SRel w0 f0 ms { σ with rows := σ.rows.set p.1 { p.2.1 with xs := overL p.2.1.xs p.2.2.1 ys } } g w' := by
  obtain ⟨q, row, lo, hi, ao, cap, a', rfl, hrow, hlh, hhn, hph, rfl, ha, hcap⟩ := partOf_rel h hp hd
  simp only at *
  by_cases hne : ys = []
  · subst hne
    have hn0 : news = [] := List.eq_nil_of_length_eq_zero (by rw [hn]; simp)
    subst hn0
    refine ⟨a', cap - lo, w, rfl, ?_, ?_⟩
    · cases a' with
      | none => exact ⟨rfl, rfl⟩
      | some ad => simp [storeCells]
    · simp only [overL, List.append_nil, List.length_nil, Nat.add_zero, List.take_append_drop, set_same_row hrow]
      exact h
  · have hyl : 0 < ys.length := List.length_pos_iff.2 hne
    obtain ⟨v', vs, p1, p2, p3, p4, p5⟩ := h.row q row hrow
    rw [hph] at p1; cases p1
    rcases p2.2 with ⟨he, h0⟩ | ⟨k, cap', cur, he, hbk, hk, hnc, _, hcs, htk⟩
    · omega
    · cases he
      have ha' := ha (by omega)
      simp only [Option.map_some, addr_add, Nat.zero_add] at ha'
      subst ha'
      obtain ⟨f1, f2⟩ := h.setOver (ys := ys) (news := news) (lo := lo) hrow hwr hph (by omega) hy hn hk
      have hst := run_storeCells_at P k (lo * row.sz) row.e news 0 cur w hk (by simpa using f1) h1
      simp only [Nat.add_zero] at hst
      exact ⟨_, _, _, rfl, hst, f2⟩

theorem list2 {α : Type} {xs : Array α} {a b : α} (h : xs.toList = [a, b]) : xs = #[a, b] := by
  apply Array.ext'; simp [h]
theorem list1 {α : Type} {xs : Array α} {a : α} (h : xs.toList = [a]) : xs = #[a] := by
  apply Array.ext'; simp [h]

theorem sound_builtin (hTy : TyOK P) {b : Builtin} {args : Array Operand} {ats : Array TypeId} {e : Env} {a : Act} (hT : TRel g e.t a.tmps) (h : SRel w0 f0 ms σ g w) {o : Oper}
    (ho : o.op = .call { callee := .builtin b, args, argTypes := ats }) {r : LV × St} (hop : builtinL P b ats.toList (args.toList.map e.ev) σ = some r) :
    OpGood w0 f0 ms g r.1 r.2 ((execOp a.eval o).run P w) := by
  have hA : VsRel g (args.toList.map e.ev) (args.toList.map a.eval) := ev_map hT _
  have hmap : (args.map a.eval).toList = args.toList.map a.eval := by simp
  unfold builtinL at hop
  split at hop
  · rename_i t x h1 h2
    rw [h2] at hA
    simp only [VsRel] at hA
    obtain ⟨v, vs', hv, hx, rfl⟩ := hA
    have hargs := list1 (hmap.trans hv)
    have hats := list1 h1
    have run : ∀ z, (Builtin.len_ #[t] o.type #[v]).run P w = .ok z w → (execOp a.eval o).run P w = .ok (.value z) w := fun z hz => by
      simp [execOp, ho, resolve, invoke, Go.builtin, hargs, hats, hz]
    split at hop
    · rename_i s hu
      cases hop
      rw [VRel_str hx] at run
      exact good_same h (VRel_mkint _ _) (run _ (by simp [Builtin.len_, run_underlying hu, goInt]))
    · rename_i el hu
      simp only [Option.map_eq_some_iff] at hop
      obtain ⟨es, hes, rfl⟩ := hop
      obtain ⟨g', k1, k2, k3⟩ := elems_rel h hx hes
      simp only [VRel] at k3
      obtain ⟨ao, cap, hv', _⟩ := k3
      rw [hv'] at run
      exact good_same h (VRel_mkint _ _) (run _ (by simp [Builtin.len_, run_underlying hu, goInt]))
    · rename_i kt et m hu
      simp only [Option.map_eq_some_iff] at hop
      obtain ⟨q, hq, rfl⟩ := hop
      simp only [VRel] at hx
      obtain ⟨k, hk, rfl⟩ := hx
      obtain ⟨_, es, c, hob, hks, _⟩ := h.map m q k hq hk
      have hl := VsRel_length hks
      rw [List.length_map, Array.length_toList] at hl
      exact good_same h (VRel_mkint _ _) (run _ (by simp [Builtin.len_, run_underlying hu, goInt, getObj, hob, hl, Sem.run]))
    · cases hop
  · rename_i t h1 h2
    rw [h2] at hA
    simp only [VsRel] at hA
    obtain ⟨v, vs', hv, hx, rfl⟩ := hA
    have hargs := list1 (hmap.trans hv)
    have hats := list1 h1
    obtain ⟨el, hel, rfl⟩ := Option.map_eq_some_iff.1 hop
    have hu := elemB_inv hel
    simp only [VRel] at hx
    subst hx
    exact good_same h (VRel_mkint _ _) (by simp [execOp, ho, resolve, invoke, Go.builtin, hargs, hats, Builtin.cap_, run_underlying hu, goInt])
  · rename_i t tx d x h1 h2
    rw [h2] at hA
    simp only [VsRel] at hA
    obtain ⟨vd, vs', hv, hd, vx, vs2, rfl, hx, rfl⟩ := hA
    have hargs := list2 (hmap.trans hv)
    have hats := list2 h1
    simp only [Option.bind_eq_some_iff] at hop
    obtain ⟨el, he, sz, hsz, zs, hzb, bs, hbs, hop⟩ := hop
    split at hop
    · rename_i hint
      obtain ⟨v', w', g', r1, r2, r3, r4⟩ := sound_zeros (P := P) h (ty := o.type) hd hx he hint hsz hbs hop
      exact ⟨v', w', g', .inl (by simp [execOp, ho, resolve, invoke, Go.builtin, hargs, hats, r1]), r2, r3, r4⟩
    · obtain ⟨ys, hys, hop⟩ := Option.bind_eq_some_iff.1 hop
      split at hop
      · rename_i hc
        obtain ⟨v', w', g', r1, r2, r3, r4⟩ := sound_append hTy h (ty := o.type) hd hx he hsz hzb hbs hys hc.1 hc.2.1 hc.2.2 hop
        exact ⟨v', w', g', .inl (by simp [execOp, ho, resolve, invoke, Go.builtin, hargs, hats, r1]), r2, r3, r4⟩
      · cases hop
  · rename_i t tx d x h1 h2
    rw [h2] at hA
    simp only [VsRel] at hA
    obtain ⟨vd, vs', hv, hd, vx, vs2, rfl, hx, rfl⟩ := hA
    have hargs := list2 (hmap.trans hv)
    have hats := list2 h1
    simp only [Option.bind_eq_some_iff] at hop
    obtain ⟨el, he, sz, hsz, ys, hys, p, hp, hop⟩ := hop
    have hu := elemB_inv he
    obtain ⟨inf, hinf, hins⟩ := info_of_size hsz
    split at hop
    · rename_i hc
      obtain ⟨hwr, hps, hpos, hok⟩ := hc
      cases hop
      have hsrc := srcAt_rel h hx hys hok hpos
      obtain ⟨hlen, news, c1, c2, c3, c4⟩ := hsrc.first (min ys.length (p.2.2.2 - p.2.2.1)) (Nat.min_le_left _ _)
      have htk : ys.take (min ys.length (p.2.2.2 - p.2.2.1)) = ys.take (p.2.2.2 - p.2.2.1) := by
        rw [← List.take_take, List.take_of_length_le (by rw [List.length_take]; omega)]
      rw [htk] at c3
      have hyl : (ys.take (p.2.2.2 - p.2.2.1)).length = min ys.length (p.2.2.2 - p.2.2.1) := by rw [List.length_take, Nat.min_comm]
      obtain ⟨a', cap, w', hvd, hst, hs'⟩ := part_write (P := P) h hd hp hwr (ys := ys.take (p.2.2.2 - p.2.2.1)) (news := news) (by rw [hps]; exact c3) (by rw [hyl, hps]; exact c2) c4 (by rw [hyl]; exact Nat.min_le_right _ _)
      subst hvd
      have hmin : Nat.min ys.length (p.2.2.2 - p.2.2.1) = min ys.length (p.2.2.2 - p.2.2.1) := rfl
      refine ⟨.int .i64 (min ys.length (p.2.2.2 - p.2.2.1) : Nat), w', g, .inl ?_, ?_, G.le.refl g, hs'⟩
      · cases a' with
        | none =>
          obtain ⟨rfl, _⟩ := hst
          simp [execOp, ho, resolve, invoke, Go.builtin, hargs, hats, Builtin.copy_, run_underlying hu, hlen, sizeOf, typeInfo, hinf, hins, goInt, c1]
        | some ad =>
          simp only at hst
          simp [execOp, ho, resolve, invoke, Go.builtin, hargs, hats, Builtin.copy_, run_underlying hu, hlen, sizeOf, typeInfo, hinf, hins, goInt, c1, hst]
      · exact VRel_mkint _ _
    · cases hop
  · rename_i t d h1 h2
    rw [h2] at hA
    simp only [VsRel] at hA
    obtain ⟨vd, vs', hv, hd, rfl⟩ := hA
    have hargs := list1 (hmap.trans hv)
    have hats := list1 h1
    simp only [Option.bind_eq_some_iff] at hop
    obtain ⟨el, he, sz, hsz, z, hz, p, hp, hop⟩ := hop
    have hu := elemB_inv he
    obtain ⟨i, zv, hi, hzv, hzs, hz1, hzr⟩ := zeroLV_inv hz
    split at hop
    · rename_i hc
      obtain ⟨hwr, hps, hpos, hzl, hst⟩ := hc
      cases hop
      have his : i.size = sz := by
        simp only [sizeB, hi, Option.map_some, Option.some.injEq] at hsz
        exact hsz
      have hzz : zv.cells.size = sz := by omega
      obtain ⟨r1, r2, r3⟩ := zeros_rel (hzr g) hz1 (by omega) (p.2.2.2 - p.2.2.1)
      rw [hzz] at r1 r2
      obtain ⟨a', cap, w', hvd, hst, hs'⟩ := part_write (P := P) h hd hp hwr (ys := List.replicate (p.2.2.2 - p.2.2.1) z) (by rw [hps]; exact r1) (by rw [hps, List.length_replicate]; exact r2) r3 (by simp)
      subst hvd
      have hund : VRel g (.tuple []) Go.undef := by simp only [VRel]; exact ⟨#[], rfl, by simp [VsRel]⟩
      refine ⟨Go.undef, w', g, .inl ?_, hund, G.le.refl g, hs'⟩
      by_cases hn0 : p.2.2.2 - p.2.2.1 = 0
      · have hw : w' = w := by
          cases a' with
          | none => exact hst.1
          | some ad =>
            simp only [hn0] at hst
            have : (Builtin.zeroCells zv.cells 0).toList = [] := List.eq_nil_of_length_eq_zero (by simp [size_zeroCells])
            rw [this] at hst
            simp [storeCells] at hst
            exact hst.symm
        subst hw
        rw [hn0] at hargs
        cases a' <;> simp [execOp, ho, resolve, invoke, Go.builtin, hargs, hats, Builtin.clear_, run_underlying hu, Go.undef]
      · cases a' with
        | none =>
          have := congrArg List.length hst.2
          rw [r2] at this
          have h3 : 0 < (p.2.2.2 - p.2.2.1) * sz := Nat.mul_pos (by omega) hpos
          simp at this; omega
        | some ad =>
          obtain ⟨m, hm⟩ : ∃ m, p.2.2.2 - p.2.2.1 = m + 1 := ⟨p.2.2.2 - p.2.2.1 - 1, by omega⟩
          rw [hm] at hargs hst
          simp only at hst
          simp [execOp, ho, resolve, invoke, Go.builtin, hargs, hats, Builtin.clear_, run_underlying hu, Go.undef, zeroValue, typeInfo, hi, hzv, hst]
    · cases hop
  · rename_i t kt' m k h1 h2
    rw [h2] at hA
    simp only [VsRel] at hA
    obtain ⟨vm, vs', hv, hm, vk, vs2, rfl, hk, rfl⟩ := hA
    have hargs := list2 (hmap.trans hv)
    have hats := list2 h1
    simp only [Option.bind_eq_some_iff, Option.map_eq_some_iff] at hop
    obtain ⟨⟨el, str⟩, hme, mp, hmp, f, hf, hop⟩ := hop
    obtain ⟨w', r1, r2⟩ := sound_delete (P := P) (kt' := kt') (ty := o.type) h hm hk hme hmp hf
    have hund : VRel g (.tuple []) Go.undef := by simp only [VRel]; exact ⟨#[], rfl, by simp [VsRel]⟩
    refine ⟨Go.undef, w', g, .inl (by simp [execOp, ho, resolve, invoke, Go.builtin, hargs, hats, r1, Go.undef]), ?_, G.le.refl g, ?_⟩
    · rw [← hop]; cases f <;> exact hund
    · rw [← hop]; cases f <;> exact r2
  · rename_i ats' k x k' y h1 h2
    rw [h2] at hA
    simp only [VsRel] at hA
    obtain ⟨vd, vs', hv, hd, vx, vs2, rfl, hx, rfl⟩ := hA
    have hargs := list2 (hmap.trans hv)
    rw [VRel_int (g := g) hd, VRel_int (g := g) hx] at hargs
    split at hop
    · rename_i hk
      subst hk
      cases hop
      exact good_same h (VRel_mkint _ _) (by simp [execOp, ho, resolve, invoke, Go.builtin, hargs, Builtin.min_, Builtin.min2])
    · cases hop
  · rename_i ats' k x k' y h1 h2
    rw [h2] at hA
    simp only [VsRel] at hA
    obtain ⟨vd, vs', hv, hd, vx, vs2, rfl, hx, rfl⟩ := hA
    have hargs := list2 (hmap.trans hv)
    rw [VRel_int (g := g) hd, VRel_int (g := g) hx] at hargs
    split at hop
    · rename_i hk
      subst hk
      cases hop
      exact good_same h (VRel_mkint _ _) (by simp [execOp, ho, resolve, invoke, Go.builtin, hargs, Builtin.max_, Builtin.max2])
    · cases hop
  · cases hop

end
end Go.Proofs.YticpcfchhcjjeaaGreat.LI
