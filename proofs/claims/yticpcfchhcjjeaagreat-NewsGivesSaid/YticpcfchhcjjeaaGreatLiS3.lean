/-
  A row that grows, is frozen, is written; what is cut off. No program is named here.
-/
import Derived.Test.YticpcfchhcjjeaaGreatLiS2
import Derived.Deep.AppendSrc
namespace Go.Proofs.YticpcfchhcjjeaaGreat.LI
open Go Go.RowKit

theorem EsRel_append {g : G} : ∀ {xs ys : List LV} {sz : Nat} {vs ws : List Value}, EsRel g xs sz vs → vs.length = xs.length * sz → EsRel g ys sz ws → EsRel g (xs ++ ys) sz (vs ++ ws)
  | [], ys, sz, vs, ws, h, hl, k => by
    have : vs = [] := List.eq_nil_of_length_eq_zero (by simpa using hl)
    subst this; exact k
  | x :: xs, ys, sz, vs, ws, h, hl, k => by
    simp only [EsRel, List.cons_append] at h ⊢
    obtain ⟨⟨u, h1, h2, h3⟩, h4⟩ := h
    have hge : sz ≤ vs.length := by rw [hl, List.length_cons, Nat.add_mul]; omega
    refine ⟨⟨u, h1, by rw [List.take_append_of_le_length hge]; exact h2, h3⟩, ?_⟩
    rw [List.drop_append_of_le_length hge]
    exact EsRel_append h4 (by rw [List.length_drop, hl, List.length_cons, Nat.add_mul]; omega) k

theorem EsRel_get {g : G} : ∀ {xs : List LV} {sz : Nat} {vs : List Value}, EsRel g xs sz vs → ∀ {i : Nat} {x : LV}, xs[i]? = some x → ∃ u, VRel g x u ∧ u.cells.toList = (vs.drop (i * sz)).take sz ∧ u.cells.size = sz ∧ ∀ c ∈ u.cells.toList, c.oneCell' = true
  | [], sz, vs, h, i, x, hx => by simp at hx
  | y :: xs, sz, vs, h, i, x, hx => by
    simp only [EsRel] at h
    obtain ⟨⟨u, h1, h2, h3⟩, h4⟩ := h
    cases i with
    | zero => simp at hx; subst hx; exact ⟨u, h1, by simpa using h2, h3⟩
    | succ i =>
      obtain ⟨u', k1, k2, k3⟩ := EsRel_get h4 (i := i) (by simpa using hx)
      refine ⟨u', k1, ?_, k3⟩
      rw [k2, List.drop_drop, Nat.add_mul]
      congr 2
      omega

/-- append to a row of the call's own, from whatever source: where the new row lies, and what else is as it was. -/
theorem run_append_row {P : Program} (w : World) (base : Nat) (t tx ty e : TypeId) (i : TypeInfo) (z : Value) (ht : P.underlying t = some (.slice e)) (hi : P.info? e = some i) (hz : i.zero = some z)
    (hzs : z.cells.size = i.size) (v : Value) (n : Nat) (xs : List Value) (hown : w.ownsRow base e i.size v n xs) (x : Value) (m : Nat) (news : List Value) (hs : Src P i.size tx x m news w)
    (h63 : n + m ≤ maxLen) (hbytes : (n + m) * i.bytes ≤ 140737488355328) (hbase : base ≤ w.heap.size) :
    ∃ v' w', (Builtin.append_ #[t, tx] ty #[v, x]).run P w = .ok v' w' ∧ w'.ownsRow base e i.size v' (n + m) (xs ++ news) ∧
      ((v'.ownBlock = v.ownBlock ∧ w.grownBy w' v.ownBlock) ∨ (v'.ownBlock = some w.heap.size ∧ w.grownBy w' none)) ∧ (m = 0 → v' = v ∧ w' = w) := by
  have hsmall : n + m ≤ 9223372036854775807 := by simp only [maxLen] at h63; omega
  have hlen : (xs ++ news).length = (n + m) * i.size := by rw [List.length_append, hown.1, hs.newsLen, Nat.add_mul]
  have grown : ∀ (old : Nat), old < n + m →
      (w.drew.alloc (.cells ((xs ++ news).toArray ++ Builtin.zeroCells z.cells (grownCap w (n + m) old e - (n + m))) e)).ownsRow base e i.size
        (.slice (some ⟨w.heap.size, 0, none⟩) (n + m) (grownCap w (n + m) old e)) (n + m) (xs ++ news) := by
    intro old ho
    have hge := grownCap_ge w (n + m) old e
    have hcm : grownCap w (n + m) old e ≤ maxLen := grownCap_le_maxLen w (n + m) old e h63
    refine ⟨hlen, .inr ⟨w.heap.size, _, _, rfl, hbase, heap_alloc_new w.drew _, hge, hcm, ?_, ?_⟩⟩
    · rw [Array.size_append, size_zeroCells, hzs, List.size_toArray, hlen, ← Nat.add_mul]
      congr 1
      omega
    · rw [Array.toList_append, List.toList_toArray, ← hlen]
      exact List.take_left
  have gnone : ∀ o, w.grownBy (w.drew.alloc o) none := fun o => ⟨rfl, rfl, rfl, by simp, fun k hk _ => heap_alloc_old w.drew o k hk⟩
  by_cases hm : m = 0
  · subst hm
    have hn0 : news = [] := List.eq_nil_of_length_eq_zero (by rw [hs.newsLen]; simp)
    subst hn0
    refine ⟨v, w, ?_, by simpa using hown, .inl ⟨rfl, ⟨rfl, rfl, rfl, Nat.le_refl _, fun _ _ _ => rfl⟩⟩, fun _ => ⟨rfl, rfl⟩⟩
    rcases hown.2 with ⟨rfl, rfl⟩ | ⟨g, cap, cur, rfl, _, _, hnc, _⟩
    · rcases hs.kind with ⟨e', hk⟩ | hk <;> simp [Builtin.append_, run_underlying ht, run_underlying hk, sizeOf, typeInfo, hi, hs.len, hs.cells]
    · rcases hs.kind with ⟨e', hk⟩ | hk <;> simp [Builtin.append_, run_underlying ht, run_underlying hk, sizeOf, typeInfo, hi, hs.len, hnc, hs.cells, storeCells]
  · rcases hown.2 with ⟨rfl, rfl⟩ | ⟨g, cap, cur, rfl, hbg, hg, hnc, hcm, hcs, htake⟩
    · have hx : xs = [] := List.eq_nil_of_length_eq_zero (by simpa using hown.1)
      subst hx
      have hold : (Builtin.firstCells i.size 0 (.slice none 0 0)).run P w.drew = .ok ([] : List Value).toArray w.drew := by simp [Builtin.firstCells]
      have hr := run_append_grow_src (P := P) w t tx ty e i z ht hi hz none 0 0 [] hold x m news hs (by omega) (by omega) (growslice_fits (by omega) hbytes)
      exact ⟨_, _, hr, grown 0 (by omega), .inr ⟨rfl, gnone _⟩, fun h => absurd h hm⟩
    · by_cases hroom : n + m ≤ cap
      · have hfit : n * i.size + news.length ≤ cur.size := by rw [hs.newsLen, hcs, ← Nat.add_mul]; exact Nat.mul_le_mul_right _ hroom
        have hst := run_storeCells_at P g (n * i.size) e news 0 cur w hg (by simpa using hfit) hs.one
        simp only [Nat.add_zero] at hst
        have hr : (Builtin.append_ #[t, tx] ty #[.slice (some ⟨g, 0, none⟩) n cap, x]).run P w =
            .ok (.slice (some ⟨g, 0, none⟩) (n + m) cap) (w.setRow g (cur.toList.take (n * i.size) ++ news ++ cur.toList.drop (n * i.size + news.length)).toArray) := by
          rcases hs.kind with ⟨e', hk⟩ | hk <;> simp [Builtin.append_, run_underlying ht, run_underlying hk, sizeOf, typeInfo, hi, hs.len, hroom, hs.cells, Addr.add_lit, hst]
        refine ⟨_, _, hr, ⟨hlen, .inr ⟨g, cap, _, rfl, hbg, setRow_heap w g cur _ e _ hg, hroom, hcm, ?_, ?_⟩⟩, .inl ⟨rfl, ⟨rfl, rfl, rfl, by simp, fun k _ hk => setRow_other w g k _ (fun e => hk (by simp [Value.ownBlock, e]))⟩⟩, fun h => absurd h hm⟩
        · simp only [List.size_toArray, List.length_append, List.length_take, List.length_drop, Array.length_toList]
          omega
        · rw [htake, ← hlen]
          exact List.take_left
      · have holds : ∀ j u, xs[j]? = some u → w.cell? ((⟨g, 0, none⟩ : Addr).add j) = some u := hown.cells (g := g) rfl
        have hold : (Builtin.firstCells i.size n (.slice (some ⟨g, 0, none⟩) n cap)).run P w.drew = .ok xs.toArray w.drew := run_firstCells_some (P := P) w.drew i.size n ⟨g, 0, none⟩ n cap xs hown.1 (by simpa using holds)
        have hr := run_append_grow_src (P := P) w t tx ty e i z ht hi hz (some ⟨g, 0, none⟩) n cap xs hold x m news hs (by omega) (by omega) (growslice_fits (by omega) hbytes)
        exact ⟨_, _, hr, grown cap (by omega), .inr ⟨rfl, gnone _⟩, fun h => absurd h hm⟩

/-- The world behind an append to a row: other blocks stay. -/
theorem SRel.growRow {w0 : World} {f0 : Nat → List Value} {ms : List Nat} {σ : St} {g : G} {w w' : World} (h : SRel w0 f0 ms σ g w) {r : Nat} {row : Row} {v v' : Value} {ys : List LV} {news : List Value}
    (hr : σ.rows[r]? = some row) (hp : g.phys r row.xs.length = some v) (hy : ys ≠ [])
    (hown : ∀ vs, w.ownsRow w0.heap.size row.e row.sz v row.xs.length vs → w'.ownsRow w0.heap.size row.e row.sz v' (row.xs.length + ys.length) (vs ++ news))
    (hgat : (v'.ownBlock = v.ownBlock ∧ w.grownBy w' v.ownBlock) ∨ (v'.ownBlock = some w.heap.size ∧ w.grownBy w' none)) (hn : EsRel g ys row.sz news) :
    SRel w0 f0 ms { σ with rows := σ.rows.set r { row with xs := row.xs ++ ys } } (g.addPhys r (row.xs.length + ys.length) v') w' := by
  have hat : v'.ownBlock = v.ownBlock ∨ v'.ownBlock = some w.heap.size := hgat.imp (·.1) (·.1)
  have hg : w.grownBy w' v.ownBlock := by
    rcases hgat with ⟨_, hg⟩ | ⟨_, hg⟩
    · exact hg
    · exact ⟨hg.os, hg.tape, hg.output, hg.size, fun q hq _ => hg.block q hq (by simp)⟩
  have hrl : r < σ.rows.length := (List.getElem?_eq_some_iff.1 hr).1
  have hyl : 0 < ys.length := List.length_pos_iff.2 hy
  have hnone : g.phys r (row.xs.length + ys.length) = none := by
    cases hq : g.phys r (row.xs.length + ys.length) with
    | none => rfl
    | some u =>
      obtain ⟨row', hr', hle⟩ := h.phys _ _ _ hq
      rw [hr] at hr'; cases hr'; omega
  have hgl := g.le_addPhys r (row.xs.length + ys.length) v' (.inl hnone)
  obtain ⟨v0, vs, e1, e2, e3, e4, e5⟩ := h.row r row hr
  rw [hp] at e1; cases e1
  have hown' := hown vs e2
  -- blocks that are not the row's
  have keep : ∀ q o, w.heap[q]? = some o → v.ownBlock ≠ some q → w'.heap[q]? = some o := fun q o ho hne => (hg.block q (heap_lt ho) (fun e => hne e.symm)).trans ho
  have hbel : Below w0.heap.size w w' := by
    refine ⟨hg.os, hg.tape, hg.output, hg.size, fun q hq => ?_⟩
    by_cases hlt : q < w.heap.size
    · refine hg.block q hlt (fun e => ?_)
      have := (e2.lt q e.symm).1; omega
    · have := h.below.size; omega
  have hrows : ∀ (r' : Nat) (row' : Row), (σ.rows.set r { row with xs := row.xs ++ ys })[r']? = some row' → (r' = r ∧ row' = { row with xs := row.xs ++ ys }) ∨ (r' ≠ r ∧ σ.rows[r']? = some row') := fun r' row' hr' => by
    by_cases he : r = r'
    · subst he
      rw [List.getElem?_set_self hrl] at hr'
      exact .inl ⟨rfl, (Option.some.inj hr').symm⟩
    · rw [List.getElem?_set_ne he] at hr'
      exact .inr ⟨fun x => he x.symm, hr'⟩
  have hphys : ∀ r' n, r' ≠ r → (g.addPhys r (row.xs.length + ys.length) v').phys r' n = g.phys r' n := fun r' n hne => by
    simp only [G.addPhys]; rw [if_neg (fun x => hne x.1)]
  have hlen : vs.length = row.xs.length * row.sz := e2.1
  exact {
    below := h.below.trans hbel
    f0 := h.f0
    fz := fun b hb => by
      obtain ⟨cs, T, fr, h1, h2⟩ := h.fz b hb
      by_cases hvb : v.ownBlock = some b
      · have hpre : g.fz b <+: vs := (e5 b hvb).2.1
        rcases hgat with ⟨hat, _⟩ | ⟨hat, hgn⟩
        · obtain ⟨g', cap, cur, rfl, _, k3, _, _, _, k7⟩ : ∃ g' cap cur, v' = .slice (some ⟨g', 0, none⟩) (row.xs.length + ys.length) cap ∧ w0.heap.size ≤ g' ∧ w'.heap[g']? = some (.cells cur row.e (0, 0)) ∧ row.xs.length + ys.length ≤ cap ∧ cap ≤ maxLen ∧ cur.size = cap * row.sz ∧ cur.toList.take ((row.xs.length + ys.length) * row.sz) = vs ++ news := by
            rcases hown'.2 with ⟨_, hz⟩ | hx
            · omega
            · exact hx
          have : g' = b := by rw [hvb] at hat; simpa [Value.ownBlock] using hat
          subst this
          refine ⟨cur, row.e, (0, 0), k3, hpre.trans ?_⟩
          refine (List.prefix_append vs news).trans ?_
          rw [← k7]; exact List.take_prefix _ _
        · exact ⟨cs, T, fr, (hgn.block b (heap_lt h1) (by simp)).trans h1, h2⟩
      · exact ⟨cs, T, fr, keep b _ h1 hvb, h2⟩
    boxl := h.boxl
    box := fun i cells q c1 c2 => by
      obtain ⟨h3, h4, cs2, T2, h5, h6, h7⟩ := h.box i cells q c1 c2
      exact ⟨h3, h4, cs2, T2, keep q _ h5 (fun hx => (e5 q hx).1 (List.mem_iff_getElem?.2 ⟨i, c2⟩)), VsRel_mono hgl _ _ h6, h7⟩
    nodup := h.nodup
    row := fun r' row' hr' => by
      rcases hrows r' row' hr' with ⟨rfl, rfl⟩ | ⟨hne, hr''⟩
      · refine ⟨v', vs ++ news, by simp [G.addPhys], by simpa using hown', EsRel_mono hgl _ _ _ _ (List.prefix_refl _) (EsRel_append e3 hlen hn), e4, fun q hq => ?_⟩
        rcases hat with hat | hat
        · obtain ⟨f1, f2, f3⟩ := e5 q (hat ▸ hq)
          exact ⟨f1, f2.trans (List.prefix_append _ _), f3⟩
        · rw [hat] at hq
          have hq' : q = w.heap.size := (Option.some.inj hq).symm
          subst hq'
          have hf : g.fz w.heap.size = [] := h.fz_new (Nat.le_refl _)
          refine ⟨fun hm => ?_, by show g.fz w.heap.size <+: _; rw [hf]; exact List.nil_prefix, fun _ => hf⟩
          have := h.box_lt hm; omega
      · obtain ⟨v2, vs2, c1, c2, c3, c4, c5⟩ := h.row r' row' hr''
        refine ⟨v2, vs2, by rw [hphys r' _ hne]; exact c1, c2.kept hg ?_, EsRel_mono hgl _ _ _ _ (List.prefix_refl _) c3, c4, c5⟩
        rcases h.apart r' r row' row v2 v hne hr'' hr c1 hp with hx | hx
        · exact .inl hx
        · exact .inr hx
    apart := fun r1 r2 row1 row2 u1 u2 hne h1 h2 p1 p2 => by
      rcases hrows r1 row1 h1 with ⟨rfl, rfl⟩ | ⟨hn1, h1'⟩
      · rcases hrows r2 row2 h2 with ⟨rfl, rfl⟩ | ⟨hn2, h2'⟩
        · exact absurd rfl hne
        · rw [hphys r2 _ hn2] at p2
          simp [G.addPhys] at p1
          subst p1
          obtain ⟨v3, vs3, c1, c2, _⟩ := h.row r2 row2 h2'
          rw [p2] at c1; cases c1
          rcases hat with hat | hat
          · rw [hat]; exact h.apart r1 r2 row row2 v u2 hne hr h2' hp p2
          · rw [hat]
            refine .inr fun he => ?_
            have := (c2.lt _ he.symm).2; omega
      · rw [hphys r1 _ hn1] at p1
        rcases hrows r2 row2 h2 with ⟨rfl, rfl⟩ | ⟨hn2, h2'⟩
        · simp [G.addPhys] at p2
          subst p2
          obtain ⟨v3, vs3, c1, c2, _⟩ := h.row r1 row1 h1'
          rw [p1] at c1; cases c1
          rcases hat with hat | hat
          · rw [hat]; exact h.apart r1 r2 row1 row u1 v hne h1' hr p1 hp
          · rw [hat]
            cases hu : u1.ownBlock with
            | none => exact .inl rfl
            | some q =>
              refine .inr fun he => ?_
              have := (c2.lt q hu).2
              have : q = w.heap.size := Option.some.inj he
              omega
        · rw [hphys r2 _ hn2] at p2
          exact h.apart r1 r2 row1 row2 u1 u2 hne h1' h2' p1 p2
    phys := fun r' n u hu => by
      by_cases hc : r' = r ∧ n = row.xs.length + ys.length
      · obtain ⟨rfl, rfl⟩ := hc
        exact ⟨_, List.getElem?_set_self hrl, by simp⟩
      · simp only [G.addPhys] at hu
        rw [if_neg hc] at hu
        obtain ⟨row', hr', hle⟩ := h.phys r' n u hu
        by_cases he : r = r'
        · subst he
          rw [hr] at hr'; cases hr'
          exact ⟨_, List.getElem?_set_self hrl, by simp; omega⟩
        · exact ⟨row', by rw [List.getElem?_set_ne he]; exact hr', hle⟩
    loopl := h.loopl
    loop := fun l lr q c1 c2 => by
      obtain ⟨h3, rec, h4, h5⟩ := h.loop l lr q c1 c2
      refine ⟨h3, rec, keep q _ h4 (fun hx => ?_), LoopRel_mono hgl h5⟩
      rcases e2.2 with ⟨rfl, _⟩ | ⟨g', cap, cur, rfl, _, k3, _⟩
      · simp [Value.ownBlock] at hx
      · simp [Value.ownBlock] at hx; subst hx; rw [k3] at h4; cases h4
    lnodup := h.lnodup
    mapl := h.mapl
    map := fun m q p c1 c2 => by
      obtain ⟨h3, es, c, h4, h5, h6⟩ := h.map m q p c1 c2
      refine ⟨h3, es, c, keep p _ h4 (fun hx => ?_), VsRel_mono hgl _ _ h5, VsRel_mono hgl _ _ h6⟩
      rcases e2.2 with ⟨rfl, _⟩ | ⟨g', cap, cur, rfl, _, k3, _⟩
      · simp [Value.ownBlock] at hx
      · simp [Value.ownBlock] at hx; subst hx; rw [k3] at h4; cases h4
    qnodup := h.qnodup
    marks := fun q hq => by
      obtain ⟨m1, m2⟩ := h.marks q hq
      refine ⟨m1, keep q _ m2 (fun hx => ?_)⟩
      rcases e2.2 with ⟨rfl, _⟩ | ⟨g', cap, cur, rfl, _, k3, _⟩
      · simp [Value.ownBlock] at hx
      · simp [Value.ownBlock] at hx; subst hx; rw [k3] at m2; cases m2
    mnodup := h.mnodup }


/-! ### freezing -/
def G.addFz (g : G) (k : Nat) (vs : List Value) : G := { g with fz := fun b => if b = k then vs else g.fz b }

/-- From g to g' more is told to change no more, above w0; nothing else is told. -/
structure G.only (w0 : World) (g g' : G) : Prop where
  fz : ∀ b, g.fz b <+: g'.fz b
  low : ∀ b, b < w0.heap.size → g'.fz b = g.fz b
  box : g'.box = g.box
  phys : g'.phys = g.phys
  loop : g'.loop = g.loop
  map : g'.map = g.map
theorem G.only.le {w0 : World} {g g' : G} (h : g.only w0 g') : g.le g' :=
  ⟨h.fz, by rw [h.box]; exact List.prefix_refl _, fun r n v e => by rw [h.phys]; exact e, by rw [h.loop]; exact List.prefix_refl _, by rw [h.map]; exact List.prefix_refl _⟩
theorem G.only.refl (w0 : World) (g : G) : g.only w0 g := ⟨fun _ => List.prefix_refl _, fun _ _ => rfl, rfl, rfl, rfl, rfl⟩
theorem G.only.trans {w0 : World} {a b c : G} (h : a.only w0 b) (k : b.only w0 c) : a.only w0 c :=
  ⟨fun x => (h.fz x).trans (k.fz x), fun x hx => (k.low x hx).trans (h.low x hx), k.box.trans h.box, k.phys.trans h.phys, k.loop.trans h.loop, k.map.trans h.map⟩

theorem frz_row (σ : St) (rs : List Nat) : ∀ (r : Nat) (row : Row), (frzS σ rs).rows[r]? = some row → ∃ row0, σ.rows[r]? = some row0 ∧ row0.xs = row.xs ∧ row0.e = row.e ∧ row0.sz = row.sz ∧ (row.wr = true → row0.wr = true ∧ row = row0) := by
  induction rs generalizing σ with
  | nil => intro r row h; exact ⟨row, h, rfl, rfl, rfl, fun h => ⟨h, rfl⟩⟩
  | cons q rs ih =>
    intro r row h
    simp only [frzS] at h
    obtain ⟨row1, h1, h2, h3, h4, h5⟩ := ih _ r row h
    cases hq : σ.rows[q]? with
    | none => simp only [hq] at h1; exact ⟨row1, h1, h2, h3, h4, h5⟩
    | some row2 =>
      simp only [hq] at h1
      by_cases he : q = r
      · subst he
        rw [List.getElem?_set_self (List.getElem?_eq_some_iff.1 hq).1] at h1
        cases h1
        exact ⟨row2, hq, h2, h3, h4, fun hw => by have := h5 hw; simp at this⟩
      · rw [List.getElem?_set_ne he] at h1
        exact ⟨row1, h1, h2, h3, h4, h5⟩
theorem frz_row' (σ : St) (rs : List Nat) : ∀ (r : Nat) (row0 : Row), σ.rows[r]? = some row0 → ∃ row, (frzS σ rs).rows[r]? = some row ∧ row.xs = row0.xs ∧ row.e = row0.e ∧ row.sz = row0.sz ∧ (r ∉ rs → row = row0) := by
  induction rs generalizing σ with
  | nil => intro r row h; exact ⟨row, h, rfl, rfl, rfl, fun _ => rfl⟩
  | cons q rs ih =>
    intro r row0 h
    simp only [frzS]
    cases hq : σ.rows[q]? with
    | none =>
      obtain ⟨row, k1, k2, k3, k4, k5⟩ := ih { σ with rows := σ.rows } r row0 h
      exact ⟨row, k1, k2, k3, k4, fun hr => k5 (fun x => hr (List.mem_cons_of_mem _ x))⟩
    | some row2 =>
      by_cases he : q = r
      · subst he
        rw [h] at hq; cases hq
        obtain ⟨row, k1, k2, k3, k4, k5⟩ := ih { σ with rows := σ.rows.set q { row0 with wr := false } } q { row0 with wr := false } (List.getElem?_set_self (List.getElem?_eq_some_iff.1 h).1)
        exact ⟨row, k1, k2, k3, k4, fun hr => absurd List.mem_cons_self hr⟩
      · obtain ⟨row, k1, k2, k3, k4, k5⟩ := ih { σ with rows := σ.rows.set q { row2 with wr := false } } r row0 (by rw [List.getElem?_set_ne he]; exact h)
        exact ⟨row, k1, k2, k3, k4, fun hr => k5 (fun x => hr (List.mem_cons_of_mem _ x))⟩
theorem frz_boxes (σ : St) (rs : List Nat) : (frzS σ rs).boxes = σ.boxes := by
  induction rs generalizing σ with
  | nil => rfl
  | cons q rs ih => simp only [frzS]; rw [ih]
theorem frz_loops (σ : St) (rs : List Nat) : (frzS σ rs).loops = σ.loops := by
  induction rs generalizing σ with
  | nil => rfl
  | cons q rs ih => simp only [frzS]; rw [ih]
theorem frz_maps (σ : St) (rs : List Nat) : (frzS σ rs).maps = σ.maps := by
  induction rs generalizing σ with
  | nil => rfl
  | cons q rs ih => simp only [frzS]; rw [ih]
theorem frz_len (σ : St) (rs : List Nat) : (frzS σ rs).rows.length = σ.rows.length := by
  induction rs generalizing σ with
  | nil => rfl
  | cons q rs ih => simp only [frzS]; rw [ih]; split <;> simp

theorem addr_add (b o n : Nat) : (⟨b, o, none⟩ : Addr).add n = ⟨b, o + n, none⟩ := by
  unfold Addr.add; split
  · rename_i h; subst h; rfl
  · rfl
theorem EsRel_drop {g : G} : ∀ {xs : List LV} {sz : Nat} {vs : List Value} (n : Nat), EsRel g xs sz vs → EsRel g (xs.drop n) sz (vs.drop (n * sz))
  | xs, sz, vs, 0, h => by simpa using h
  | [], sz, vs, n + 1, h => by simp [EsRel]
  | x :: xs, sz, vs, n + 1, h => by
    simp only [EsRel] at h
    have := EsRel_drop n h.2
    rw [List.drop_drop] at this
    have e1 : (n + 1) * sz = sz + n * sz := by rw [Nat.add_mul]; omega
    rw [e1]; simpa using this
theorem EsRel_take {g : G} : ∀ {xs : List LV} {sz : Nat} {vs : List Value} (n : Nat), EsRel g xs sz vs → EsRel g (xs.take n) sz vs
  | xs, sz, vs, 0, h => by simp [EsRel]
  | [], sz, vs, n + 1, h => by simp [EsRel]
  | x :: xs, sz, vs, n + 1, h => by
    simp only [EsRel] at h
    simp only [List.take_succ_cons, EsRel]
    exact ⟨h.1, EsRel_take n h.2⟩

/-- The row r is frozen: it may be read as the list that it holds. -/
def Frozen (g g' : G) (σ : St) (r : Nat) : Prop := ∀ (row : Row) (v : Value), σ.rows[r]? = some row → g.phys r row.xs.length = some v →
  ∃ a cap, v = .slice a row.xs.length cap ∧ row.xs.length ≤ cap ∧ (row.xs = [] ∨ ∃ b, 0 < row.sz ∧ a = some ⟨b, 0, none⟩ ∧ EsRel g' row.xs row.sz (g'.fz b))
theorem Frozen.slice {g g' : G} {σ : St} {r : Nat} (h : Frozen g g' σ r) {row : Row} {v : Value} (hr : σ.rows[r]? = some row) (hp : g.phys r row.xs.length = some v) : VRel g' (.slice row.xs) v := by
  obtain ⟨a, cap, h1, h2, h3⟩ := h row v hr hp
  simp only [VRel]
  refine ⟨a, cap, h1, h2, ?_⟩
  rcases h3 with h3 | ⟨b, k1, k2, k3⟩
  · exact .inl h3
  · exact .inr ⟨b, 0, row.sz, k1, k2, by simpa using k3⟩
theorem Frozen.part {g g' : G} {σ : St} {r : Nat} (h : Frozen g g' σ r) {row : Row} {lo hi : Nat} {v : Value} (hr : σ.rows[r]? = some row) (hv : VRel g (.mview r row.xs.length lo hi row.sz) v) : VRel g' (.slice ((row.xs.drop lo).take (hi - lo))) v := by
  simp only [VRel] at hv
  obtain ⟨a, cap, a', h1, rfl, h3, h4, h5⟩ := hv
  obtain ⟨a2, cap2, e1, e2, e3⟩ := h row _ hr h1
  cases e1
  have hlen : ((row.xs.drop lo).take (hi - lo)).length = hi - lo := by rw [List.length_take, List.length_drop]; omega
  simp only [VRel]
  refine ⟨a', cap - lo, by rw [hlen], by omega, ?_⟩
  by_cases hz : hi - lo = 0
  · exact .inl (List.eq_nil_of_length_eq_zero (by rw [hlen]; exact hz))
  · rcases e3 with e3 | ⟨b, k1, rfl, k3⟩
    · rw [e3] at h4; simp at h4; omega
    · refine .inr ⟨b, lo * row.sz, row.sz, k1, ?_, EsRel_take _ (EsRel_drop _ k3)⟩
      rw [h5 (by omega)]
      simp [addr_add]

theorem SRel.freeze1 {w0 : World} {f0 : Nat → List Value} {ms : List Nat} {σ : St} {g : G} {w : World} (h : SRel w0 f0 ms σ g w) {r : Nat} {row : Row} (hr : σ.rows[r]? = some row) :
    ∃ g', g.only w0 g' ∧ SRel w0 f0 ms { σ with rows := σ.rows.set r { row with wr := false } } g' w ∧ ∀ v, g.phys r row.xs.length = some v → ∃ a cap, v = .slice a row.xs.length cap ∧ row.xs.length ≤ cap ∧ (row.xs = [] ∨ ∃ b, 0 < row.sz ∧ a = some ⟨b, 0, none⟩ ∧ EsRel g' row.xs row.sz (g'.fz b)) := by
  obtain ⟨v, vs, e1, e2, e3, e4, e5⟩ := h.row r row hr
  have hrl : r < σ.rows.length := (List.getElem?_eq_some_iff.1 hr).1
  have hrows : ∀ (r' : Nat) (row' : Row), (σ.rows.set r { row with wr := false })[r']? = some row' → ∃ row0, σ.rows[r']? = some row0 ∧ row0.xs = row'.xs ∧ row0.e = row'.e ∧ row0.sz = row'.sz ∧ (row'.wr = true → row0.wr = true ∧ r' ≠ r) := fun r' row' hr' => by
    by_cases he : r = r'
    · subst he
      rw [List.getElem?_set_self hrl] at hr'
      cases hr'
      exact ⟨row, hr, rfl, rfl, rfl, fun h => by simp at h⟩
    · rw [List.getElem?_set_ne he] at hr'
      exact ⟨row', hr', rfl, rfl, rfl, fun h => ⟨h, fun x => he x.symm⟩⟩
  -- what is told of g' once the new frozen part is chosen
  have main : ∀ g' : G, g.only w0 g' → (∀ b, g'.fz b = g.fz b ∨ (v.ownBlock = some b ∧ g'.fz b = vs)) → FzOK g' w →
      SRel w0 f0 ms { σ with rows := σ.rows.set r { row with wr := false } } g' w := fun g' hg hb hfz => {
    below := h.below
    f0 := fun b hb' => (hg.low b hb').trans (h.f0 b hb')
    fz := hfz
    boxl := by rw [hg.box]; exact h.boxl
    box := fun i cells q c1 c2 => by
      rw [hg.box] at c2
      obtain ⟨h3, h4, cs2, T2, h5, h6, h7⟩ := h.box i cells q c1 c2
      refine ⟨h3, ?_, cs2, T2, h5, VsRel_mono hg.le _ _ h6, h7⟩
      rcases hb q with hb | ⟨hb, _⟩
      · rw [hb]; exact h4
      · exact absurd (List.mem_iff_getElem?.2 ⟨i, c2⟩) (e5 q hb).1
    nodup := by rw [hg.box]; exact h.nodup
    row := fun r' row' hr' => by
      obtain ⟨row0, k1, k2, k3, k4, k5⟩ := hrows r' row' hr'
      obtain ⟨v2, vs2, c1, c2, c3, c4, c5⟩ := h.row r' row0 k1
      refine ⟨v2, vs2, by rw [hg.phys, ← k2]; exact c1, by rw [← k2, ← k3, ← k4]; exact c2, by rw [← k2, ← k4]; exact EsRel_mono hg.le _ _ _ _ (List.prefix_refl _) c3, by rw [← k4]; exact c4, fun q hq => ?_⟩
      obtain ⟨f1, f2, f3⟩ := c5 q hq
      rcases hb q with hb | ⟨hb, hb2⟩
      · exact ⟨by rw [hg.box]; exact f1, by rw [hb]; exact f2, fun hw => by rw [hb]; exact f3 (k5 hw).1⟩
      · by_cases hrr : r' = r
        · subst hrr
          rw [hr] at k1; cases k1
          rw [e1] at c1; cases c1
          have hvs : vs2 = vs := by
            rcases c2.2 with ⟨rfl, _⟩ | ⟨g1, cap1, cur1, rfl, _, d1, _, _, _, d2⟩
            · simp [Value.ownBlock] at hq
            · rcases e2.2 with ⟨hc, _⟩ | ⟨g2, cap2, cur2, hv, _, d3, _, _, _, d4⟩
              · cases hc
              · injection hv with hv1 hv2 hv3
                have : g1 = g2 := by injection hv1 with hv1; injection hv1
                subst this
                rw [d1] at d3; cases d3
                rw [← d2, ← d4]
          subst hvs
          exact ⟨by rw [hg.box]; exact f1, by rw [hb2]; exact List.prefix_refl _, fun hw => absurd rfl (k5 hw).2⟩
        · rcases h.apart r' r row0 row v2 v hrr k1 hr c1 e1 with hx | hx
          · rw [hx] at hq; cases hq
          · exact absurd (hq.trans hb.symm) hx
    apart := fun r1 r2 row1 row2 u1 u2 hne h1 h2 p1 p2 => by
      obtain ⟨row01, k1, k2, _⟩ := hrows r1 row1 h1
      obtain ⟨row02, m1, m2, _⟩ := hrows r2 row2 h2
      rw [hg.phys, ← k2] at p1
      rw [hg.phys, ← m2] at p2
      exact h.apart r1 r2 row01 row02 u1 u2 hne k1 m1 p1 p2
    phys := fun r' n u hu => by
      rw [hg.phys] at hu
      obtain ⟨row', hr', hle⟩ := h.phys r' n u hu
      by_cases he : r = r'
      · subst he
        rw [hr] at hr'; cases hr'
        exact ⟨_, List.getElem?_set_self hrl, hle⟩
      · exact ⟨row', by rw [List.getElem?_set_ne he]; exact hr', hle⟩
    loopl := by rw [hg.loop]; exact h.loopl
    loop := fun l lr q c1 c2 => by
      rw [hg.loop] at c2
      obtain ⟨h3, rec, h4, h5⟩ := h.loop l lr q c1 c2
      exact ⟨h3, rec, h4, LoopRel_mono hg.le h5⟩
    lnodup := by rw [hg.loop]; exact h.lnodup
    mapl := by rw [hg.map]; exact h.mapl
    map := fun m q p c1 c2 => by
      rw [hg.map] at c2
      obtain ⟨h3, es, c, h4, h5, h6⟩ := h.map m q p c1 c2
      exact ⟨h3, es, c, h4, VsRel_mono hg.le _ _ h5, VsRel_mono hg.le _ _ h6⟩
    qnodup := by rw [hg.map]; exact h.qnodup
    marks := h.marks
    mnodup := h.mnodup }
  rcases e2.2 with ⟨rfl, hz⟩ | ⟨k, cap, cur, rfl, hk0, hk, hnc, hcm, hcs, htake⟩
  · refine ⟨g, G.only.refl w0 g, main g (G.only.refl w0 g) (fun _ => .inl rfl) h.fz, fun u hu => ?_⟩
    rw [e1] at hu; cases hu
    exact ⟨none, 0, by rw [hz], by omega, .inl (List.eq_nil_of_length_eq_zero hz)⟩
  · have hpre : g.fz k <+: vs := (e5 k rfl).2.1
    have ho : g.only w0 (g.addFz k vs) := by
      refine ⟨fun b => ?_, fun b hb => ?_, rfl, rfl, rfl, rfl⟩
      · simp only [G.addFz]; split
        · rename_i hb; subst hb; exact hpre
        · exact List.prefix_refl _
      · simp only [G.addFz]; rw [if_neg (by omega)]
    refine ⟨g.addFz k vs, ho, main _ ho (fun b => ?_) (fun b hb => ?_), fun u hu => ?_⟩
    · by_cases hbk : b = k
      · subst hbk; exact .inr ⟨rfl, by simp [G.addFz]⟩
      · exact .inl (by simp [G.addFz, hbk])
    · by_cases hbk : b = k
      · subst hbk
        refine ⟨cur, row.e, (0, 0), hk, ?_⟩
        simp only [G.addFz, if_true]
        rw [← htake]; exact List.take_prefix _ _
      · simp only [G.addFz, if_neg hbk] at hb ⊢
        exact h.fz b hb
    · rw [e1] at hu; cases hu
      refine ⟨_, cap, rfl, hnc, ?_⟩
      refine .inr ⟨k, e4, rfl, ?_⟩
      simp only [G.addFz, if_true]
      exact EsRel_mono ho.le _ _ _ _ (List.prefix_refl _) e3

theorem SRel.freeze {w0 : World} {f0 : Nat → List Value} {ms : List Nat} {w : World} : ∀ (rs : List Nat) {σ : St} {g : G}, SRel w0 f0 ms σ g w →
    ∃ g', g.only w0 g' ∧ SRel w0 f0 ms (frzS σ rs) g' w ∧ ∀ r ∈ rs, Frozen g g' σ r
  | [], σ, g, h => ⟨g, G.only.refl w0 g, h, by simp⟩
  | r :: rs, σ, g, h => by
    cases hr : σ.rows[r]? with
    | none =>
      obtain ⟨g', h1, h2, h3⟩ := SRel.freeze rs h
      refine ⟨g', h1, by simp only [frzS, hr]; exact h2, fun q hq => ?_⟩
      rcases List.mem_cons.1 hq with rfl | hq
      · intro row v hrow; rw [hr] at hrow; cases hrow
      · exact h3 q hq
    | some row =>
      obtain ⟨g1, h1, h2, h3⟩ := h.freeze1 hr
      obtain ⟨g', k1, k2, k3⟩ := SRel.freeze rs h2
      refine ⟨g', h1.trans k1, by simp only [frzS, hr]; exact k2, fun q hq => ?_⟩
      by_cases he : q = r
      · subst he
        intro row' v hrow hp
        rw [hr] at hrow; cases hrow
        obtain ⟨a, cap, c1, c2, c3⟩ := h3 v hp
        exact ⟨a, cap, c1, c2, c3.imp id fun ⟨b, d1, d2, d3⟩ => ⟨b, d1, d2, EsRel_mono k1.le _ _ _ _ (k1.fz b) d3⟩⟩
      · rcases List.mem_cons.1 hq with rfl | hq
        · exact absurd rfl he
        · intro row' v hrow hp
          exact k3 q hq row' v (by rw [List.getElem?_set_ne (fun x => he x.symm)]; exact hrow) (by rw [h1.phys]; exact hp)

mutual
theorem frzV_rel {g g' : G} {σ : St} (hg : g.le g') : ∀ (x : LV) (v : Value), (∀ r ∈ rowsIn x, Frozen g g' σ r) → VRel g x v → VRel g' (frzV σ x) v
  | .mref r n, v, hf, hr => by
    simp only [frzV]
    cases hrow : σ.rows[r]? with
    | none => simp [VRel]
    | some row =>
      simp only
      split
      · rename_i hn
        simp only [VRel] at hr
        exact (hf r (by simp [rowsIn])).slice hrow (by rw [hn]; exact hr.1)
      · simp [VRel]
  | .mview r n lo hi sz, v, hf, hr => by
    simp only [frzV]
    cases hrow : σ.rows[r]? with
    | none => simp [VRel]
    | some row =>
      simp only
      split
      · rename_i hn
        obtain ⟨rfl, rfl, h1, h2⟩ := hn
        exact (hf r (by simp [rowsIn])).part hrow hr
      · simp [VRel]
  | .mapr m, v, _, hr => VRel_mono hg _ _ hr
  | .nils, v, _, hr => by
    simp only [VRel] at hr
    subst hr
    simp only [frzV, VRel]
    exact ⟨none, 0, rfl, Nat.le_refl _, .inl trivial⟩
  | .agg cs, v, hf, hr => by
    simp only [VRel] at hr
    simp only [frzV, VRel]
    obtain ⟨arr, h1, h2, h3⟩ := hr
    exact ⟨arr, h1, frzL_rel hg cs _ (fun r hr => hf r (by simpa [rowsIn] using hr)) h2, h3⟩
  | .tuple vs, v, hf, hr => by
    simp only [VRel] at hr
    simp only [frzV, VRel]
    obtain ⟨arr, h1, h2⟩ := hr
    exact ⟨arr, h1, frzL_rel hg vs _ (fun r hr => hf r (by simpa [rowsIn] using hr)) h2⟩
  | .func fn fst caps, v, hf, hr => by
    simp only [VRel] at hr
    simp only [frzV, VRel]
    obtain ⟨fn', f', c', h1, h2, h3, h4⟩ := hr
    exact ⟨fn', f', c', h1, fnRel_mono hg.loop h2, frzL_rel hg fst _ (fun r hr => hf r (by simp [rowsIn, hr])) h3, frzL_rel hg caps _ (fun r hr => hf r (by simp [rowsIn, hr])) h4⟩
  | .undef, v, _, hr => VRel_mono hg _ _ hr
  | .sc u, v, _, hr => VRel_mono hg _ _ hr
  | .slice es, v, _, hr => VRel_mono hg _ _ hr
  | .nslice es, v, _, hr => by
    have := VRel_mono hg _ _ hr
    simp only [VRel] at this
    obtain ⟨a, cap, h1, h2, h3⟩ := this
    simp only [frzV, VRel]
    exact ⟨some a, cap, h1, h2, h3⟩
  | .bptr b off, v, _, hr => VRel_mono hg _ _ hr
  | .pptr cs, v, _, hr => VRel_mono hg _ _ hr
  | .rptr r n i sz off, v, _, hr => VRel_mono hg _ _ hr
theorem frzL_rel {g g' : G} {σ : St} (hg : g.le g') : ∀ (xs : List LV) (vs : List Value), (∀ r ∈ rowsIn.rowsInL xs, Frozen g g' σ r) → VsRel g xs vs → VsRel g' (frzV.frzL σ xs) vs
  | [], vs, _, hr => by simpa [frzV.frzL, VsRel] using hr
  | x :: xs, vs, hf, hr => by
    simp only [VsRel] at hr
    simp only [frzV.frzL, VsRel]
    obtain ⟨v, vs', h1, h2, h3⟩ := hr
    exact ⟨v, vs', h1, frzV_rel hg x _ (fun r hr => hf r (by simp [rowsIn.rowsInL, hr])) h2, frzL_rel hg xs _ (fun r hr => hf r (by simp [rowsIn.rowsInL, hr])) h3⟩
end

end Go.Proofs.YticpcfchhcjjeaaGreat.LI
