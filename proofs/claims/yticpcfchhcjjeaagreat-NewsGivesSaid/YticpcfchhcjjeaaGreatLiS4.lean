/-
  An element written; what is cut off; a call's empty store; loops' records. No program is named here.
-/
import Derived.Test.YticpcfchhcjjeaaGreatLiS3
namespace Go.Proofs.YticpcfchhcjjeaaGreat.LI
open Go Go.RowKit
set_option linter.unusedSimpArgs false
set_option linter.unusedVariables false

theorem EsRel_set {g : G} : ∀ {xs : List LV} {sz : Nat} {vs : List Value}, EsRel g xs sz vs → vs.length = xs.length * sz → ∀ {i : Nat} {x : LV} {u : Value}, i < xs.length → VRel g x u → (u.cells.size = sz ∧ ∀ c ∈ u.cells.toList, c.oneCell' = true) →
    EsRel g (xs.set i x) sz (vs.take (i * sz) ++ u.cells.toList ++ vs.drop (i * sz + sz))
  | [], sz, vs, h, hl, i, x, u, hi, hx, hu => by simp at hi
  | y :: xs, sz, vs, h, hl, i, x, u, hi, hx, hu => by
    simp only [EsRel] at h
    obtain ⟨⟨u0, h1, h2, h3⟩, h4⟩ := h
    have hge : sz ≤ vs.length := by rw [hl, List.length_cons, Nat.add_mul]; omega
    have hlen : u.cells.toList.length = sz := by rw [Array.length_toList, hu.1]
    cases i with
    | zero =>
      simp only [List.set_cons_zero, EsRel, Nat.zero_mul, List.take_zero, List.nil_append, Nat.zero_add]
      refine ⟨⟨u, hx, by rw [List.take_append_of_le_length (by omega), List.take_of_length_le (by omega)], hu⟩, ?_⟩
      rw [List.drop_append_of_le_length (by omega), List.drop_of_length_le (by omega), List.nil_append]
      exact h4
    | succ i =>
      simp only [List.set_cons_succ, EsRel]
      have hi' : i < xs.length := by simpa using hi
      have hd : (vs.drop sz).length = xs.length * sz := by rw [List.length_drop, hl, List.length_cons, Nat.add_mul]; omega
      have key := EsRel_set h4 hd (i := i) (x := x) (u := u) hi' hx hu
      have e1 : (i + 1) * sz = sz + i * sz := by rw [Nat.add_mul]; omega
      refine ⟨⟨u0, h1, ?_, h3⟩, ?_⟩
      · rw [List.append_assoc, List.take_append_of_le_length (by rw [List.length_take, e1]; omega), List.take_take, h2, e1]
        congr 1; omega
      · rw [List.append_assoc, List.drop_append_of_le_length (by rw [List.length_take, e1]; omega)]
        have a1 : (vs.take ((i + 1) * sz)).drop sz = (vs.drop sz).take (i * sz) := by
          rw [List.drop_take, e1]; congr 1; omega
        have a2 : vs.drop ((i + 1) * sz + sz) = (vs.drop sz).drop (i * sz + sz) := by
          rw [List.drop_drop, e1]; congr 1; omega
        rw [a1, a2, ← List.append_assoc]
        exact key

theorem EsRel_front {g : G} : ∀ {xs : List LV} {sz : Nat} {vs : List Value} {lo : Nat}, EsRel g xs sz vs → vs.length = xs.length * sz → lo ≤ xs.length → EsRel g (xs.take lo) sz (vs.take (lo * sz))
  | xs, sz, vs, 0, _, _, _ => by simp [EsRel]
  | [], sz, vs, n + 1, _, _, h => by simp at h
  | x :: xs, sz, vs, n + 1, h, hl, hle => by
    simp only [EsRel] at h
    obtain ⟨⟨u, h1, h2, h3⟩, h4⟩ := h
    have hge : sz ≤ vs.length := by rw [hl, List.length_cons, Nat.add_mul]; omega
    have e1 : (n + 1) * sz = sz + n * sz := by rw [Nat.add_mul]; omega
    simp only [List.take_succ_cons, EsRel]
    refine ⟨⟨u, h1, ?_, h3⟩, ?_⟩
    · rw [e1, List.take_take, Nat.min_eq_left (by omega)]; exact h2
    · rw [e1, List.drop_take, show sz + n * sz - sz = n * sz from by omega]
      exact EsRel_front h4 (by rw [List.length_drop, hl, List.length_cons, Nat.add_mul]; omega) (by simpa using hle)

/-- A row of the call's own holds other elements, as many. -/
theorem SRel.setXs {w0 : World} {f0 : Nat → List Value} {ms : List Nat} {σ : St} {g : G} {w : World} (h : SRel w0 f0 ms σ g w) {r k cap : Nat} {row : Row} {xs' : List LV} {cur cur' : Array Value}
    (hr : σ.rows[r]? = some row) (hw : row.wr = true) (hp : g.phys r row.xs.length = some (.slice (some ⟨k, 0, none⟩) row.xs.length cap)) (hl : xs'.length = row.xs.length)
    (hk : w.heap[k]? = some (.cells cur row.e (0, 0))) (hsz : cur'.size = cur.size) (hx : EsRel g xs' row.sz (cur'.toList.take (row.xs.length * row.sz))) :
    SRel w0 f0 ms { σ with rows := σ.rows.set r { row with xs := xs' } } g (w.setRow k cur') := by
  obtain ⟨v, vs, e1, e2, e3, e4, e5⟩ := h.row r row hr
  rw [hp] at e1; cases e1
  have hrl : r < σ.rows.length := (List.getElem?_eq_some_iff.1 hr).1
  obtain ⟨f1, f2, f3⟩ := e5 k rfl
  have hfk := f3 hw
  have ht := Touch.setRow w k cur'
  have hk0 : w0.heap.size ≤ k := (e2.lt k rfl).1
  obtain ⟨hnc, hcm, hcs⟩ : row.xs.length ≤ cap ∧ cap ≤ maxLen ∧ cur.size = cap * row.sz := by
    rcases e2.2 with ⟨hc, _⟩ | ⟨g1, cap1, cur1, hv, _, d1, d2, d3, d4, d5⟩
    · cases hc
    · injection hv with hv1 hv2 hv3
      subst hv3
      have : k = g1 := by injection hv1 with hv1; injection hv1
      subst this
      rw [hk] at d1; cases d1
      exact ⟨d2, d3, d4⟩
  have hcl : row.xs.length * row.sz ≤ cur'.toList.length := by rw [Array.length_toList, hsz, hcs]; exact Nat.mul_le_mul_right _ hnc
  have hrows : ∀ (r' : Nat) (row' : Row), (σ.rows.set r { row with xs := xs' })[r']? = some row' → (r' = r ∧ row' = { row with xs := xs' }) ∨ (r' ≠ r ∧ σ.rows[r']? = some row') := fun r' row' hr' => by
    by_cases he : r = r'
    · subst he
      rw [List.getElem?_set_self hrl] at hr'
      exact .inl ⟨rfl, (Option.some.inj hr').symm⟩
    · rw [List.getElem?_set_ne he] at hr'
      exact .inr ⟨fun x => he x.symm, hr'⟩
  exact {
    below := h.below.trans (ht.below hk0)
    f0 := h.f0
    fz := h.fz.touch ht (fun hn => absurd hfk hn)
    boxl := h.boxl
    box := fun j cells q c1 c2 => by
      obtain ⟨h3, h4, cs2, T2, h5, h6, h7⟩ := h.box j cells q c1 c2
      have hne : q ≠ k := by rintro rfl; exact f1 (List.mem_iff_getElem?.2 ⟨j, c2⟩)
      exact ⟨h3, h4, cs2, T2, (ht.block q hne).trans h5, h6, h7⟩
    nodup := h.nodup
    row := fun r' row' hr' => by
      rcases hrows r' row' hr' with ⟨rfl, rfl⟩ | ⟨hne, hr''⟩
      · refine ⟨_, cur'.toList.take (row.xs.length * row.sz), by simpa [hl] using hp, ?_, hx, e4, fun q hq => ?_⟩
        · refine ⟨by simp only [List.length_take, hl]; omega, .inr ⟨k, cap, _, by simp [hl], hk0, heap_setRow_same w k cur _ row.e _ hk, by simpa [hl] using hnc, hcm, ?_, ?_⟩⟩
          · rw [hsz, hcs]
          · simp only [hl]
        · cases hq
          exact ⟨f1, by rw [hfk]; exact List.nil_prefix, fun _ => hfk⟩
      · obtain ⟨v2, vs2, c1, c2, c3, c4, c5⟩ := h.row r' row' hr''
        refine ⟨v2, vs2, c1, ownsRow_touch c2 ht (fun hx => ?_), c3, c4, c5⟩
        rcases h.apart r' r row' row v2 _ hne hr'' hr c1 hp with hy | hy
        · rw [hy] at hx; cases hx
        · exact hy hx
    apart := fun r1 r2 row1 row2 u1 u2 hne h1 h2 p1 p2 => by
      have n1 : ∃ row0, σ.rows[r1]? = some row0 ∧ row0.xs.length = row1.xs.length := by
        rcases hrows r1 row1 h1 with ⟨rfl, rfl⟩ | ⟨_, h1'⟩
        · exact ⟨row, hr, hl.symm⟩
        · exact ⟨row1, h1', rfl⟩
      have n2 : ∃ row0, σ.rows[r2]? = some row0 ∧ row0.xs.length = row2.xs.length := by
        rcases hrows r2 row2 h2 with ⟨rfl, rfl⟩ | ⟨_, h2'⟩
        · exact ⟨row, hr, hl.symm⟩
        · exact ⟨row2, h2', rfl⟩
      obtain ⟨a, a1, a2⟩ := n1
      obtain ⟨b, b1, b2⟩ := n2
      exact h.apart r1 r2 a b u1 u2 hne a1 b1 (by rw [a2]; exact p1) (by rw [b2]; exact p2)
    phys := fun r' n u' hu' => by
      obtain ⟨row', hr', hle'⟩ := h.phys r' n u' hu'
      by_cases he : r = r'
      · subst he
        rw [hr] at hr'; cases hr'
        exact ⟨_, List.getElem?_set_self hrl, by simpa [hl] using hle'⟩
      · exact ⟨row', by rw [List.getElem?_set_ne he]; exact hr', hle'⟩
    loopl := h.loopl
    loop := fun l lr q c1 c2 => by
      obtain ⟨h3, rec, h4, h5⟩ := h.loop l lr q c1 c2
      refine ⟨h3, rec, ?_, h5⟩
      rw [ht.block q (by rintro rfl; rw [hk] at h4; cases h4)]
      exact h4
    lnodup := h.lnodup
    mapl := h.mapl
    map := fun m q p c1 c2 => by
      obtain ⟨h3, es, c, h4, h5⟩ := h.map m q p c1 c2
      refine ⟨h3, es, c, ?_, h5⟩
      rw [ht.block p (by rintro rfl; rw [hk] at h4; cases h4)]
      exact h4
    qnodup := h.qnodup
    marks := fun q hq => by
      obtain ⟨m1, m2⟩ := h.marks q hq
      refine ⟨m1, ?_⟩
      rw [ht.block q (by rintro rfl; rw [hk] at m2; cases m2)]
      exact m2
    mnodup := h.mnodup }

/-- .. from a place on. -/
theorem EsRel_over {g : G} {xs ys : List LV} {sz lo : Nat} {vs news : List Value} (h : EsRel g xs sz vs) (hl : vs.length = xs.length * sz) (hy : EsRel g ys sz news) (hn : news.length = ys.length * sz) (hfit : lo + ys.length ≤ xs.length) :
    EsRel g (overL xs lo ys) sz (vs.take (lo * sz) ++ news ++ vs.drop (lo * sz + news.length)) := by
  have e0 : lo * sz + ys.length * sz ≤ xs.length * sz := by rw [← Nat.add_mul]; exact Nat.mul_le_mul_right _ hfit
  have a1 : EsRel g (xs.take lo) sz (vs.take (lo * sz)) := EsRel_front h hl (by omega)
  have t1 : (xs.take lo).length = lo := by rw [List.length_take]; omega
  have t2 : (vs.take (lo * sz)).length = lo * sz := by rw [List.length_take]; omega
  refine EsRel_append (EsRel_append a1 (by rw [t1, t2]) hy) (by rw [List.length_append, List.length_append, t1, t2, hn, Nat.add_mul]) ?_
  have := EsRel_drop (lo + ys.length) h
  rwa [Nat.add_mul, ← hn] at this

/-- An element of a row of the call's own is written. -/
theorem SRel.setElem {w0 : World} {f0 : Nat → List Value} {ms : List Nat} {σ : St} {g : G} {w : World} (h : SRel w0 f0 ms σ g w) {r i k cap : Nat} {row : Row} {x : LV} {u : Value} {cur : Array Value}
    (hr : σ.rows[r]? = some row) (hw : row.wr = true) (hp : g.phys r row.xs.length = some (.slice (some ⟨k, 0, none⟩) row.xs.length cap)) (hi : i < row.xs.length) (hx : VRel g x u) (hu : u.cells.size = row.sz ∧ ∀ c ∈ u.cells.toList, c.oneCell' = true)
    (hk : w.heap[k]? = some (.cells cur row.e (0, 0))) :
    SRel w0 f0 ms { σ with rows := σ.rows.set r { row with xs := row.xs.set i x } } g
      (w.setRow k (cur.toList.take (i * row.sz) ++ u.cells.toList ++ cur.toList.drop (i * row.sz + row.sz)).toArray) := by
  obtain ⟨v, vs, e1, e2, e3, e4, e5⟩ := h.row r row hr
  rw [hp] at e1; cases e1
  obtain ⟨hnc, hcs, htake⟩ : row.xs.length ≤ cap ∧ cur.size = cap * row.sz ∧ cur.toList.take (row.xs.length * row.sz) = vs := by
    rcases e2.2 with ⟨hc, _⟩ | ⟨g1, cap1, cur1, hv, _, d1, d2, d3, d4, d5⟩
    · cases hc
    · injection hv with hv1 hv2 hv3
      subst hv3
      have : k = g1 := by injection hv1 with hv1; injection hv1
      subst this
      rw [hk] at d1; cases d1
      exact ⟨d2, d4, d5⟩
  have hlen : vs.length = row.xs.length * row.sz := e2.1
  have hle : i * row.sz + row.sz ≤ row.xs.length * row.sz := by
    have : (i + 1) * row.sz ≤ row.xs.length * row.sz := Nat.mul_le_mul_right _ hi
    rw [Nat.add_mul] at this; omega
  have hcl : row.xs.length * row.sz ≤ cur.toList.length := by rw [Array.length_toList, hcs]; exact Nat.mul_le_mul_right _ hnc
  have hul : u.cells.toList.length = row.sz := by rw [Array.length_toList, hu.1]
  refine h.setXs hr hw hp (by simp) hk ?_ ?_
  · simp only [List.size_toArray, List.length_append, List.length_take, List.length_drop, hul]
    rw [← Array.length_toList]; omega
  · have key := EsRel_set e3 hlen hi hx hu
    have e : (cur.toList.take (i * row.sz) ++ u.cells.toList ++ cur.toList.drop (i * row.sz + row.sz)).take (row.xs.length * row.sz) = vs.take (i * row.sz) ++ u.cells.toList ++ vs.drop (i * row.sz + row.sz) := by
      rw [List.append_assoc, List.append_assoc, List.take_append, List.take_append]
      have b1 : (cur.toList.take (i * row.sz)).length = i * row.sz := by rw [List.length_take]; omega
      rw [b1, hul, List.take_take, List.take_of_length_le (l := u.cells.toList) (by omega)]
      rw [← htake, List.take_take]
      rw [List.drop_take, Nat.min_comm]
      congr 3
      omega
    simp only [List.toList_toArray]
    rw [e]; exact key

/-- Elements of a row of the call's own are written, from a place on. -/
theorem SRel.setOver {w0 : World} {f0 : Nat → List Value} {ms : List Nat} {σ : St} {g : G} {w : World} (h : SRel w0 f0 ms σ g w) {r lo k cap : Nat} {row : Row} {ys : List LV} {news : List Value} {cur : Array Value}
    (hr : σ.rows[r]? = some row) (hw : row.wr = true) (hp : g.phys r row.xs.length = some (.slice (some ⟨k, 0, none⟩) row.xs.length cap)) (hfit : lo + ys.length ≤ row.xs.length) (hy : EsRel g ys row.sz news) (hn : news.length = ys.length * row.sz)
    (hk : w.heap[k]? = some (.cells cur row.e (0, 0))) :
    lo * row.sz + news.length ≤ cur.size ∧ SRel w0 f0 ms { σ with rows := σ.rows.set r { row with xs := overL row.xs lo ys } } g
      (w.setRow k (cur.toList.take (lo * row.sz) ++ news ++ cur.toList.drop (lo * row.sz + news.length)).toArray) := by
  obtain ⟨v, vs, e1, e2, e3, e4, e5⟩ := h.row r row hr
  rw [hp] at e1; cases e1
  obtain ⟨hnc, hcs, htake⟩ : row.xs.length ≤ cap ∧ cur.size = cap * row.sz ∧ cur.toList.take (row.xs.length * row.sz) = vs := by
    rcases e2.2 with ⟨hc, _⟩ | ⟨g1, cap1, cur1, hv, _, d1, d2, d3, d4, d5⟩
    · cases hc
    · injection hv with hv1 hv2 hv3
      subst hv3
      have : k = g1 := by injection hv1 with hv1; injection hv1
      subst this
      rw [hk] at d1; cases d1
      exact ⟨d2, d4, d5⟩
  have hlen : vs.length = row.xs.length * row.sz := e2.1
  have e0 : lo * row.sz + ys.length * row.sz ≤ row.xs.length * row.sz := by rw [← Nat.add_mul]; exact Nat.mul_le_mul_right _ hfit
  have hcl : row.xs.length * row.sz ≤ cur.toList.length := by rw [Array.length_toList, hcs]; exact Nat.mul_le_mul_right _ hnc
  refine ⟨by rw [hn, ← Array.length_toList]; omega, h.setXs hr hw hp (by simp only [overL, List.length_append, List.length_take, List.length_drop]; omega) hk ?_ ?_⟩
  · simp only [List.size_toArray, List.length_append, List.length_take, List.length_drop]
    rw [← Array.length_toList]; omega
  · have key := EsRel_over (lo := lo) e3 hlen hy hn hfit
    have e : (cur.toList.take (lo * row.sz) ++ news ++ cur.toList.drop (lo * row.sz + news.length)).take (row.xs.length * row.sz) = vs.take (lo * row.sz) ++ news ++ vs.drop (lo * row.sz + news.length) := by
      rw [List.append_assoc, List.append_assoc, List.take_append, List.take_append]
      have b1 : (cur.toList.take (lo * row.sz)).length = lo * row.sz := by rw [List.length_take]; omega
      rw [b1, List.take_take, List.take_of_length_le (l := news) (by omega)]
      rw [← htake, List.take_take]
      rw [List.drop_take, Nat.min_comm]
      congr 3
      omega
    simp only [List.toList_toArray]
    rw [e]; exact key

/-! ### cutting off -/
theorem take_some {α : Type} {l : List α} {n i : Nat} {x : α} (h : (l.take n)[i]? = some x) : l[i]? = some x ∧ i < n := by
  rw [List.getElem?_take] at h
  split at h
  · exact ⟨h, by assumption⟩
  · cases h
theorem all_get {α : Type} {l : List α} {p : α → Bool} (h : l.all p = true) {i : Nat} {x : α} (hx : l[i]? = some x) : p x = true :=
  List.all_eq_true.1 h x (List.mem_iff_getElem?.2 ⟨i, hx⟩)

theorem TRel_cut {g : G} (n : Sz) {t : List LV} {a : Array Value} (hb : below.belowL n t = true) (h : TRel g t a) : TRel (g.cut n) t a := by
  refine ⟨h.1, fun i => VRel_cut n _ _ ?_ (h.2 i)⟩
  have gen : ∀ (t : List LV), below.belowL n t = true → ∀ i : Nat, below n (t.getD i .undef) = true := by
    intro t
    induction t with
    | nil => intro _ i; simp [below]
    | cons x t ih =>
      intro hb i
      simp only [below.belowL, Bool.and_eq_true] at hb
      cases i with
      | zero => simpa using hb.1
      | succ i => simpa using ih hb.2 i
  exact gen t hb i

theorem SRel.cut {w0 : World} {f0 : Nat → List Value} {ms : List Nat} {σ : St} {g : G} {w : World} (h : SRel w0 f0 ms σ g w) (n : Sz) (vs : List LV) (hn : trimOk n vs σ = true) :
    SRel w0 f0 ms { boxes := σ.boxes.take n.nb, rows := σ.rows.take n.nr, loops := σ.loops.take n.nl, maps := σ.maps.take n.nm } (g.cut n) w := by
  simp only [trimOk, Bool.and_eq_true] at hn
  obtain ⟨⟨⟨⟨_, t2⟩, t3⟩, t4⟩, t5⟩ := hn
  exact {
    below := h.below
    f0 := h.f0
    fz := h.fz
    boxl := by simp [G.cut, h.boxl]
    box := fun i cells k c1 c2 => by
      obtain ⟨c1', _⟩ := take_some c1
      obtain ⟨c2', _⟩ := take_some c2
      obtain ⟨h3, h4, cs, T, h5, h6, h7⟩ := h.box i cells k c1' c2'
      exact ⟨h3, h4, cs, T, h5, VsRel_cut n _ _ (all_get t2 c1) h6, h7⟩
    nodup := h.nodup.sublist (List.take_sublist _ _)
    row := fun r row hr => by
      obtain ⟨hr', hlt⟩ := take_some hr
      obtain ⟨v, us, e1, e2, e3, e4, e5⟩ := h.row r row hr'
      refine ⟨v, us, by simp [G.cut, hlt, e1], e2, EsRel_cut n _ _ _ (all_get t3 hr) e3, e4, fun k hk => ?_⟩
      obtain ⟨f1, f2, f3⟩ := e5 k hk
      exact ⟨fun hm => f1 (List.mem_of_mem_take hm), f2, f3⟩
    apart := fun r r' row row' v v' hne h1 h2 p1 p2 => by
      obtain ⟨h1', l1⟩ := take_some h1
      obtain ⟨h2', l2⟩ := take_some h2
      simp only [G.cut, l1, l2, if_true] at p1 p2
      exact h.apart r r' row row' v v' hne h1' h2' p1 p2
    phys := fun r k v hv => by
      simp only [G.cut] at hv
      split at hv
      · rename_i hlt
        obtain ⟨row, hr, hle⟩ := h.phys r k v hv
        exact ⟨row, take_get hr hlt, hle⟩
      · cases hv
    loopl := by simp [G.cut, h.loopl]
    loop := fun l lr k c1 c2 => by
      obtain ⟨c1', _⟩ := take_some c1
      obtain ⟨c2', _⟩ := take_some c2
      obtain ⟨h3, rec, h4, h5⟩ := h.loop l lr k c1' c2'
      exact ⟨h3, rec, h4, TRel_cut n (all_get t4 c1) h5.tmps, h5.params, h5.assign, h5.body, h5.pending, h5.state⟩
    lnodup := h.lnodup.sublist (List.take_sublist _ _)
    mapl := by simp [G.cut, h.mapl]
    map := fun m q k c1 c2 => by
      obtain ⟨c1', _⟩ := take_some c1
      obtain ⟨c2', _⟩ := take_some c2
      obtain ⟨h3, es, c, h4, h5, h6⟩ := h.map m q k c1' c2'
      have hb := all_get t5 c1
      simp only [Bool.and_eq_true] at hb
      exact ⟨h3, es, c, h4, VsRel_cut n _ _ hb.1 h5, VsRel_cut n _ _ hb.2 h6⟩
    qnodup := h.qnodup.sublist (List.take_sublist _ _)
    marks := h.marks
    mnodup := h.mnodup }

/-- trim, whatever it does: what was there at the begin stays told. -/
theorem SRel.trimmed {w0 : World} {f0 : Nat → List Value} {ms : List Nat} {σ : St} {g g0 : G} {w : World} (h : SRel w0 f0 ms σ g w) (n : Sz) (vs : List LV) (hg : g0.le g)
    (hb : g0.box.length = n.nb) (hl : g0.loop.length = n.nl) (hm : g0.map.length = n.nm) (hp : ∀ r k v, g0.phys r k = some v → r < n.nr) :
    ∃ g', g0.le g' ∧ SRel w0 f0 ms (trim n vs σ) g' w ∧ (∀ x ∈ vs, ∀ v, VRel g x v → VRel g' x v) := by
  unfold trim
  split
  · exact ⟨g, hg, h, fun _ _ _ hr => hr⟩
  · split
    · rename_i ht
      refine ⟨g.cut n, ⟨hg.fz, ?_, fun r k v hv => ?_, ?_, ?_⟩, h.cut n vs ht, fun x hx v hr => VRel_cut n x v ?_ hr⟩
      · obtain ⟨t, ht⟩ := hg.box
        simp only [G.cut, ← ht, ← hb, List.take_left]; exact List.prefix_refl _
      · simp only [G.cut, hp r k v hv, if_true]
        exact hg.phys r k v hv
      · obtain ⟨t, ht⟩ := hg.loop
        simp only [G.cut, ← ht, ← hl, List.take_left]; exact List.prefix_refl _
      · obtain ⟨t, ht⟩ := hg.map
        simp only [G.cut, ← ht, ← hm, List.take_left]; exact List.prefix_refl _
      · simp only [trimOk, Bool.and_eq_true] at ht
        have gen : ∀ (vs : List LV), below.belowL n vs = true → ∀ x ∈ vs, LI.below n x = true := by
          intro vs
          induction vs with
          | nil => simp
          | cons y vs ih =>
            intro hb x hx
            simp only [below.belowL, Bool.and_eq_true] at hb
            rcases List.mem_cons.1 hx with rfl | hx
            · exact hb.1
            · exact ih hb.2 x hx
        exact gen vs ht.1.1.1.1 x hx
    · exact ⟨g, hg, h, fun _ _ _ hr => hr⟩

/-! ### a call on an empty store -/
def G.bare (g : G) : G := { fz := g.fz, box := [], phys := fun _ _ => none, loop := [], map := [] }
theorem SRel.empty {g : G} {w : World} (h : FzOK g w) : SRel w g.fz [] {} g.bare w where
  below := Below.refl _ _
  f0 := fun _ _ => rfl
  fz := h
  boxl := rfl
  box := fun i cells k c1 _ => by simp at c1
  nodup := by simp [G.bare]
  row := fun r row hr => by simp at hr
  apart := fun r r' row row' v v' _ h1 => by simp at h1
  phys := fun r n v hv => by simp [G.bare] at hv
  loopl := rfl
  loop := fun l lr k c1 _ => by simp at c1
  lnodup := by simp [G.bare]
  mapl := rfl
  map := fun m q k c1 _ => by simp at c1
  qnodup := by simp [G.bare]
  marks := fun k hk => by simp at hk
  mnodup := by simp

end Go.Proofs.YticpcfchhcjjeaaGreat.LI
