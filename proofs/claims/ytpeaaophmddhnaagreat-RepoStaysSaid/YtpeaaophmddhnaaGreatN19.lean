/-
  An interpreter over values is sound, part 19.
-/
import Derived.Test.YtpeaaophmddhnaaGreatN18
import Derived.Lib.AppendZerosOnto
import Derived.Lib.Overlaps
namespace Go.Proofs.YtpeaaophmddhnaaGreat.LI
open Go Go.RowKit
open Go.Proofs Go.Lib
theorem nDa {P : Program} (w : World) (dT sT ty elem : TypeId) (b o dLen dCap : Nat) (a : Addr) (sLen sCap k sz : Nat) (cs : List Value) (cur : Array Value) (T : TypeId)
  (hu : P.underlying dT = some (.slice elem)) (hs : (P.info? elem).map (·.size) = some sz) (hk : Nat.min sLen dLen = k) (hn : cs.length = k * sz)
  (hsrc : ∀ j v, cs[j]? = some v → w.cell? (a.add j) = some v) (hg : w.heap[b]? = some (.cells cur T (0, 0))) (hfit : o + cs.length ≤ cur.size) (h1 : ∀ v ∈ cs, v.oneCell' = true) :
  (Builtin.copy_ #[dT, sT] ty #[.slice (some ⟨b, o, none⟩) dLen dCap, .slice (some a) sLen sCap]).run P w = .ok (goInt k) (w.setRow b (cur.toList.take o ++ cs ++ cur.toList.drop (o + cs.length)).toArray) := by
 have hl := run_loadCells_list (P := P) w a cs hsrc
 have hst := run_storeCells_at P b o T cs 0 cur w hg (by simpa using hfit) h1
 simp only [Nat.add_zero] at hst
 cases hq : P.info? elem with
 | none => simp [hq] at hs
 | some i =>
  have hi : i.size = sz := by simpa [hq] using hs
  simp [Builtin.copy_, run_underlying hu, Builtin.lenOf, Builtin.firstCells, sizeOf, typeInfo, hq, hi, hk, ← hn, hl, hst]
theorem pFa {P : Program} (w : World) (tS tR e : TypeId) (ht : P.underlying tS = some (.slice e)) (size : Nat) (hz : ∀ w, (Go.sizeOf e).run P w = .ok size w)
  (a b : Addr) (la ca lb cb : Nat) (hne : a.block ≠ b.block) (tA : TypeId) (kA : Nat) (cur : Array Value) (tB : TypeId)
  (hsa : w.shape? a.block = some (tA, kA)) (hkA : kA ≠ 0) (hb : w.heap[b.block]? = some (.cells cur tB (0, 0))) (hkB : cur.size ≠ 0) :
  (Extern.SlicesOverlaps.overlaps #[tS, tS] #[tR] #[.slice (some a) la ca, .slice (some b) lb cb]).run P w = .ok (.bool false) w := by
 have hnb : (a.block != b.block) = true := by simpa using hne
 have hnb' : (a.block == b.block) = false := by simpa using hne
 have hsb : w.shape? b.block = some (tB, cur.size) := by simp [World.shape?, hb]
 have hfb : w.frozen? b = false := by simp [World.frozen?, hb]
 have hfb2 : ∀ o, w.frozen? { block := b.block, off := o } = false := fun o => by simp [World.frozen?, hb]
 change Sem.run P (α := Value) (do
  let some t := (#[tS, tS] : Array TypeId)[0]? | stuck "slices.overlaps: no parameter types"
  let .slice elem ← underlying t | stuck "slices.overlaps: slice type expected"
  let size ← sizeOf elem
  match (some a : Option Addr), (some b : Option Addr) with
  | some a, some b =>
   if la = 0 ∨ lb = 0 ∨ size = 0 then pure (Value.bool false)
   else if a.block != b.block && (← frozen a) && (← frozen b) then unsupported .addressObserved
   else do
    if a.block != b.block then do
     noView a; noView b
     if ← mayBeOne a b then return Value.bool ((← choose (.extern "sameAddr.stringBytes" 2)) == 1)
    pure (Value.bool (a.block == b.block && a.off < b.off + lb * size && b.off < a.off + la * size))
  | _, _ => pure (Value.bool false)) w = _
 by_cases h0 : la = 0 ∨ lb = 0 ∨ size = 0
 ·simp [run_underlying ht, hz, h0]
 ·cases hsz : cur.size with
  | zero => exact absurd hsz hkB
  | succ kB =>
   rw [hsz] at hsb
   obtain ⟨kA, rfl⟩ : ∃ k, kA = k + 1 := ⟨kA - 1, by omega⟩
   cases hfa : w.frozen? a <;> cases hfe : w.frozen? { block := a.block, off := kA + 1 } <;>
   simp [run_underlying ht, hz, h0, hnb, hnb', frozen, noView, viewAt, mayBeOne, stringish, shape, Sem.run, hsa, hsb, hfa, hfe, hfb, hfb2]
theorem ySa (w : World) (b : Nat) (x y cur : Array Value) (T : TypeId) (hg : w.heap[b]? = some (.cells cur T (0, 0))) : ((w.drew.setRow b x).setRow b y).heap = (w.setRow b y).heap := by
 apply Array.ext_getElem?
 intro q
 by_cases hq : q = b
 ·subst hq
  rw [setRow_heap _ _ _ _ _ _ hg, setRow_heap _ _ _ _ _ _ (setRow_heap w.drew q cur x T (0, 0) hg)]
 ·rw [setRow_other _ _ _ _ hq, setRow_other _ _ _ _ hq, setRow_other _ _ _ _ hq]; rfl
theorem zIa (w : World) (o o' : Obj) {q : Nat} (hq : q ≠ w.heap.size) : (w.alloc o).heap[q]? = (w.alloc o').heap[q]? := by
 show (w.heap.push o)[q]? = (w.heap.push o')[q]?
 simp [Array.getElem?_push, hq]
theorem jGa (w w' : World) (x z : Array Value) (T : TypeId) (hw : w'.heap = (w.alloc (.cells x T)).heap) : (w'.setRow w.heap.size z).heap = (w.alloc (.cells z T)).heap := by
 apply Array.ext_getElem?
 intro q
 have h0 : w'.heap[w.heap.size]? = some (.cells x T (0, 0)) := by rw [hw]; exact heap_alloc_new w _
 by_cases hq : q = w.heap.size
 ·subst hq
  rw [setRow_heap _ _ _ _ _ _ h0]
  exact (heap_alloc_new w _).symm
 ·rw [setRow_other _ _ _ _ hq, hw]
  exact zIa w _ _ hq
structure fLb (P : Program) (f : FuncId) (S V E : TypeId) (sz : Nat) : Prop where
 tS : P.underlying S = some (.slice E)
 tV : P.underlying V = some (.slice E)
 shift : ∀ (b n c i vb voff vc : Nat) (cur : Array Value) (vs : List Value) (w : World), i < n → n + 1 ≤ c → c ≤ 9223372036854775807 → vb ≠ b → w.heap[b]? = some (.cells cur E (0, 0)) → cur.size = c * sz → vs.length = sz →
  (∀ j v, vs[j]? = some v → w.cell? ⟨vb, voff + j, none⟩ = some v) → (∀ v ∈ (cur.toList.take (n * sz)), v.oneCell' = true) → (∀ v ∈ vs, v.oneCell' = true) → ∀ (tA : TypeId) (kA : Nat), w.shape? vb = some (tA, kA) → kA ≠ 0 →
  Calls P f #[.slice (some ⟨b, 0, none⟩) n c, .int .i64 i, .slice (some ⟨vb, voff, none⟩) 1 vc] w fun e w' =>
   e = .returned (.slice (some ⟨b, 0, none⟩) (n + 1) c) ∧ w'.heap = (w.setRow b (cur.toList.take (i * sz) ++ vs ++ (cur.toList.take (n * sz)).drop (i * sz) ++ cur.toList.drop ((n + 1) * sz)).toArray).heap ∧ w'.os = w.os ∧ w'.tape = w.tape ∧ w'.output = w.output
 end_ : ∀ (ao : Option Addr) (n c vb voff vc : Nat) (w w' : World) (v' : Value), n ≤ c → (Builtin.append_ #[S, V] S #[.slice ao n c, .slice (some ⟨vb, voff, none⟩) 1 vc]).run P w = .ok v' w' →
  Calls P f #[.slice ao n c, .int .i64 n, .slice (some ⟨vb, voff, none⟩) 1 vc] w fun e w'' => e = .returned v' ∧ w'' = w'
 grow : ∀ (b n c i vb voff vc : Nat) (cur : Array Value) (vs : List Value) (w : World), i < n → n ≤ c → c < n + 1 → (n + 1) * 128 ≤ 140737488355328 → vb ≠ w.heap.size → w.heap[b]? = some (.cells cur E (0, 0)) → cur.size = c * sz → vs.length = sz →
  (∀ j v, vs[j]? = some v → w.cell? ⟨vb, voff + j, none⟩ = some v) → (∀ v ∈ (cur.toList.take (n * sz)), v.oneCell' = true) → (∀ v ∈ vs, v.oneCell' = true) →
  Calls P f #[.slice (some ⟨b, 0, none⟩) n c, .int .i64 i, .slice (some ⟨vb, voff, none⟩) 1 vc] w fun e w' =>
   ∃ G ROW, e = .returned (.slice (some ⟨w.heap.size, 0, none⟩) (n + 1) G) ∧ w'.heap = (w.alloc (.cells ROW E)).heap ∧ ROW.size = G * sz ∧ n + 1 ≤ G ∧ G ≤ maxLen ∧
    ROW.toList.take ((n + 1) * sz) = cur.toList.take (i * sz) ++ vs ++ (cur.toList.take (n * sz)).drop (i * sz) ∧ w'.os = w.os ∧ w'.tape = w.tape ∧ w'.output = w.output
theorem yPa {α : Type} (l : List α) (r : Nat) (x y : α) : (l.set r x).set r y = l.set r y := by
 apply List.ext_getElem?
 intro i
 by_cases h : r = i
 ·subst h
  by_cases hl : r < l.length
  ·rw [List.getElem?_set_self (by simpa using hl), List.getElem?_set_self hl]
  ·rw [List.getElem?_eq_none (by simpa using hl), List.getElem?_eq_none (by simpa using hl)]
 ·rw [List.getElem?_set_ne h, List.getElem?_set_ne h, List.getElem?_set_ne h]
theorem hGb {P : Program} {f : FuncId} {S V E : TypeId} {sz : Nat} (W : fLb P f S V E sz) (hE : oHa P E sz) : pTa P f (nUa E sz) where
 ok := fun args σ q w0 f0 ms g w vs hp hs hv => by
  unfold nUa at hp
  split at hp
  ·rename_i r n i y
   split at hp
   ·rename_i row hr
    split at hp
    ·rename_i hc
     cases hp
     obtain ⟨hn, hw, he, hz, hok, hi0, hin, hmx⟩ := hc
     subst hn hz
     obtain ⟨i0, z, q1, q2, q3, q4, q5, hsz⟩ := hE.ex
     have hmx' : row.xs.length + 1 ≤ 1099511627776 := hmx
     simp only [aBa] at hv
     obtain ⟨v, vs1, hvs, ⟨h1, a, cap, rfl⟩, vi, vs2, rfl, hvi, vy, vs3, rfl, ⟨ao, vc, hvy, hvc, hes⟩, rfl⟩ := hv
     have hvi := bOa (g := g) (k := .i64) (n := i) (v := vi) (by simpa [aEa] using hvi)
     subst hvi
     subst hvy
     have hvs' : vs = #[.slice a row.xs.length cap, .int .i64 i, .slice ao 1 vc] := by apply Array.ext'; simpa using hvs
     subst hvs'
     rcases hes with hes | ⟨vb, voff, sz', hp', hao, hes⟩
     ·cases hes
     subst hao
     have hszz := gLa hok (by simp) hes
     subst hszz
     obtain ⟨k1, k2⟩ := gNa hes
     simp only [List.length_cons, List.length_nil, Nat.zero_add, Nat.one_mul] at k1 k2
     obtain ⟨news, hnews⟩ : ∃ news, news = ((g.fz vb).drop voff).take row.sz := ⟨_, rfl⟩
     rw [← hnews] at k2
     have hnl : news.length = row.sz := by rw [hnews, List.length_take]; omega
     have hd : (g.fz vb).drop voff = news ++ ((g.fz vb).drop voff).drop row.sz := by rw [hnews]; exact (List.take_append_drop _ _).symm
     have hlies := lNa hs.fz hd
     have hvs1 : ∀ j u, news[j]? = some u → w.cell? ⟨vb, voff + j, none⟩ = some u := fun j u hj => hlies j u hj
     have hv1 : ∀ u ∈ news, u.oneCell' = true := gMa k2 (by simp [hnl])
     have hfne : g.fz vb ≠ [] := by
      intro h0
      rw [h0] at k1
      simp at k1
      omega
     obtain ⟨vcs, tA, vfr, hvh, hvpre⟩ := hs.fz vb hfne
     have hshape : w.shape? vb = some (tA, vcs.size) := by simp [World.shape?, hvh]
     have hvcs : vcs.size ≠ 0 := by
      intro h0
      have : vcs.toList = [] := List.eq_nil_of_length_eq_zero (by simpa using h0)
      rw [this] at hvpre
      exact hfne (List.prefix_nil.1 hvpre)
     have hvlt : vb < w.heap.size := (Array.getElem?_eq_some_iff.1 hvh).1
     obtain ⟨v, us, e1, e2, e3, e4, e5⟩ := hs.row r row hr
     rw [h1] at e1
     cases e1
     have hrl : r < σ.rows.length := (List.getElem?_eq_some_iff.1 hr).1
     rw [callsIn_wide]
     obtain ⟨m, rfl⟩ : ∃ m : Nat, i = m := ⟨i.toNat, by omega⟩
     simp only [Int.toNat_natCast]
     have hmn : m ≤ row.xs.length := by omega
     have hxl : (row.xs.take m ++ [y] ++ row.xs.drop m).length = row.xs.length + 1 := by simp; omega
     rcases Nat.eq_or_lt_of_le hmn with hme | hml
     ·
      subst hme
      have hsrc : Src P i0.size V (.slice (some ⟨vb, voff, none⟩) 1 vc) 1 news w := Src.ofSlice w W.tV ⟨vb, voff, none⟩ 1 vc news (by rw [q3, hnl, Nat.one_mul]) (fun j u hj => by rw [Addr.add_lit]; exact hvs1 j u hj) hv1
      have hlen1 : (row.xs.length + 1) * i0.bytes ≤ 140737488355328 := Nat.le_trans (Nat.mul_le_mul hmx' q4) (Nat.le_refl _)
      obtain ⟨v', w', r1, r2, r3, _⟩ := fLa (P := P) w w0.heap.size S V S E i0 z W.tS q1 q2 (by rw [q5, q3]) (.slice a row.xs.length cap) row.xs.length us (by rw [q3, ← he]; exact e2) (.slice (some ⟨vb, voff, none⟩) 1 vc) 1 news hsrc
       (by unfold maxLen; omega) hlen1 hs.below.size
      refine (W.end_ a row.xs.length cap vb voff vc w w' v' (by
       rcases e2.2 with ⟨hnil, h0⟩ | ⟨k, cap', cur, hv, _, _, hnc, _⟩
       ·injection hnil with ha hb hc; omega
       ·injection hv with ha hb hc; omega) r1).mono ?_
      rintro e w'' ⟨rfl, rfl⟩
      have hgr := hs.growRow (w' := w'') (v' := v') (ys := [y]) (news := news) hr h1 (by simp) (fun vs0 hvs0 => by
        have : vs0 = us := by
         have := e2.2
         rcases hvs0.2 with ⟨ha, hb⟩ | ⟨k, cap', cur, hv, _, hb, _, _, _, ht⟩
         ·have h1 := hvs0.1; have h2 := e2.1
          rw [hb] at h1 h2
          exact (List.eq_nil_of_length_eq_zero (by simpa using h1)).trans (List.eq_nil_of_length_eq_zero (by simpa using h2)).symm
         ·rcases e2.2 with ⟨ha, h0⟩ | ⟨k', cap'', cur', hv', _, hb', _, _, _, ht'⟩
          ·rw [ha] at hv; cases hv
          ·rw [hv] at hv'
           injection hv' with hv1 _ _
           injection hv1 with hv1
           injection hv1 with hv1
           subst hv1
           rw [hb] at hb'; cases hb'
           rw [← ht, ← ht']
        subst this
        rw [q3] at r2
        rw [he]
        exact r2) r3 (by simpa using k2)
      refine ⟨v', g.addPhys r (row.xs.length + 1) v', rfl, ?_, ?_, ?_⟩
      ·refine g.le_addPhys r (row.xs.length + 1) v' (.inl ?_)
       cases hq : g.phys r (row.xs.length + 1) with
       | none => rfl
       | some u =>
        obtain ⟨row', hr', hle⟩ := hs.phys _ _ _ hq
        rw [hr] at hr'; cases hr'; omega
      ·refine jDa (by simp [G.addPhys]) ?_
       rcases r2.2 with ⟨rfl, h0⟩ | ⟨k, cap', cur, rfl, _⟩
       ·omega
       ·exact ⟨_, cap', rfl⟩
      ·have : row.xs.take row.xs.length ++ [y] ++ row.xs.drop row.xs.length = row.xs ++ [y] := by simp
       rw [this]
       exact hgr
     ·
      rcases e2.2 with ⟨hnil, h0⟩ | ⟨k, cap', cur, hv, hbase, hb, hnc, hcm, hcs, htake⟩
      ·omega
      ·injection hv with ha hb' hc'
       subst ha hc'
       obtain ⟨f1, f2, f3⟩ := e5 k rfl
       have hfk := f3 hw
       have hvk : vb ≠ k := fun e => hfne (e ▸ hfk)
       have h63 : cap ≤ 9223372036854775807 := by unfold maxLen at hcm; exact hcm
       have hone : ∀ v ∈ cur.toList.take (row.xs.length * row.sz), v.oneCell' = true := by rw [htake]; exact gMa e3 e2.1
       have hul : us.length = row.xs.length * row.sz := e2.1
       have hmu : m * row.sz ≤ row.xs.length * row.sz := Nat.mul_le_mul_right _ hmn
       have hpre : cur.toList.take (m * row.sz) = us.take (m * row.sz) := by
        rw [← htake, List.take_take, Nat.min_eq_left hmu]
       have hcl : cur.toList.length = cap * row.sz := by rw [Array.length_toList, hcs]
       have hncz : row.xs.length * row.sz ≤ cap * row.sz := Nat.mul_le_mul_right _ hnc
       have hlay : ∀ g' : G, g.le g' → aJa g' (row.xs.take m ++ [y] ++ row.xs.drop m) row.sz (us.take (m * row.sz) ++ news ++ us.drop (m * row.sz)) := fun g' hg' => by
        have b1 := aVa hg' _ _ _ _ (List.prefix_refl _) (fBa (lo := m) e3 hul hmn)
        have b2 := aVa hg' _ _ _ _ (List.prefix_refl _) k2
        have b3 := aVa hg' _ _ _ _ (List.prefix_refl _) (gDa m e3)
        have l1 : (us.take (m * row.sz)).length = (row.xs.take m).length * row.sz := by rw [List.length_take, List.length_take, Nat.min_eq_left hmn]; omega
        exact eJa (eJa b1 l1 b2) (by rw [List.length_append, List.length_append, l1, hnl, Nat.add_mul]; simp) b3
       have hnone : g.phys r (row.xs.length + 1) = none := by
        cases hq : g.phys r (row.xs.length + 1) with
        | none => rfl
        | some u =>
         obtain ⟨row', hr', hle⟩ := hs.phys _ _ _ hq
         rw [hr] at hr'; cases hr'; omega
       have huniq : ∀ vs0, w.ownsRow w0.heap.size row.e row.sz (.slice (some ⟨k, 0, none⟩) row.xs.length cap) row.xs.length vs0 → vs0 = us := fun vs0 h0 => by
        rcases h0.2 with ⟨hx, _⟩ | ⟨k', cap', cur', hv', _, hb', _, _, _, ht'⟩
        ·cases hx
        ·injection hv' with hv1 _ _
         injection hv1 with hv1
         injection hv1 with hv1
         subst hv1
         rw [hb] at hb'; cases hb'
         rw [← htake, ← ht']
       have hul1 : (us ++ news).length = (row.xs.length + 1) * row.sz := by rw [List.length_append, hul, hnl, Nat.add_mul, Nat.one_mul]
       have fin : ∀ (w1 w' : World) (k' : Nat) (c' : Nat) (cur1 cur2 : Array Value), aMa w0 f0 ms { σ with rows := σ.rows.set r { row with xs := row.xs ++ [y] } } (g.addPhys r (row.xs.length + 1) (.slice (some ⟨k', 0, none⟩) (row.xs.length + 1) c')) w1 →
         w1.heap[k']? = some (.cells cur1 row.e (0, 0)) → cur2.size = cur1.size → cur2.toList.take ((row.xs.length + 1) * row.sz) = us.take (m * row.sz) ++ news ++ us.drop (m * row.sz) → w'.heap = (w1.setRow k' cur2).heap → w'.os = w1.os → w'.tape = w1.tape → w'.output = w1.output →
         pWa w0 f0 ms g (.mref r (row.xs.length + 1)) { σ with rows := σ.rows.set r { row with xs := row.xs.take m ++ [y] ++ row.xs.drop m } } (.returned (.slice (some ⟨k', 0, none⟩) (row.xs.length + 1) c')) w' := fun w1 w' k' c' cur1 cur2 hs1 hk1 hsz2 ht2 hh ho ht hou => by
        have hle := g.le_addPhys r (row.xs.length + 1) (.slice (some ⟨k', 0, none⟩) (row.xs.length + 1) c') (.inl hnone)
        have hset := hs1.setXs (r := r) (k := k') (cap := c') (row := { row with xs := row.xs ++ [y] }) (xs' := row.xs.take m ++ [y] ++ row.xs.drop m) (cur := cur1) (cur' := cur2)
         (List.getElem?_set_self hrl) hw (by simp [G.addPhys]) (by rw [hxl]; simp) hk1 hsz2 (by
          simp only [List.length_append, List.length_cons, List.length_nil, Nat.zero_add]
          rw [ht2]
          exact hlay _ hle)
        refine ⟨_, _, rfl, hle, jDa (by simp [G.addPhys]) ⟨_, c', rfl⟩, ?_⟩
        have hkept := hset.kept (w' := w') ⟨ho, ht, hou, by rw [hh]; exact Nat.le_refl _, fun q _ => by rw [hh]⟩
        rw [yPa] at hkept
        exact hkept
       by_cases hroom : row.xs.length + 1 ≤ cap
       ·have hnc1 : (row.xs.length + 1) * row.sz ≤ cap * row.sz := Nat.mul_le_mul_right _ hroom
        refine (W.shift k row.xs.length cap m vb voff vc cur news w hml hroom h63 hvk (by rw [← he]; exact hb) hcs hnl hvs1 hone hv1 tA vcs.size hshape hvcs).mono ?_
        rintro e w' ⟨rfl, hh, ho, ht, hou⟩
        obtain ⟨cur2, hcur2⟩ : ∃ cur2, cur2 = (cur.toList.take (m * row.sz) ++ news ++ (cur.toList.take (row.xs.length * row.sz)).drop (m * row.sz) ++ cur.toList.drop ((row.xs.length + 1) * row.sz)).toArray := ⟨_, rfl⟩
        rw [← hcur2] at hh
        obtain ⟨cur1, hcur1⟩ : ∃ cur1, cur1 = (us ++ news ++ cur.toList.drop ((row.xs.length + 1) * row.sz)).toArray := ⟨_, rfl⟩
        have hc1s : cur1.size = cur.size := by
         rw [hcur1, List.size_toArray, List.length_append, hul1, List.length_drop, hcl, hcs]; omega
        have hgr := hs.growRow (w' := w.setRow k cur1) (v' := .slice (some ⟨k, 0, none⟩) (row.xs.length + 1) cap) (ys := [y]) (news := news) hr h1 (by simp) (fun vs0 hvs0 => by
          rw [huniq vs0 hvs0]
          refine ⟨by simpa using hul1, .inr ⟨k, cap, cur1, rfl, hbase, dAa w k cur cur1 _ _ hb, by simpa using hroom, hcm, by rw [hc1s, hcs], ?_⟩⟩
          simp only [List.length_cons, List.length_nil, Nat.zero_add]
          rw [hcur1, ← hul1]
          exact List.take_left) (.inl ⟨rfl, ⟨rfl, rfl, rfl, by simp, fun q _ hq => setRow_other w k q _ (fun e => hq (by simp [Value.ownBlock, e]))⟩⟩) (by simpa using k2)
        refine fin (w.setRow k cur1) w' k cap cur1 cur2 hgr (dAa w k cur cur1 _ _ hb) ?_ ?_ (hh.trans ?_) ho ht hou
        ·have e9 : (row.xs.length + 1) * row.sz = row.xs.length * row.sz + row.sz := by rw [Nat.add_mul, Nat.one_mul]
         rw [hc1s, hcur2]
         simp only [List.size_toArray, List.length_append, List.length_take, List.length_drop, hcl, hnl, hcs]
         omega
        ·rw [hcur2, hpre, htake]
         have : (us.take (m * row.sz) ++ news ++ us.drop (m * row.sz)).length = (row.xs.length + 1) * row.sz := by
          rw [List.length_append, List.length_append, List.length_take, List.length_drop, hul, hnl, Nat.add_mul, Nat.one_mul]; omega
         rw [← this]
         exact List.take_left
        ·apply Array.ext_getElem?
         intro q
         by_cases hq : q = k
         ·subst hq
          rw [setRow_heap _ _ _ _ _ _ hb, setRow_heap _ _ _ _ _ _ (setRow_heap w q cur cur1 _ _ hb)]
         ·rw [setRow_other _ _ _ _ hq, setRow_other _ _ _ _ hq, setRow_other _ _ _ _ hq]
       ·have hbig : (row.xs.length + 1) * 128 ≤ 140737488355328 := by omega
        refine (W.grow k row.xs.length cap m vb voff vc cur news w hml hnc (by omega) hbig (by omega) (by rw [← he]; exact hb) hcs hnl hvs1 hone hv1).mono ?_
        rintro e w' ⟨G, ROW, rfl, hh, hRs, hGn, hGm, hRt, ho, ht, hou⟩
        have hRl : (row.xs.length + 1) * row.sz ≤ ROW.size := by rw [hRs]; exact Nat.mul_le_mul_right _ hGn
        obtain ⟨cur1, hcur1⟩ : ∃ cur1, cur1 = (us ++ news ++ ROW.toList.drop ((row.xs.length + 1) * row.sz)).toArray := ⟨_, rfl⟩
        have hc1s : cur1.size = ROW.size := by
         rw [hcur1, List.size_toArray, List.length_append, hul1, List.length_drop, Array.length_toList]; omega
        have hgr := hs.growRow (w' := w.alloc (.cells cur1 E)) (v' := .slice (some ⟨w.heap.size, 0, none⟩) (row.xs.length + 1) G) (ys := [y]) (news := news) hr h1 (by simp) (fun vs0 hvs0 => by
          rw [huniq vs0 hvs0]
          refine ⟨by simpa using hul1, .inr ⟨w.heap.size, G, cur1, rfl, hs.below.size, by rw [he]; exact heap_alloc_new w _, by simpa using hGn, hGm, by rw [hc1s, hRs], ?_⟩⟩
          simp only [List.length_cons, List.length_nil, Nat.zero_add]
          rw [hcur1, ← hul1]
          exact List.take_left) (.inr ⟨rfl, ⟨rfl, rfl, rfl, by simp, fun q hq _ => heap_alloc_old w _ _ hq⟩⟩) (by simpa using k2)
        refine fin (w.alloc (.cells cur1 E)) w' w.heap.size G cur1 ROW hgr (by rw [he]; exact heap_alloc_new w _) hc1s.symm ?_ (hh.trans (jGa w _ cur1 ROW E rfl).symm) ho ht hou
        rw [hRt, hpre, htake]
    ·cases hp
   ·cases hp
  ·cases hp
open KV (toL)
open KV.toL (toLs)
theorem xKa {P : Program} {Θ : Th} {f : FuncId} {t : Ty} {e : TypeId} {sz : Nat} (hp : Θ.prim f = some (mDa e sz)) {args : List KV} {c : Ck} {v : KV} {rows : List aYa} (h : qGa t e sz args = some (c, v, rows)) (hc : c.val = true) :
  run P Θ (.call f (toLs args)) = some ⟨.normal, v.toL, default, { rows := rows.map aYa.toL }⟩ := by
 have hf : aAa.refFreeL (toLs args) = true := by
  rw [cHa]
  unfold qGa at h
  split at h
  ·rfl
  ·cases h
 have hv : lJa v = true := by
  unfold qGa at h
  split at h
  ·split at h
   ·split at h
    ·cases h; rfl
    ·split at h
     ·cases h; rfl
     ·cases h
   ·cases h
  ·cases h
 rw [aUa]
 simp only [bEa, hp, hf, if_true]
 rw [gBb h hc]
 simp only [Option.bind_some, hKa, iEa hv, if_true]
end Go.Proofs.YtpeaaophmddhnaaGreat.LI
