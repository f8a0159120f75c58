/-
  An interpreter over values is sound, part 21.
-/
import Derived.Test.YtpeaaophmddhnaaGreatN20
namespace Go.Proofs.YtpeaaophmddhnaaGreat.LI
open Go Go.RowKit
open KV (toL)
open KV.toL (toLs)
set_option maxRecDepth 100000
theorem sKa : ∀ {es : List LV} {l : List ByteArray}, jYa es = some l → es = l.map (eEa .str)
 | [], l, h => by cases h; rfl
 | e :: es, l, h => by
  unfold jYa at h
  split at h
  ·rename_i he; cases he
  ·rename_i s es' he
   cases he
   split at h
   ·rename_i l' hl
    cases h
    rw [sKa hl]; rfl
   ·cases h
  ·cases h
theorem lDb {g : G} : ∀ {l : List ByteArray} {sz : Nat} {vs : List Value}, aJa g (l.map (eEa .str)) sz vs → ∀ (j : Nat) (s : ByteArray), l[j]? = some s → vs[j]? = some (.string s)
 | [], _, _, _, j, s, h => by simp at h
 | x :: l, sz, vs, h, j, s, hj => by
  obtain ⟨⟨u, hu, h1, h2, h3⟩, h4⟩ := h
  have hu' : u = .string x := by
   have : aEa g (.sc (.string x)) u := hu
   simp only [aEa] at this
   exact this.1
  subst hu'
  have hsz : sz = 1 := by rw [← h2]; rfl
  subst hsz
  have hv : vs.take 1 = [.string x] := by rw [← h1]; rfl
  cases vs with
  | nil => simp at hv
  | cons v vs =>
   simp only [List.take_succ_cons, List.take_zero, List.cons.injEq, and_true] at hv
   subst hv
   cases j with
   | zero => simpa using hj
   | succ j =>
    simp only [List.getElem?_cons_succ] at hj ⊢
    exact lDb (vs := vs) h4 j s hj
theorem iUb {g : G} {w : World} (hf : sPa g w) {l : List ByteArray} {v : Value} (h : aEa g (.slice (l.map (eEa .str))) v) :
  ∃ a cap b off, v = .slice a l.length cap ∧ (0 < l.length → a = some ⟨b, off, none⟩) ∧ ∀ j, j < l.length → w.cell? ⟨b, off + j, none⟩ = some (.string (l.getD j ByteArray.empty)) := by
 simp only [aEa, List.length_map] at h
 obtain ⟨a, cap, rfl, hc, h | ⟨b, off, sz, hsz, rfl, h⟩⟩ := h
 ·have : l = [] := by simpa using h
  subst this
  exact ⟨a, cap, 0, 0, rfl, fun h => absurd h (by simp), fun j hj => absurd hj (by simp)⟩
 ·refine ⟨_, cap, b, off, rfl, fun _ => rfl, fun j hj => ?_⟩
  have hl : l[j]? = some (l.getD j ByteArray.empty) := by rw [List.getD_eq_getElem?_getD, List.getElem?_eq_getElem hj]; rfl
  have h1 := lDb h j _ hl
  have := lNa hf (k := b) (off := off) (us := (g.fz b).drop off) (rest := []) (by simp) j _ h1
  simpa using this
theorem mZb (a b : List ByteArray) : (lIb a b).length = a.length + 1 := by simp [lIb]
theorem xMa {l : List ByteArray} {i : Nat} (h : i < l.length) : l.drop i = l.getD i ByteArray.empty :: l.drop (i + 1) := by
 rw [List.drop_eq_getElem_cons h, List.getD_eq_getElem?_getD, List.getElem?_eq_getElem h]; rfl
theorem gUb {g : G} (f : Nat → LV) (u : Nat → Value) : ∀ (l : List Nat), (∀ i ∈ l, aEa g (f i) (u i) ∧ (u i).cells = #[u i] ∧ (u i).oneCell' = true) → aJa g (l.map f) 1 (l.map u)
 | [], _ => by simp only [List.map_nil, aJa]
 | i :: l, h => by
  obtain ⟨h1, h2, h3⟩ := h i List.mem_cons_self
  refine ⟨⟨u i, h1, by rw [h2]; rfl, by rw [h2]; rfl, fun c hc => ?_⟩, ?_⟩
  ·rw [h2] at hc
   simp only [List.mem_cons, List.not_mem_nil, or_false] at hc
   subst hc; exact h3
  ·exact gUb f u l fun j hj => h j (List.mem_cons_of_mem _ hj)
theorem uOa {w : World} {b : Nat} {t : TypeId} {n : Nat} {f : Nat → Value} (h : w.rowIs b t n f) : ∃ c : Array Value, w.heap[b]? = some (.cells c t (0, 0)) ∧ c.toList = (List.range n).map f := by
 obtain ⟨c, h1, h2, h3⟩ := h
 refine ⟨c, h1, ?_⟩
 apply List.ext_getElem?
 intro i
 rw [Array.getElem?_toList, List.getElem?_map]
 by_cases hi : i < n
 ·rw [h3 i hi, List.getElem?_range hi]; rfl
 ·rw [Array.getElem?_eq_none (by omega), List.getElem?_eq_none (by simp; omega)]; rfl
theorem oMb {g : G} {w : World} (h : sPa g w) {b : Nat} (hb : w.heap.size ≤ b) : g.fz b = [] := by
 cases hg : g.fz b with
 | nil => rfl
 | cons x l =>
  obtain ⟨cs, T, fr, h1, _⟩ := h b (by rw [hg]; exact List.cons_ne_nil _ _)
  have := dMa h1
  omega
theorem kRb : oJa Tryz.prog 240 uZa where
 ok := fun args q g w vs hp hok hrf hf hv => by
  unfold uZa at hp
  split at hp
  ·rename_i es fs
   split at hp
   ·rename_i a b ha hb
    split at hp
    ·rename_i hc
     cases hp
     have ea := sKa ha
     have eb := sKa hb
     subst ea eb
     simp only [aBa] at hv
     obtain ⟨v1, vs1, hvs, h1, v2, vs2, rfl, h2, rfl⟩ := hv
     obtain ⟨A, ca, ab, ao, rfl, hA, hAc⟩ := iUb hf h1
     obtain ⟨B, cb, bb, bo, rfl, hB, hBc⟩ := iUb hf h2
     have hvs' : vs = #[.slice A a.length ca, .slice B b.length cb] := by apply Array.ext'; simpa using hvs
     subst hvs'
     rw [callsIn_wide]
     have hM : bBa = 1099511627776 := rfl
     refine (eZb A B ab ao bb bo a.length b.length ca cb (fun i => a.getD i ByteArray.empty) (fun j => b.getD j ByteArray.empty) (fun r c => sRa (a.drop r) (b.drop c)) w hA hB (by omega) (by omega) hAc hBc ?_ ?_ ?_ ?_).mono ?_
     ·intro c; simp only [List.drop_length]; exact cIb _
     ·intro r; simp only [List.drop_length]; exact xYa _
     ·intro r c
      have := vWa (a.drop r) (b.drop c)
      rw [List.length_drop] at this
      omega
     ·intro i j hi hj
      simp only [xMa hi, xMa hj, xXa]
     rintro e w' ⟨rfl, hT⟩
     have hs := aMa.empty hf
     obtain ⟨N, hN⟩ : ∃ N, N = w.heap.size := ⟨_, rfl⟩
     obtain ⟨g', hg'⟩ : ∃ g' : G, g' = { g.bare with fz := fun k => if k = N then (List.range (a.length + 1)).map (fun j => Value.slice (some ⟨N + 1 + j, 0, none⟩) (b.length + 1) (b.length + 1)) else if N < k ∧ k ≤ N + 1 + a.length then (List.range (b.length + 1)).map (fun c => Value.int .i64 ((sRa (a.drop (k - N - 1)) (b.drop c) : Nat) : Int)) else g.fz k } := ⟨_, rfl⟩
     have f0 : g'.fz N = (List.range (a.length + 1)).map (fun j => Value.slice (some ⟨N + 1 + j, 0, none⟩) (b.length + 1) (b.length + 1)) := by rw [hg']; exact if_pos rfl
     have f1 : ∀ j, j ≤ a.length → g'.fz (N + 1 + j) = (List.range (b.length + 1)).map (fun c => Value.int .i64 ((sRa (a.drop j) (b.drop c) : Nat) : Int)) := fun j hj => by
      rw [hg']
      show (if _ then _ else if _ then _ else _) = _
      rw [if_neg (by omega), if_pos (by omega), show N + 1 + j - N - 1 = j by omega]
     have f2 : ∀ k, ¬ (N ≤ k ∧ k ≤ N + 1 + a.length) → g'.fz k = g.fz k := fun k hk => by
      rw [hg']
      show (if _ then _ else if _ then _ else _) = _
      rw [if_neg (by omega), if_neg (by omega)]
     have hbel : Below w.heap.size w w' := ⟨hT.since.os, hT.since.tape, hT.since.output, hT.since.size, hT.since.block⟩
     have hle : ∀ k, g.fz k <+: g'.fz k := fun k => by
      by_cases hk : w.heap.size ≤ k
      ·rw [oMb hf hk]; exact List.nil_prefix
      ·rw [f2 k (by omega)]; exact List.prefix_refl _
     have hfz : sPa g' w' := fun k hk => by
      by_cases hkN : N ≤ k ∧ k ≤ N + 1 + a.length
      ·by_cases hk0 : k = N
       ·subst hk0
        obtain ⟨c, c1, c2⟩ := uOa hT.top
        refine ⟨c, _, _, by rw [hN]; exact c1, ?_⟩
        rw [c2, f0, hN]
        have : (List.range (a.length + 1)).map (yZa w.heap.size (b.length + 1) (a.length + 1)) = (List.range (a.length + 1)).map (fun j => Value.slice (some ⟨w.heap.size + 1 + j, 0, none⟩) (b.length + 1) (b.length + 1)) := by
         apply List.map_congr_left
         intro j hj
         rw [List.mem_range] at hj
         simp only [yZa]; rw [if_pos hj]
        rw [this]
        exact List.prefix_refl _
       ·obtain ⟨j, rfl⟩ : ∃ j, k = N + 1 + j := ⟨k - N - 1, by omega⟩
        obtain ⟨c, c1, c2⟩ := uOa (hT.done j (by omega))
        refine ⟨c, _, _, by rw [hN]; exact c1, ?_⟩
        rw [c2, f1 j (by omega)]
        exact List.prefix_refl _
      ·rw [f2 k hkN] at hk ⊢
       exact (hf.kept hbel) k hk
     refine ⟨_, g', rfl, hle, hs.fzmore hle (fun k hk => f2 k (by omega)) ⟨by rw [hg'], by rw [hg'], by rw [hg'], by rw [hg']⟩ hbel hfz, ?_⟩
     simp only [aEa, List.length_map, mZb]
     refine ⟨_, _, rfl, Nat.le_refl _, .inr ⟨N, 0, 1, by omega, by rw [hN], ?_⟩⟩
     rw [List.drop_zero, f0]
     have he : (lIb a b).map (eEa fOb) = (List.range (a.length + 1)).map fun i => LV.slice ((List.range (b.length + 1)).map fun j => LV.sc (.int .i64 ((sRa (a.drop i) (b.drop j) : Nat) : Int))) := by
      unfold lIb
      rw [List.map_map]
      apply List.map_congr_left
      intro i _
      show LV.slice (List.map (eEa (.int .i64)) _) = _
      rw [List.map_map]
      rfl
     rw [he]
     refine gUb _ _ _ fun i hi => ⟨?_, rfl, rfl⟩
     rw [List.mem_range] at hi
     simp only [aEa, List.length_map, List.length_range]
     refine ⟨_, _, rfl, Nat.le_refl _, .inr ⟨N + 1 + i, 0, 1, by omega, rfl, ?_⟩⟩
     rw [List.drop_zero, f1 i (by omega)]
     refine gUb _ _ _ fun j _ => ⟨?_, rfl, rfl⟩
     simp only [aEa]
     exact ⟨trivial, rfl⟩
    ·cases hp
   ·cases hp
  ·cases hp
theorem iXb {P : Program} {Θ : Th} {f : FuncId} (hp : Θ.prim f = some uZa) {args : List KV} {c : Ck} {v : KV} {rows : List aYa} (h : uYa args = some (c, v, rows)) (hc : c.val = true) :
  run P Θ (.call f (toLs args)) = some ⟨.normal, v.toL, default, { rows := rows.map aYa.toL }⟩ := by
 have hf : aAa.refFreeL (toLs args) = true := by
  rw [cHa]
  unfold uYa at h
  split at h
  ·rfl
  ·cases h
 have hv : lJa v = true := by
  unfold uYa at h
  split at h
  ·split at h
   ·cases h; rfl
   ·cases h
  ·cases h
 rw [aUa]
 simp only [bEa, hp, hf, if_true]
 rw [iWb h hc]
 simp only [Option.bind_some, hKa, iEa hv, if_true]
end Go.Proofs.YtpeaaophmddhnaaGreat.LI
