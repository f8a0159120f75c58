/-
  The document's Table (layer 3): a function that is given as a whole.
-/
import Derived.Test.YticpcfchhcjjeaaTbW
import Derived.Test.YticpcfchhcjjeaaLiTb
import Derived.Test.YticpcfchhcjjeaaLiZi
namespace Go.Proofs.Yticpcfchhcjjeaa.LI
open Go Go.RowKit
open KV (toL)
open KV.toL (toLs)
set_option maxRecDepth 100000

theorem strsL_inv : ∀ {es : List LV} {l : List ByteArray}, strsL es = some l → es = l.map (encL .str)
  | [], l, h => by cases h; rfl
  | e :: es, l, h => by
    unfold strsL at h
    split at h
    · rename_i he; cases he
    · rename_i s es' he
      cases he
      split at h
      · rename_i l' hl
        cases h
        rw [strsL_inv hl]; rfl
      · cases h
    · cases h
theorem es_str {g : G} : ∀ {l : List ByteArray} {sz : Nat} {vs : List Value}, EsRel g (l.map (encL .str)) sz vs → ∀ (j : Nat) (s : ByteArray), l[j]? = some s → vs[j]? = some (.string s)
  | [], _, _, _, j, s, h => by simp at h
  | x :: l, sz, vs, h, j, s, hj => by
    obtain ⟨⟨u, hu, h1, h2, h3⟩, h4⟩ := h
    have hu' : u = .string x := by
      have : VRel g (.sc (.string x)) u := hu
      simp only [VRel] at this
      exact this.1
    subst hu'
    have hsz : sz = 1 := by rw [← h2]; rfl
    subst hsz
    have hv : vs.take 1 = [.string x] := by rw [← h1]; rfl
    cases vs with
    | nil => simp at hv
    | cons v vs =>
      simp only [List.take_succ_cons, List.take_zero, List.cons.injEq, and_true] at hv
      subst hv
      cases j with
      | zero => simpa using hj
      | succ j =>
        simp only [List.getElem?_cons_succ] at hj ⊢
        exact es_str (vs := vs) h4 j s hj
/-- A list of strings that is handed in: where its cells lie. -/
theorem strs_at {g : G} {w : World} (hf : FzOK g w) {l : List ByteArray} {v : Value} (h : VRel g (.slice (l.map (encL .str))) v) :
    ∃ a cap b off, v = .slice a l.length cap ∧ (0 < l.length → a = some ⟨b, off, none⟩) ∧ ∀ j, j < l.length → w.cell? ⟨b, off + j, none⟩ = some (.string (l.getD j ByteArray.empty)) := by
  simp only [VRel, List.length_map] at h
  obtain ⟨a, cap, rfl, hc, h | ⟨b, off, sz, hsz, rfl, h⟩⟩ := h
  · have : l = [] := by simpa using h
    subst this
    exact ⟨a, cap, 0, 0, rfl, fun h => absurd h (by simp), fun j hj => absurd hj (by simp)⟩
  · refine ⟨_, cap, b, off, rfl, fun _ => rfl, fun j hj => ?_⟩
    have hl : l[j]? = some (l.getD j ByteArray.empty) := by rw [List.getD_eq_getElem?_getD, List.getElem?_eq_getElem hj]; rfl
    have h1 := es_str h j _ hl
    have := lies_fz hf (k := b) (off := off) (us := (g.fz b).drop off) (rest := []) (by simp) j _ h1
    simpa using this
theorem tab_len (a b : List ByteArray) : (tabN a b).length = a.length + 1 := by simp [tabN]
theorem drop_getD {l : List ByteArray} {i : Nat} (h : i < l.length) : l.drop i = l.getD i ByteArray.empty :: l.drop (i + 1) := by
  rw [List.drop_eq_getElem_cons h, List.getD_eq_getElem?_getD, List.getElem?_eq_getElem h]; rfl
theorem es_map {g : G} (f : Nat → LV) (u : Nat → Value) : ∀ (l : List Nat), (∀ i ∈ l, VRel g (f i) (u i) ∧ (u i).cells = #[u i] ∧ (u i).oneCell' = true) → EsRel g (l.map f) 1 (l.map u)
  | [], _ => by simp only [List.map_nil, EsRel]
  | i :: l, h => by
    obtain ⟨h1, h2, h3⟩ := h i List.mem_cons_self
    refine ⟨⟨u i, h1, by rw [h2]; rfl, by rw [h2]; rfl, fun c hc => ?_⟩, ?_⟩
    · rw [h2] at hc
      simp only [List.mem_cons, List.not_mem_nil, or_false] at hc
      subst hc; exact h3
    · exact es_map f u l fun j hj => h j (List.mem_cons_of_mem _ hj)
theorem rowIs_list {w : World} {b : Nat} {t : TypeId} {n : Nat} {f : Nat → Value} (h : w.rowIs b t n f) : ∃ c : Array Value, w.heap[b]? = some (.cells c t (0, 0)) ∧ c.toList = (List.range n).map f := by
  obtain ⟨c, h1, h2, h3⟩ := h
  refine ⟨c, h1, ?_⟩
  apply List.ext_getElem?
  intro i
  rw [Array.getElem?_toList, List.getElem?_map]
  by_cases hi : i < n
  · rw [h3 i hi, List.getElem?_range hi]; rfl
  · rw [Array.getElem?_eq_none (by omega), List.getElem?_eq_none (by simp; omega)]; rfl
theorem fz_low {g : G} {w : World} (h : FzOK g w) {b : Nat} (hb : w.heap.size ≤ b) : g.fz b = [] := by
  cases hg : g.fz b with
  | nil => rfl
  | cons x l =>
    obtain ⟨cs, T, fr, h1, _⟩ := h b (by rw [hg]; exact List.cons_ne_nil _ _)
    have := heap_lt h1
    omega
theorem table_ok : PrimOK Try.prog 132 tableL where
  ok := fun args q g w vs hp hok hrf hf hv => by
    unfold tableL at hp
    split at hp
    · rename_i es fs
      split at hp
      · rename_i a b ha hb
        split at hp
        · rename_i hc
          cases hp
          have ea := strsL_inv ha
          have eb := strsL_inv hb
          subst ea eb
          simp only [VsRel] at hv
          obtain ⟨v1, vs1, hvs, h1, v2, vs2, rfl, h2, rfl⟩ := hv
          obtain ⟨A, ca, ab, ao, rfl, hA, hAc⟩ := strs_at hf h1
          obtain ⟨B, cb, bb, bo, rfl, hB, hBc⟩ := strs_at hf h2
          have hvs' : vs = #[.slice A a.length ca, .slice B b.length cb] := by apply Array.ext'; simpa using hvs
          subst hvs'
          rw [callsIn_wide]
          have hM : maxEls = 1099511627776 := rfl
          refine (table_walk A B ab ao bb bo a.length b.length ca cb (fun i => a.getD i ByteArray.empty) (fun j => b.getD j ByteArray.empty) (fun r c => lcsN (a.drop r) (b.drop c)) w hA hB (by omega) (by omega) hAc hBc ?_ ?_ ?_ ?_).mono ?_
          · intro c; simp only [List.drop_length]; exact lcsN_nil _
          · intro r; simp only [List.drop_length]; exact lcsN_nil' _
          · intro r c
            have := lcsN_le (a.drop r) (b.drop c)
            rw [List.length_drop] at this
            omega
          · intro i j hi hj
            simp only [drop_getD hi, drop_getD hj, lcsN_cons]
          rintro e w' ⟨rfl, hT⟩
          have hs := SRel.empty hf
          obtain ⟨N, hN⟩ : ∃ N, N = w.heap.size := ⟨_, rfl⟩
          obtain ⟨g', hg'⟩ : ∃ g' : G, g' = { g.bare with fz := fun k => if k = N then (List.range (a.length + 1)).map (fun j => Value.slice (some ⟨N + 1 + j, 0, none⟩) (b.length + 1) (b.length + 1)) else if N < k ∧ k ≤ N + 1 + a.length then (List.range (b.length + 1)).map (fun c => Value.int .i64 ((lcsN (a.drop (k - N - 1)) (b.drop c) : Nat) : Int)) else g.fz k } := ⟨_, rfl⟩
          have f0 : g'.fz N = (List.range (a.length + 1)).map (fun j => Value.slice (some ⟨N + 1 + j, 0, none⟩) (b.length + 1) (b.length + 1)) := by rw [hg']; exact if_pos rfl
          have f1 : ∀ j, j ≤ a.length → g'.fz (N + 1 + j) = (List.range (b.length + 1)).map (fun c => Value.int .i64 ((lcsN (a.drop j) (b.drop c) : Nat) : Int)) := fun j hj => by
            rw [hg']
            show (if _ then _ else if _ then _ else _) = _
            rw [if_neg (by omega), if_pos (by omega), show N + 1 + j - N - 1 = j by omega]
          have f2 : ∀ k, ¬ (N ≤ k ∧ k ≤ N + 1 + a.length) → g'.fz k = g.fz k := fun k hk => by
            rw [hg']
            show (if _ then _ else if _ then _ else _) = _
            rw [if_neg (by omega), if_neg (by omega)]
          have hbel : Below w.heap.size w w' := ⟨hT.since.os, hT.since.tape, hT.since.output, hT.since.size, hT.since.block⟩
          have hle : ∀ k, g.fz k <+: g'.fz k := fun k => by
            by_cases hk : w.heap.size ≤ k
            · rw [fz_low hf hk]; exact List.nil_prefix
            · rw [f2 k (by omega)]; exact List.prefix_refl _
          have hfz : FzOK g' w' := fun k hk => by
            by_cases hkN : N ≤ k ∧ k ≤ N + 1 + a.length
            · by_cases hk0 : k = N
              · subst hk0
                obtain ⟨c, c1, c2⟩ := rowIs_list hT.top
                refine ⟨c, _, _, by rw [hN]; exact c1, ?_⟩
                rw [c2, f0, hN]
                have : (List.range (a.length + 1)).map (tbTop w.heap.size (b.length + 1) (a.length + 1)) = (List.range (a.length + 1)).map (fun j => Value.slice (some ⟨w.heap.size + 1 + j, 0, none⟩) (b.length + 1) (b.length + 1)) := by
                  apply List.map_congr_left
                  intro j hj
                  rw [List.mem_range] at hj
                  simp only [tbTop]; rw [if_pos hj]
                rw [this]
                exact List.prefix_refl _
              · obtain ⟨j, rfl⟩ : ∃ j, k = N + 1 + j := ⟨k - N - 1, by omega⟩
                obtain ⟨c, c1, c2⟩ := rowIs_list (hT.done j (by omega))
                refine ⟨c, _, _, by rw [hN]; exact c1, ?_⟩
                rw [c2, f1 j (by omega)]
                exact List.prefix_refl _
            · rw [f2 k hkN] at hk ⊢
              exact (hf.kept hbel) k hk
          refine ⟨_, g', rfl, hle, hs.fzmore hle (fun k hk => f2 k (by omega)) ⟨by rw [hg'], by rw [hg'], by rw [hg'], by rw [hg']⟩ hbel hfz, ?_⟩
          simp only [VRel, List.length_map, tab_len]
          refine ⟨_, _, rfl, Nat.le_refl _, .inr ⟨N, 0, 1, by omega, by rw [hN], ?_⟩⟩
          rw [List.drop_zero, f0]
          have he : (tabN a b).map (encL TabTy) = (List.range (a.length + 1)).map fun i => LV.slice ((List.range (b.length + 1)).map fun j => LV.sc (.int .i64 ((lcsN (a.drop i) (b.drop j) : Nat) : Int))) := by
            unfold tabN
            rw [List.map_map]
            apply List.map_congr_left
            intro i _
            show LV.slice (List.map (encL (.int .i64)) _) = _
            rw [List.map_map]
            rfl
          rw [he]
          refine es_map _ _ _ fun i hi => ⟨?_, rfl, rfl⟩
          rw [List.mem_range] at hi
          simp only [VRel, List.length_map, List.length_range]
          refine ⟨_, _, rfl, Nat.le_refl _, .inr ⟨N + 1 + i, 0, 1, by omega, rfl, ?_⟩⟩
          rw [List.drop_zero, f1 i (by omega)]
          refine es_map _ _ _ fun j _ => ⟨?_, rfl, rfl⟩
          simp only [VRel]
          exact ⟨trivial, rfl⟩
        · cases hp
      · cases hp
    · cases hp
theorem table_run {P : Program} {Θ : Th} {f : FuncId} (hp : Θ.prim f = some tableL) {args : List KV} {c : Ck} {v : KV} {rows : List KRow} (h : tableK args = some (c, v, rows)) (hc : c.val = true) :
    run P Θ (.call f (toLs args)) = some ⟨.normal, v.toL, default, { rows := rows.map KRow.toL }⟩ := by
  have hf : refFree.refFreeL (toLs args) = true := by
    rw [freeKL_eq]
    unfold tableK at h
    split at h
    · rfl
    · cases h
  have hv : callOkK v = true := by
    unfold tableK at h
    split at h
    · split at h
      · cases h; rfl
      · cases h
    · cases h
  rw [run_step]
  simp only [stepT, hp, hf, if_true]
  rw [tableK_ok h hc]
  simp only [Option.bind_some, callEnd, callOkK_sound hv, if_true]
end Go.Proofs.Yticpcfchhcjjeaa.LI
