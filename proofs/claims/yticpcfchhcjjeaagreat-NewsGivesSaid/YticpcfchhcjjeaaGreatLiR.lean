/-
  What a law's argument reads as, and the logical value that it is. No program is named here.
-/
import Derived.Test.YticpcfchhcjjeaaGreatLiSJ
import Derived.ChangeArms
import Derived.WideShapes
namespace Go.Proofs.YticpcfchhcjjeaaGreat.LI
open Go Go.RowKit

mutual
/-- The logical value of what has been read. -/
def lvOf {H : Type} : DataW H → LV
  | .lit (.bool b) => .sc (.bool b)
  | .lit (.int k n) => .sc (.int k n)
  | .lit (.string bs) => .sc (.string ⟨bs.toArray⟩)
  | .nil => .slice []
  | .slice es _ => .slice (lvOfL es)
  | .agg ps => .agg (cellsOfL ps)
  | _ => .undef
def lvOfL {H : Type} : List (DataW H) → List LV
  | [] => []
  | d :: ds => lvOf d :: lvOfL ds
def cellsOfL {H : Type} : List (DataW H) → List LV
  | [] => []
  | d :: ds => (lvOf d).cells ++ cellsOfL ds
end

theorem lvOfL_map {H : Type} : ∀ (ds : List (DataW H)), lvOfL ds = ds.map lvOf
  | [] => rfl
  | d :: ds => by rw [lvOfL, lvOfL_map ds]; rfl
theorem cellsOfL_map {H : Type} : ∀ (ds : List (DataW H)), cellsOfL ds = (ds.map lvOf).flatMap LV.cells
  | [] => rfl
  | d :: ds => by rw [cellsOfL, cellsOfL_map ds]; rfl

/-- All memory as it lies, frozen. -/
def gW (W : World) : G := { fz := fun b => match W.heap[b]? with | some (.cells cs _ _) => cs.toList | _ => [], box := [], phys := fun _ _ => none, loop := [], map := [] }
theorem gW_ok (W : World) : FzOK (gW W) W := by
  intro b hn
  simp only [gW] at hn ⊢
  split at hn
  · rename_i cs T fr h
    exact ⟨cs, T, fr, h, List.prefix_refl _⟩
  · exact absurd rfl hn

theorem gW_cell {W : World} {a : Addr} {v : Value} (h : W.cell? a = some v) : a.spot = none ∧ ((gW W).fz a.block)[a.off]? = some v := by
  unfold World.cell? at h
  split at h
  · rename_i cs T fr hb
    split at h
    · cases h
    · rename_i hs
      refine ⟨by simpa using hs, ?_⟩
      simp only [gW, hb]
      simpa using h
  · cases h

def tilesF (P : Program) : List Field → Nat → Option Nat
  | [], n => some n
  | f :: fs, n => if f.offset = n then tilesF P fs (n + P.cellsOf f.type) else none
/-- Types of plain data: whole numbers, bools, strings, slices and structs of them. -/
def dataT (P : Program) : Nat → TypeId → Bool
  | 0, _ => false
  | n + 1, t => match P.underlying t with
    | some .bool => P.cellsOf t == 1
    | some (.int _) => P.cellsOf t == 1
    | some .string => P.cellsOf t == 1
    | some (.slice e) => P.cellsOf t == 1 && decide (0 < P.cellsOf e) && dataT P n e
    | some (.struct fs) => decide (tilesF P fs.toList 0 = some (P.cellsOf t)) && fs.toList.all fun f => dataT P n f.type
    | _ => false

section
variable {P : Program} {H : Type} {enc : TypeId × Value → H} {W : World} {base : Nat} {sp : Nat → Bool} {held : Bool}

theorem EsRel_mk {g : G} : ∀ {es : List LV} {sz : Nat} {vs : List Value}, (∀ (i : Nat) (x : LV), es[i]? = some x → ∃ u, VRel g x u ∧ u.cells.toList = (vs.drop (i * sz)).take sz ∧ u.cells.size = sz ∧ ∀ c ∈ u.cells.toList, c.oneCell' = true) → EsRel g es sz vs
  | [], sz, vs, _ => by simp [EsRel]
  | x :: es, sz, vs, h => by
    simp only [EsRel]
    refine ⟨by simpa using h 0 x rfl, EsRel_mk fun i y hy => ?_⟩
    have := h (i + 1) y (by simpa using hy)
    rw [List.drop_drop]
    rw [Nat.add_mul, Nat.one_mul, Nat.add_comm] at this
    exact this

theorem refFreeL_mem : ∀ {xs : List LV}, (∀ x ∈ xs, refFree x = true) → refFree.refFreeL xs = true
  | [], _ => rfl
  | x :: xs, h => by
    simp only [refFree.refFreeL, Bool.and_eq_true]
    exact ⟨h x List.mem_cons_self, refFreeL_mem fun y hy => h y (List.mem_cons_of_mem _ hy)⟩
theorem refFreeL_append {xs ys : List LV} (h : refFree.refFreeL xs = true) (k : refFree.refFreeL ys = true) : refFree.refFreeL (xs ++ ys) = true := by
  induction xs with
  | nil => simpa using k
  | cons x xs ih =>
    simp only [List.cons_append, refFree.refFreeL, Bool.and_eq_true] at h ⊢
    exact ⟨h.1, ih h.2⟩

/-- What it comes to that data of this type have been read off these cells. -/
structure CellsOK (P : Program) (t : TypeId) (g : G) (lv : LV) (cs : List Value) : Prop where
  val : ∃ u, VRel g lv u ∧ u.cells.toList = cs ∧ (∀ fs, P.underlying t = some (.struct fs) → u = .agg cs.toArray) ∧ ((∀ fs, P.underlying t ≠ some (.struct fs)) → cs = [u])
  one : ∀ c ∈ cs, c.oneCell' = true
  cells : VsRel g lv.cells cs
  len : cs.length = P.cellsOf t
  stor : storable lv = true
  free : refFree lv = true

theorem cells_of {lv : LV} {g : G} {u : Value} {cs : List Value} (h : VRel g lv u) (hs : storable lv = true) (hu : u.cells.toList = cs) : VsRel g lv.cells cs ∧ ∀ c ∈ cs, c.oneCell' = true := by
  subst hu
  exact cells_rel h hs

theorem trod_rel : ∀ (n : Nat) (t : TypeId), dataT P n t = true → ∀ (fuel : Nat) (cs : List Value) (x : DataW H × List MemPlace), DataW.trod enc P W base sp held fuel t cs = some x → CellsOK P t (gW W) (lvOf x.1) cs := by
  intro n
  induction n with
  | zero => intro t h; simp [dataT] at h
  | succ n ih =>
    intro t ht fuel cs x hx
    have scalar : ∀ (u v : Value) (lv : LV), P.cellsOf t = 1 → (∀ fs, P.underlying t ≠ some (.struct fs)) → VRel (gW W) lv v → v.cells = #[v] → storable lv = true → refFree lv = true → CellsOK P t (gW W) lv [v] := by
      intro u v lv h1 h2 h3 h4 h5 h6
      obtain ⟨k1, k2⟩ := cells_of h3 h5 (cs := [v]) (by rw [h4])
      exact ⟨⟨v, h3, by rw [h4], fun fs hfs => absurd hfs (h2 fs), fun _ => rfl⟩, k2, k1, by simp [h1], h5, h6⟩
    unfold dataT at ht
    split at ht
    · rename_i hu
      obtain ⟨b, rfl, rfl⟩ := DataW.trod_bool hu hx
      exact scalar (.bool b) _ _ (by simpa using ht) (fun fs h => by rw [hu] at h; cases h) (VRel_mkbool b) rfl rfl rfl
    · rename_i k hu
      obtain ⟨m, rfl, rfl, _⟩ := DataW.trod_int hu hx
      exact scalar (.int k m) _ _ (by simpa using ht) (fun fs h => by rw [hu] at h; cases h) (VRel_mkint k m) rfl rfl rfl
    · rename_i hu
      obtain ⟨s, rfl, rfl, _⟩ := DataW.trod_string hu hx
      have : (⟨s.data.toList.toArray⟩ : ByteArray) = s := by cases s; simp
      simp only [lvOf, this]
      exact scalar (.string s) _ _ (by simpa using ht) (fun fs h => by rw [hu] at h; cases h) (VRel_mkstr s) rfl rfl rfl
    · rename_i e hu
      simp only [Bool.and_eq_true, beq_iff_eq, decide_eq_true_eq] at ht
      obtain ⟨⟨h1, hpos⟩, hd⟩ := ht
      rcases DataW.trod_slice hu hx with ⟨rfl, rfl⟩ | ⟨a, len, cap, elems, rest, m, rfl, rfl, rfl, _, hle, _, hlen, hel, _⟩
      · refine scalar (.slice none 0 0) _ _ h1 (fun fs h => by rw [hu] at h; cases h) ?_ rfl rfl rfl
        simp only [lvOf, VRel]
        exact ⟨none, 0, rfl, by simp, .inl trivial⟩
      · have hcells : ∀ (i : Nat) (y : DataW H × List MemPlace), elems[i]? = some y → ∃ cs', W.cells? base (a.add (i * P.cellsOf e)) (P.cellsOf e) = some cs' ∧ DataW.trod enc P W base sp held m e cs' = some y := by
          intro i y hy
          have hi : i < len := by rw [← hlen]; exact (List.getElem?_eq_some_iff.1 hy).1
          have h2 := hel i hi
          rw [hy] at h2
          exact Option.bind_eq_some_iff.1 h2
        have hget : ∀ (k : Nat) (cs' : List Value), W.cells? base (a.add k) (P.cellsOf e) = some cs' → cs'.length = P.cellsOf e ∧ ∀ j, j < P.cellsOf e → ∃ u, cs'[j]? = some u ∧ W.cell? ((a.add k).add j) = some u := by
          intro k cs' hcs
          unfold World.cells? at hcs
          split at hcs
          · have hl := mapM_some_length hcs
            rw [List.length_range] at hl
            refine ⟨hl, fun j hj => ?_⟩
            have hj' : j < cs'.length := by omega
            have := mapM_some_get hcs j j (by simp [hj])
            rw [List.getElem?_eq_getElem hj'] at this
            exact ⟨_, List.getElem?_eq_getElem hj', this⟩
          · cases hcs
        have hspot : elems ≠ [] → a.spot = none := by
          intro hne
          obtain ⟨cs0, hc0, _⟩ := hcells 0 (elems[0]'(List.length_pos_iff.2 hne)) (List.getElem?_eq_getElem _)
          obtain ⟨_, h0⟩ := hget _ cs0 hc0
          obtain ⟨u, _, hu0⟩ := h0 0 hpos
          have := (gW_cell hu0).1
          simpa [Addr.add] using this
        have hkey : ∀ (i : Nat) (y : DataW H × List MemPlace), elems[i]? = some y → CellsOK P e (gW W) (lvOf y.1) ((((gW W).fz a.block).drop a.off).drop (i * P.cellsOf e) |>.take (P.cellsOf e)) := by
          intro i y hy
          have hne : elems ≠ [] := by rintro rfl; simp at hy
          have hsp := hspot hne
          obtain ⟨cs', hcs, htr⟩ := hcells i y hy
          have hok := ih e hd m cs' y htr
          obtain ⟨hl, hj⟩ := hget _ cs' hcs
          have heq : ((((gW W).fz a.block).drop a.off).drop (i * P.cellsOf e)).take (P.cellsOf e) = cs' := by
            apply List.ext_getElem?
            intro j
            by_cases hjl : j < P.cellsOf e
            · rw [List.getElem?_take_of_lt hjl, List.getElem?_drop, List.getElem?_drop]
              obtain ⟨u, h1, h2⟩ := hj j hjl
              rw [h1]
              have ha : a = ⟨a.block, a.off, none⟩ := by cases a; simp_all
              rw [ha, addr_add, addr_add] at h2
              have := (gW_cell h2).2
              simp only at this
              rw [← this, Nat.add_assoc]
            · rw [List.getElem?_eq_none (by rw [List.length_take]; omega), List.getElem?_eq_none (by omega)]
          rw [heq]
          exact hok
        refine scalar (.slice (some a) len cap) _ _ h1 (fun fs h => by rw [hu] at h; cases h) ?_ rfl rfl ?_
        · simp only [lvOf, lvOfL_map, VRel]
          refine ⟨some a, cap, by simp [hlen], by simp [hlen, hle], ?_⟩
          by_cases hne : elems = []
          · left; simp [hne]
          · right
            have hs := hspot hne
            refine ⟨a.block, a.off, P.cellsOf e, hpos, by cases a; simp_all, EsRel_mk fun i z hz => ?_⟩
            simp only [List.map_map, List.getElem?_map, Option.map_eq_some_iff] at hz
            obtain ⟨y, hy, rfl⟩ := hz
            have hok := hkey i y hy
            obtain ⟨u, k1, k2, _⟩ := hok.val
            refine ⟨u, k1, k2, ?_, by rw [k2]; exact hok.one⟩
            rw [← Array.length_toList, k2]; exact hok.len
        · simp only [lvOf, lvOfL_map, refFree]
          refine refFreeL_mem fun z hz => ?_
          simp only [List.map_map, List.mem_map] at hz
          obtain ⟨y, hy, rfl⟩ := hz
          obtain ⟨i, hi⟩ := List.mem_iff_getElem?.1 hy
          exact (hkey i y hi).free
    · rename_i fs hu
      simp only [Bool.and_eq_true, decide_eq_true_eq, List.all_eq_true] at ht
      obtain ⟨htile, hall⟩ := ht
      obtain ⟨xs, m, rfl, rfl, hl, hxl, hf⟩ := DataW.trod_struct hu hx
      have gen : ∀ (fl : List Field) (ys : List (DataW H × List MemPlace)) (off tot : Nat), tilesF P fl off = some tot → ys.length = fl.length → (∀ f ∈ fl, dataT P n f.type = true) →
          (∀ (i : Nat) (f : Field), fl[i]? = some f → DataW.trod enc P W base sp held m f.type ((cs.drop f.offset).take (P.cellsOf f.type)) = ys[i]?) →
          VsRel (gW W) ((ys.map fun y => lvOf y.1).flatMap LV.cells) ((cs.drop off).take (tot - off)) ∧ off ≤ tot ∧ refFree.refFreeL ((ys.map fun y => lvOf y.1).flatMap LV.cells) = true ∧ ∀ c ∈ (cs.drop off).take (tot - off), c.oneCell' = true := by
        intro fl
        induction fl with
        | nil =>
          intro ys off tot h1 h2 _ _
          simp only [tilesF, Option.some.injEq] at h1
          subst h1
          have : ys = [] := List.eq_nil_of_length_eq_zero (by simpa using h2)
          subst this
          simp [VsRel, refFree.refFreeL]
        | cons f fl ihf =>
          intro ys off tot h1 h2 h3 h4
          simp only [tilesF] at h1
          split at h1
          · rename_i hoff
            cases ys with
            | nil => simp at h2
            | cons y ys =>
              have hy := h4 0 f rfl
              simp only [List.getElem?_cons_zero] at hy
              have hok := ih f.type (h3 f List.mem_cons_self) m _ y hy
              obtain ⟨k1, k2, k3, k4⟩ := ihf ys _ tot h1 (by simpa using h2) (fun f' hf' => h3 f' (List.mem_cons_of_mem _ hf')) (fun i f' hf' => by
                have := h4 (i + 1) f' (by simpa using hf')
                simpa using this)
              have hsz := hok.len
              rw [hoff] at hok hsz
              have hsplit : (cs.drop off).take (tot - off) = ((cs.drop off).take (P.cellsOf f.type)) ++ ((cs.drop (off + P.cellsOf f.type)).take (tot - (off + P.cellsOf f.type))) := by
                rw [show tot - off = P.cellsOf f.type + (tot - (off + P.cellsOf f.type)) from by omega, List.take_add, List.drop_drop]
              refine ⟨?_, by omega, ?_, ?_⟩
              · rw [hsplit, List.map_cons, List.flatMap_cons]
                exact VsRel_append hok.cells k1
              · rw [List.map_cons, List.flatMap_cons]
                refine refFreeL_append ?_ k3
                have hfr := hok.free
                have hst := hok.stor
                cases hlv : lvOf y.1 <;> rw [hlv] at hfr hst <;> first | (simp only [LV.cells, refFree.refFreeL, Bool.and_true]; exact hfr) | (simp only [LV.cells]; simpa [refFree] using hfr)
              · intro c hc
                rw [hsplit] at hc
                rcases List.mem_append.1 hc with hc | hc
                · exact hok.one c hc
                · exact k4 c hc
          · cases h1
      obtain ⟨k1, _, k3, k4⟩ := gen fs.toList xs 0 _ htile (by simpa using hxl) hall (fun i f hif => hf i f (by simpa using hif))
      rw [List.drop_zero, Nat.sub_zero, List.take_of_length_le (by omega)] at k1 k4
      have hlv : lvOf (DataW.agg (xs.map (·.1)) : DataW H) = .agg ((xs.map fun y => lvOf y.1).flatMap LV.cells) := by
        simp only [lvOf, cellsOfL_map, List.map_map]
        rfl
      rw [hlv]
      have hv : VRel (gW W) (.agg ((xs.map fun y => lvOf y.1).flatMap LV.cells)) (.agg cs.toArray) := by
        simp only [VRel]
        exact ⟨_, rfl, by simpa using k1, by simpa using k4⟩
      exact ⟨⟨.agg cs.toArray, hv, by simp [Value.cells], fun _ _ => rfl, fun h => absurd hu (h fs)⟩, k4, k1, hl, rfl, by simpa [refFree] using k3⟩
    · cases ht

/-- An argument: what it reads as is its logical value. -/
theorem arg_rel {n : Nat} {t : TypeId} (ht : dataT P n t = true) {r : Reach} {b0 : Nat} {v : Value} {d : DataW H} {ps : List MemPlace} (hval : Value.okWide P W r b0 t v) (hd : DataW.Trod enc P W base sp held t v d ps) :
    VRel (gW W) (lvOf d) v ∧ refFree (lvOf d) = true := by
  obtain ⟨fuel, hf⟩ := hd
  have hok := trod_rel n t ht fuel _ _ hf
  refine ⟨?_, hok.free⟩
  obtain ⟨u, h1, h2, h3, h4⟩ := hok.val
  cases n with
  | zero => simp [dataT] at ht
  | succ n =>
    unfold dataT at ht
    unfold Value.okWide at hval
    cases hu : P.underlying t with
    | none => rw [hu] at ht; cases ht
    | some td =>
      rw [hu] at ht hval
      cases td <;> simp only [Bool.false_eq_true] at ht hval
      case struct fs =>
        obtain ⟨cs, rfl, _⟩ := hval
        rw [h3 fs hu] at h1
        simpa [Value.cells] using h1
      all_goals
        have : v.cells = #[v] := by
          unfold Cell.okWide Cell.ok at hval
          cases v <;> simp_all [Value.cells]
        have h5 := h4 (fun fs h => by rw [hu] at h; cases h)
        rw [this] at h5
        simp only [List.cons.injEq, and_true] at h5
        rw [h5]; exact h1

end
end Go.Proofs.YticpcfchhcjjeaaGreat.LI
