/-
  Maps of the call's own. No program is named here.
-/
import Derived.Test.YticpcfchhcjjeaaGreatLiSA
import Derived.RangeFuncRecord
import Derived.Laws.StructEq
namespace Go.Proofs.YticpcfchhcjjeaaGreat.LI
open Go Go.RowKit
section
variable {P : Program} {w0 w : World} {f0 : Nat → List Value} {ms : List Nat} {σ : St} {g : G}

theorem Touch.putObj (w : World) (k : Nat) (o : Obj) : Touch w (w.putObj k o) k := ⟨rfl, rfl, rfl, by simp, fun q hq => World.putObj_heap_other hq⟩

/-- A block is turned that is no box, no row, no frozen part: what is told of the others stays. -/
theorem SRel.touch (h : SRel w0 f0 ms σ g w) {k : Nat} {o : Obj} (hk : w.heap[k]? = some o) (ho : o.isCells = false) (h0 : w0.heap.size ≤ k) (o' : Obj) {lps : List LoopRec} {mps : List MapS} {ms' : List Nat}
    (hll : lps.length = σ.loops.length) (hml : mps.length = σ.maps.length)
    (hloop : ∀ (l : Nat) (lr : LoopRec) (q : Nat), lps[l]? = some lr → g.loop[l]? = some q → w0.heap.size ≤ q ∧ ∃ rec, (w.putObj k o').heap[q]? = some (.loop rec) ∧ LoopRel g lr rec)
    (hmap : ∀ (m : Nat) (q : MapS) (p : Nat), mps[m]? = some q → g.map[m]? = some p → w0.heap.size ≤ p ∧ ∃ es clock, (w.putObj k o').heap[p]? = some (.map es clock) ∧ VsRel g q.ks (es.toList.map (·.key)) ∧ VsRel g q.vs (es.toList.map (·.val)))
    (hms : ∀ q ∈ ms', q ∈ ms ∧ q ≠ k) (hnd : ms'.Nodup) :
    SRel w0 f0 ms' { σ with loops := lps, maps := mps } g (w.putObj k o') := by
  have ht := Touch.putObj w k o'
  have hfk : g.fz k = [] := by
    by_cases hn : g.fz k = []
    · exact hn
    · obtain ⟨cs, T, fr, h1, _⟩ := h.fz k hn
      rw [hk] at h1; cases h1; cases ho
  exact {
    below := h.below.trans (ht.below h0)
    f0 := h.f0
    fz := h.fz.touch ht (fun hn => absurd hfk hn)
    boxl := h.boxl
    box := fun i cells q e1 e2 => by
      obtain ⟨h3, h4, cs2, T2, h5, h6, h7⟩ := h.box i cells q e1 e2
      have hne : q ≠ k := by rintro rfl; rw [hk] at h5; cases h5; cases ho
      exact ⟨h3, h4, cs2, T2, (ht.block q hne).trans h5, h6, h7⟩
    nodup := h.nodup
    row := fun r row hr => by
      obtain ⟨v, vs, e1, e2, e3, e4, e5⟩ := h.row r row hr
      refine ⟨v, vs, e1, ownsRow_touch e2 ht (fun hx => ?_), e3, e4, e5⟩
      rcases e2.2 with ⟨rfl, _⟩ | ⟨q, cap, cur, rfl, _, hc, _⟩
      · simp [Value.ownBlock] at hx
      · simp [Value.ownBlock] at hx
        subst hx
        rw [hk] at hc; cases hc; cases ho
    apart := h.apart
    phys := h.phys
    loopl := by rw [h.loopl]; exact hll.symm
    loop := hloop
    lnodup := h.lnodup
    mapl := by rw [h.mapl]; exact hml.symm
    map := hmap
    qnodup := h.qnodup
    marks := fun q hq => by
      obtain ⟨m1, m2⟩ := h.marks q (hms q hq).1
      exact ⟨m1, (ht.block q (hms q hq).2).trans m2⟩
    mnodup := hnd }
/-- The loops' records are where they were. -/
theorem SRel.loops_at (h : SRel w0 f0 ms σ g w) {k : Nat} {o : Obj} (hk : w.heap[k]? = some o) (hno : ∀ r, o ≠ .loop r) (o' : Obj) (l : Nat) (lr : LoopRec) (q : Nat) (h1 : σ.loops[l]? = some lr) (h2 : g.loop[l]? = some q) :
    w0.heap.size ≤ q ∧ ∃ rec, (w.putObj k o').heap[q]? = some (.loop rec) ∧ LoopRel g lr rec := by
  obtain ⟨h3, rec, h4, h5⟩ := h.loop l lr q h1 h2
  have hne : q ≠ k := by rintro rfl; rw [hk] at h4; cases h4; exact hno _ rfl
  exact ⟨h3, rec, (World.putObj_heap_other hne).trans h4, h5⟩
/-- The maps are where they were. -/
theorem SRel.maps_at (h : SRel w0 f0 ms σ g w) {k : Nat} {o : Obj} (hk : w.heap[k]? = some o) (hno : ∀ es c, o ≠ .map es c) (o' : Obj) (m : Nat) (q : MapS) (p : Nat) (h1 : σ.maps[m]? = some q) (h2 : g.map[m]? = some p) :
    w0.heap.size ≤ p ∧ ∃ es clock, (w.putObj k o').heap[p]? = some (.map es clock) ∧ VsRel g q.ks (es.toList.map (·.key)) ∧ VsRel g q.vs (es.toList.map (·.val)) := by
  obtain ⟨h3, es, c, h4, h5⟩ := h.map m q p h1 h2
  have hne : p ≠ k := by rintro rfl; rw [hk] at h4; cases h4; exact hno _ _ rfl
  exact ⟨h3, es, c, (World.putObj_heap_other hne).trans h4, h5⟩

def G.addMap (g : G) (k : Nat) : G := { g with map := g.map ++ [k] }
theorem G.le_addMap (g : G) (k : Nat) : g.le (g.addMap k) := ⟨fun _ => List.prefix_refl _, List.prefix_refl _, fun _ _ _ h => h, List.prefix_refl _, List.prefix_append _ _⟩
theorem SRel.map_lt (h : SRel w0 f0 ms σ g w) {k : Nat} (hk : k ∈ g.map) : k < w.heap.size := by
  obtain ⟨i, hi⟩ := mem_get hk
  have hl : i < σ.maps.length := by rw [← h.mapl]; exact (List.getElem?_eq_some_iff.1 hi).1
  obtain ⟨_, es, c, h5, _⟩ := h.map i σ.maps[i] k (List.getElem?_eq_getElem hl) hi
  exact heap_lt h5
/-- A map is laid. -/
theorem SRel.newMap (h : SRel w0 f0 ms σ g w) : SRel w0 f0 ms { σ with maps := σ.maps ++ [{ ks := [], vs := [] }] } (g.addMap w.heap.size) (w.alloc (.map #[] 0)) := by
  have hb : Below w.heap.size w (w.alloc (.map #[] 0)) := (Below.refl _ _).alloc (Nat.le_refl _) _
  have k := h.kept hb
  have hg := g.le_addMap w.heap.size
  exact {
    below := k.below
    f0 := k.f0
    fz := k.fz
    boxl := k.boxl
    box := fun i cells q e1 e2 => by
      obtain ⟨h3, h4, cs', T', h5, h6, h7⟩ := k.box i cells q e1 e2
      exact ⟨h3, h4, cs', T', h5, VsRel_mono hg _ _ h6, h7⟩
    nodup := k.nodup
    row := fun r row hr => by
      obtain ⟨v, vs, e1, e2, e3, e4⟩ := k.row r row hr
      exact ⟨v, vs, e1, e2, EsRel_mono hg _ _ _ _ (List.prefix_refl _) e3, e4⟩
    apart := k.apart
    phys := k.phys
    loopl := k.loopl
    loop := fun l lr q e1 e2 => by
      obtain ⟨h3, rec, h4, h5⟩ := k.loop l lr q e1 e2
      exact ⟨h3, rec, h4, LoopRel_mono hg h5⟩
    lnodup := k.lnodup
    mapl := by simp [G.addMap, h.mapl]
    map := fun m q p e1 e2 => by
      simp only [G.addMap] at e2
      by_cases hi : m < σ.maps.length
      · rw [List.getElem?_append_left hi] at e1
        rw [List.getElem?_append_left (by rw [h.mapl]; exact hi)] at e2
        obtain ⟨h3, es, c, h4, h5, h6⟩ := k.map m q p e1 e2
        exact ⟨h3, es, c, h4, VsRel_mono hg _ _ h5, VsRel_mono hg _ _ h6⟩
      · rw [List.getElem?_append_right (by omega)] at e1
        rw [List.getElem?_append_right (by rw [h.mapl]; omega)] at e2
        rw [h.mapl] at e2
        have hz : m - σ.maps.length = 0 := by
          have := (List.getElem?_eq_some_iff.1 e1).1
          simp at this; omega
        rw [hz] at e1 e2
        simp at e1 e2
        subst e1 e2
        exact ⟨h.below.size, #[], 0, heap_alloc_new w _, by simp [VsRel], by simp [VsRel]⟩
    qnodup := by
      simp only [G.addMap]
      rw [List.nodup_append]
      refine ⟨h.qnodup, by simp, fun a ha b hb' => ?_⟩
      simp at hb'
      subst hb'
      have := h.map_lt ha
      omega
    marks := k.marks
    mnodup := k.mnodup }
/-- A map is turned. -/
theorem SRel.setMap (h : SRel w0 f0 ms σ g w) {m k : Nat} {q : MapS} {es es' : Array MapEntry} {c c' : Nat} (hm : σ.maps[m]? = some q) (hk : g.map[m]? = some k) (hw : w.heap[k]? = some (.map es c)) {q' : MapS}
    (h1 : VsRel g q'.ks (es'.toList.map (·.key))) (h2 : VsRel g q'.vs (es'.toList.map (·.val))) :
    SRel w0 f0 ms { σ with maps := σ.maps.set m q' } g (w.putObj k (.map es' c')) := by
  obtain ⟨hk0, _⟩ := h.map m q k hm hk
  have hml : m < σ.maps.length := (List.getElem?_eq_some_iff.1 hm).1
  refine h.touch (lps := σ.loops) hw rfl hk0 _ rfl (by simp) (h.loops_at hw (fun r hr => by cases hr) _) (fun m' q2 p e1 e2 => ?_) (fun p hp => ⟨hp, ?_⟩) h.mnodup
  · by_cases hi : m = m'
    · subst hi
      rw [List.getElem?_set_self hml] at e1
      cases e1
      rw [hk] at e2; cases e2
      exact ⟨hk0, es', c', World.putObj_heap_same (heap_lt hw), h1, h2⟩
    · rw [List.getElem?_set_ne hi] at e1
      obtain ⟨h3, es2, c2, h4, h5⟩ := h.map m' q2 p e1 e2
      have hne : p ≠ k := by rintro rfl; exact hi (nodup_inj h.qnodup hk e2)
      exact ⟨h3, es2, c2, (World.putObj_heap_other hne).trans h4, h5⟩
  · rintro rfl
    obtain ⟨_, m2⟩ := h.marks p hp
    rw [hw] at m2; cases m2

/-! ### keys -/
/-- The keys' kind. -/
def KeyD (str : Bool) (d : TypeDesc) : Prop := match str with
  | false => ∃ q, d = .int q
  | true => d = .string
theorem mapB_inv {t e : TypeId} {str : Bool} (h : mapB P t = some (e, str)) : ∃ k d, P.underlying t = some (.map k e) ∧ P.underlying k = some d ∧ KeyD str d := by
  unfold mapB at h
  split at h
  · rename_i k' e' hu
    split at h
    · rename_i q hk; cases h; exact ⟨_, _, hu, hk, q, rfl⟩
    · rename_i hk; cases h; exact ⟨_, _, hu, hk, rfl⟩
    · cases h
  · cases h
theorem run_checkKey' {kt : TypeId} {d : TypeDesc} {str : Bool} (hd : P.underlying kt = some d) (hk : KeyD str d) (e : Bool) (v : Value) (w : World) : (Instr.checkKey e 10000 kt v).run P w = .ok () w := by
  show (Instr.checkKey e (9999 + 1) kt v).run P w = _
  unfold Instr.checkKey
  cases str with
  | false => obtain ⟨q, rfl⟩ := hk; cases v <;> simp [run_underlying hd]
  | true => cases hk; cases v <;> simp [run_underlying hd]
theorem keyEq_rel {x y : LV} {u v : Value} {b : Bool} {d : TypeDesc} {str : Bool} (hd : KeyD str d) (hx : VRel g x u) (hy : VRel g y v) (h : keyEq str x y = some b) :
    Instr.sameNow d u v = some b ∧ (b = true → ∀ n, Instr.sameBits n v u = true) := by
  unfold keyEq at h
  split at h
  · rename_i k a k' c
    rw [VRel_int hx, VRel_int hy]
    obtain ⟨q, rfl⟩ := hd
    split at h
    · rename_i hk
      subst hk
      cases h
      refine ⟨by simp [Instr.sameNow], fun hb n => ?_⟩
      have : a = c := by simpa using hb
      subst this
      cases n <;> simp [Instr.sameBits]
    · cases h
  · rename_i a c
    rw [VRel_str hx, VRel_str hy]
    cases hd
    cases h
    refine ⟨by simp [Instr.sameNow, beq_toListBytes], fun hb n => ?_⟩
    have : a.toList = c.toList := by simpa using hb
    have e : (c == a) = true := by rw [beq_toListBytes, this]; simp
    cases n <;> simp [Instr.sameBits, e]
  · cases h
theorem findNow_rel {d : TypeDesc} {str : Bool} (hd : KeyD str d) {k : LV} {kv : Value} (hk : VRel g k kv) : ∀ (ks : List LV) (es : List MapEntry) (i : Nat) (o : Option Nat), VsRel g ks (es.map (·.key)) → findK str k ks = some o →
    ∃ r, Instr.findNow d kv es i = some r ∧ match o with
      | none => r = none
      | some j => ∃ e, es[j]? = some e ∧ r = some (i + j, e.val) ∧ Instr.sameBits 10000 e.key kv = true
  | [], es, i, o, hr, h => by
    simp only [VsRel] at hr
    have : es = [] := by simpa using hr
    subst this
    simp only [findK] at h
    cases h
    exact ⟨none, rfl, rfl⟩
  | x :: ks, es, i, o, hr, h => by
    simp only [VsRel] at hr
    obtain ⟨v, vs', he, h2, h3⟩ := hr
    cases es with
    | nil => simp at he
    | cons e es =>
      simp only [List.map_cons, List.cons.injEq] at he
      obtain ⟨rfl, rfl⟩ := he
      simp only [findK] at h
      split at h
      · rename_i hq
        cases h
        obtain ⟨a1, a2⟩ := keyEq_rel hd hk h2 hq
        exact ⟨some (i, e.val), by simp [Instr.findNow, a1], e, rfl, rfl, a2 rfl _⟩
      · rename_i hq
        obtain ⟨a1, _⟩ := keyEq_rel hd hk h2 hq
        obtain ⟨o', ho', rfl⟩ := Option.map_eq_some_iff.1 h
        obtain ⟨r, r1, r2⟩ := findNow_rel hd hk ks es (i + 1) o' h3 ho'
        refine ⟨r, by simp [Instr.findNow, a1, r1], ?_⟩
        cases o' with
        | none => exact r2
        | some j =>
          obtain ⟨e', b1, b2, b3⟩ := r2
          exact ⟨e', by simpa using b1, by rw [b2]; congr 2; show i + 1 + j = i + (j + 1); omega, b3⟩
      · cases h
theorem findKey_rel {d : TypeDesc} {str : Bool} {kt : TypeId} (hkt : P.underlying kt = some d) (hd : KeyD str d) {k : LV} {kv : Value} (hk : VRel g k kv) {ks : List LV} {es : Array MapEntry} {o : Option Nat} (hr : VsRel g ks (es.toList.map (·.key))) (h : findK str k ks = some o) (w : World) :
    ∃ r, (Instr.findKey kt kv es.toList).run P w = .ok r w ∧ match o with
      | none => r = none
      | some j => ∃ e, es[j]? = some e ∧ r = some (j, e.val) ∧ Instr.sameBits 10000 e.key kv = true := by
  obtain ⟨r, r1, r2⟩ := findNow_rel hd hk ks es.toList 0 o hr h
  refine ⟨r, by simp [Instr.findKey, run_underlying hkt, r1], ?_⟩
  cases o with
  | none => exact r2
  | some j =>
    obtain ⟨e, b1, b2, b3⟩ := r2
    exact ⟨e, by simpa using b1, by simpa using b2, b3⟩
theorem run_getMap {k : Nat} {es : Array MapEntry} {c : Nat} (h : w.heap[k]? = some (.map es c)) : (getObj k).run P w = .ok (.map es c) w := by simp [getObj, Sem.run, h]
theorem run_setMap {k : Nat} {es : Array MapEntry} {c : Nat} (h : w.heap[k]? = some (.map es c)) (o : Obj) : (setObj k o).run P w = .ok () (w.putObj k o) := by simp [setObj, Sem.run, h, World.putObj]

theorem VsRel_set : ∀ {xs : List LV} {vs : List Value} (i : Nat) {x : LV} {v : Value}, VsRel g xs vs → VRel g x v → VsRel g (xs.set i x) (vs.set i v)
  | [], vs, i, x, v, h, _ => by simp only [VsRel] at h; subst h; simp [VsRel]
  | y :: xs, vs, i, x, v, h, hx => by
    simp only [VsRel] at h
    obtain ⟨u, vs', rfl, h1, h2⟩ := h
    cases i with
    | zero => simp only [List.set_cons_zero, VsRel]; exact ⟨v, vs', rfl, hx, h2⟩
    | succ i => simp only [List.set_cons_succ, VsRel]; exact ⟨u, _, rfl, h1, VsRel_set i h2 hx⟩
theorem VsRel_erase : ∀ {xs : List LV} {vs : List Value} (i : Nat), VsRel g xs vs → VsRel g (xs.eraseIdx i) (vs.eraseIdx i)
  | [], vs, i, h => by simp only [VsRel] at h; subst h; simp [VsRel]
  | y :: xs, vs, i, h => by
    simp only [VsRel] at h
    obtain ⟨u, vs', rfl, h1, h2⟩ := h
    cases i with
    | zero => simpa using h2
    | succ i => simp only [List.eraseIdx_cons_succ, VsRel]; exact ⟨u, _, rfl, h1, VsRel_erase i h2⟩

theorem erase_map {α β : Type} (f : α → β) : ∀ (l : List α) (i : Nat), (l.map f).eraseIdx i = (l.eraseIdx i).map f
  | [], _ => rfl
  | _ :: _, 0 => rfl
  | _ :: l, i + 1 => by simp [erase_map f l i]

theorem sound_makeMap {own : Bool} {t : TypeId} {e : Env} {a : Act} (h : SRel w0 f0 ms σ g w) {o : Oper} (ho : o.op = .makeMap t none) {r : LV × St} (hop : opStep P own o e.ev σ = some r) : OpGood w0 f0 ms g r.1 r.2 ((execOp a.eval o).run P w) := by
  simp only [opStep, ho, Option.map_eq_some_iff] at hop
  obtain ⟨_, _, rfl⟩ := hop
  refine ⟨.map (some w.heap.size), _, g.addMap w.heap.size, .inl ?_, ?_, g.le_addMap _, h.newMap⟩
  · simp [execOp, ho, Instr.makeMap]
  · simp only [VRel]
    exact ⟨w.heap.size, by simp [G.addMap, ← h.mapl], rfl⟩

theorem sound_lookup {own : Bool} {t : TypeId} {m k : Operand} {ok : Bool} {e : Env} {a : Act} (hT : TRel g e.t a.tmps) (h : SRel w0 f0 ms σ g w) {o : Oper} (ho : o.op = .lookup t m k ok) {r : LV × St} (hop : opStep P own o e.ev σ = some r) : OpGood w0 f0 ms g r.1 r.2 ((execOp a.eval o).run P w) := by
  have hm := ev_rel hT m
  have hk := ev_rel hT k
  simp only [opStep, ho] at hop
  split at hop
  · rename_i q hq
    rw [hq] at hm
    simp only [VRel] at hm
    obtain ⟨b, hb, hmv⟩ := hm
    simp only [Option.bind_eq_some_iff] at hop
    obtain ⟨⟨el, str⟩, hme, mp, hmp, f, hf, z, hz, hop⟩ := hop
    obtain ⟨kt, d, hu, hkd, hd⟩ := mapB_inv hme
    obtain ⟨_, es, c, hw, hks, hvs⟩ := h.map q mp b hmp hb
    obtain ⟨rr, r1, r2⟩ := findKey_rel (P := P) hkd hd hk hks hf w
    obtain ⟨i, zv, hi, hzv, _, _, hzr⟩ := zeroLV_inv hz
    have fin : ∀ {lv : LV} {v : Value} {b : Bool}, VRel g lv v → r = (bif ok then .tuple [lv, .bool b] else lv, σ) → (Instr.lookup t (a.eval m) (a.eval k) ok).run P w = .ok (if ok = true then .tuple #[v, .bool b] else v) w → OpGood w0 f0 ms g r.1 r.2 ((execOp a.eval o).run P w) := fun {lv v b} hv hr hrun => by
      subst hr
      refine good_same (v := if ok = true then .tuple #[v, .bool b] else v) h ?_ (by simp only [execOp, ho, Sem.run_bind, hrun, Result.andThen_ok, Sem.run_pure])
      cases ok with
      | true => simp only [cond_true, if_true, VRel]; exact ⟨_, rfl, by simp only [VsRel]; exact ⟨_, _, rfl, hv, _, _, rfl, VRel_mkbool _, rfl⟩⟩
      | false => simpa using hv
    cases f with
    | none =>
      simp only at r2 hop
      subst r2
      refine fin (hzr g) (Option.some.inj hop).symm ?_
      cases ok <;> simp [Instr.lookup, run_underlying hu, hmv, run_getMap hw, run_checkKey' hkd hd, r1, zeroValue, typeInfo, hi, hzv]
    | some j =>
      simp only at r2 hop
      obtain ⟨en, e1, rfl, _⟩ := r2
      obtain ⟨v, hv, rfl⟩ := Option.map_eq_some_iff.1 hop
      obtain ⟨u, hu1, hu2⟩ := VsRel_get hvs hv
      have : u = en.val := by
        rw [List.getElem?_map] at hu1
        have e2 : es.toList[j]? = some en := by simpa using e1
        rw [e2] at hu1
        exact (Option.some.inj hu1).symm
      subst this
      refine fin hu2 rfl ?_
      cases ok <;> simp [Instr.lookup, run_underlying hu, hmv, run_getMap hw, run_checkKey' hkd hd, r1]
  · cases hop

theorem sound_mapUpdate {own : Bool} {t : TypeId} {m k x : Operand} {e : Env} {a : Act} (hT : TRel g e.t a.tmps) (h : SRel w0 f0 ms σ g w) {o : Oper} (ho : o.op = .mapUpdate t m k x) {r : LV × St} (hop : opStep P own o e.ev σ = some r) : OpGood w0 f0 ms g r.1 r.2 ((execOp a.eval o).run P w) := by
  have hm := ev_rel hT m
  have hk := ev_rel hT k
  have hx := ev_rel hT x
  simp only [opStep, ho] at hop
  have hund : ∀ g, VRel g (.tuple []) Go.undef := fun g => by simp only [VRel]; exact ⟨#[], rfl, by simp [VsRel]⟩
  split at hop
  · rename_i q hq
    rw [hq] at hm
    simp only [VRel] at hm
    obtain ⟨b, hb, hmv⟩ := hm
    simp only [Option.bind_eq_some_iff] at hop
    obtain ⟨⟨el, str⟩, hme, mp, hmp, f, hf, hop⟩ := hop
    obtain ⟨kt, d, hu, hkd, hd⟩ := mapB_inv hme
    split at hop
    · obtain ⟨g1, k1, k2, k3⟩ := h.freeze (rowsIn (e.ev x))
      have hx' := frzV_rel k1.le _ _ k3 hx
      have hk' := VRel_mono k1.le _ _ hk
      have hmp' : (frzS σ (rowsIn (e.ev x))).maps[q]? = some mp := by rw [frz_maps]; exact hmp
      have hb' : g1.map[q]? = some b := by rw [k1.map]; exact hb
      obtain ⟨_, es, c, hw, hks, hvs⟩ := k2.map q mp b hmp' hb'
      obtain ⟨rr, r1, r2⟩ := findKey_rel (P := P) hkd hd hk' hks hf w
      cases f with
      | none =>
        simp only at r2 hop
        subst r2
        split at hop
        · cases hop
          have hset := k2.setMap (q' := { ks := mp.ks ++ [e.ev k], vs := mp.vs ++ [frzV σ (e.ev x)] }) (es' := es.push { key := a.eval k, val := a.eval x, born := c }) (c' := c + 1) hmp' hb' hw (by
            simp only [Array.toList_push, List.map_append, List.map_cons, List.map_nil]
            exact VsRel_append hks (VsRel_one hk')) (by
            simp only [Array.toList_push, List.map_append, List.map_cons, List.map_nil]
            exact VsRel_append hvs (VsRel_one hx'))
          rw [frz_maps] at hset
          refine ⟨Go.undef, _, g1, .inr ⟨?_, rfl⟩, hund _, k1.le, hset⟩
          simp [execOp, ho, Instr.mapUpdate, run_underlying hu, hmv, run_getMap hw, run_checkKey' hkd hd, r1, run_setMap hw]
        · cases hop
      | some j =>
        simp only at r2 hop
        obtain ⟨en, e1, rfl, hsb⟩ := r2
        cases hop
        have hset := k2.setMap (q' := { ks := mp.ks.set j (e.ev k), vs := mp.vs.set j (frzV σ (e.ev x)) }) (es' := es.modify j fun en => { en with key := a.eval k, val := a.eval x }) (c' := c) hmp' hb' hw (by
            have := VsRel_set j hks hk'
            have e3 : (es.modify j fun en => { en with key := a.eval k, val := a.eval x }).toList.map (·.key) = (es.toList.map (·.key)).set j (a.eval k) := by
              apply List.ext_getElem?
              intro i
              simp only [Array.toList_modify, List.getElem?_map, List.getElem?_modify, List.getElem?_set, List.length_map]
              by_cases hij : j = i
              · subst hij
                by_cases hl : j < es.toList.length
                · have hl' : j < es.size := by simpa using hl
                  simp [hl']
                · have hl' : ¬ j < es.size := by simpa using hl
                  simp [hl']
              · simp [hij]
            rw [e3]; exact this) (by
            have := VsRel_set j hvs hx'
            have e3 : (es.modify j fun en => { en with key := a.eval k, val := a.eval x }).toList.map (·.val) = (es.toList.map (·.val)).set j (a.eval x) := by
              apply List.ext_getElem?
              intro i
              simp only [Array.toList_modify, List.getElem?_map, List.getElem?_modify, List.getElem?_set, List.length_map]
              by_cases hij : j = i
              · subst hij
                by_cases hl : j < es.toList.length
                · have hl' : j < es.size := by simpa using hl
                  simp [hl']
                · have hl' : ¬ j < es.size := by simpa using hl
                  simp [hl']
              · simp [hij]
            rw [e3]; exact this)
        rw [frz_maps] at hset
        refine ⟨Go.undef, _, g1, .inr ⟨?_, rfl⟩, hund _, k1.le, hset⟩
        have hks2 : (Instr.keyThatStays en.key (a.eval k)).run P w = .ok (a.eval k) w := by simp [Instr.keyThatStays, hsb]
        simp [execOp, ho, Instr.mapUpdate, run_underlying hu, hmv, run_getMap hw, run_checkKey' hkd hd, r1, e1, hks2, run_setMap hw]
    · cases hop
  · cases hop

theorem sound_delete {t kt' ty : TypeId} {q : Nat} {k : LV} {mv kv : Value} (h : SRel w0 f0 ms σ g w) (hm : VRel g (.mapr q) mv) (hk : VRel g k kv) {el : TypeId} {str : Bool} (hme : mapB P t = some (el, str)) {mp : MapS} (hmp : σ.maps[q]? = some mp) {f : Option Nat} (hf : findK str k mp.ks = some f) :
    ∃ w', (Builtin.delete_ #[t, kt'] ty #[mv, kv]).run P w = .ok (.tuple #[]) w' ∧ SRel w0 f0 ms (match f with | some i => { σ with maps := σ.maps.set q { ks := mp.ks.eraseIdx i, vs := mp.vs.eraseIdx i } } | none => σ) g w' := by
  simp only [VRel] at hm
  obtain ⟨b, hb, rfl⟩ := hm
  obtain ⟨kt, d, hu, hkd, hd⟩ := mapB_inv hme
  obtain ⟨_, es, c, hw, hks, hvs⟩ := h.map q mp b hmp hb
  obtain ⟨rr, r1, r2⟩ := findKey_rel (P := P) hkd hd hk hks hf w
  cases f with
  | none =>
    simp only at r2
    subst r2
    have hset := h.setMap (q' := mp) (es' := es) (c' := c) hmp hb hw hks hvs
    refine ⟨w.putObj b (.map es c), by simp [Builtin.delete_, run_underlying hu, run_getMap hw, run_checkKey' hkd hd, r1, run_setMap hw], ?_⟩
    have e1 : σ.maps.set q mp = σ.maps := by
      obtain ⟨hl, rfl⟩ := List.getElem?_eq_some_iff.1 hmp
      exact List.set_getElem_self hl
    rw [e1] at hset
    exact hset
  | some j =>
    simp only at r2
    obtain ⟨en, e1, rfl, hsb⟩ := r2
    have hset := h.setMap (q' := { ks := mp.ks.eraseIdx j, vs := mp.vs.eraseIdx j }) (es' := es.eraseIdxIfInBounds j) (c' := c) hmp hb hw (by
      have := VsRel_erase j hks
      rw [erase_map] at this
      simpa using this) (by
      have := VsRel_erase j hvs
      rw [erase_map] at this
      simpa using this)
    exact ⟨w.putObj b (.map (es.eraseIdxIfInBounds j) c), by simp [Builtin.delete_, run_underlying hu, run_getMap hw, run_checkKey' hkd hd, r1, run_setMap hw], hset⟩
end
end Go.Proofs.YticpcfchhcjjeaaGreat.LI
