/-
  All operations together. No program is named here.
-/
import Derived.Test.YticpcfchhcjjeaaGreatLiSB
namespace Go.Proofs.YticpcfchhcjjeaaGreat.LI
open Go Go.RowKit
section
variable {P : Program} {w0 w : World} {f0 : Nat → List Value} {ms : List Nat} {σ : St} {g : G}

theorem sound_makeSlice {own : Bool} {t : TypeId} {l c : Operand} {e : Env} {a : Act} (hT : TRel g e.t a.tmps) (h : SRel w0 f0 ms σ g w) {o : Oper} (ho : o.op = .makeSlice t l c) {r : LV × St} (hop : opStep P own o e.ev σ = some r) : OpGood w0 f0 ms g r.1 r.2 ((execOp a.eval o).run P w) := by
  simp only [opStep, ho, Option.bind_eq_some_iff] at hop
  obtain ⟨el, hel, sz, hsz, z, hz, bs, hbs, n, hn, m, hm, hop⟩ := hop
  have hu := elemB_inv hel
  obtain ⟨i, zv, hi, hzv, hzs, hz1, hzr⟩ := zeroLV_inv hz
  obtain ⟨k1, e1⟩ := asInt64_rel (ev_rel hT l) hn
  obtain ⟨k2, e2⟩ := asInt64_rel (ev_rel hT c) hm
  split at hop
  · rename_i hc
    obtain ⟨rfl, hn0, hnm, hb, hpos, hzl, hst⟩ := hc
    cases hop
    have hmaxEls : maxEls = 1099511627776 := by decide
    have his : i.size = sz := by
      simp only [sizeB, hi, Option.map_some, Option.some.injEq] at hsz
      exact hsz
    have hib : i.bytes = bs := by
      simp only [bytesB, hi, Option.map_some, Option.some.injEq] at hbs
      exact hbs
    have hzz : zv.cells.size = sz := by omega
    obtain ⟨q, rfl⟩ : ∃ q : Nat, n = (q : Int) := ⟨n.toNat, by omega⟩
    have hq : q ≤ 1099511627776 := by omega
    have hbytes : i.bytes * q ≤ 128 * 1099511627776 := Nat.mul_le_mul (by omega) hq
    have hw : IntKind.i64.wrap (q : Int) = q := by rw [IntKind.wrap_i64]; omega
    obtain ⟨r1, r2, r3⟩ := zeros_rel (hzr g) hz1 (by omega) q
    rw [hzz] at r1 r2
    have hcells : (Array.range (q * i.size)).map (fun j => (if q * i.size = 0 then (#[] : Array Value) else zv.cells)[j % (if q * i.size = 0 then (#[] : Array Value) else zv.cells).size]!) = Builtin.zeroCells zv.cells q := by
      by_cases h0 : q * i.size = 0
      · have e1 : q * zv.cells.size = 0 := by rw [hzz, ← his]; exact h0
        simp only [Builtin.zeroCells, h0, e1]
        apply Array.ext <;> simp
      · simp only [if_neg h0, Builtin.zeroCells, hzs]
    have hneg1 : ¬ ((q : Int) < 0) := by omega
    have hbig : ¬ ((i.bytes : Int) * (q : Int) > 2 ^ 48) := by
      rw [← Int.natCast_mul]
      have : (2 : Int) ^ 48 = 281474976710656 := by decide
      rw [this]; omega
    have hrun : (execOp a.eval o).run P w = .ok (.value (.slice (some ⟨w.heap.size, 0, none⟩) q q)) (w.alloc (.cells (Builtin.zeroCells zv.cells q) el)) := by
      have hcc : (Array.range (q * i.size)).map (fun j => zv.cells[j % zv.cells.size]!) = Builtin.zeroCells zv.cells q := by simp only [Builtin.zeroCells, hzs]
      simp only [execOp, ho, Instr.makeSlice, Sem.run_bind, run_underlying hu, Result.andThen_ok, e1, e2, asInt, asIntOf, Sem.run_pure, typeInfo, run_program, hi, hw]
      have hcond : (decide ((q : Int) < 0) || decide ((i.bytes : Int) * (q : Int) > 2 ^ 48) || decide ((q : Int) < 0) || decide ((q : Int) > (q : Int))) = false := by
        rw [decide_eq_false hneg1, decide_eq_false hbig, decide_eq_false (Int.lt_irrefl _)]; rfl
      rw [hcond]
      by_cases h0 : q * i.size = 0
      · have hz0 : Builtin.zeroCells zv.cells q = #[] := Array.eq_empty_of_size_eq_zero (by rw [size_zeroCells, hzs]; exact h0)
        have ha0 : Array.map (fun x : Nat => (#[] : Array Value)[x % (#[] : Array Value).size]!) (Array.range (q * i.size)) = #[] := Array.eq_empty_of_size_eq_zero (by simp [h0])
        rw [hz0]
        simp [sizeOf, typeInfo, hi, h0, newRow]
        congr 2
        exact Array.eq_empty_of_size_eq_zero (by simp)
      · simp [sizeOf, typeInfo, zeroValue, hi, hzv, h0, newRow, hcc]
    obtain ⟨g', m1, m2, m3⟩ := h.madeRow (w' := w.alloc (.cells (Builtin.zeroCells zv.cells q) el)) (xs := List.replicate q z) (e := el) (sz := sz) (n := q) (cap := q) (vs := (Builtin.zeroCells zv.cells q).toList) ((Below.refl _ _).alloc (Nat.le_refl _) _) (heap_alloc_new w _) (by simp) (Nat.le_refl _) (by simp only [maxLen]; omega)
      (by rw [size_zeroCells, hzz]) (List.take_of_length_le (by rw [r2]; exact Nat.le_refl _)) r1 r2 hpos
    exact ⟨_, _, g', .inl hrun, by simpa using m2, m1, by simpa using m3⟩
  · cases hop

theorem opStep_sound (hTy : TyOK P) {own : Bool} {e : Env} {a : Act} (hT : TRel g e.t a.tmps) (h : SRel w0 f0 ms σ g w) {o : Oper} {r : LV × St} (hop : opStep P own o e.ev σ = some r) :
    OpGood w0 f0 ms g r.1 r.2 ((execOp a.eval o).run P w) := by
  have hop0 := hop
  unfold opStep at hop
  split at hop
  · rename_i x ho
    cases hop
    exact sound_move hT h (.inl ho)
  · rename_i x ho
    cases hop
    exact sound_move hT h (.inr ho)
  · rename_i c x y ho
    simp only [Option.map_eq_some_iff] at hop
    obtain ⟨lv, h1, rfl⟩ := hop
    exact sound_pick hT h ho h1
  · rename_i t ho
    simp only [Option.map_eq_some_iff] at hop
    obtain ⟨cs, h1, rfl⟩ := hop
    exact sound_alloc hTy h ho h1
  · rename_i t x ho
    simp only [Option.bind_eq_bind, Option.bind_eq_some_iff] at hop
    obtain ⟨n, h1, hop⟩ := hop
    split at hop
    · rename_i hc
      cases hop
      exact sound_box hT h ho hc.2
    · cases hop
  · rename_i t parts ho
    exact sound_build hTy hT h ho hop0
  · rename_i t len parts ho
    cases hno : (own && (Nat.beq len 0 && parts.toList.isEmpty)) with
    | false => exact sound_buildSlice hTy hT h ho hop0 hno
    | true => exact sound_buildSlice0 hT h ho hop0 hno
  · rename_i t x ho
    exact sound_load hT h ho hop0
  · rename_i t x y ho
    exact sound_store hT h ho hop0
  · rename_i op t x y c ho
    simp only [Option.map_eq_some_iff] at hop
    obtain ⟨lv, h1, rfl⟩ := hop
    obtain ⟨z, h2, h3⟩ := binTL_sound (P := P) (w := w) (t := t) (xo := x) (yo := y) (ev_rel hT x) (ev_rel hT y) h1
    exact good_same h h3 (by simp only [execOp, ho, Sem.run_bind] at h2 ⊢; simp only [h2, Result.andThen_ok, Sem.run_pure])
  · rename_i op t x ho
    simp only [Option.map_eq_some_iff] at hop
    obtain ⟨lv, h1, rfl⟩ := hop
    obtain ⟨z, h2, h3⟩ := unLV_sound (P := P) (w := w) (ev_rel hT x) h1
    exact good_same h h3 (by simp only [execOp, ho, Sem.run_bind, h2, Result.andThen_ok, Sem.run_pure])
  · rename_i src dst x ho
    exact sound_convert hT h ho hop0
  · rename_i x ho
    exact sound_nilCheck hT h ho hop0
  · rename_i fn fst caps ho
    cases fn with
    | yield l => simp at hop
    | _ => cases hop; exact sound_makeFunc hT h ho (by intro l hl; cases hl)
  · rename_i t x lo hi mx ho
    exact sound_slice hT h ho hop0
  · rename_i s x f ho
    exact sound_fieldAddr hT h ho hop0
  · rename_i s x f ho
    exact sound_field hT h ho hop0
  · rename_i t x i ho
    exact sound_indexAddr hT h ho hop0
  · rename_i t x i ho
    exact sound_index hT h ho hop0
  · rename_i t ho
    exact sound_makeMap h ho hop0
  · rename_i t m k v ho
    exact sound_mapUpdate hT h ho hop0
  · rename_i t m k ok ho
    exact sound_lookup hT h ho hop0
  · rename_i t l c ho
    exact sound_makeSlice hT h ho hop0
  · rename_i t i ho
    exact sound_extract hT h ho hop0
  · rename_i b args ats ho
    cases hb : (own && isApp b) with
    | false => rw [hb] at hop; exact sound_builtin hTy hT h ho hop
    | true =>
      rw [hb] at hop
      have hbb : b = .append := by
        cases b <;> simp [isApp] at hb ⊢
      subst hbb
      exact sound_appendNew h hT ho hop
  · cases hop

end
end Go.Proofs.YticpcfchhcjjeaaGreat.LI
