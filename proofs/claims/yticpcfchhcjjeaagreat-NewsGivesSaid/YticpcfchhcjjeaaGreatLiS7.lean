/-
  Addresses, parts, tuples, slices. No program is named here.
-/
import Derived.Test.YticpcfchhcjjeaaGreatLiS6
namespace Go.Proofs.YticpcfchhcjjeaaGreat.LI
open Go Go.RowKit
section
variable {P : Program} {w0 w : World} {f0 : Nat → List Value} {ms : List Nat} {σ : St} {g : G}

theorem info_of_size {t : TypeId} {n : Nat} (h : sizeB P t = some n) : ∃ i, P.info? t = some i ∧ i.size = n := by
  unfold sizeB at h
  simpa [Option.map_eq_some_iff] using h

theorem fieldB_inv {s : TypeId} {f off : Nat} {t : TypeId} (h : fieldB P s f = some (off, t)) : ∃ fs x, P.underlying s = some (.struct fs) ∧ fs[f]? = some x ∧ x.offset = off ∧ x.type = t := by
  unfold fieldB at h
  split at h
  · rename_i fs hu
    simp only [Option.map_eq_some_iff, Prod.mk.injEq] at h
    obtain ⟨x, h1, h2, h3⟩ := h
    exact ⟨fs, x, hu, h1, h2, h3⟩
  · cases h

theorem sound_fieldAddr {s : TypeId} {x : Operand} {f : Nat} {e : Env} {a : Act} (hT : TRel g e.t a.tmps) (h : SRel w0 f0 ms σ g w) {o : Oper} (ho : o.op = .fieldAddr s x f) {own : Bool} {r : LV × St} (hop : opStep P own o e.ev σ = some r) :
    OpGood w0 f0 ms g r.1 r.2 ((execOp a.eval o).run P w) := by
  have hx := ev_rel hT x
  simp only [opStep, ho, Option.bind_eq_bind, Option.bind_eq_some_iff] at hop
  obtain ⟨⟨off, t⟩, hf, n, hn, hop⟩ := hop
  obtain ⟨fs, fd, hu, hfd, rfl, rfl⟩ := fieldB_inv hf
  obtain ⟨i, hi, hin⟩ := info_of_size hn
  split at hop
  · cases hop
  · rename_i hn0
    have run : ∀ {k q : Nat}, a.eval x = .pointer (some ⟨k, q, none⟩) → (execOp a.eval o).run P w = .ok (.value (.pointer (some ⟨k, q + fd.offset, none⟩))) w := fun {k q} hv => by
      have hsz : ¬ (i.size = 0) := by omega
      simp [execOp, ho, hv, Instr.fieldAt, run_underlying hu, hfd, Instr.sureAddr, fieldPlace, sizeOf, typeInfo, hi, hsz, addr_add]
    split at hop
    · rename_i b q hb
      cases hop
      rw [hb] at hx
      simp only [VRel] at hx
      obtain ⟨k, hk, hxv⟩ := hx
      exact good_same h (by simp only [VRel]; exact ⟨k, hk, rfl⟩) (run hxv)
    · rename_i cs hb
      rw [hb] at hx
      simp only [VRel] at hx
      obtain ⟨k, q, us, rest, hxv, _, hd, hc, hone⟩ := hx
      split at hop
      · rename_i hlt
        cases hop
        refine good_same h ?_ (run hxv)
        simp only [VRel]
        refine ⟨k, _, us.drop fd.offset, rest, rfl, fun h0 => ?_, ?_, VsRel_drop _ hc, fun u hu => hone u (List.mem_of_mem_drop hu)⟩
        · have := congrArg List.length h0
          simp at this; omega
        · rw [← List.drop_drop, hd, List.drop_append_of_le_length (by rw [VsRel_length hc]; omega)]
      · cases hop
    · rename_i q n i' sz off' hb
      cases hop
      rw [hb] at hx
      simp only [VRel] at hx
      obtain ⟨k, cap, hp, hxv⟩ := hx
      refine good_same h ?_ (run hxv)
      simp only [VRel]
      exact ⟨k, cap, hp, by rw [Nat.add_assoc]⟩
    · cases hop

theorem part_sound {t : TypeId} {cs : List LV} {lv : LV} {arr : Array Value} {off : Nat} (hr : readCells P t (cs.drop off) = some lv) (hc : VsRel g cs arr.toList) (h1 : ∀ u ∈ arr.toList, u.oneCell' = true) :
    ∃ v, (part t arr off).run P w = .ok v w ∧ VRel g lv v := by
  unfold readCells at hr
  simp only [Option.bind_eq_bind, Option.bind_eq_some_iff] at hr
  obtain ⟨n, hn, b, hb, hr⟩ := hr
  obtain ⟨i, hi, hin⟩ := info_of_size hn
  have hlen := VsRel_length hc
  cases b with
  | true =>
    simp only [if_true] at hr
    split at hr
    · rename_i hle
      cases hr
      refine ⟨.agg (arr.extract off (off + n)), ?_, ?_⟩
      · simp [part, run_isAgg hb, sizeOf, typeInfo, hi, hin]
      · simp only [VRel]
        have he : (arr.extract off (off + n)).toList = (arr.toList.drop off).take n := by
          rw [Array.toList_extract]; simp [List.extract]
        refine ⟨_, rfl, by rw [he]; exact VsRel_take n (VsRel_drop off hc), fun u hu => ?_⟩
        rw [he] at hu
        exact h1 u (List.mem_of_mem_drop (List.mem_of_mem_take hu))
    · cases hr
  | false =>
    have hd := VsRel_drop off hc
    cases hcs : cs.drop off with
    | nil => rw [hcs] at hr; simp at hr
    | cons c cs' =>
      rw [hcs] at hr hd
      have hr' : c = lv := by simpa using hr
      subst hr'
      simp only [VsRel] at hd
      obtain ⟨v, vs', hv, h2, _⟩ := hd
      refine ⟨v, ?_, h2⟩
      have : arr[off]? = some v := by
        have := congrArg (fun l : List Value => l[0]?) hv
        simpa using this
      simp [part, run_isAgg hb, this]

theorem sound_field {s : TypeId} {x : Operand} {f : Nat} {e : Env} {a : Act} (hT : TRel g e.t a.tmps) (h : SRel w0 f0 ms σ g w) {o : Oper} (ho : o.op = .field s x f) {own : Bool} {r : LV × St} (hop : opStep P own o e.ev σ = some r) :
    OpGood w0 f0 ms g r.1 r.2 ((execOp a.eval o).run P w) := by
  have hx := ev_rel hT x
  simp only [opStep, ho, Option.bind_eq_bind, Option.bind_eq_some_iff] at hop
  obtain ⟨⟨off, t⟩, hf, hop⟩ := hop
  obtain ⟨fs, fd, hu, hfd, rfl, rfl⟩ := fieldB_inv hf
  split at hop
  · rename_i cs hb
    rw [hb] at hx
    simp only [VRel] at hx
    obtain ⟨arr, hxv, h2, h3⟩ := hx
    simp only [Option.map_eq_some_iff] at hop
    obtain ⟨v, hv, hr⟩ := hop
    cases hr
    obtain ⟨u, hu1, hu2⟩ := part_sound (w := w) hv h2 h3
    refine good_same h hu2 ?_
    simp [execOp, ho, hxv, Instr.field, run_underlying hu, hfd, asAgg, hu1]
  · cases hop

theorem elemB_inv {t e : TypeId} (h : elemB P t = some e) : P.underlying t = some (.slice e) := by
  unfold elemB at h
  split at h
  · rename_i x hu; cases h; exact hu
  · cases h

theorem asInt64_rel {x : LV} {n : Int} {v : Value} (hx : VRel g x v) (h : asInt64 x = some n) : ∃ k, v = .int k n := by
  unfold asInt64 at h
  split at h
  · rename_i k m; cases h; exact ⟨k, VRel_int hx⟩
  · cases h

theorem index_array {t : TypeId} {x ix : Operand} {e : Env} {a : Act} (hT : TRel g e.t a.tmps) (h : SRel w0 f0 ms σ g w) {o : Oper} (ho : o.op = .indexAddr t x ix) {m : Nat} {el : TypeId} {r : LV × St}
    (hop : ((sizeB P el).bind fun sz => (asInt64 (e.ev ix)).bind fun k =>
      if 0 ≤ k ∧ k < m ∧ 1 < m ∧ 0 < sz then match e.ev x with
        | .bptr b o => some (.bptr b (o + k.toNat * sz), σ)
        | .pptr cs => if k.toNat * sz < cs.length then some (.pptr (cs.drop (k.toNat * sz)), σ) else none
        | .rptr r n j z o => some (.rptr r n j z (o + k.toNat * sz), σ)
        | _ => none
      else none) = some r) (hu : P.underlying t = some (.array m el)) : OpGood w0 f0 ms g r.1 r.2 ((execOp a.eval o).run P w) := by
  have hx := ev_rel hT x
  have hi := ev_rel hT ix
  simp only [Option.bind_eq_some_iff] at hop
  obtain ⟨sz, hsz, k, hk, hop⟩ := hop
  obtain ⟨inf, hinf, hins⟩ := info_of_size hsz
  obtain ⟨kd, hiv⟩ := asInt64_rel hi hk
  split at hop
  · rename_i hc
    obtain ⟨hk0, hkm, hm1, hsz0⟩ := hc
    have run : ∀ {b off : Nat}, a.eval x = .pointer (some ⟨b, off, none⟩) → (execOp a.eval o).run P w = .ok (.value (.pointer (some ⟨b, off + k.toNat * sz, none⟩))) w := fun {b off} hv => by
      have hb : 0 ≤ k ∧ k < (m : Int) := ⟨hk0, hkm⟩
      simp [execOp, ho, hv, hiv, Instr.indexAt, Instr.sureAddr, asIntOf, run_underlying hu, hb, sizeOf, typeInfo, hinf, hins, addr_add]
    split at hop
    · rename_i b q hb
      cases hop
      rw [hb] at hx
      simp only [VRel] at hx
      obtain ⟨k', hk', hxv⟩ := hx
      exact good_same h (by simp only [VRel]; exact ⟨k', hk', rfl⟩) (run hxv)
    · rename_i cs hb
      rw [hb] at hx
      simp only [VRel] at hx
      obtain ⟨k', q, us, rest, hxv, _, hd, hc, hone⟩ := hx
      split at hop
      · rename_i hlt
        cases hop
        refine good_same h ?_ (run hxv)
        simp only [VRel]
        refine ⟨k', _, us.drop (k.toNat * sz), rest, rfl, fun h0 => ?_, ?_, VsRel_drop _ hc, fun u hu => hone u (List.mem_of_mem_drop hu)⟩
        · have := congrArg List.length h0
          simp at this; omega
        · rw [← List.drop_drop, hd, List.drop_append_of_le_length (by rw [VsRel_length hc]; omega)]
      · cases hop
    · rename_i q n i' sz' off' hb
      cases hop
      rw [hb] at hx
      simp only [VRel] at hx
      obtain ⟨k', cap, hp, hxv⟩ := hx
      refine good_same h ?_ (run hxv)
      simp only [VRel]
      exact ⟨k', cap, hp, by rw [Nat.add_assoc]⟩
    · cases hop
  · cases hop

theorem sound_indexAddr {t : TypeId} {x ix : Operand} {e : Env} {a : Act} (hT : TRel g e.t a.tmps) (h : SRel w0 f0 ms σ g w) {o : Oper} (ho : o.op = .indexAddr t x ix) {own : Bool} {r : LV × St} (hop : opStep P own o e.ev σ = some r) :
    OpGood w0 f0 ms g r.1 r.2 ((execOp a.eval o).run P w) := by
  have hx := ev_rel hT x
  have hi := ev_rel hT ix
  simp only [opStep, ho] at hop
  split at hop
  · exact index_array hT h ho hop ‹_›
  simp only [Option.bind_eq_bind, Option.bind_eq_some_iff] at hop
  obtain ⟨el, hel, sz, hsz, k, hk, hop⟩ := hop
  have hu := elemB_inv hel
  obtain ⟨inf, hinf, hins⟩ := info_of_size hsz
  obtain ⟨kd, hiv⟩ := asInt64_rel hi hk
  split at hop
  · rename_i hk0
    have run : ∀ {b off n cap : Nat}, a.eval x = .slice (some ⟨b, off, none⟩) n cap → k < n → (execOp a.eval o).run P w = .ok (.value (.pointer (some ⟨b, off + k.toNat * sz, none⟩))) w := fun {b off n cap} hv hlt => by
      have hb : 0 ≤ k ∧ k < (n : Int) := ⟨hk0, hlt⟩
      simp [execOp, ho, hv, hiv, Instr.indexAt, asIntOf, run_underlying hu, hb, sizeOf, typeInfo, hinf, hins, addr_add]
    split at hop
    · rename_i es hb
      rw [hb] at hx
      simp only [VRel] at hx
      simp only [Option.bind_eq_some_iff] at hop
      obtain ⟨y, hy, hop⟩ := hop
      split at hop
      · rename_i hc
        obtain ⟨hl, hst, hpos⟩ := hc
        cases hop
        obtain ⟨ao, cap, hv, hle, he⟩ := hx
        have hlt : k.toNat < es.length := (List.getElem?_eq_some_iff.1 hy).1
        rcases he with he | ⟨b, off, sz', hs0, hao, hes⟩
        · subst he; simp at hlt
        · subst hao
          obtain ⟨u, u1, u2, u3, u4⟩ := EsRel_get hes hy
          obtain ⟨d1, d2⟩ := cells_rel u1 hst
          have hss : sz' = sz := by have := VsRel_length d1; rw [Array.length_toList, u3] at this; omega
          subst hss
          refine good_same h ?_ (run hv (by omega))
          simp only [VRel]
          refine ⟨b, _, u.cells.toList, ((g.fz b).drop (off + k.toNat * sz')).drop sz', rfl, fun h0 => ?_, ?_, d1, d2⟩
          · rw [h0] at hl; simp at hl; omega
          · rw [u2, List.drop_drop, List.take_append_drop]
      · cases hop
    · rename_i q n hb
      rw [hb] at hx
      simp only [VRel] at hx
      obtain ⟨hp, ao, cap, hv⟩ := hx
      simp only [Option.bind_eq_some_iff] at hop
      obtain ⟨row, hrow, hop⟩ := hop
      split at hop
      · rename_i hc
        obtain ⟨hn, hs, hkn⟩ := hc
        cases hop
        rw [hv] at hp
        obtain ⟨v, vs, e1, e2, _⟩ := h.row q row hrow
        rw [hn, hp] at e1; cases e1
        rcases e2.2 with ⟨hc, hz⟩ | ⟨g1, cap1, cur1, hv', _⟩
        · omega
        · cases hv'
          refine good_same h ?_ (run hv hkn)
          simp only [VRel]
          exact ⟨g1, cap, by rw [← hn] at hp ⊢; exact hp, by simp⟩
      · cases hop
    · rename_i q n lo hi' sz' hb
      rw [hb] at hx
      simp only [VRel] at hx
      obtain ⟨ao, cap, a', hp, hv, hlo, hhi, hadr⟩ := hx
      simp only [Option.bind_eq_some_iff] at hop
      obtain ⟨row, hrow, hop⟩ := hop
      split at hop
      · rename_i hc
        obtain ⟨hn, hs, hs', hlh, hhn, hkn⟩ := hc
        cases hop
        subst hs'
        obtain ⟨v, vs, e1, e2, _⟩ := h.row q row hrow
        rw [hn, hp] at e1; cases e1
        rcases e2.2 with ⟨hc, hz⟩ | ⟨g1, cap1, cur1, hv', _, _, hnc, _⟩
        · omega
        · cases hv'
          rw [hadr (by omega)] at hv
          simp only [Option.map_some, addr_add, Nat.zero_add] at hv
          refine good_same h ?_ (run hv hkn)
          simp only [VRel]
          refine ⟨g1, cap, by rw [← hn] at hp ⊢; exact hp, ?_⟩
          rw [Nat.add_zero, Nat.add_mul]
      · cases hop
    · cases hop
  · cases hop

theorem sound_index {t : TypeId} {x ix : Operand} {e : Env} {a : Act} (hT : TRel g e.t a.tmps) (h : SRel w0 f0 ms σ g w) {o : Oper} (ho : o.op = .index t x ix) {own : Bool} {r : LV × St} (hop : opStep P own o e.ev σ = some r) :
    OpGood w0 f0 ms g r.1 r.2 ((execOp a.eval o).run P w) := by
  have hx := ev_rel hT x
  have hi := ev_rel hT ix
  simp only [opStep, ho, Option.bind_eq_bind, Option.bind_eq_some_iff] at hop
  obtain ⟨k, hk, hop⟩ := hop
  obtain ⟨kd, hiv⟩ := asInt64_rel hi hk
  split at hop
  · rename_i s hu hb
    rw [hb] at hx
    split at hop
    · rename_i hk0
      simp only [Option.map_eq_some_iff] at hop
      obtain ⟨c, hc, hr⟩ := hop
      cases hr
      refine good_same h (VRel_mkint _ _) ?_
      simp [execOp, ho, VRel_str hx, hiv, Instr.index, asIntOf, run_underlying hu, hk0, hc]
    · cases hop
  · rename_i m el cs hu hb
    rw [hb] at hx
    split at hop
    · rename_i hkm
      simp only [Option.bind_eq_some_iff, Option.map_eq_some_iff] at hop
      obtain ⟨sz, hsz, v, hv, rfl⟩ := hop
      obtain ⟨inf, hinf, hins⟩ := info_of_size hsz
      simp only [VRel] at hx
      obtain ⟨arr, hxv, h2, h3⟩ := hx
      obtain ⟨u, hu1, hu2⟩ := part_sound (w := w) hv h2 h3
      refine good_same h hu2 ?_
      simp [execOp, ho, hxv, hiv, Instr.index, asIntOf, run_underlying hu, hkm, sizeOf, typeInfo, hinf, hins, hu1]
    · cases hop
  · cases hop

theorem sound_extract {x : Operand} {i : Nat} {e : Env} {a : Act} (hT : TRel g e.t a.tmps) (h : SRel w0 f0 ms σ g w) {o : Oper} (ho : o.op = .extract x i) {own : Bool} {r : LV × St} (hop : opStep P own o e.ev σ = some r) :
    OpGood w0 f0 ms g r.1 r.2 ((execOp a.eval o).run P w) := by
  have hx := ev_rel hT x
  simp only [opStep, ho] at hop
  split at hop
  · rename_i vs hb
    rw [hb] at hx
    simp only [VRel] at hx
    obtain ⟨arr, hv, hc⟩ := hx
    simp only [Option.map_eq_some_iff] at hop
    obtain ⟨lv, hlv, hr⟩ := hop
    cases hr
    obtain ⟨u, hu, hur⟩ := VsRel_get hc hlv
    refine good_same h hur ?_
    have : arr[i]? = some u := by simpa using hu
    simp [execOp, ho, hv, Instr.extract, this]
  · cases hop

theorem sound_nilCheck {x : Operand} {e : Env} {a : Act} (hT : TRel g e.t a.tmps) (h : SRel w0 f0 ms σ g w) {o : Oper} (ho : o.op = .nilCheck x) {own : Bool} {r : LV × St} (hop : opStep P own o e.ev σ = some r) :
    OpGood w0 f0 ms g r.1 r.2 ((execOp a.eval o).run P w) := by
  have hx := ev_rel hT x
  simp only [opStep, ho] at hop
  have fin : ∀ {ad : Addr}, a.eval x = .pointer (some ad) → r = (e.ev x, σ) → OpGood w0 f0 ms g r.1 r.2 ((execOp a.eval o).run P w) := fun hv hr => by
    subst hr
    refine good_same h hx ?_
    simp [execOp, ho, hv]
  split at hop
  · rename_i b off hb
    have hx' := hx
    rw [hb] at hx'
    simp only [VRel] at hx'
    obtain ⟨k, _, hv⟩ := hx'
    cases hop
    exact fin hv (by rw [hb])
  · rename_i cs hb
    have hx' := hx
    rw [hb] at hx'
    simp only [VRel] at hx'
    obtain ⟨k, q, us, rest, hv, _⟩ := hx'
    cases hop
    exact fin hv (by rw [hb])
  · rename_i q n i sz off hb
    have hx' := hx
    rw [hb] at hx'
    simp only [VRel] at hx'
    obtain ⟨k, cap, _, hv⟩ := hx'
    cases hop
    exact fin hv (by rw [hb])
  · cases hop

theorem sound_makeFunc {fn : Fn} {fst caps : Array Operand} {e : Env} {a : Act} (hT : TRel g e.t a.tmps) (h : SRel w0 f0 ms σ g w) {o : Oper} (ho : o.op = .makeFunc fn fst caps) (hfn : ∀ l, fn ≠ .yield l) :
    OpGood w0 f0 ms g (.func fn (fst.toList.map e.ev) (caps.toList.map e.ev)) σ ((execOp a.eval o).run P w) := by
  refine good_same (v := .func fn (fst.map a.eval) (caps.map a.eval)) h ?_ (by simp [execOp, ho, Instr.makeFunc])
  simp only [VRel]
  refine ⟨fn, _, _, rfl, ?_, by simpa using ev_map hT fst.toList, by simpa using ev_map hT caps.toList⟩
  cases fn with
  | yield l => exact absurd rfl (hfn l)
  | _ => rfl

end
end Go.Proofs.YticpcfchhcjjeaaGreat.LI
