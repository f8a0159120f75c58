/-
  What the interpreter answers, the machine does: code; all together. No program is named here.
-/
import Derived.Test.YticpcfchhcjjeaaGreatLiSI
namespace Go.Proofs.YticpcfchhcjjeaaGreat.LI
open Go Go.RowKit
section
variable {P : Program} {Θ : Th} {k : Nat}

theorem trimmed_rel {w0 : World} {f0 : Nat → List Value} {ms : List Nat} {σ τ : St} {g g1 : G} {w w1 : World} (h : SRel w0 f0 ms σ g w) (h1 : SRel w0 f0 ms τ g1 w1) (hg : g.le g1) {t : List LV} {a : Array Value} (hT : TRel g1 t a) :
    ∃ g2, g.le g2 ∧ SRel w0 f0 ms (trim σ.sz t τ) g2 w1 ∧ TRel g2 t a := by
  obtain ⟨g2, k1, k2, k3⟩ := h1.trimmed σ.sz t hg h.boxl h.loopl h.mapl (fun r' k' v' hv' => by
    obtain ⟨row, hrow, _⟩ := h.phys r' k' v' hv'
    exact (List.getElem?_eq_some_iff.1 hrow).1)
  refine ⟨g2, k1, k2, hT.1, fun i => ?_⟩
  by_cases hi : i < t.length
  · have e1 : t.getD i .undef = t[i] := by simp [List.getD_eq_getElem?_getD, hi]
    rw [e1]
    exact k3 _ (List.getElem_mem hi) _ (by rw [← e1]; exact hT.2 i)
  · have e1 : t.getD i .undef = .undef := by
      rw [List.getD_eq_getElem?_getD, List.getElem?_eq_none (by omega)]; rfl
    rw [e1]; simp [VRel]

theorem weak {w0 : World} {f0 : Nat → List Value} {ms ms' : List Nat} {σ : St} {g : G} {w : World} (h : SRel w0 f0 ms σ g w) (he : ms = ms') : SRel w0 f0 ms' σ g w := he ▸ h

theorem run_enterLoop_inner {w : World} {l : Nat} {rec : Loop} (h : w.heap[l]? = some (.loop rec)) (fn : FuncId) (tmps : Array Value) (ps : Array Tmp) (assign body : Code) :
    (Instr.enterLoop fn tmps ps assign body (some l)).run P w =
      .ok (w.heap.size, []) (w.alloc (.loop { state := .ready, pending := none, fn, tmps, params := ps, assign, body, defers := rec.defers })) := by
  unfold Instr.enterLoop
  simp only [Sem.run_bind, run_getLoop h, run_newObj_alloc, Result.andThen, Sem.run_pure]

theorem exists_least {p : Nat → Prop} : ∀ {n : Nat}, p n → ∃ m, p m ∧ ∀ j, p j → m ≤ j := by
  intro n
  induction n using Nat.strongRecOn with
  | _ n ih =>
    intro hn
    by_cases h : ∃ j, j < n ∧ p j
    · obtain ⟨j, hj, hp⟩ := h
      exact ih j hj hp
    · exact ⟨n, hn, fun j hj => Nat.le_of_not_lt fun hlt => h ⟨j, hlt, hj⟩⟩

theorem step_loop (I : Good P Θ k) {c : Code} {e : Env} {σ : St} {r : Res} (h : runF P Θ (k + 1) (.code (.loop c) e σ) = some r) {ro : Option Nat} {w0 : World} {f0 : Nat → List Value} {ms : List Nat} {g : G} {w : World} {a : Act}
    (hs : SRel w0 f0 ms σ g w) (hT : TRel g e.t a.tmps) (hro : ∀ l, ro = some l → l ∈ g.loop) : (Code.loop c).wpIn (FF ro) 0 P (CEnd w0 f0 ms g r a.defers ro) a w := by
  generalize hds : a.defers = ds at *
  let J : Nat → Act → World → Prop := fun j a w => j ≤ k + 1 ∧ ∃ e σ g' nms, g.le g' ∧ TRel g' e.t a.tmps ∧ SRel w0 f0 (nms ++ ms) σ g' w ∧ a.defers = nms.map mkMark ++ ds ∧ (ro.isSome = true → nms = []) ∧ runF P Θ j (.code (.loop c) e σ) = some r
  have hJ0 : J (k + 1) a w := ⟨Nat.le_refl _, e, σ, g, [], G.le.refl g, hT, hs, by simpa using hds, fun _ => rfl, h⟩
  classical
  let μ : Act → World → Nat := fun a w => if hx : ∃ m, J m a w ∧ ∀ j, J j a w → m ≤ j then hx.choose else 0
  refine wpIn_loop (fun a w => ∃ j, J j a w) μ ⟨_, hJ0⟩ ?_
  intro a w hx
  obtain ⟨j0, hx⟩ := hx
  have hx := exists_least (p := fun j => J j a w) hx
  have hmin : J (μ a w) a w := by simp only [μ, dif_pos hx]; exact hx.choose_spec.1
  obtain ⟨hjk, e, σ, g', nms, k1, k2, k3, k4, k5, k6⟩ := hmin
  cases hj : μ a w with
  | zero => rw [hj] at k6; simp [runF] at k6
  | succ j =>
    rw [hj] at k6 hjk
    simp only [runF, stepT] at k6
    obtain ⟨r1, h1, h2⟩ := Option.bind_eq_some_iff.1 k6
    have hro' : ∀ l, ro = some l → l ∈ g'.loop := fun l hl => by
      obtain ⟨i, hi⟩ := mem_get (hro l hl)
      exact List.mem_iff_getElem?.2 ⟨i, pre_get k1.loop hi⟩
    refine wpIn_mono (I.code (runF_le (by omega) h1) k3 (tidy_rel k2) hro') ?_
    rintro x a1 w1 ⟨rfl, g1, nms1, m1, m2, m3, m4, m5⟩
    cases hx1 : r1.ex with
    | normal =>
      rw [hx1] at h2
      simp only at h2
      simp only [exOf, Exit.then]
      have hms : SRel w0 f0 (nms1 ++ (nms ++ ms)) r1.σ g1 w1 := m3
      -- what was there at the round's beginning, with the marks that have come
      have hphys : ∀ r' k' v', g'.phys r' k' = some v' → r' < σ.rows.length := fun r' k' v' hv' => by
        obtain ⟨row, hrow, _⟩ := k3.phys r' k' v' hv'
        exact (List.getElem?_eq_some_iff.1 hrow).1
      obtain ⟨g2, n1, n2, n3⟩ := hms.trimmed σ.sz (tidy Θ (loopKey c) r1.env).t m1 k3.boxl k3.loopl k3.mapl hphys
      have hT2 : TRel g2 (tidy Θ (loopKey c) r1.env).t a1.tmps := by
        have hT1 := tidy_rel (Θ := Θ) (k := loopKey c) m2
        refine ⟨hT1.1, fun i => ?_⟩
        by_cases hi : i < (tidy Θ (loopKey c) r1.env).t.length
        · have e1 : (tidy Θ (loopKey c) r1.env).t.getD i .undef = (tidy Θ (loopKey c) r1.env).t[i] := by simp [List.getD_eq_getElem?_getD, hi]
          rw [e1]
          exact n3 _ (List.getElem_mem hi) _ (by rw [← e1]; exact hT1.2 i)
        · have e1 : (tidy Θ (loopKey c) r1.env).t.getD i .undef = .undef := by
            rw [List.getD_eq_getElem?_getD, List.getElem?_eq_none (by omega)]; rfl
          rw [e1]; simp [VRel]
      have hJ : J j a1 w1 := ⟨by omega, _, _, g2, nms1 ++ nms, k1.trans n1, hT2, weak n2 (by rw [List.append_assoc]), by rw [m4, k4]; simp, fun hsome => by rw [m5 hsome, k5 hsome]; rfl, h2⟩
      refine ⟨⟨j, hJ⟩, ?_⟩
      have hx' := exists_least (p := fun j => J j a1 w1) hJ
      have : μ a1 w1 ≤ j := by simp only [μ, dif_pos hx']; exact hx'.choose_spec.2 j hJ
      omega
    | exit id =>
      rw [hx1] at h2; cases h2
      simp only [exOf, Exit.then]
      exact ⟨rfl, g1, nms1 ++ nms, k1.trans m1, tidy_rel m2, weak m3 (by rw [List.append_assoc]), by rw [m4, k4]; simp, fun hsome => by rw [m5 hsome, k5 hsome]; rfl⟩
    | goto l =>
      rw [hx1] at h2; cases h2
      simp only [exOf, Exit.then]
      exact ⟨rfl, g1, nms1 ++ nms, k1.trans m1, tidy_rel m2, weak m3 (by rw [List.append_assoc]), by rw [m4, k4]; simp, fun hsome => by rw [m5 hsome, k5 hsome]; rfl⟩
    | ret =>
      rw [hx1] at h2; cases h2
      simp only [exOf, Exit.then]
      exact ⟨rfl, g1, nms1 ++ nms, k1.trans m1, tidy_rel m2, weak m3 (by rw [List.append_assoc]), by rw [m4, k4]; simp, fun hsome => by rw [m5 hsome, k5 hsome]; rfl⟩

theorem step_range (H : ThOK P Θ) (I : Good P Θ k) {fo : Operand} {ps : Array Tmp} {assign body : Code} {e : Env} {σ : St} {r : Res} (h : runF P Θ (k + 1) (.code (.rangeFunc fo ps assign body) e σ) = some r) {ro : Option Nat} {w0 : World} {f0 : Nat → List Value} {ms : List Nat} {g : G} {w : World} {a : Act}
    (hs : SRel w0 f0 ms σ g w) (hT : TRel g e.t a.tmps) (hro : ∀ l, ro = some l → l ∈ g.loop) : (Code.rangeFunc fo ps assign body).wpIn (FF ro) 0 P (CEnd w0 f0 ms g r a.defers ro) a w := by
  simp only [runF, stepT] at h
  split at h
  · cases h
  · rename_i hfn
    obtain ⟨r1, h1, h⟩ := Option.bind_eq_some_iff.1 h
    obtain ⟨lr, hlr, h⟩ := Option.bind_eq_some_iff.1 h
    split at h
    · cases h
    · rename_i hbusy
      have hF := ev_rel hT fo
      rcases apply_inv h1 with ⟨fn, fst, caps, hfe⟩ | ⟨l, hfe⟩
      · rw [hfe] at h1 hF
        simp only [VRel] at hF
        obtain ⟨fn', f', c', hfv, hfn', hfst, hcaps⟩ := hF
        simp only [fnRel] at hfn'
        subst hfn'
        have hent : Θ.ent fn = true := by
          rw [hfe] at hfn
          simpa [LV.isFn] using hfn
        have hcall := fun {w0 f0 ms g w vf va vc} h2 h3 h4 h5 => (I.apply h1 (w0 := w0) (f0 := f0) (ms := ms) (g := g) (w := w) (vf := vf) (va := va) (vc := vc) h2 h3 h4 h5).1 hent
        refine wpIn_rangeFunc fun fid hfid => ?_
        -- the record is laid, and at an outermost loop a mark
        have key : ∃ (l : Nat) (nms : List Nat) (w1 : World), (Instr.enterLoop fid a.tmps ps assign body (FF ro).round).run P w = .ok (l, nms.map mkMark) w1 ∧ (ro.isSome = true → nms = []) ∧
            SRel w0 f0 (nms ++ ms) { σ with loops := σ.loops ++ [{ env := tidy Θ (loopKey assign) e, params := ps.toList, assign, body, pending := none, state := .ready }] } (g.addLoop l) w1 := by
          cases ro with
          | none =>
            have e1 := hs.newMark
            refine ⟨w.heap.size + 1, [w.heap.size], _, run_enterLoop_outer fid a.tmps ps assign body, fun h => by simp at h, ?_⟩
            have e2 := e1.newLoop (lr := { env := tidy Θ (loopKey assign) e, params := ps.toList, assign, body, pending := none, state := .ready }) (rec := { state := .ready, pending := none, fn := fid, tmps := a.tmps, params := ps, assign, body, defers := w.heap.size })
              ⟨tidy_rel hT, rfl, rfl, rfl, rfl, rfl⟩
            rw [World.size_alloc] at e2
            exact e2
          | some b =>
            obtain ⟨i, hi⟩ := mem_get (hro b rfl)
            have hil : i < σ.loops.length := by rw [← hs.loopl]; exact (List.getElem?_eq_some_iff.1 hi).1
            obtain ⟨_, rec, hrec, _⟩ := hs.loop i _ b (List.getElem?_eq_getElem hil) hi
            refine ⟨w.heap.size, [], _, run_enterLoop_inner hrec fid a.tmps ps assign body, fun _ => rfl, ?_⟩
            exact hs.newLoop (lr := { env := tidy Θ (loopKey assign) e, params := ps.toList, assign, body, pending := none, state := .ready }) ⟨tidy_rel hT, rfl, rfl, rfl, rfl, rfl⟩
        obtain ⟨l, nms, w1, e1, e2, e3⟩ := key
        have hgl : g.le (g.addLoop l) := g.le_addLoop l
        have hyl : VsRel (g.addLoop l) [.func (.yield σ.loops.length) [] []] (#[.func (.yield l) #[] #[]] : Array Value).toList := by
          refine VsRel_one ?_
          simp only [VRel, VsRel]
          exact ⟨.yield l, #[], #[], rfl, ⟨l, by simp [G.addLoop, ← hs.loopl], rfl⟩, rfl, rfl⟩
        refine ⟨l, nms.map mkMark, w1, { target := .fn (.func fn) c', args := f' ++ #[.func (.yield l) #[] #[]] }, w1, fn, f' ++ #[.func (.yield l) #[] #[]] ++ c', w1, e1, ?_, fun _ _ => trivial, ?_, ff_depth ro, ?_⟩
        · have := resolve_value (P := P) (ρ := a.eval) (f := fo) (args := #[.const (.func (.yield l) #[] #[])]) (ats := #[]) (t := 0) hfv w1
          simpa [rangeCall, Act.eval] using this
        · simp only [invoke]
          exact H.ent fn hent _ w1
        · refine callsIn_ff (CallsIn.mono (hcall e3 (VsRel_mono hgl _ _ hfst) hyl (VsRel_mono hgl _ _ hcaps)) ?_)
          rintro x w3 ⟨u, g1, rfl, m1, _, m3⟩
          have hl1 : g1.loop[σ.loops.length]? = some l := pre_get m1.loop (by simp [G.addLoop, ← hs.loopl])
          obtain ⟨_, rec, hrec, hL⟩ := m3.loop _ lr l hlr hl1
          have hnb : rec.state ≠ .busy := by rw [hL.state]; exact hbusy
          refine ⟨lr.pending, _, by rw [← hL.pending]; exact run_endLoop hrec hnb, ?_⟩
          have n1 := m3.setLoop hlr hl1 hrec (hL.turn .exhausted lr.pending)
          have hst : setState r1.σ σ.loops.length (fun q => { q with state := .exhausted }) = { r1.σ with loops := r1.σ.loops.set σ.loops.length { lr with state := .exhausted, pending := lr.pending } } := setState_some hlr _
          have hrec' : ({ rec with state := .exhausted, pending := lr.pending } : Loop) = { rec with state := .exhausted } := by rw [← hL.pending]
          rw [hrec', ← hst] at n1
          have hgg : g.le g1 := hgl.trans m1
          have hphys : ∀ r' k' v', g.phys r' k' = some v' → r' < σ.rows.length := fun r' k' v' hv' => by
            obtain ⟨row, hrow, _⟩ := hs.phys r' k' v' hv'
            exact (List.getElem?_eq_some_iff.1 hrow).1
          obtain ⟨g2, q1, q2, q3⟩ := n1.trimmed σ.sz e.t hgg hs.boxl hs.loopl hs.mapl hphys
          have hT2 : TRel g2 e.t a.tmps := by
            have hT1 := TRel_mono hgg hT
            refine ⟨hT1.1, fun i => ?_⟩
            by_cases hi : i < e.t.length
            · have e1 : e.t.getD i .undef = e.t[i] := by simp [List.getD_eq_getElem?_getD, hi]
              rw [e1]
              exact q3 _ (List.getElem_mem hi) _ (by rw [← e1]; exact hT1.2 i)
            · have e1 : e.t.getD i .undef = .undef := by
                rw [List.getD_eq_getElem?_getD, List.getElem?_eq_none (by omega)]; rfl
              rw [e1]; simp [VRel]
          have hend : ∀ x, r = { ex := x, env := e, σ := endL σ e r1.σ } → CEnd w0 f0 ms g r a.defers ro (exOf x) { a with defers := nms.map mkMark ++ a.defers } (w3.putObj l (.loop { rec with state := .exhausted })) := by
            intro x hx
            subst hx
            exact ⟨rfl, g2, nms, q1, hT2, q2, rfl, e2⟩
          split at h
          · rename_i hp
            rw [hp]
            cases h
            exact hend .normal rfl
          · rename_i hp
            rw [hp]
            cases h
            exact wpIn_ret (hend .ret rfl)
          · rename_i id hp
            rw [hp]
            cases h
            exact wpIn_exit (hend (.exit id) rfl)
          · rename_i t hp
            rw [hp]
            cases h
            exact wpIn_goto (hend (.goto t) rfl)
          · cases h
      · rw [hfe] at hfn
        exact absurd rfl hfn

theorem lit_sound (H : ThOK P Θ) (I : Good P Θ k) {ops : Array Oper} {e : Env} {σ : St} {r : Res} {ro : Option Nat} {w0 : World} {f0 : Nat → List Value} {ms : List Nat} {g : G} {w : World} {a : Act} {Q : Exit → Act → World → Prop}
    (hs : SRel w0 f0 ms σ g w) (hT : TRel g e.t a.tmps) (hro : ∀ l, ro = some l → l ∈ g.loop) (hlit : litStart P ops.toList = true)
    (h : (match ops.toList with
      | o1 :: o2 :: os => (o1.dst.bind fun d => e.t[d]?).bind fun _ => (opStep P false o1 e.ev σ).bind fun r => (execOps P Θ (runF P Θ k) false ops.toList os ((e.put o1.dst r.1).put o2.dst r.1) r.2).map fun r => ({ env := r.1, σ := r.2 } : Res)
      | _ => none) = some r)
    (hend : ∀ p : Env × St, r = { env := p.1, σ := p.2 } → ∀ a' w', (∃ g', g.le g' ∧ TRel g' p.1.t a'.tmps ∧ SRel w0 f0 ms p.2 g' w' ∧ a'.defers = a.defers) → Q .normal a' w') :
    wpOpsIn (FF ro) 0 P ops Q (List.range ops.size) a w := by
  have hsz : ops.toList.length = ops.size := Array.length_toList
  generalize hl : ops.toList = l at *
  unfold litStart at hlit
  split at hlit
  · rename_i o1 o2 os
    simp only at h
    split at hlit
    · rename_i t n ps src dst x d1 ho1 ho2 hg1 hg2 hd1
      simp only [Bool.and_eq_true, decide_eq_true_eq] at hlit
      obtain ⟨⟨rfl, rfl, rfl⟩, hel⟩ := hlit
      obtain ⟨old, hold, h⟩ := Option.bind_eq_some_iff.1 h
      rw [hd1] at hold
      have hx : x < a.tmps.size := by
        have := (List.getElem?_eq_some_iff.1 hold).1
        rw [hT.1]; exact this
      obtain ⟨r1, hop, h⟩ := Option.bind_eq_some_iff.1 h
      obtain ⟨p, hex, hr⟩ := Option.map_eq_some_iff.1 h
      obtain ⟨el, cells, hel', hrun, hall⟩ := buildSlice_full hT hs ho1 hop rfl
      rw [hel'] at hel
      have hu8 : P.underlying el = some (.int .u8) := by
        simp only at hel
        split at hel
        · assumption
        · cases hel
      have hi0 : ops[0]? = some o1 := by rw [← Array.getElem?_toList, hl]; rfl
      have hi1 : ops[1]? = some o2 := by rw [← Array.getElem?_toList, hl]; rfl
      have hrange : List.range ops.size = 0 :: 1 :: (List.range os.length).map (· + 2) := by
        rw [← hsz, List.length_cons, List.length_cons, List.range_succ_eq_map, List.range_succ_eq_map, List.map_cons, List.map_map]
        rfl
      rw [hrange, wpOpsIn_cons]
      have hw1 : Region.wanted o1 (yielded ops a.tmps) = true := by simp [Region.wanted, hg1]
      unfold wpOpIn
      rw [hi0]
      simp only [hw1, if_true]
      refine ⟨fun _ _ => trivial, ?_⟩
      rw [Oper.semAt_eq _ _ _ (fun c hc => by rw [ho1] at hc; cases hc), hrun, Oper.uponIn_value]
      -- the conversion: the block is marked
      rw [wpOpsIn_cons]
      unfold wpOpIn
      rw [hi1]
      have hw2 : Region.wanted o2 (yielded ops (a.put o1.dst (.slice (some ⟨w.heap.size, 0, none⟩) n n)).tmps) = true := by simp [Region.wanted, hg2]
      simp only [hw2, if_true]
      refine ⟨fun _ _ => trivial, ?_⟩
      have hev : (a.put o1.dst (.slice (some ⟨w.heap.size, 0, none⟩) n n)).eval (.tmp x) = .slice (some ⟨w.heap.size, 0, none⟩) n n := by
        rw [hd1]
        simp [Act.put, Act.eval, hx]
      have hnew := heap_alloc_new w (.cells cells el)
      have hconv : (execOp (a.put o1.dst (.slice (some ⟨w.heap.size, 0, none⟩) n n)).eval o2).run P (w.alloc (.cells cells el)) =
          .ok (.value (.slice (some ⟨w.heap.size, 0, none⟩) n n)) ((w.alloc (.cells cells el)).freeze ⟨w.heap.size, cells.size, none⟩ 1) := by
        have hu := elemB_inv hel'
        have hsh : (w.alloc (.cells cells el)).shape? w.heap.size = some (el, cells.size) := by simp only [World.shape?, hnew]
        simp only [execOp, ho2, hev, Sem.run_bind, convert, run_underlying hu, Result.andThen_ok, run_underlying hu8, beq_self_eq_true, markStringish, run_shape, hsh, run_freeze, Sem.run_pure]
      rw [Oper.semAt_eq _ _ _ (fun c hc => by rw [ho2] at hc; cases hc), hconv, Oper.uponIn_value]
      obtain ⟨g', k1, k2, k3⟩ := hall ((w.alloc (.cells cells el)).freeze ⟨w.heap.size, cells.size, none⟩ 1) (cells.size, cells.size + 1) (by
        refine ⟨rfl, rfl, rfl, ?_, fun q hq => ?_⟩
        · simp [World.freeze]
        · simp only [World.freeze, Nat.succ_ne_self, if_false, Array.getElem?_modify]
          rw [if_neg (by omega)]
          exact heap_alloc_old w _ q hq) (by
        simp only [World.freeze, Nat.succ_ne_self, if_false, Array.getElem?_modify, if_true, hnew, Option.map_some]
        rfl)
      refine seq_sound (step_op H I (g0 := g) (ds := a.defers) (w0 := w0) (f0 := f0) (ms := ms) hro) _ ((e.put o1.dst r1.1).put o2.dst r1.1) r1.2 p _ _ (fun i hi => ?_) ?_ ⟨g', k2, ?_, k3, ?_⟩ (hend p hr.symm)
      · obtain ⟨j, hj, rfl⟩ := List.mem_map.1 hi
        have := List.mem_range.1 hj
        rw [← hsz]; simp; omega
      · have : ((List.range os.length).map (· + 2)).filterMap (ops[·]?) = os := by
          rw [List.filterMap_map]
          have e1 : ((fun i => ops[i]?) ∘ fun x => x + 2) = fun i => os.toArray[i]? := by
            funext i
            simp only [Function.comp]
            rw [← Array.getElem?_toList, hl]
            simp
          rw [e1]
          have := filterMap_range os.toArray
          simpa using this
        rw [this, hl]
        exact hex
      · exact TRel_put (TRel_put (TRel_mono k2 hT) o1.dst k1) o2.dst k1
      · rw [put_defersL, put_defersL]
    · cases hlit
  · cases hlit

theorem step_code (H : ThOK P Θ) (I : Good P Θ k) {c : Code} {e : Env} {σ : St} {r : Res} (h : runF P Θ (k + 1) (.code c e σ) = some r) {ro : Option Nat} {w0 : World} {f0 : Nat → List Value} {ms : List Nat} {g : G} {w : World} {a : Act}
    (hs : SRel w0 f0 ms σ g w) (hT : TRel g e.t a.tmps) (hro : ∀ l, ro = some l → l ∈ g.loop) : c.wpIn (FF ro) 0 P (CEnd w0 f0 ms g r a.defers ro) a w := by
  have simple : ∀ x, r = { ex := x, env := e, σ := σ } → CEnd w0 f0 ms g r a.defers ro (exOf x) a w := fun x hx => by
    subst hx
    exact ⟨rfl, g, [], G.le.refl g, hT, hs, by simp, fun _ => rfl⟩
  cases c with
  | skip => simp only [runF, stepT, Option.some.injEq] at h; exact wpIn_skip (simple .normal h.symm)
  | label l => simp only [runF, stepT, Option.some.injEq] at h; exact wpIn_label (simple .normal h.symm)
  | exit id => simp only [runF, stepT, Option.some.injEq] at h; exact wpIn_exit (simple (.exit id) h.symm)
  | goto l => simp only [runF, stepT, Option.some.injEq] at h; exact wpIn_goto (simple (.goto l) h.symm)
  | ret => simp only [runF, stepT, Option.some.injEq] at h; exact wpIn_ret (simple .ret h.symm)
  | scope _ => simp [runF, stepT] at h
  | refuse _ => simp [runF, stepT] at h
  | loop c => exact step_loop I h hs hT hro
  | rangeFunc f ps assign body => exact step_range H I h hs hT hro
  | cond c x y =>
    have hc := ev_rel hT c
    simp only [runF, stepT] at h
    split at h
    · rename_i hv
      rw [hv] at hc
      exact wpIn_cond_true (VRel_bool hc) (I.code h hs hT hro)
    · rename_i hv
      rw [hv] at hc
      exact wpIn_cond_false (VRel_bool hc) (I.code h hs hT hro)
    · cases h
  | seq x y =>
    simp only [runF, stepT] at h
    obtain ⟨r1, h1, h2⟩ := Option.bind_eq_some_iff.1 h
    refine wpIn_seq (wpIn_mono (I.code h1 hs hT hro) ?_)
    rintro z a1 w1 ⟨rfl, g1, nms, m1, m2, m3, m4, m5⟩
    have hro' : ∀ l, ro = some l → l ∈ g1.loop := fun l hl => by
      obtain ⟨i, hi⟩ := mem_get (hro l hl)
      exact List.mem_iff_getElem?.2 ⟨i, pre_get m1.loop hi⟩
    cases hx : r1.ex with
    | normal =>
      rw [hx] at h2
      simp only [exOf, Exit.then]
      refine wpIn_mono (I.code h2 m3 m2 hro') fun z a2 w2 hz => ?_
      rw [m4] at hz
      exact CEnd.on hz m1 m5
    | exit id =>
      rw [hx] at h2; cases h2
      simp only [exOf, Exit.then]
      exact ⟨by rw [hx]; rfl, g1, nms, m1, m2, m3, m4, m5⟩
    | goto id =>
      rw [hx] at h2; cases h2
      simp only [exOf, Exit.then]
      exact ⟨by rw [hx]; rfl, g1, nms, m1, m2, m3, m4, m5⟩
    | ret =>
      rw [hx] at h2; cases h2
      simp only [exOf, Exit.then]
      exact ⟨by rw [hx]; rfl, g1, nms, m1, m2, m3, m4, m5⟩
  | block id x =>
    simp only [runF, stepT] at h
    obtain ⟨r1, h1, h2⟩ := Option.bind_eq_some_iff.1 h
    refine wpIn_block (wpIn_mono (I.code h1 hs hT hro) ?_)
    rintro z a1 w1 ⟨rfl, g1, nms, m1, m2, m3, m4, m5⟩
    cases hx : r1.ex with
    | exit i =>
      rw [hx] at h2
      simp only at h2
      simp only [exOf, Exit.inBlock]
      split at h2
      · rename_i hi
        cases h2
        rw [if_pos hi]
        exact ⟨rfl, g1, nms, m1, m2, m3, m4, m5⟩
      · rename_i hi
        cases h2
        rw [if_neg hi]
        exact ⟨by rw [hx]; rfl, g1, nms, m1, m2, m3, m4, m5⟩
    | normal =>
      rw [hx] at h2; cases h2
      simp only [exOf, Exit.inBlock]
      exact ⟨by rw [hx]; rfl, g1, nms, m1, m2, m3, m4, m5⟩
    | goto l =>
      rw [hx] at h2; cases h2
      simp only [exOf, Exit.inBlock]
      exact ⟨by rw [hx]; rfl, g1, nms, m1, m2, m3, m4, m5⟩
    | ret =>
      rw [hx] at h2; cases h2
      simp only [exOf, Exit.inBlock]
      exact ⟨by rw [hx]; rfl, g1, nms, m1, m2, m3, m4, m5⟩
  | region id ops draw =>
    simp only [runF, stepT] at h
    have hend : ∀ p : Env × St, r = { env := p.1, σ := p.2 } → ∀ a' w', (∃ g', g.le g' ∧ TRel g' p.1.t a'.tmps ∧ SRel w0 f0 ms p.2 g' w' ∧ a'.defers = a.defers) → CEnd w0 f0 ms g r a.defers ro .normal a' w' := by
      rintro p rfl a' w' ⟨g', m1, m2, m3, m4⟩
      exact ⟨rfl, g', [], m1, m2, m3, by simpa using m4, fun _ => rfl⟩
    cases draw with
    | true =>
      simp only [if_true] at h
      split at h
      · rename_i hok
        obtain ⟨p, h1, h2⟩ := Option.map_eq_some_iff.1 h
        refine wpIn_region_any H.ord ?_
        have hu : unl ops (Array.replicate ops.size false) = List.range ops.size := by
          simp only [unl]
          apply List.filter_eq_self.2
          intro i hi
          have := List.mem_range.1 hi
          simp [this]
        have hk : SRel w0 f0 ms σ g { w with drawn := w.drawn + 1 } := hs.kept ⟨rfl, rfl, rfl, Nat.le_refl _, fun _ _ => rfl⟩
        exact draw_sound (r := p) (recMono_runF k) hok (step_op H I (g0 := g) (ds := a.defers) (w0 := w0) (f0 := f0) (ms := ms) hro) ops.size _ e σ a _ rfl (by simp)
          (fun i o _ hl => by
            exfalso
            rcases Nat.lt_or_ge i ops.size with h' | h' <;> simp [h', Nat.not_lt.2] at hl)
          (by rw [hu]; simp) (by rw [hu, filterMap_range]; exact h1) ⟨g, G.le.refl g, hT, hk, rfl⟩ (hend p h2.symm)
      · cases h
    | false =>
      simp only [Bool.false_eq_true, if_false] at h
      refine wpIn_region ?_
      cases hlit : litStart P ops.toList with
      | true =>
        rw [hlit] at h
        simp only [cond_true] at h
        exact lit_sound H I hs hT hro hlit h hend
      | false =>
      rw [hlit] at h
      simp only [cond_false] at h
      obtain ⟨p, h1, h2⟩ := Option.map_eq_some_iff.1 h
      exact seq_sound (r := p) (step_op H I (g0 := g) (ds := a.defers) (w0 := w0) (f0 := f0) (ms := ms) hro) (List.range ops.size) e σ a w (fun i hi => List.mem_range.1 hi) (by rw [filterMap_range]; exact h1) ⟨g, G.le.refl g, hT, hs, rfl⟩ (hend p h2.symm)

theorem good (H : ThOK P Θ) : ∀ k, Good P Θ k
  | 0 => {
    call := fun h => by simp [runF] at h
    callS := fun h => by simp [runF] at h
    apply := fun h => by simp [runF] at h
    yield := fun h => by simp [runF] at h
    code := fun h => by simp [runF] at h }
  | k + 1 => {
    call := fun h => step_call H (good H k) h
    callS := fun h => step_callS (good H k) h
    apply := fun h => step_apply H (good H k) h
    yield := fun h => step_yield (good H k) h
    code := fun h => step_code H (good H k) h }

/-- **WHAT THE INTERPRETER ANSWERS, THE MACHINE DOES.** -/
theorem call_sound (H : ThOK P Θ) {f : FuncId} {args : List LV} {r : Res} (h : run P Θ (.call f args) = some r) {g : G} {w : World} {vs : Array Value} (hf : FzOK g w) (hv : VsRel g args vs.toList) :
    callOk r.v r.σ.rows = true ∧ CallsIn Fence.wide 0 P f vs w (PureEnd g r.v r.σ.rows w) := by
  obtain ⟨k, hk⟩ := run_iff.1 h
  exact (good H k).call hk hf hv

end
end Go.Proofs.YticpcfchhcjjeaaGreat.LI
