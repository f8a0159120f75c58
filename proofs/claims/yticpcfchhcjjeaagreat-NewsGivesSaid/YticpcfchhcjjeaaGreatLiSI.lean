/-
  What the interpreter answers, the machine does: operations, rounds, code. No program is named here.
-/
import Derived.Test.YticpcfchhcjjeaaGreatLiSH
namespace Go.Proofs.YticpcfchhcjjeaaGreat.LI
open Go Go.RowKit
section
variable {P : Program} {Θ : Th} {k : Nat}

theorem callsIn_ff {ro : Option Nat} {f : FuncId} {args : Array Value} {w : World} {R : Ending → World → Prop} (h : CallsIn Fence.wide 0 P f args w R) : CallsIn (FF ro) 0 P f args w R := h
theorem roundIn_ff {ro : Option Nat} {l : Nat} {f : FuncId} {tmps : Array Value} {assign body : Code} {w : World} {R : Ending → World → Prop} (h : RoundIn Fence.wide 0 P l f tmps assign body w R) : RoundIn (FF ro) 0 P l f tmps assign body w R := h

theorem noDefer {rec : Task → Option Res} {o : Oper} {e : Env} {σ : St} {r : LV × St} (h : opEval P Θ rec o e σ = some r) : ∀ c, o.op ≠ .defer c := by
  intro c hc
  simp [opEval, opRaw, callV, hc, opStep] at h

theorem resolve_value {ρ : Operand → Value} {f : Operand} {args : Array Operand} {ats : Array TypeId} {t : TypeId} {fn : Fn} {f' c' : Array Value} (hf : ρ f = .func fn f' c') (w : World) :
    (resolve ρ { callee := .value f, args, argTypes := ats } t).run P w = .ok { target := .fn fn c', args := f' ++ args.map ρ } w := by
  simp [resolve, hf, Deferred.ofValue]

/-- One operation in its turn. -/
theorem step_op (H : ThOK P Θ) (I : Good P Θ k) {ops : Array Oper} {strict : Bool} {ro : Option Nat} {w0 : World} {f0 : Nat → List Value} {ms : List Nat} {g0 : G} {ds : List Deferred} {Q : Exit → Act → World → Prop} (_hro : ∀ l, ro = some l → l ∈ g0.loop) :
    StepOK P Θ (runF P Θ k) ops (FF ro) 0 Q (fun e σ a w => ∃ g, g0.le g ∧ TRel g e.t a.tmps ∧ SRel w0 f0 ms σ g w ∧ a.defers = ds) strict := by
  intro i o e σ lv σ' a w K ho hy hi hK
  obtain ⟨g, hle, hT, hs, hd⟩ := hi
  have fin0 : ∀ g' v w', g.le g' → VRel g' lv v → SRel w0 f0 ms σ' g' w' → K (a.put o.dst v) w' := fun g' v w' h1 h2 h3 =>
    hK _ _ ⟨g', hle.trans h1, TRel_put (TRel_mono h1 hT) o.dst h2, h3, by rw [put_defersL]; exact hd⟩
  unfold wpOpIn
  rw [ho]
  simp only
  rcases hy with ⟨hw, rfl, rfl⟩ | ⟨hw, hop, _⟩
  · rw [wanted_rel hT hw]
    simp only [Bool.false_eq_true, if_false]
    exact ⟨fun _ _ => trivial, fin0 g _ w (G.le.refl g) (by simp [VRel, VsRel, Go.undef]) hs⟩
  · rw [wanted_rel hT hw]
    simp only [if_true]
    refine ⟨fun _ _ => trivial, ?_⟩
    rw [Oper.semAt_eq _ _ _ (noDefer hop)]
    unfold opEval at hop
    obtain ⟨⟨lvr, σr⟩, hraw, hfz⟩ := Option.map_eq_some_iff.1 hop
    clear hop
    have hop := hraw
    clear hraw
    have fin : ∀ g' v w', g.le g' → VRel g' lvr v → SRel w0 f0 ms σr g' w' → K (a.put o.dst v) w' := fun g' v w' h1 h2 h3 => by
      cases hb : Θ.frzs e.fn o.dst with
      | false =>
        rw [hb] at hfz
        simp only [frzRes, cond_false, Prod.mk.injEq] at hfz
        obtain ⟨rfl, rfl⟩ := hfz
        exact fin0 g' v w' h1 h2 h3
      | true =>
        rw [hb] at hfz
        simp only [frzRes, cond_true, Prod.mk.injEq] at hfz
        obtain ⟨rfl, rfl⟩ := hfz
        obtain ⟨g2, k1, k2, k3⟩ := h3.freeze (rowsIn lvr)
        exact fin0 g2 v w' (h1.trans k1.le) (frzV_rel k1.le lvr v k3 h2) k2
    unfold opRaw at hop
    split at hop
    · rename_i fo args hc
      obtain ⟨r, h1, h2⟩ := Option.map_eq_some_iff.1 hop
      cases h2
      have hco : ∃ ats, o.op = .call { callee := .value fo, args, argTypes := ats } := by
        unfold callV at hc
        split at hc
        · rename_i f' args' ats ho'
          cases hc
          exact ⟨ats, ho'⟩
        · cases hc
      obtain ⟨ats, hop'⟩ := hco
      have hA : VsRel g (args.toList.map e.ev) (args.map a.eval).toList := by simpa using ev_map hT args.toList
      have hF := ev_rel hT fo
      rcases apply_inv h1 with ⟨fn, fst, caps, hfe⟩ | ⟨l, hfe⟩
      · rw [hfe] at h1 hF
        simp only [VRel] at hF
        obtain ⟨fn', f', c', hfv, hfn, hfst, hcaps⟩ := hF
        simp only [fnRel] at hfn
        subst hfn
        obtain ⟨hcall, hext⟩ := I.apply h1 hs hfst hA hcaps
        cases hent : Θ.ent fn with
        | true =>
          have hrun : (execOp a.eval o).run P w = .ok (.enter fn (f' ++ args.map a.eval ++ c')) w := by
            simp only [execOp, hop', Sem.run_bind, resolve_value hfv, Result.andThen_ok, invoke]
            exact H.ent fn hent _ w
          rw [hrun, Oper.uponIn_enter]
          refine ⟨ff_depth ro, callsIn_ff (CallsIn.mono (hcall hent) ?_)⟩
          rintro x w' ⟨u, g', rfl, h3, h4, h5⟩
          exact fin g' u w' h3 h4 h5
        | false =>
          obtain ⟨u, g', h2, h3, h4, h5⟩ := hext hent
          have hrun : (execOp a.eval o).run P w = .ok (.value u) w := by
            simp only [execOp, hop', Sem.run_bind, resolve_value hfv, Result.andThen_ok, invoke]
            exact h2
          rw [hrun, Oper.uponIn_value]
          exact fin g' u w h3 h4 h5
      · rw [hfe] at h1 hF
        simp only [VRel, VsRel] at hF
        obtain ⟨fn', f', c', hfv, ⟨b, hb, rfl⟩, hfst, hcaps⟩ := hF
        have e1 : f' = #[] := Array.eq_empty_of_size_eq_zero (by rw [← Array.length_toList, hfst]; rfl)
        subst e1
        obtain ⟨fn, tmps, assign, body, k1, k2⟩ := I.yield h1 hs hA hb
        have hrun : (execOp a.eval o).run P w = .ok (.round b fn tmps assign body) w := by
          simp only [execOp, hop', Sem.run_bind, resolve_value hfv, Result.andThen_ok, invoke]
          simpa using k1
        rw [hrun, Oper.uponIn_round]
        refine ⟨ff_depth ro, roundIn_ff (RoundIn.mono k2 ?_)⟩
        rintro x w' ⟨u, g', rfl, h3, h4, h5⟩
        exact fin g' u w' h3 h4 h5
    · obtain ⟨v, w', g', hr, h1, h2, h3⟩ := opStep_sound (w0 := w0) (f0 := f0) (ms := ms) (w := w) H.ty hT hs hop
      rcases hr with hr | ⟨hr, rfl⟩
      · rw [hr, Oper.uponIn_value]
        exact fin g' v w' h2 h1 h3
      · rw [hr, Oper.uponIn_skip]
        exact fin g' _ w' h2 h1 h3

theorem zip_fold {ps : List Nat} : ∀ {args : List LV} {vs : List Value} {t : List LV} {a : Array Value} {g : G}, VsRel g args vs → TRel g t a →
    TRel g ((ps.zip args).foldl (fun t (p : Nat × LV) => t.set p.1 p.2) t) ((ps.zip vs).foldl (fun t (p : Nat × Value) => t.setIfInBounds p.1 p.2) a) := by
  induction ps with
  | nil => intro args vs t a g _ h; simpa using h
  | cons p ps ih =>
    intro args vs t a g hv h
    cases args with
    | nil => simp only [VsRel] at hv; subst hv; simpa using h
    | cons x xs =>
      simp only [VsRel] at hv
      obtain ⟨v, vs', rfl, h1, h2⟩ := hv
      simp only [List.zip_cons_cons, List.foldl_cons]
      exact ih h2 (TRel_set h p h1)

theorem setState_some {τ : St} {l : Nat} {lr : LoopRec} (h : τ.loops[l]? = some lr) (f : LoopRec → LoopRec) : setState τ l f = { τ with loops := τ.loops.set l (f lr) } := by
  simp only [setState, h]

theorem LoopRel.turn {g : G} {lr : LoopRec} {rec : Loop} (h : LoopRel g lr rec) (s : LoopState) (p : Option Code) : LoopRel g { lr with state := s, pending := p } { rec with state := s, pending := p } :=
  ⟨h.tmps, h.params, h.assign, h.body, rfl, rfl⟩

theorem step_yield (I : Good P Θ k) {l : Nat} {args : List LV} {σ : St} {r : Res} {own : Bool} (h : runF P Θ (k + 1) (.apply own (.func (.yield l) [] []) args σ) = some r) {w0 : World} {f0 : Nat → List Value} {ms : List Nat} {g : G} {w : World} {b : Nat} {va : Array Value}
    (hs : SRel w0 f0 ms σ g w) (hA : VsRel g args va.toList) (hb : g.loop[l]? = some b) :
    ∃ fn tmps assign body, (Instr.yield b va).run P w = .ok (.round b fn tmps assign body) w ∧ RoundIn Fence.wide 0 P b fn tmps assign body w (StEnd w0 f0 ms g r.v r.σ) := by
  simp only [runF, stepT] at h
  obtain ⟨lr, hlr, h⟩ := Option.bind_eq_some_iff.1 h
  split at h
  · rename_i hc
    obtain ⟨hready, hlen⟩ := hc
    obtain ⟨r1, h1, h⟩ := Option.bind_eq_some_iff.1 h
    split at h
    · rename_i hc1
      obtain ⟨hx1, hready1⟩ := hc1
      obtain ⟨r2, h2, hr⟩ := Option.map_eq_some_iff.1 h
      obtain ⟨hb0, rec, hrec, hL⟩ := hs.loop l lr b hlr hb
      have hmem : b ∈ g.loop := List.mem_iff_getElem?.2 ⟨l, hb⟩
      have hsz : va.size = rec.params.size := by
        have e1 := VsRel_length hA
        rw [Array.length_toList] at e1
        rw [e1, hlen, ← hL.params, Array.length_toList]
      have hy := run_yield (P := P) hrec hsz
      refine ⟨rec.fn, _, rec.assign, rec.body, hy, ?_⟩
      have hT1 : TRel g ((lr.params.zip args).foldl (fun t (p : Nat × LV) => t.set p.1 p.2) lr.env.t) ((rec.params.zip va).foldl (fun tmps (x : Tmp × Value) => tmps.setIfInBounds x.1 x.2) rec.tmps) := by
        rw [← Array.foldl_toList, Array.toList_zip, hL.params]
        exact zip_fold hA hL.tmps
      refine roundIn_of_wpIn (F := Fence.wide) trivial ?_
      rw [hL.assign]
      refine wpIn_mono (I.code h1 (ro := some b) (a := { tmps := _, defers := [] }) hs hT1 (fun l' hl' => by cases hl'; exact hmem)) ?_
      rintro x a1 w1 ⟨rfl, g1, nms, k1, k2, k3, k4, k5⟩
      have hn := k5 rfl
      subst hn
      rw [hx1]
      simp only [exOf, Exit.then]
      rw [List.nil_append] at k3
      have hb1 : g1.loop[l]? = some b := pre_get k1.loop hb
      unfold isReady at hready1
      split at hready1
      · rename_i lr1 hlr1
        have hst1 : lr1.state = .ready := by simpa using hready1
        obtain ⟨_, rec1, hrec1, hL1⟩ := k3.loop l lr1 b hlr1 hb1
        refine ⟨_, run_beginRound hrec1 (hL1.state.trans hst1), ?_⟩
        rw [setState_some hlr1] at h2
        have hL1' : LoopRel g1 { lr1 with state := .busy } { rec1 with state := .busy } := ⟨hL1.tmps, hL1.params, hL1.assign, hL1.body, hL1.pending, rfl⟩
        have k6 := k3.setLoop hlr1 hb1 hrec1 hL1'
        rw [hL.body]
        refine wpIn_mono (I.code h2 (ro := some b) (a := a1) k6 k2 (fun l' hl' => by cases hl'; exact List.mem_iff_getElem?.2 ⟨l, hb1⟩)) ?_
        rintro x a2 w3 ⟨rfl, g2, nms, m1, m2, m3, m4, m5⟩
        have hn := m5 rfl
        subst hn
        rw [List.nil_append] at m3
        have hb2 : g2.loop[l]? = some b := pre_get m1.loop hb1
        have hl2 : l < r2.σ.loops.length := by rw [← m3.loopl]; exact (List.getElem?_eq_some_iff.1 hb2).1
        have hlr2 : r2.σ.loops[l]? = some r2.σ.loops[l] := List.getElem?_eq_getElem hl2
        obtain ⟨_, rec2, hrec2, hL2⟩ := m3.loop l _ b hlr2 hb2
        have fin : ∀ jump : Option Code, r2.ex.code = jump → ∃ v w', (Instr.endRound b jump).run P w3 = .ok v w' ∧ StEnd w0 f0 ms g r.v r.σ (.returned v) w' := by
          intro jump hj
          refine ⟨_, _, run_endRound jump hrec2, ?_⟩
          rw [hj, setState_some hlr2] at hr
          have m6 := m3.setLoop hlr2 hb2 hrec2 (hL2.turn (if jump.isNone then .ready else .done) jump)
          obtain ⟨g3, n1, n2, _⟩ := m6.trimmed σ.sz [] (k1.trans m1) hs.boxl hs.loopl hs.mapl (fun r' k' v' hv' => by
            obtain ⟨row, hrow, _⟩ := hs.phys r' k' v' hv'
            exact (List.getElem?_eq_some_iff.1 hrow).1)
          rw [← hr]
          exact ⟨_, g3, rfl, n1, VRel_mkbool _, n2⟩
        cases hx2 : r2.ex with
        | normal => exact fin none (by rw [hx2]; rfl)
        | exit id => exact fin (some (.exit id)) (by rw [hx2]; rfl)
        | goto t => exact fin (some (.goto t)) (by rw [hx2]; rfl)
        | ret => exact fin (some .ret) (by rw [hx2]; rfl)
      · cases hready1
    · cases h
  · cases h

end
end Go.Proofs.YticpcfchhcjjeaaGreat.LI
