/-
  What the interpreter with letters in it answers, the interpreter answers: calls, code, all of it. No program is named here.
-/
import Derived.Test.YticpcfchhcjjeaaGreatLiKG
namespace Go.Proofs.YticpcfchhcjjeaaGreat.LI
open Go Go.RowKit
set_option linter.unusedSimpArgs false
set_option linter.unusedVariables false
open KV (toL)
open KV.toL (toLs)
variable {P : Program} {Θ : Th} {S : Cs} [FkOK S] {α : Type} {rec : Rec α}

theorem toLs_append (xs ys : List KV) : toLs (xs ++ ys) = toLs xs ++ toLs ys := by simp only [toLs_map, List.map_append]
theorem resOneK_eq (e : KEnv) (σ : KSt) (r : ResultVar) : resOne P e.toL σ.toL r = (resOneK P e σ r).map toL := by
  cases r with
  | tmp t =>
    have := ev_eq e (.tmp t)
    simp only [Env.ev, KEnv.ev] at this
    simp only [resOne, resOneK, this, Option.map_some]
  | cell a t =>
    have := ev_eq e (.tmp a)
    simp only [Env.ev, KEnv.ev] at this
    simp only [resOne, resOneK, this]
    generalize e.t.getD a .undef = v
    cases v with
    | bptr b off =>
      cases off with
      | zero =>
        simp only [toL]
        have : σ.toL.boxes[b]? = (σ.boxes[b]?).map toLs := by simp only [KSt.toL, List.getElem?_map]
        rw [this]
        cases σ.boxes[b]? with
        | none => rfl
        | some cs => simp only [Option.map_some, Option.bind_some, toLs_map, readK_eq]
      | succ n => rfl
    | _ => rfl
theorem resAllK_eq (e : KEnv) (σ : KSt) : ∀ rs : List ResultVar, rs.mapM (resOne P e.toL σ.toL) = (resAllK P e σ rs).map (List.map toL)
  | [] => rfl
  | r :: rs => by
    rw [List.mapM_cons, resOneK_eq, resAllK_eq e σ rs]
    simp only [resAllK]
    cases resOneK P e σ r with
    | none => rfl
    | some v => cases resAllK P e σ rs <;> rfl
theorem resultK_eq (fn : Func) (e : KEnv) (σ : KSt) : resultL P fn e.toL σ.toL = (resultK P fn e σ).map toL := by
  unfold resultL resultK
  split
  · rename_i h; rw [h]; rfl
  · rename_i r h; rw [h]; exact resOneK_eq e σ r
  · rename_i h1 h2
    generalize fn.results.toList = rs at *
    match rs, h1, h2 with
    | [], h1, _ => exact absurd rfl h1
    | [r], _, h2 => exact absurd rfl (h2 r)
    | r1 :: r2 :: rs, _, _ =>
      rw [resAllK_eq]
      simp only
      cases resAllK P e σ (r1 :: r2 :: rs) with
      | none => rfl
      | some vs => simp only [Option.map_some, toL, toLs_map]

theorem thawGoK_sound {T : TypeId → Option Ty} {σ : KSt} : ∀ {ks : List (Option (TypeId × Nat))} {vs : List KV} {used : List Nat} {acc : List KRow} {c : Ck} {vs' : List KV} {rows : List KRow}, thawGoK T σ ks vs used acc = some (c, vs', rows) → c.val = true →
    thawGo σ.toL ks (toLs vs) used (acc.map KRow.toL) = some (toLs vs', rows.map KRow.toL)
  | [], vs, used, acc, c, vs', rows, h, hc => by
    simp only [thawGoK] at h
    cases hf : freeK.freeKL (frzK.frzKL σ vs).2 with
    | false => rw [hf] at h; cases h
    | true =>
      rw [hf, cond_true] at h
      cases h
      have e := frzKL_sound σ vs hc
      have : thawGo σ.toL [] (toLs vs) used (acc.map KRow.toL) = if refFree.refFreeL (frzV.frzL σ.toL (toLs vs)) then some (frzV.frzL σ.toL (toLs vs), acc.map KRow.toL) else none := by
        cases vs <;> simp only [toLs, thawGo]
      rw [this, e, freeKL_eq, hf]; rfl
  | none :: ks, [], used, acc, c, vs', rows, h, hc => by
    simp only [thawGoK] at h; cases h; rfl
  | some (e, sz) :: ks, [], used, acc, c, vs', rows, h, hc => by
    simp only [thawGoK] at h; cases h; rfl
  | none :: ks, v :: vs, used, acc, c, vs', rows, h, hc => by
    simp only [thawGoK] at h
    cases hf : freeK (frzK σ v).2 with
    | false => rw [hf] at h; cases h
    | true =>
      rw [hf, cond_true] at h
      split at h
      · rename_i c1 vs1 rows1 h1
        cases h
        simp only [Ck.val, Bool.and_eq_true] at hc
        have e := frzK_sound σ v hc.1
        have ih := thawGoK_sound h1 hc.2
        simp only [toLs, thawGo, e, freeK_eq, hf, if_true, ih, Option.map_some]
      · cases h
  | some (e, sz) :: ks, v :: vs, used, acc, c, vs', rows, h, hc => by
    have hacc : (acc.map KRow.toL).length = acc.length := List.length_map _
    have frees : ∀ row : KRow, refFree.refFreeL row.toL.xs = true := fun row => encLs_free _ _
    simp only [thawGoK] at h
    split at h
    · split at h
      · rename_i hz
        split at h
        · rename_i t hT
          split at h
          · rename_i c1 vs1 rows1 h1
            cases h
            have ih := thawGoK_sound h1 hc
            simp only [List.map_append, List.map, KRow.toL, List.map_nil] at ih
            simp only [toLs, toL, thawGo, hz, if_true, hacc]
            rw [ih]; rfl
          · cases h
        · cases h
      · cases h
    · rename_i r n
      split at h
      · rename_i row hr
        split at h
        · rename_i hcc
          split at h
          · rename_i c1 vs1 rows1 h1
            cases h
            simp only [Ck.val, Bool.and_eq_true, decide_eq_true_eq] at hc
            have ih := thawGoK_sound h1 hc.2
            simp only [List.map_append, List.map] at ih
            have hlen : row.toL.xs.length = n := by simp only [KRow.toL, List.length_map]; exact hc.1
            simp only [toLs, toL, thawGo, rows_get, hr, Option.map_some, hacc]
            rw [if_pos ⟨hlen, hcc.1, hcc.2.1, hcc.2.2.1, hcc.2.2.2, frees row⟩, ih, Option.map_some, hc.1]
          · cases h
        · cases h
      · cases h
    · rename_i r n lo hi z
      split at h
      · rename_i row hr
        split at h
        · rename_i hcc
          split at h
          · rename_i c1 vs1 rows1 h1
            cases h
            simp only [Ck.val, Bool.and_eq_true, decide_eq_true_eq] at hc
            obtain ⟨k1, k2, k3, k4⟩ := hc
            have ih := thawGoK_sound h1 k4
            simp only [List.map_append, List.map] at ih
            have hlen : row.toL.xs.length = n := by simp only [KRow.toL, List.length_map]; exact k1
            have htk : (row.l.take hi).length = hi := by rw [List.length_take]; omega
            have hrow : KRow.toL { row with l := row.l.take hi } = { row.toL with xs := row.toL.xs.take hi } := by simp only [KRow.toL, List.map_take]
            rw [hrow] at ih
            simp only [toLs, toL, thawGo, rows_get, hr, Option.map_some, hacc]
            rw [if_pos ⟨hlen, hcc.1, hcc.2.1, hcc.2.2.1, hcc.2.2.2.1, hcc.2.2.2.2, k2, k3, frees row⟩, ih, Option.map_some, htk]
          · cases h
        · cases h
      · cases h
    · cases h
theorem shutInK_eq : ∀ (ks : List (Option (TypeId × Nat))) (vs : List KV), shutIn ks (toLs vs) = shutInK ks vs
  | [], vs => by cases vs <;> simp only [toLs, shutIn, shutInK, ← rowsKL_eq]
  | some _ :: ks, [] => rfl
  | none :: ks, [] => rfl
  | some _ :: ks, v :: vs => by simp only [toLs, shutIn, shutInK, shutInK_eq ks vs]
  | none :: ks, v :: vs => by simp only [toLs, shutIn, shutInK, shutInK_eq ks vs, rowsK_eq]
theorem thawK_sound {T : TypeId → Option Ty} {σ : KSt} {ks : List (Option (TypeId × Nat))} {v v' : KV} {c : Ck} {rows : List KRow} (h : thawK T σ ks v = some (c, v', rows)) (hc : c.val = true) :
    thaw σ.toL ks v.toL = some (v'.toL, rows.map KRow.toL) := by
  unfold thawK at h
  split at h
  · rename_i vs hv
    have hv : v = .tuple vs := by
      cases v <;> first | (cases hv; done) | (cases hv; rfl)
    subst hv
    split at h
    · rename_i c1 vs1 rows1 h1
      cases h
      have := thawGoK_sound h1 hc
      rw [List.map_nil, ← frzKS_eq] at this
      simp only [toL, thaw, shutInK_eq, this, Option.map_some]
    · cases h
  · rename_i hv
    split at h
    · rename_i c1 vs1 rows1 h1
      split at h
      · rename_i v1 vt
        cases h
        have := thawGoK_sound h1 hc
        rw [List.map_nil, ← frzKS_eq] at this
        have e : shutIn ks [v.toL] = shutInK ks [v] := shutInK_eq ks [v]
        simp only [toLs] at this
        cases v <;> first | (cases hv; done) | skip
        all_goals
          simp only [toL, lstL_eq] at this e ⊢
          simp only [thaw, e, this, Option.bind_some, List.head?_cons, Option.map_some]
      · cases h
    · cases h
theorem callOkK_sound {v : KV} {rows : List KRow} (h : callOkK v = true) : callOk v.toL (rows.map KRow.toL) = true := by
  unfold callOk
  have h2 : (rows.map KRow.toL).all (fun r => refFree.refFreeL r.xs) = true := by
    rw [List.all_map, List.all_eq_true]
    intro r _
    exact encLs_free _ _
  rw [h2, Bool.and_true]
  have e : ∀ v : KV, (isMref v.toL || refFree v.toL) = (isMrefK v || freeK v) := fun v => by
    rw [freeK_eq]; cases v <;> rfl
  cases v <;> first
    | rfl
    | (simp only [callOkK] at h; rw [← freeK_eq] at h; exact h)
    | skip
  simp only [callOkK, toL, toLs_map, List.all_map] at h ⊢
  rw [List.all_eq_true] at h ⊢
  intro x hx
  simp only [Function.comp, e]
  exact h x hx
theorem shift1K_eq (d : Nat) (v : KV) : shift1 d v.toL = (shift1K d v).toL := by cases v <;> rfl
theorem shiftK_eq (d : Nat) (v : KV) : shiftV d v.toL = (shiftK d v).toL := by
  cases v
  case tuple vs =>
    simp only [toL, shiftV, shiftK, toLs_map, List.map_map]; congr 1; exact List.map_congr_left fun v _ => shift1K_eq d v
  all_goals rfl
theorem takeOverK_sound {own : Bool} {v : KV} {rows : List KRow} {σ : KSt} (hc : (takeOverK own v rows σ).1.val = true) :
    takeOver own v.toL (rows.map KRow.toL) σ.toL = ((takeOverK own v rows σ).2.1.toL, (takeOverK own v rows σ).2.2.toL) ∧ (takeOverK own v rows σ).2.2.loops = σ.loops := by
  cases own with
  | true =>
    refine ⟨?_, rfl⟩
    have hl : σ.toL.rows.length = σ.rows.length := by simp [KSt.toL]
    simp only [takeOver, takeOverK, if_true, hl, shiftK_eq]
    simp only [KSt.toL, List.map_append]
  | false =>
    refine ⟨?_, rfl⟩
    simp only [takeOver, takeOverK, Bool.false_eq_true, if_false] at hc ⊢
    have := frzK_sound { rows } v hc
    have e : (KSt.toL { rows }) = { rows := rows.map KRow.toL } := rfl
    rw [e] at this
    rw [this]
theorem afterPureK_sound {own : Bool} {v : KV} {rows : List KRow} {σ : KSt} {rs : List Nat} (hc : (afterPureK own v rows σ rs).1.val = true) :
    afterPure own v.toL (rows.map KRow.toL) σ.toL rs = ((afterPureK own v rows σ rs).2.1.toL, (afterPureK own v rows σ rs).2.2.toL) ∧ (afterPureK own v rows σ rs).2.2.loops = σ.loops := by
  unfold afterPure afterPureK at *
  rw [noMemK_eq]
  cases hn : noMemK v with
  | true => exact ⟨rfl, rfl⟩
  | false =>
    rw [hn] at hc
    simp only [Bool.false_eq_true, if_false] at hc ⊢
    obtain ⟨h1, h2⟩ := takeOverK_sound hc
    rw [frzKS_eq]
    exact ⟨h1, by rw [h2, frzKS_loops]⟩
theorem StOK.rows {rows : List KRow} : StOK P { rows } := fun _ h => by cases h
theorem callIn_sound (hr : Sound P Θ rec) {f : FuncId} {args : List KV} {k : KRes → Option α} {x : α} (h : callIn Θ S rec f args k = some x) :
    ∃ r : KRes, run P Θ (.call f (toLs args)) = some r.toL ∧ StOK P r.σ ∧ k r = some x := by
  unfold callIn at h
  split at h
  · cases h
  · rename_i hpr
    cases ha : freeK.freeKL args with
    | false => rw [ha] at h; cases h
    | true =>
      rw [ha, cond_true] at h
      have hT : TaskOK P (.callS f args {}) := StOK.nil
      obtain ⟨r, h1, ⟨h2, _⟩, h3⟩ := hr _ _ _ hT h
      split at h3
      · rename_i c v rows ht
        cases hok : callOkK v with
        | false => rw [hok] at h3; cases h3
        | true =>
          rw [hok, cond_true] at h3
          obtain ⟨h4, h5⟩ := chk_some (S := S) h3
          refine ⟨_, ?_, StOK.rows, h5⟩
          rw [run_call f _ hpr (by rw [freeKL_eq]; exact ha)]
          have h1 : run P Θ (.callS f (toLs args) {}) = some r.toL := h1
          rw [h1]
          simp only [Option.bind_some, KRes.toL]
          rw [thawK_sound ht h4]
          simp only [Option.bind_some, callEnd, callOkK_sound hok, if_true]
          rfl
      · cases h3
theorem callOld_sound (hS : CsOK P Θ S) (hr : Sound P Θ rec) {f : FuncId} {args : List KV} {k : KRes → Option α} {x : α} (h : callOld Θ S rec f args k = some x) :
    ∃ r : KRes, run P Θ (.call f (toLs args)) = some r.toL ∧ StOK P r.σ ∧ k r = some x := by
  unfold callOld at h
  split at h
  · rename_i p hp
    split at h
    · rename_i c v rows hv
      obtain ⟨hcc, hq⟩ := chk_some (S := S) h
      have := hS.ct _ _ _ _ _ _ hp hv hcc
      exact ⟨{ v, σ := { rows } }, this, StOK.rows, hq⟩
    · exact callIn_sound hr h
  · exact callIn_sound hr h
theorem callK_sound (hS : CsOK P Θ S) (hr : Sound P Θ rec) {f : FuncId} {args : List KV} {k : KRes → Option α} {x : α} (h : callK Θ S rec f args k = some x) :
    ∃ r : KRes, run P Θ (.call f (toLs args)) = some r.toL ∧ StOK P r.σ ∧ k r = some x := by
  unfold callK at h
  split at h
  · rename_i p hp
    split at h
    · rename_i b hv
      obtain ⟨hcc, hq⟩ := chk_some (S := S) h
      rw [FkOK.bd, Option.bind_eq_some_iff] at hq
      obtain ⟨y, hy, hq⟩ := hq
      have := hS.bt _ _ _ _ _ hp hv hcc hy
      exact ⟨{ v := (b.e y).1, σ := { rows := (b.e y).2 } }, this, StOK.rows, hq⟩
    · exact callOld_sound hS hr h
  · exact callOld_sound hS hr h
theorem zip_set (ps : List Nat) : ∀ (args t : List KV), toLs ((ps.zip args).foldl (fun t (p : Nat × KV) => t.set p.1 p.2) t) = (ps.zip (toLs args)).foldl (fun t (p : Nat × LV) => t.set p.1 p.2) (toLs t) := by
  induction ps with
  | nil => intro args t; rfl
  | cons p ps ih =>
    intro args t
    cases args with
    | nil => rfl
    | cons a args =>
      simp only [List.zip_cons_cons, List.foldl_cons, toLs]
      rw [ih]
      congr 1
      simp only [toLs_map, List.map_set]
theorem applyK_sound (hS : CsOK P Θ S) (hr : Sound P Θ rec) {own : Bool} {f : KV} {args : List KV} {σ : KSt} {k : KRes → Option α} {x : α} (hσ : StOK P σ) (h : applyK Θ S rec own f args σ k = some x) :
    ∃ r : KRes, run P Θ (.apply own f.toL (toLs args) σ.toL) = some r.toL ∧ StOK P r.σ ∧ k r = some x := by
  unfold applyK at h
  split at h
  · rename_i f fst caps
    simp only [toL]
    cases he : Θ.ent f with
    | true =>
      rw [he, cond_true] at h
      cases hp : Θ.pureF f with
      | true =>
        rw [hp, cond_true] at h
        obtain ⟨h1, h⟩ := chk_some (S := S) h
        have hT : TaskOK P (.call f (frzK.frzKL σ (fst ++ args ++ caps)).2) := trivial
        obtain ⟨r, h2, ⟨h3, _⟩, h4⟩ := hr _ _ _ hT h
        obtain ⟨h5, h6⟩ := chk_some (S := S) h4
        obtain ⟨h7, h8⟩ := afterPureK_sound h5
        refine ⟨_, ?_, StOK.loops hσ h8, h6⟩
        rw [run_apply_pure own f _ _ _ _ he hp, ← toLs_append, ← toLs_append, frzKL_sound σ _ h1]
        have h2 : run P Θ (.call f (toLs (frzK.frzKL σ (fst ++ args ++ caps)).2)) = some r.toL := h2
        rw [h2, rowsKL_eq]
        have e : r.toL.σ.rows = r.σ.rows.map KRow.toL := rfl
        have e2 : r.toL.v = r.v.toL := rfl
        simp only [Option.map_some, e, e2, h7]
        rfl
      | false =>
        rw [hp, cond_false] at h
        split at h
        · rename_i q hq
          split at h
          · rename_i p hp2
            split at h
            · rename_i c v σ' hv
              obtain ⟨h5, h6⟩ := chk_some (S := S) h
              obtain ⟨⟨q', h7, h8⟩, h9⟩ := hS.st _ _ _ _ _ _ _ hp2 hv h5
              refine ⟨_, ?_, StOK.loops hσ h9, h6⟩
              rw [run_apply_extS own f _ _ _ _ he hp h7, ← toLs_append, ← toLs_append, h8]
              rfl
            · cases h
          · cases h
        · rename_i hs
          have hT : TaskOK P (.callS f (fst ++ args ++ caps) σ) := hσ
          obtain ⟨r, h2, ⟨h3, _⟩, h4⟩ := hr _ _ _ hT h
          refine ⟨r, ?_, h3, h4⟩
          rw [run_apply_st own f _ _ _ _ he hp hs, ← toLs_append, ← toLs_append]
          exact h2
    | false =>
      rw [he, cond_false] at h
      split at h
      · rename_i p hp
        split at h
        · rename_i c v hv
          obtain ⟨h1, h'⟩ := chk_some (S := S) h
          simp only [Ck.val, Bool.and_eq_true] at h1
          obtain ⟨h1, hc⟩ := h1
          obtain ⟨_, q, h2, h3, h4⟩ := hS.xt _ _ _ _ _ hp hv hc
          rw [dyns_toL] at h3
          refine ⟨{ v, σ := frzKS σ (rowsK.rowsKL (fst ++ args ++ caps)) }, ?_, StOK.frz hσ, h'⟩
          rw [run_apply_ext own f _ _ _ _ he h2, ← toLs_append, ← toLs_append, frzKL_sound σ _ h1, h3]
          simp only [Option.bind_some]
          rw [freeK_eq, h4, if_pos rfl, rowsKL_eq, frzKS_eq]
          rfl
        · cases h
      · cases h
  · rename_i l
    simp only [toL, toLs]
    split at h
    · rename_i lr hl
      cases hc : (decide (lr.state = .ready) && Nat.beq args.length lr.params.length) with
      | false => rw [hc] at h; cases h
      | true =>
        rw [hc, cond_true] at h
        simp only [Bool.and_eq_true, decide_eq_true_eq] at hc
        have hc2 := Nat.eq_of_beq_eq_true hc.2
        obtain ⟨⟨k1, k2⟩, _⟩ := hσ lr (List.mem_of_getElem? hl)
        have hT : TaskOK P (.code lr.assign { lr.env with t := (lr.params.zip args).foldl (fun t (p : Nat × KV) => t.set p.1 p.2) lr.env.t } σ) := ⟨k1, hσ⟩
        obtain ⟨r1, h1, ⟨h2, h3⟩, h4⟩ := hr _ _ _ hT h
        have h3 : r1.env.fn = lr.env.fn := h3
        split at h4
        · rename_i hex
          cases hrd : isReadyK r1.σ l with
          | false => rw [hrd] at h4; cases h4
          | true =>
            rw [hrd, cond_true] at h4
            have hT2 : TaskOK P (.code lr.body r1.env (setStateK r1.σ l fun q => { q with state := .busy })) := ⟨by rw [h3]; exact k2, StOK.set h2 fun q => ⟨rfl, rfl, rfl, rfl⟩⟩
            obtain ⟨r2, h5, ⟨h6, _⟩, h7⟩ := hr _ _ _ hT2 h4
            refine ⟨{ v := .st (.bool (r2.ex.code).isNone), σ := trimK σ.sz [] (setStateK r2.σ l fun q => { q with state := if (r2.ex.code).isNone then .ready else .done, pending := r2.ex.code }) }, ?_, by refine StOK.trim (StOK.set h6 ?_); intro q; exact ⟨rfl, rfl, rfl, rfl⟩, h7⟩
            have hlr : σ.toL.loops[l]? = some lr.toL := by simp only [KSt.toL, List.getElem?_map, hl, Option.map_some]
            rw [run_apply_yield, hlr]
            simp only [Option.bind_some, yield1]
            have hlen : (toLs args).length = lr.toL.params.length := by rw [toLs_map, List.length_map]; exact hc2
            rw [if_pos ⟨hc.1, hlen⟩]
            have h1 : run P Θ (.code lr.toL.assign { lr.toL.env with t := (lr.toL.params.zip (toLs args)).foldl (fun t (p : Nat × LV) => t.set p.1 p.2) lr.toL.env.t } σ.toL) = some r1.toL := by
              have := zip_set lr.params args lr.env.t
              simp only [KTask.toL, KEnv.toL] at h1
              rw [this] at h1
              exact h1
            rw [h1]
            simp only [Option.bind_some, yield2, KRes.toL]
            rw [if_pos ⟨hex, by rw [isReadyK_eq]; exact hrd⟩]
            rw [setStateK_eq r1.σ l (g := fun q => { q with state := .busy }) (fun q => rfl)]
            have h5 : run P Θ (.code lr.toL.body r1.env.toL (setStateK r1.σ l fun q => { q with state := .busy }).toL) = some r2.toL := h5
            rw [h5]
            simp only [Option.bind_some, yield3, KRes.toL, sz_eq]
            rw [setStateK_eq r2.σ l (g := fun q => { q with state := if (r2.ex.code).isNone then .ready else .done, pending := r2.ex.code }) (fun q => rfl)]
            have := trimK_eq σ.sz [] (setStateK r2.σ l fun q => { q with state := if (r2.ex.code).isNone then .ready else .done, pending := r2.ex.code })
            simp only [toLs] at this
            rw [this]
            rfl
        · cases h4
    · cases h
  · cases h
theorem expand_dyn : ∀ (m : List Bool) (n : Nat) (vs : List KV), toLs (expand m n (KV.dyn.dyns vs)) = toLs (expand m n vs)
  | _, 0, _ => by simp only [expand]
  | true :: m, n + 1, v :: vs => by simp only [KV.dyn.dyns, expand, toLs, dyn_toL, expand_dyn m n vs]
  | true :: m, n + 1, [] => rfl
  | false :: m, n + 1, vs => by simp only [expand, toLs, expand_dyn m n vs]
  | [], n + 1, vs => by simp only [expand, toLs, expand_dyn [] n vs]
theorem outK_pick {a : Code} {f : FuncId} {k : KRes → Option α} {x : α} : ∀ {o : Out}, outK P Θ S rec a f k o = some x →
    (o.pick.1 = .normal ∧ rec (.code (.loop a) ⟨f, expand (Θ.keep f (loopKey a)) (ntm P f) o.pick.2.1⟩ o.pick.2.2) k = some x) ∨ (o.pick.1 ≠ .normal ∧ k ⟨o.pick.1, .undef, ⟨f, expand (Θ.keep f (loopKey a)) (ntm P f) o.pick.2.1⟩, o.pick.2.2⟩ = some x)
  | .one ex _ _, h => by
    simp only [outK] at h
    split at h
    · exact .inl ⟨rfl, h⟩
    · rename_i hne; exact .inr ⟨fun e => hne e, h⟩
  | .two b o1 o2, h => by
    simp only [outK] at h
    cases b with
    | true => rw [fk_true] at h; have h1 := outK_pick (o := o1) h; exact h1
    | false => rw [fk_false] at h; have h1 := outK_pick (o := o2) h; exact h1
theorem loopIn_sound (hr : Sound P Θ rec) {a : Code} {e : KEnv} {σ : KSt} {k : KRes → Option α} {x : α} (hc : CodeOK P e.fn (.loop a)) (hσ : StOK P σ) (h : loopIn Θ rec a e σ k = some x) :
    ∃ r : KRes, run P Θ (.code (.loop a) e.toL σ.toL) = some r.toL ∧ (StOK P r.σ ∧ r.env.fn = e.fn) ∧ k r = some x := by
  unfold loopIn at h
  have ca : CodeOK P e.fn a := hc.loop
  have hT : TaskOK P (.code a (tidyK Θ (loopKey a) e) σ) := ⟨ca, hσ⟩
  obtain ⟨r, h1, ⟨h2, h3⟩, h4⟩ := hr _ _ _ hT h
  have h3 : r.env.fn = e.fn := h3
  have h1 : run P Θ (.code a (tidyK Θ (loopKey a) e).toL σ.toL) = some r.toL := h1
  rw [run_loop, tidyK_eq, h1]
  simp only [Option.bind_some, Res.again, KRes.toL]
  split at h4
  · rename_i hex
    have hT2 : TaskOK P (.code (.loop a) (tidyK Θ (loopKey a) r.env) (trimK σ.sz (tidyK Θ (loopKey a) r.env).t r.σ)) := ⟨by show CodeOK P r.env.fn _; rw [h3]; exact hc, StOK.trim h2⟩
    obtain ⟨r2, h5, ⟨h6, h7⟩, h8⟩ := hr _ _ _ hT2 h4
    refine ⟨r2, ?_, ⟨h6, by have h7 : r2.env.fn = r.env.fn := h7; rw [h7, h3]⟩, h8⟩
    rw [hex]
    simp only
    rw [tidyK_eq, sz_eq]
    have e2 : trim σ.sz (tidyK Θ (loopKey a) r.env).toL.t r.σ.toL = (trimK σ.sz (tidyK Θ (loopKey a) r.env).t r.σ).toL := trimK_eq _ _ _
    rw [e2]
    exact h5
  · rename_i hex
    refine ⟨{ r with env := tidyK Θ (loopKey a) r.env }, ?_, ⟨h2, h3⟩, h4⟩
    simp only [KRes.toL]
    cases hx : r.ex <;> first | exact absurd hx hex | (simp only [tidyK_eq])
theorem loopOld_sound (hS : CsOK P Θ S) (hr : Sound P Θ rec) {a : Code} {e : KEnv} {σ : KSt} {k : KRes → Option α} {x : α} (hc : CodeOK P e.fn (.loop a)) (hσ : StOK P σ) (h : loopOld P Θ S rec a e σ k = some x) :
    ∃ r : KRes, run P Θ (.code (.loop a) e.toL σ.toL) = some r.toL ∧ (StOK P r.σ ∧ r.env.fn = e.fn) ∧ k r = some x := by
  unfold loopOld at h
  split at h
  · rename_i p hp
    cases hl : Nat.beq e.t.length (ntm P e.fn) with
    | false => rw [hl] at h; cases h
    | true =>
      rw [hl, cond_true] at h
      have hl := Nat.eq_of_beq_eq_true hl
      split at h
      · rename_i c o hv
        obtain ⟨hcc, hq⟩ := chk_some (S := S) h
        obtain ⟨h1, h2⟩ := hS.lt _ _ _ _ _ _ _ hp hv hcc a (hc.1 a (by simp [loopsOf])) rfl hσ
        have e1 : (tidyK Θ (loopKey a) e).toL = ⟨e.fn, toLs (expand (Θ.keep e.fn (loopKey a)) (ntm P e.fn) (compress (Θ.keep e.fn (loopKey a)) e.t))⟩ := by
          simp only [tidyK, KEnv.toL, maskK_expand, hl]
        rw [run_loop_tidy, tidyK_eq, e1, h1]
        rcases outK_pick hq with ⟨hn, hk⟩ | ⟨hn, hk⟩
        · have hT : TaskOK P (.code (.loop a) ⟨e.fn, expand (Θ.keep e.fn (loopKey a)) (ntm P e.fn) o.pick.2.1⟩ o.pick.2.2) := ⟨hc, h2⟩
          obtain ⟨r, k1, ⟨k2, k3⟩, k4⟩ := hr _ _ _ hT hk
          rw [if_pos hn]
          exact ⟨r, k1, ⟨k2, k3⟩, k4⟩
        · rw [if_neg hn]
          exact ⟨_, rfl, ⟨h2, rfl⟩, hk⟩
      · exact loopIn_sound hr hc hσ h
  · exact loopIn_sound hr hc hσ h
theorem outB_go {a : Code} {f : FuncId} {k : KRes → Option α} {x : α} {ex : Ex} {vs : List KV} {σ : KSt} (h : outB P Θ rec a f k ex vs σ = some x) :
    (ex = .normal ∧ rec (.code (.loop a) ⟨f, expand (Θ.keep f (loopKey a)) (ntm P f) vs⟩ σ) k = some x) ∨ (ex ≠ .normal ∧ k ⟨ex, .undef, ⟨f, expand (Θ.keep f (loopKey a)) (ntm P f) vs⟩, σ⟩ = some x) := by
  unfold outB at h
  split at h
  · exact .inl ⟨rfl, h⟩
  · rename_i hne; exact .inr ⟨fun e => hne e, h⟩
theorem loopGo_sound (hS : CsOK P Θ S) (hr : Sound P Θ rec) {a : Code} {e : KEnv} {σ : KSt} {k : KRes → Option α} {x : α} (hc : CodeOK P e.fn (.loop a)) (hσ : StOK P σ) (h : loopGo P Θ S rec a e σ k = some x) :
    ∃ r : KRes, run P Θ (.code (.loop a) e.toL σ.toL) = some r.toL ∧ (StOK P r.σ ∧ r.env.fn = e.fn) ∧ k r = some x := by
  unfold loopGo at h
  split at h
  · rename_i p hp
    cases hl : Nat.beq e.t.length (ntm P e.fn) with
    | false => rw [hl] at h; cases h
    | true =>
      rw [hl, cond_true] at h
      have hl := Nat.eq_of_beq_eq_true hl
      split at h
      · rename_i b hv
        obtain ⟨hcc, hq⟩ := chk_some (S := S) h
        rw [FkOK.bd, Option.bind_eq_some_iff] at hq
        obtain ⟨y, hy, hq⟩ := hq
        obtain ⟨h0, h1, h2⟩ := hS.bl _ _ _ _ _ _ _ hp hv hcc hy a (hc.1 a (by simp [loopsOf])) rfl hσ
        rw [h0] at hq
        have e1 : (tidyK Θ (loopKey a) e).toL = ⟨e.fn, toLs (expand (Θ.keep e.fn (loopKey a)) (ntm P e.fn) (compress (Θ.keep e.fn (loopKey a)) e.t))⟩ := by
          simp only [tidyK, KEnv.toL, maskK_expand, hl]
        rw [run_loop_tidy, tidyK_eq, e1, h1]
        rcases outB_go hq with ⟨hn, hk⟩ | ⟨hn, hk⟩
        · have hT : TaskOK P (.code (.loop a) ⟨e.fn, expand (Θ.keep e.fn (loopKey a)) (ntm P e.fn) (b.pick y).2.1⟩ (b.pick y).2.2) := ⟨hc, h2⟩
          obtain ⟨r, k1, ⟨k2, k3⟩, k4⟩ := hr _ _ _ hT hk
          rw [if_pos hn]
          exact ⟨r, k1, ⟨k2, k3⟩, k4⟩
        · rw [if_neg hn]
          exact ⟨_, rfl, ⟨h2, rfl⟩, hk⟩
      · exact loopOld_sound hS hr hc hσ h
  · exact loopOld_sound hS hr hc hσ h
theorem rangeGo_sound (hr : Sound P Θ rec) {f : Operand} {ps : Array Tmp} {as body : Code} {e : KEnv} {σ : KSt} {k : KRes → Option α} {x : α} (hc : CodeOK P e.fn (.rangeFunc f ps as body)) (hσ : StOK P σ) (h : rangeGo Θ rec f ps as body e σ k = some x) :
    ∃ r : KRes, run P Θ (.code (.rangeFunc f ps as body) e.toL σ.toL) = some r.toL ∧ (StOK P r.σ ∧ r.env.fn = e.fn) ∧ k r = some x := by
  unfold rangeGo at h
  cases hf : isFnK Θ (e.ev f) with
  | false => rw [hf] at h; cases h
  | true =>
    rw [hf, cond_true] at h
    have hT : TaskOK P (.apply false (e.ev f) [.func (.yield σ.loops.length) [] []] { σ with loops := σ.loops ++ [{ env := tidyK Θ (loopKey as) e, params := ps.toList, assign := as, body, pending := none, state := .ready }] }) := by
      intro lr hl
      rcases List.mem_append.1 hl with hl | hl
      · exact hσ lr hl
      · simp only [List.mem_singleton] at hl
        subst hl
        exact hc.range
    obtain ⟨r, h1, ⟨h2, _⟩, h3⟩ := hr _ _ _ hT h
    have hfn : (e.toL.ev f).isFn Θ = true := by
      rw [ev_eq]
      cases hv : e.ev f <;> rw [hv] at hf <;> first | (cases hf; done) | skip
      rename_i fn fst caps
      cases fn <;> first | exact hf | (cases hf; done)
    have h1 : run P Θ (.apply false (e.toL.ev f) [.func (.yield σ.toL.loops.length) [] []] { σ.toL with loops := σ.toL.loops ++ [{ env := tidy Θ (loopKey as) e.toL, params := ps.toList, assign := as, body, pending := none, state := .ready }] }) = some r.toL := by
      rw [ev_eq]
      simp only [KTask.toL, KSt.toL, List.map_append, List.map, toLs, toL] at h1
      simp only [KSt.toL, List.length_map]
      rw [tidyK_eq]
      exact h1
    rw [run_range, hfn, cond_true, h1]
    simp only [Option.bind_some, range1, KRes.toL]
    split at h3
    · rename_i lr hl
      have hlr : r.σ.toL.loops[σ.toL.loops.length]? = some lr.toL := by simp only [KSt.toL, List.length_map, List.getElem?_map, hl, Option.map_some]
      rw [hlr]
      simp only [Option.bind_some, range2]
      cases hb : decide (lr.state = .busy) with
      | true => rw [hb] at h3; cases h3
      | false =>
        rw [hb, cond_false] at h3
        have hb' : ¬ lr.toL.state = .busy := by simpa [KLoop.toL] using hb
        rw [if_neg hb']
        have hp : lr.toL.pending = lr.pending := rfl
        rw [hp, endK_eq]
        split at h3
        all_goals first
          | (rename_i hq; rw [hq]; exact ⟨_, rfl, ⟨StOK.end h2, rfl⟩, h3⟩)
          | cases h3
    · cases h3
theorem regionGo_sound (hr : Sound P Θ rec) {id : Nat} {ops : Array Oper} {draw : Bool} {e : KEnv} {σ : KSt} {k : KRes → Option α} {x : α} (hσ : StOK P σ) (h : regionGo P Θ S rec ops draw e σ k = some x) :
    ∃ r : KRes, run P Θ (.code (.region id ops draw) e.toL σ.toL) = some r.toL ∧ (StOK P r.σ ∧ r.env.fn = e.fn) ∧ k r = some x := by
  unfold regionGo at h
  cases draw with
  | true =>
    rw [cond_true] at h
    cases hd : drawOk Θ e.fn ops with
    | false => rw [hd] at h; cases h
    | true =>
      rw [hd, cond_true] at h
      obtain ⟨e', σ', h1, h2, h3, h4⟩ := exK_sound hr _ _ _ _ _ hσ h
      refine ⟨_, ?_, ⟨h3, h2⟩, h4⟩
      have hd' : drawOk Θ e.toL.fn ops = true := by
        have hfn : e.toL.fn = e.fn := rfl
        rw [hfn]; exact hd
      rw [run_region_draw id ops e.toL σ.toL hd', h1]
      rfl
  | false =>
    rw [cond_false] at h
    rw [run_region]
    unfold litRun
    cases hl : litStart P ops.toList with
    | false =>
      rw [hl, cond_false] at h
      obtain ⟨e', σ', h1, h2, h3, h4⟩ := exK_sound hr _ _ _ _ _ hσ h
      refine ⟨_, ?_, ⟨h3, h2⟩, h4⟩
      rw [cond_false, h1]
      rfl
    | true =>
      rw [hl, cond_true] at h
      rw [cond_true]
      split at h
      · rename_i o1 o2 os hops
        rw [hops] at h ⊢
        split at h
        · rename_i w hw
          split at h
          · rename_i c v σ' ho
            obtain ⟨hcc, hq⟩ := chk_some (S := S) h; clear h; have h := hq; clear hq
            obtain ⟨h1, h2⟩ := opK_sound ho hcc
            obtain ⟨e', σ'', h3, h4, h5, h6⟩ := exK_sound hr _ _ _ _ _ (hσ.loops h2) h
            refine ⟨_, ?_, ⟨h5, by show e'.fn = _; rw [h4, put_fn, put_fn]⟩, h6⟩
            simp only [litGo]
            have hw' : (o1.dst.bind fun d => e.toL.t[d]?) = some w.toL := by
              cases hd : o1.dst with
              | none => rw [hd] at hw; cases hw
              | some d =>
                rw [hd] at hw
                simp only [Option.bind_some] at hw ⊢
                simp only [KEnv.toL, toLs_map, List.getElem?_map, hw, Option.map_some]
            rw [hw']
            have e1 : e.toL.ev = fun y => (e.ev y).toL := funext fun y => ev_eq e y
            rw [e1, h1]
            simp only [Option.bind_some]
            rw [put_eq, put_eq, h3]
            rfl
          · cases h
        · cases h
      · cases h
theorem codeK_sound (hS : CsOK P Θ S) (hr : Sound P Θ rec) {c : Code} {e : KEnv} {σ : KSt} {k : KRes → Option α} {x : α} (hc : CodeOK P e.fn c) (hσ : StOK P σ) (h : codeK P Θ S rec c e σ k = some x) :
    ∃ r : KRes, run P Θ (.code c e.toL σ.toL) = some r.toL ∧ (StOK P r.σ ∧ r.env.fn = e.fn) ∧ k r = some x := by
  cases c with
  | skip => exact ⟨_, run_skip _ _, ⟨hσ, rfl⟩, h⟩
  | label l => exact ⟨_, run_label _ _ _, ⟨hσ, rfl⟩, h⟩
  | region id ops draw => exact regionGo_sound hr hσ h
  | seq a b =>
    simp only [codeK] at h
    have hT : TaskOK P (.code a e σ) := ⟨hc.seq.1, hσ⟩
    obtain ⟨r, h1, ⟨h2, h3⟩, h4⟩ := hr _ _ _ hT h
    have h3 : r.env.fn = e.fn := h3
    have h1 : run P Θ (.code a e.toL σ.toL) = some r.toL := h1
    rw [run_seq, h1]
    simp only [Option.bind_some, Res.onTo, KRes.toL]
    split at h4
    · rename_i hex
      have hT2 : TaskOK P (.code b r.env r.σ) := ⟨by rw [h3]; exact hc.seq.2, h2⟩
      obtain ⟨r2, h5, ⟨h6, h7⟩, h8⟩ := hr _ _ _ hT2 h4
      refine ⟨r2, ?_, ⟨h6, by have h7 : r2.env.fn = r.env.fn := h7; rw [h7, h3]⟩, h8⟩
      rw [hex]
      exact h5
    · rename_i hex
      refine ⟨r, ?_, ⟨h2, h3⟩, h4⟩
      cases hx : r.ex <;> first | exact absurd hx hex | (simp only [KRes.toL, hx])
  | cond c a b =>
    simp only [codeK] at h
    have hTa : TaskOK P (.code a e σ) := ⟨hc.cond.1, hσ⟩
    have hTb : TaskOK P (.code b e σ) := ⟨hc.cond.2, hσ⟩
    split at h
    · rename_i t ht
      have hev : e.toL.ev c = .sc (.bool t) := by rw [ev_eq, bool_toL ht]
      cases t with
      | true => rw [run_cond_t _ _ _ _ _ hev]; exact hr _ _ _ hTa h
      | false => rw [run_cond_f _ _ _ _ _ hev]; exact hr _ _ _ hTb h
    · rename_i t ht
      have hev : e.toL.ev c = .sc (.bool t) := by rw [ev_eq, bool_toL ht]
      cases t with
      | true => rw [fk_true] at h; rw [run_cond_t _ _ _ _ _ hev]; exact hr _ _ _ hTa h
      | false => rw [fk_false] at h; rw [run_cond_f _ _ _ _ _ hev]; exact hr _ _ _ hTb h
    · cases h
  | block id a =>
    simp only [codeK] at h
    have hT : TaskOK P (.code a e σ) := ⟨hc.block, hσ⟩
    obtain ⟨r, h1, ⟨h2, h3⟩, h4⟩ := hr _ _ _ hT h
    have h1 : run P Θ (.code a e.toL σ.toL) = some r.toL := h1
    rw [run_block, h1]
    simp only [Option.bind_some, Res.unblock, KRes.toL]
    split at h4
    · rename_i i hex
      rw [hex]
      simp only
      cases hi : Nat.beq i id with
      | true =>
        rw [hi, cond_true] at h4
        rw [if_pos (Nat.eq_of_beq_eq_true hi)]
        exact ⟨{ r with ex := .normal }, rfl, ⟨h2, h3⟩, h4⟩
      | false =>
        rw [hi, cond_false] at h4
        rw [if_neg (Nat.ne_of_beq_eq_false hi)]
        exact ⟨_, by simp only [KRes.toL, hex], ⟨h2, h3⟩, h4⟩
    · rename_i hex
      refine ⟨r, ?_, ⟨h2, h3⟩, h4⟩
      cases hx : r.ex <;> first | exact absurd hx (hex _) | (simp only [KRes.toL, hx])
  | loop a => exact loopGo_sound hS hr hc hσ h
  | rangeFunc f ps as body => exact rangeGo_sound hr hc hσ h
  | exit id => exact ⟨_, run_exit _ _ _, ⟨hσ, rfl⟩, h⟩
  | goto t => exact ⟨_, run_goto _ _ _, ⟨hσ, rfl⟩, h⟩
  | ret => exact ⟨_, run_ret _ _, ⟨hσ, rfl⟩, h⟩
  | scope _ => cases h
  | refuse _ => cases h
theorem stepK_sound (hS : CsOK P Θ S) (hr : Sound P Θ rec) : Sound P Θ (stepK P Θ S rec) := by
  intro t k x hT h
  cases t with
  | call f args =>
    obtain ⟨r, h1, h2, h3⟩ := callK_sound hS hr h
    exact ⟨r, h1, ⟨h2, trivial⟩, h3⟩
  | apply own f args σ =>
    obtain ⟨r, h1, h2, h3⟩ := applyK_sound hS hr hT h
    exact ⟨r, h1, ⟨h2, trivial⟩, h3⟩
  | code c e σ =>
    obtain ⟨r, h1, ⟨h2, h4⟩, h3⟩ := codeK_sound hS hr hT.1 hT.2 h
    exact ⟨r, h1, ⟨h2, h4⟩, h3⟩
  | callS f args σ =>
    simp only [stepK] at h
    split at h
    · rename_i fn hf
      split at h
      · rename_i c hb
        have hbody : bodyOf P f = c := by simp only [bodyOf, hf, hb]
        have hT2 : TaskOK P (.code c { fn := f, t := args ++ List.replicate (fn.ntmps - args.length) .undef } σ) := ⟨⟨fun a ha => by show a ∈ loopsOf (bodyOf P f); rw [hbody]; exact ha, fun a ha => by show a ∈ rangesOf (bodyOf P f); rw [hbody]; exact ha⟩, hT⟩
        obtain ⟨r, h1, ⟨h2, _⟩, h3⟩ := hr _ _ _ hT2 h
        have h1 : run P Θ (.code c { fn := f, t := toLs args ++ List.replicate (fn.ntmps - (toLs args).length) .undef } σ.toL) = some r.toL := by
          simp only [KTask.toL, KEnv.toL, toLs_append] at h1
          have e1 : toLs (List.replicate (fn.ntmps - args.length) KV.undef) = List.replicate (fn.ntmps - (toLs args).length) LV.undef := by
            simp only [toLs_map, List.map_replicate, List.length_map, toL]
          rw [e1] at h1
          exact h1
        have fin : ∀ v, resultK P fn r.env r.σ = some v → (r.ex = .normal ∨ r.ex = .ret) → run P Θ (.callS f (toLs args) σ.toL) = some (KRes.toL { v, σ := trimK σ.sz [v] r.σ }) := by
          intro v hv hex
          rw [run_callS f _ _ hf hb, h1]
          simp only [Option.bind_some, endCall, KRes.toL]
          have ht : ∀ v, trim σ.toL.sz [toL v] r.σ.toL = (trimK σ.sz [v] r.σ).toL := fun v => by
            rw [sz_eq]; exact trimK_eq σ.sz [v] r.σ
          rcases hex with hex | hex <;> rw [hex] <;> simp only [resultK_eq, hv, Option.map_some, ht] <;> rfl
        split at h3
        · rename_i hex
          split at h3
          · rename_i v hv; exact ⟨_, fin v hv (.inl hex), ⟨StOK.trim h2, trivial⟩, h3⟩
          · cases h3
        · rename_i hex
          split at h3
          · rename_i v hv; exact ⟨_, fin v hv (.inr hex), ⟨StOK.trim h2, trivial⟩, h3⟩
          · cases h3
        · cases h3
      · cases h
    · cases h
theorem runK_sound (hS : CsOK P Θ S) : ∀ n : Nat, Sound P Θ (runK P Θ S (α := α) n)
  | 0 => fun _ _ _ _ h => by cases h
  | n + 1 => stepK_sound hS (runK_sound hS n)
end Go.Proofs.YticpcfchhcjjeaaGreat.LI
