/-
  An interpreter over values is sound, part 10.
-/
import Derived.Test.YtpeaaophmddhnaaGreatN9
namespace Go.Proofs.YtpeaaophmddhnaaGreat.LI
open Go Go.RowKit
set_option linter.unusedSimpArgs false
set_option linter.unusedVariables false
open KV (toL)
open KV.toL (toLs)
variable {P : Program} {Θ : Th} {S : Cs} [FkOK S] {α : Type} {rec : Rec α}
theorem cMa (xs ys : List KV) : toLs (xs ++ ys) = toLs xs ++ toLs ys := by simp only [aHa, List.map_append]
theorem uNa (e : bNa) (σ : KSt) (r : ResultVar) : iYa P e.toL σ.toL r = (oCa P e σ r).map toL := by
 cases r with
 | tmp t =>
  have := iHa e (.tmp t)
  simp only [Env.ev, bNa.ev] at this
  simp only [iYa, oCa, this, Option.map_some]
 | cell a t =>
  have := iHa e (.tmp a)
  simp only [Env.ev, bNa.ev] at this
  simp only [iYa, oCa, this]
  generalize e.t.getD a .undef = v
  cases v with
  | bptr b off =>
   cases off with
   | zero =>
    simp only [toL]
    have : σ.toL.boxes[b]? = (σ.boxes[b]?).map toLs := by simp only [KSt.toL, List.getElem?_map]
    rw [this]
    cases σ.boxes[b]? with
    | none => rfl
    | some cs => simp only [Option.map_some, Option.bind_some, aHa, iOa]
   | succ n => rfl
  | _ => rfl
theorem uMa (e : bNa) (σ : KSt) : ∀ rs : List ResultVar, rs.mapM (iYa P e.toL σ.toL) = (oBa P e σ rs).map (List.map toL)
 | [] => rfl
 | r :: rs => by
  rw [List.mapM_cons, uNa, uMa e σ rs]
  simp only [oBa]
  cases oCa P e σ r with
  | none => rfl
  | some v => cases oBa P e σ rs <;> rfl
theorem eJb (fn : Func) (e : bNa) (σ : KSt) : jSa P fn e.toL σ.toL = (wFa P fn e σ).map toL := by
 unfold jSa wFa
 split
 ·rename_i h; rw [h]; rfl
 ·rename_i r h; rw [h]; exact uNa e σ r
 ·rename_i h1 h2
  generalize fn.results.toList = rs at *
  match rs, h1, h2 with
  | [], h1, _ => exact absurd rfl h1
  | [r], _, h2 => exact absurd rfl (h2 r)
  | r1 :: r2 :: rs, _, _ =>
   rw [uMa]
   simp only
   cases oBa P e σ (r1 :: r2 :: rs) with
   | none => rfl
   | some vs => simp only [Option.map_some, toL, aHa]
theorem dWa {T : TypeId → Option Ty} {σ : KSt} : ∀ {ks : List (Option (TypeId × Nat))} {vs : List KV} {used : List Nat} {acc : List aYa} {c : Ck} {vs' : List KV} {rows : List aYa}, fSa T σ ks vs used acc = some (c, vs', rows) → c.val = true →
  eDa σ.toL ks (toLs vs) used (acc.map aYa.toL) = some (toLs vs', rows.map aYa.toL)
 | [], vs, used, acc, c, vs', rows, h, hc => by
  simp only [fSa] at h
  cases hf : fAa.freeKL (gIa.frzKL σ vs).2 with
  | false => rw [hf] at h; cases h
  | true =>
   rw [hf, cond_true] at h
   cases h
   have e := cLa σ vs hc
   have : eDa σ.toL [] (toLs vs) used (acc.map aYa.toL) = if aAa.refFreeL (bIa.frzL σ.toL (toLs vs)) then some (bIa.frzL σ.toL (toLs vs), acc.map aYa.toL) else none := by
    cases vs <;> simp only [toLs, eDa]
   rw [this, e, cHa, hf]; rfl
 | none :: ks, [], used, acc, c, vs', rows, h, hc => by
  simp only [fSa] at h; cases h; rfl
 | some (e, sz) :: ks, [], used, acc, c, vs', rows, h, hc => by
  simp only [fSa] at h; cases h; rfl
 | none :: ks, v :: vs, used, acc, c, vs', rows, h, hc => by
  simp only [fSa] at h
  cases hf : fAa (gIa σ v).2 with
  | false => rw [hf] at h; cases h
  | true =>
   rw [hf, cond_true] at h
   split at h
   ·rename_i c1 vs1 rows1 h1
    cases h
    simp only [Ck.val, Bool.and_eq_true] at hc
    have e := fFa σ v hc.1
    have ih := dWa h1 hc.2
    simp only [toLs, eDa, e, mRa, hf, if_true, ih, Option.map_some]
   ·cases h
 | some (e, sz) :: ks, v :: vs, used, acc, c, vs', rows, h, hc => by
  have hacc : (acc.map aYa.toL).length = acc.length := List.length_map _
  have frees : ∀ row : aYa, aAa.refFreeL row.toL.xs = true := fun row => fEa _ _
  simp only [fSa] at h
  split at h
  ·split at h
   ·rename_i hz
    split at h
    ·rename_i t hT
     split at h
     ·rename_i c1 vs1 rows1 h1
      cases h
      have ih := dWa h1 hc
      simp only [List.map_append, List.map, aYa.toL, List.map_nil] at ih
      simp only [toLs, toL, eDa, hz, if_true, hacc]
      rw [ih]; rfl
     ·cases h
    ·cases h
   ·cases h
  ·rename_i r n
   split at h
   ·rename_i row hr
    split at h
    ·rename_i hcc
     split at h
     ·rename_i c1 vs1 rows1 h1
      cases h
      simp only [Ck.val, Bool.and_eq_true, decide_eq_true_eq] at hc
      have ih := dWa h1 hc.2
      simp only [List.map_append, List.map] at ih
      have hlen : row.toL.xs.length = n := by simp only [aYa.toL, List.length_map]; exact hc.1
      simp only [toLs, toL, eDa, cIa, hr, Option.map_some, hacc]
      rw [if_pos ⟨hlen, hcc.1, hcc.2.1, hcc.2.2.1, hcc.2.2.2, frees row⟩, ih, Option.map_some, hc.1]
     ·cases h
    ·cases h
   ·cases h
  ·rename_i r n lo hi z
   split at h
   ·rename_i row hr
    split at h
    ·rename_i hcc
     split at h
     ·rename_i c1 vs1 rows1 h1
      cases h
      simp only [Ck.val, Bool.and_eq_true, decide_eq_true_eq] at hc
      obtain ⟨k1, k2, k3, k4⟩ := hc
      have ih := dWa h1 k4
      simp only [List.map_append, List.map] at ih
      have hlen : row.toL.xs.length = n := by simp only [aYa.toL, List.length_map]; exact k1
      have htk : (row.l.take hi).length = hi := by rw [List.length_take]; omega
      have hrow : aYa.toL { row with l := row.l.take hi } = { row.toL with xs := row.toL.xs.take hi } := by simp only [aYa.toL, List.map_take]
      rw [hrow] at ih
      simp only [toLs, toL, eDa, cIa, hr, Option.map_some, hacc]
      rw [if_pos ⟨hlen, hcc.1, hcc.2.1, hcc.2.2.1, hcc.2.2.2.1, hcc.2.2.2.2, k2, k3, frees row⟩, ih, Option.map_some, htk]
     ·cases h
    ·cases h
   ·cases h
  ·cases h
theorem kQa : ∀ (ks : List (Option (TypeId × Nat))) (vs : List KV), fQa ks (toLs vs) = iTa ks vs
 | [], vs => by cases vs <;> simp only [toLs, fQa, iTa, ← dCa]
 | some _ :: ks, [] => rfl
 | none :: ks, [] => rfl
 | some _ :: ks, v :: vs => by simp only [toLs, fQa, iTa, kQa ks vs]
 | none :: ks, v :: vs => by simp only [toLs, fQa, iTa, kQa ks vs, gAa]
theorem bGb {T : TypeId → Option Ty} {σ : KSt} {ks : List (Option (TypeId × Nat))} {v v' : KV} {c : Ck} {rows : List aYa} (h : nDb T σ ks v = some (c, v', rows)) (hc : c.val = true) :
  nCb σ.toL ks v.toL = some (v'.toL, rows.map aYa.toL) := by
 unfold nDb at h
 split at h
 ·rename_i vs hv
  have hv : v = .tuple vs := by
   cases v <;> first | (cases hv; done) | (cases hv; rfl)
  subst hv
  split at h
  ·rename_i c1 vs1 rows1 h1
   cases h
   have := dWa h1 hc
   rw [List.map_nil, ← dUa] at this
   simp only [toL, nCb, kQa, this, Option.map_some]
  ·cases h
 ·rename_i hv
  split at h
  ·rename_i c1 vs1 rows1 h1
   split at h
   ·rename_i v1 vt
    cases h
    have := dWa h1 hc
    rw [List.map_nil, ← dUa] at this
    have e : fQa ks [v.toL] = iTa ks [v] := kQa ks [v]
    simp only [toLs] at this
    cases v <;> first | (cases hv; done) | skip
    all_goals
     simp only [toL, hNa] at this e ⊢
     simp only [nCb, e, this, Option.bind_some, List.head?_cons, Option.map_some]
   ·cases h
  ·cases h
theorem iEa {v : KV} {rows : List aYa} (h : lJa v = true) : kWa v.toL (rows.map aYa.toL) = true := by
 unfold kWa
 have h2 : (rows.map aYa.toL).all (fun r => aAa.refFreeL r.xs) = true := by
  rw [List.all_map, List.all_eq_true]
  intro r _
  exact fEa _ _
 rw [h2, Bool.and_true]
 have e : ∀ v : KV, (oPa v.toL || aAa v.toL) = (hIb v || fAa v) := fun v => by
  rw [mRa]; cases v <;> rfl
 cases v <;> first
  | rfl
  | (simp only [lJa] at h; rw [← mRa] at h; exact h)
  | skip
 simp only [lJa, toL, aHa, List.all_map] at h ⊢
 rw [List.all_eq_true] at h ⊢
 intro x hx
 simp only [Function.comp, e]
 exact h x hx
theorem ePb (d : Nat) (v : KV) : sCa d v.toL = (aUb d v).toL := by cases v <;> rfl
theorem iNb (d : Nat) (v : KV) : cYb d v.toL = (iMb d v).toL := by
 cases v
 case tuple vs =>
  simp only [toL, cYb, iMb, aHa, List.map_map]; congr 1; exact List.map_congr_left fun v _ => ePb d v
 all_goals rfl
theorem sLa {own : Bool} {v : KV} {rows : List aYa} {σ : KSt} (hc : (hDa own v rows σ).1.val = true) :
  gBa own v.toL (rows.map aYa.toL) σ.toL = ((hDa own v rows σ).2.1.toL, (hDa own v rows σ).2.2.toL) ∧ (hDa own v rows σ).2.2.loops = σ.loops := by
 cases own with
 | true =>
  refine ⟨?_, rfl⟩
  have hl : σ.toL.rows.length = σ.rows.length := by simp [KSt.toL]
  simp only [gBa, hDa, if_true, hl, iNb]
  simp only [KSt.toL, List.map_append]
 | false =>
  refine ⟨?_, rfl⟩
  simp only [gBa, hDa, Bool.false_eq_true, if_false] at hc ⊢
  have := fFa { rows } v hc
  have e : (KSt.toL { rows }) = { rows := rows.map aYa.toL } := rfl
  rw [e] at this
  rw [this]
theorem oYa {own : Bool} {v : KV} {rows : List aYa} {σ : KSt} {rs : List Nat} (hc : (gGa own v rows σ rs).1.val = true) :
  eUa own v.toL (rows.map aYa.toL) σ.toL rs = ((gGa own v rows σ rs).2.1.toL, (gGa own v rows σ rs).2.2.toL) ∧ (gGa own v rows σ rs).2.2.loops = σ.loops := by
 unfold eUa gGa at *
 rw [rMa]
 cases hn : mZa v with
 | true => exact ⟨rfl, rfl⟩
 | false =>
  rw [hn] at hc
  simp only [Bool.false_eq_true, if_false] at hc ⊢
  obtain ⟨h1, h2⟩ := sLa hc
  rw [dUa]
  exact ⟨h1, by rw [h2, bYa]⟩
theorem cEa.rows {rows : List aYa} : cEa P { rows } := fun _ h => by cases h
theorem oKa (hr : kTa P Θ rec) {f : FuncId} {args : List KV} {k : dXa → Option α} {x : α} (h : bXb Θ S rec f args k = some x) :
  ∃ r : dXa, run P Θ (.call f (toLs args)) = some r.toL ∧ cEa P r.σ ∧ k r = some x := by
 unfold bXb at h
 split at h
 ·cases h
 ·rename_i hpr
  cases ha : fAa.freeKL args with
  | false => rw [ha] at h; cases h
  | true =>
   rw [ha, cond_true] at h
   have hT : eKa P (.callS f args {}) := cEa.nil
   obtain ⟨r, h1, ⟨h2, _⟩, h3⟩ := hr _ _ _ hT h
   split at h3
   ·rename_i c v rows ht
    cases hok : lJa v with
    | false => rw [hok] at h3; cases h3
    | true =>
     rw [hok, cond_true] at h3
     obtain ⟨h4, h5⟩ := bTa (S := S) h3
     refine ⟨_, ?_, cEa.rows, h5⟩
     rw [kJb f _ hpr (by rw [cHa]; exact ha)]
     have h1 : run P Θ (.callS f (toLs args) {}) = some r.toL := h1
     rw [h1]
     simp only [Option.bind_some, dXa.toL]
     rw [bGb ht h4]
     simp only [Option.bind_some, hKa, iEa hok, if_true]
     rfl
   ·cases h3
theorem mCa (hS : sSa P Θ S) (hr : kTa P Θ rec) {f : FuncId} {args : List KV} {k : dXa → Option α} {x : α} (h : vIa Θ S rec f args k = some x) :
  ∃ r : dXa, run P Θ (.call f (toLs args)) = some r.toL ∧ cEa P r.σ ∧ k r = some x := by
 unfold vIa at h
 split at h
 ·rename_i p hp
  split at h
  ·rename_i c v rows hv
   obtain ⟨hcc, hq⟩ := bTa (S := S) h
   have := hS.ct _ _ _ _ _ _ hp hv hcc
   exact ⟨{ v, σ := { rows } }, this, cEa.rows, hq⟩
  ·exact oKa hr h
 ·exact oKa hr h
theorem zSa (hS : sSa P Θ S) (hr : kTa P Θ rec) {f : FuncId} {args : List KV} {k : dXa → Option α} {x : α} (h : lSb Θ S rec f args k = some x) :
  ∃ r : dXa, run P Θ (.call f (toLs args)) = some r.toL ∧ cEa P r.σ ∧ k r = some x := by
 unfold lSb at h
 split at h
 ·rename_i p hp
  split at h
  ·rename_i b hv
   obtain ⟨hcc, hq⟩ := bTa (S := S) h
   rw [FkOK.bd, Option.bind_eq_some_iff] at hq
   obtain ⟨y, hy, hq⟩ := hq
   have := hS.bt _ _ _ _ _ hp hv hcc hy
   exact ⟨{ v := (b.e y).1, σ := { rows := (b.e y).2 } }, this, cEa.rows, hq⟩
  ·exact mCa hS hr h
 ·exact mCa hS hr h
theorem nIb (ps : List Nat) : ∀ (args t : List KV), toLs ((ps.zip args).foldl (fun t (p : Nat × KV) => t.set p.1 p.2) t) = (ps.zip (toLs args)).foldl (fun t (p : Nat × LV) => t.set p.1 p.2) (toLs t) := by
 induction ps with
 | nil => intro args t; rfl
 | cons p ps ih =>
  intro args t
  cases args with
  | nil => rfl
  | cons a args =>
   simp only [List.zip_cons_cons, List.foldl_cons, toLs]
   rw [ih]
   congr 1
   simp only [aHa, List.map_set]
theorem xEa (hS : sSa P Θ S) (hr : kTa P Θ rec) {own : Bool} {f : KV} {args : List KV} {σ : KSt} {k : dXa → Option α} {x : α} (hσ : cEa P σ) (h : fUb Θ S rec own f args σ k = some x) :
  ∃ r : dXa, run P Θ (.apply own f.toL (toLs args) σ.toL) = some r.toL ∧ cEa P r.σ ∧ k r = some x := by
 unfold fUb at h
 split at h
 ·rename_i f fst caps
  simp only [toL]
  cases he : Θ.ent f with
  | true =>
   rw [he, cond_true] at h
   cases hp : Θ.pureF f with
   | true =>
    rw [hp, cond_true] at h
    obtain ⟨h1, h⟩ := bTa (S := S) h
    have hT : eKa P (.call f (gIa.frzKL σ (fst ++ args ++ caps)).2) := trivial
    obtain ⟨r, h2, ⟨h3, _⟩, h4⟩ := hr _ _ _ hT h
    obtain ⟨h5, h6⟩ := bTa (S := S) h4
    obtain ⟨h7, h8⟩ := oYa h5
    refine ⟨_, ?_, cEa.loops hσ h8, h6⟩
    rw [lCa own f _ _ _ _ he hp, ← cMa, ← cMa, cLa σ _ h1]
    have h2 : run P Θ (.call f (toLs (gIa.frzKL σ (fst ++ args ++ caps)).2)) = some r.toL := h2
    rw [h2, dCa]
    have e : r.toL.σ.rows = r.σ.rows.map aYa.toL := rfl
    have e2 : r.toL.v = r.v.toL := rfl
    simp only [Option.map_some, e, e2, h7]
    rfl
   | false =>
    rw [hp, cond_false] at h
    split at h
    ·rename_i q hq
     split at h
     ·rename_i p hp2
      split at h
      ·rename_i c v σ' hv
       obtain ⟨h5, h6⟩ := bTa (S := S) h
       obtain ⟨⟨q', h7, h8⟩, h9⟩ := hS.st _ _ _ _ _ _ _ hp2 hv h5
       refine ⟨_, ?_, cEa.loops hσ h9, h6⟩
       rw [tEa own f _ _ _ _ he hp h7, ← cMa, ← cMa, h8]
       rfl
      ·cases h
     ·cases h
    ·rename_i hs
     have hT : eKa P (.callS f (fst ++ args ++ caps) σ) := hσ
     obtain ⟨r, h2, ⟨h3, _⟩, h4⟩ := hr _ _ _ hT h
     refine ⟨r, ?_, h3, h4⟩
     rw [yQa own f _ _ _ _ he hp hs, ← cMa, ← cMa]
     exact h2
  | false =>
   rw [he, cond_false] at h
   split at h
   ·rename_i p hp
    split at h
    ·rename_i c v hv
     obtain ⟨h1, h'⟩ := bTa (S := S) h
     simp only [Ck.val, Bool.and_eq_true] at h1
     obtain ⟨h1, hc⟩ := h1
     obtain ⟨_, q, h2, h3, h4⟩ := hS.xt _ _ _ _ _ hp hv hc
     rw [iFa] at h3
     refine ⟨{ v, σ := hMa σ (fPa.rowsKL (fst ++ args ++ caps)) }, ?_, cEa.frz hσ, h'⟩
     rw [wGa own f _ _ _ _ he h2, ← cMa, ← cMa, cLa σ _ h1, h3]
     simp only [Option.bind_some]
     rw [mRa, h4, if_pos rfl, dCa, dUa]
     rfl
    ·cases h
   ·cases h
 ·rename_i l
  simp only [toL, toLs]
  split at h
  ·rename_i lr hl
   cases hc : ((decide (lr.state = .ready) && Nat.beq args.length lr.params.length) && !Θ.gcF lr.env.fn) with
   | false => rw [hc] at h; cases h
   | true =>
    rw [hc, cond_true] at h
    simp only [Bool.and_eq_true, decide_eq_true_eq, Bool.not_eq_true'] at hc
    have hgc : Θ.gcF lr.toL.env.fn = false := hc.2
    have hc := hc.1
    have hc2 := Nat.eq_of_beq_eq_true hc.2
    obtain ⟨⟨k1, k2⟩, _⟩ := hσ lr (List.mem_of_getElem? hl)
    have hT : eKa P (.code lr.assign { lr.env with t := (lr.params.zip args).foldl (fun t (p : Nat × KV) => t.set p.1 p.2) lr.env.t } σ) := ⟨k1, hσ⟩
    obtain ⟨r1, h1, ⟨h2, h3⟩, h4⟩ := hr _ _ _ hT h
    have h3 : r1.env.fn = lr.env.fn := h3
    split at h4
    ·rename_i hex
     cases hrd : pMa r1.σ l with
     | false => rw [hrd] at h4; cases h4
     | true =>
      rw [hrd, cond_true] at h4
      have hT2 : eKa P (.code lr.body r1.env (dRa r1.σ l fun q => { q with state := .busy })) := ⟨by rw [h3]; exact k2, cEa.set h2 fun q => ⟨rfl, rfl, rfl, rfl⟩⟩
      obtain ⟨r2, h5, ⟨h6, _⟩, h7⟩ := hr _ _ _ hT2 h4
      refine ⟨{ v := .st (.bool (r2.ex.code).isNone), σ := kUa σ.sz [] (dRa r2.σ l fun q => { q with state := if (r2.ex.code).isNone then .ready else .done, pending := r2.ex.code }) }, ?_, by refine cEa.trim (cEa.set h6 ?_); intro q; exact ⟨rfl, rfl, rfl, rfl⟩, h7⟩
      have hlr : σ.toL.loops[l]? = some lr.toL := by simp only [KSt.toL, List.getElem?_map, hl, Option.map_some]
      rw [rXa, hlr]
      simp only [Option.bind_some, jCb]
      have hlen : (toLs args).length = lr.toL.params.length := by rw [aHa, List.length_map]; exact hc2
      rw [if_pos ⟨hc.1, hlen, hgc⟩]
      have h1 : run P Θ (.code lr.toL.assign { lr.toL.env with t := (lr.toL.params.zip (toLs args)).foldl (fun t (p : Nat × LV) => t.set p.1 p.2) lr.toL.env.t } σ.toL) = some r1.toL := by
       have := nIb lr.params args lr.env.t
       simp only [sTa.toL, bNa.toL] at h1
       rw [this] at h1
       exact h1
      rw [h1]
      simp only [Option.bind_some, jDb, dXa.toL]
      rw [if_pos ⟨hex, by rw [aEb]; exact hrd⟩]
      rw [jVa r1.σ l (g := fun q => { q with state := .busy }) (fun q => rfl)]
      have h5 : run P Θ (.code lr.toL.body r1.env.toL (dRa r1.σ l fun q => { q with state := .busy }).toL) = some r2.toL := h5
      rw [h5]
      simp only [Option.bind_some, lKb, dXa.toL, iVb]
      rw [jVa r2.σ l (g := fun q => { q with state := if (r2.ex.code).isNone then .ready else .done, pending := r2.ex.code }) (fun q => rfl)]
      have := nLa σ.sz [] (dRa r2.σ l fun q => { q with state := if (r2.ex.code).isNone then .ready else .done, pending := r2.ex.code })
      simp only [toLs] at this
      rw [this]
      rfl
    ·cases h4
  ·cases h
 ·cases h
theorem nRa : ∀ (m : List Bool) (n : Nat) (vs : List KV), toLs (aOa m n (KV.dyn.dyns vs)) = toLs (aOa m n vs)
 | _, 0, _ => by simp only [aOa]
 | true :: m, n + 1, v :: vs => by simp only [KV.dyn.dyns, aOa, toLs, gGb, nRa m n vs]
 | true :: m, n + 1, [] => rfl
 | false :: m, n + 1, vs => by simp only [aOa, toLs, nRa m n vs]
 | [], n + 1, vs => by simp only [aOa, toLs, nRa [] n vs]
theorem rOa {a : Code} {f : FuncId} {k : dXa → Option α} {x : α} : ∀ {o : Out}, nPb P Θ S rec a f k o = some x →
  (o.pick.1 = .normal ∧ rec (.code (.loop a) ⟨f, aOa (Θ.keep f (aCa a)) (ntm P f) o.pick.2.1⟩ o.pick.2.2) k = some x) ∨ (o.pick.1 ≠ .normal ∧ k ⟨o.pick.1, .undef, ⟨f, aOa (Θ.keep f (aCa a)) (ntm P f) o.pick.2.1⟩, o.pick.2.2⟩ = some x)
 | .one ex _ _, h => by
  simp only [nPb] at h
  split at h
  ·exact .inl ⟨rfl, h⟩
  ·rename_i hne; exact .inr ⟨fun e => hne e, h⟩
 | .two b o1 o2, h => by
  simp only [nPb] at h
  cases b with
  | true => rw [vPa] at h; have h1 := rOa (o := o1) h; exact h1
  | false => rw [pLa] at h; have h1 := rOa (o := o2) h; exact h1
theorem oRa (hr : kTa P Θ rec) {a : Code} {e : bNa} {σ : KSt} {k : dXa → Option α} {x : α} (hc : bSa P e.fn (.loop a)) (hσ : cEa P σ) (h : cJb Θ rec a e σ k = some x) :
  ∃ r : dXa, run P Θ (.code (.loop a) e.toL σ.toL) = some r.toL ∧ (cEa P r.σ ∧ r.env.fn = e.fn) ∧ k r = some x := by
 unfold cJb at h
 have ca : bSa P e.fn a := hc.loop
 have hT : eKa P (.code a (fIa Θ (aCa a) e) σ) := ⟨ca, hσ⟩
 obtain ⟨r, h1, ⟨h2, h3⟩, h4⟩ := hr _ _ _ hT h
 have h3 : r.env.fn = e.fn := h3
 have h1 : run P Θ (.code a (fIa Θ (aCa a) e).toL σ.toL) = some r.toL := h1
 rw [pPa, gCa, h1]
 simp only [Option.bind_some, Res.again, dXa.toL]
 split at h4
 ·rename_i hex
  have hT2 : eKa P (.code (.loop a) (fIa Θ (aCa a) r.env) (kUa σ.sz (fIa Θ (aCa a) r.env).t r.σ)) := ⟨by show bSa P r.env.fn _; rw [h3]; exact hc, cEa.trim h2⟩
  obtain ⟨r2, h5, ⟨h6, h7⟩, h8⟩ := hr _ _ _ hT2 h4
  refine ⟨r2, ?_, ⟨h6, by have h7 : r2.env.fn = r.env.fn := h7; rw [h7, h3]⟩, h8⟩
  rw [hex]
  simp only
  rw [gCa, iVb]
  have e2 : trim σ.sz (fIa Θ (aCa a) r.env).toL.t r.σ.toL = (kUa σ.sz (fIa Θ (aCa a) r.env).t r.σ).toL := nLa _ _ _
  rw [e2]
  exact h5
 ·rename_i hex
  refine ⟨{ r with env := fIa Θ (aCa a) r.env }, ?_, ⟨h2, h3⟩, h4⟩
  simp only [dXa.toL]
  cases hx : r.ex <;> first | exact absurd hx hex | (simp only [gCa])
theorem mTa (hS : sSa P Θ S) (hr : kTa P Θ rec) {a : Code} {e : bNa} {σ : KSt} {k : dXa → Option α} {x : α} (hc : bSa P e.fn (.loop a)) (hσ : cEa P σ) (h : vXa P Θ S rec a e σ k = some x) :
  ∃ r : dXa, run P Θ (.code (.loop a) e.toL σ.toL) = some r.toL ∧ (cEa P r.σ ∧ r.env.fn = e.fn) ∧ k r = some x := by
 unfold vXa at h
 split at h
 ·rename_i p hp
  cases hl : Nat.beq e.t.length (ntm P e.fn) with
  | false => rw [hl] at h; cases h
  | true =>
   rw [hl, cond_true] at h
   have hl := Nat.eq_of_beq_eq_true hl
   split at h
   ·rename_i c o hv
    obtain ⟨hcc, hq⟩ := bTa (S := S) h
    obtain ⟨h1, h2⟩ := hS.lt _ _ _ _ _ _ _ hp hv hcc a (hc.1 a (by simp [aGa])) rfl hσ
    have e1 : (fIa Θ (aCa a) e).toL = ⟨e.fn, toLs (aOa (Θ.keep e.fn (aCa a)) (ntm P e.fn) (cGa (Θ.keep e.fn (aCa a)) e.t))⟩ := by
     simp only [fIa, bNa.toL, eNa, hl]
    rw [nFa, gCa, e1, h1]
    rcases rOa hq with ⟨hn, hk⟩ | ⟨hn, hk⟩
    ·have hT : eKa P (.code (.loop a) ⟨e.fn, aOa (Θ.keep e.fn (aCa a)) (ntm P e.fn) o.pick.2.1⟩ o.pick.2.2) := ⟨hc, h2⟩
     obtain ⟨r, k1, ⟨k2, k3⟩, k4⟩ := hr _ _ _ hT hk
     rw [if_pos hn]
     exact ⟨r, k1, ⟨k2, k3⟩, k4⟩
    ·rw [if_neg hn]
     exact ⟨_, rfl, ⟨h2, rfl⟩, hk⟩
   ·exact oRa hr hc hσ h
 ·exact oRa hr hc hσ h
theorem mKb {a : Code} {f : FuncId} {k : dXa → Option α} {x : α} {ex : Ex} {vs : List KV} {σ : KSt} (h : qJb P Θ rec a f k ex vs σ = some x) :
  (ex = .normal ∧ rec (.code (.loop a) ⟨f, aOa (Θ.keep f (aCa a)) (ntm P f) vs⟩ σ) k = some x) ∨ (ex ≠ .normal ∧ k ⟨ex, .undef, ⟨f, aOa (Θ.keep f (aCa a)) (ntm P f) vs⟩, σ⟩ = some x) := by
 unfold qJb at h
 split at h
 ·exact .inl ⟨rfl, h⟩
 ·rename_i hne; exact .inr ⟨fun e => hne e, h⟩
theorem yDa (hS : sSa P Θ S) (hr : kTa P Θ rec) {a : Code} {e : bNa} {σ : KSt} {k : dXa → Option α} {x : α} (hc : bSa P e.fn (.loop a)) (hσ : cEa P σ) (h : hPb P Θ S rec a e σ k = some x) :
  ∃ r : dXa, run P Θ (.code (.loop a) e.toL σ.toL) = some r.toL ∧ (cEa P r.σ ∧ r.env.fn = e.fn) ∧ k r = some x := by
 unfold hPb at h
 split at h
 ·rename_i p hp
  cases hl : Nat.beq e.t.length (ntm P e.fn) with
  | false => rw [hl] at h; cases h
  | true =>
   rw [hl, cond_true] at h
   have hl := Nat.eq_of_beq_eq_true hl
   split at h
   ·rename_i b hv
    obtain ⟨hcc, hq⟩ := bTa (S := S) h
    rw [FkOK.bd, Option.bind_eq_some_iff] at hq
    obtain ⟨y, hy, hq⟩ := hq
    obtain ⟨h0, h1, h2⟩ := hS.bl _ _ _ _ _ _ _ hp hv hcc hy a (hc.1 a (by simp [aGa])) rfl hσ
    rw [h0] at hq
    have e1 : (fIa Θ (aCa a) e).toL = ⟨e.fn, toLs (aOa (Θ.keep e.fn (aCa a)) (ntm P e.fn) (cGa (Θ.keep e.fn (aCa a)) e.t))⟩ := by
     simp only [fIa, bNa.toL, eNa, hl]
    rw [nFa, gCa, e1, h1]
    rcases mKb hq with ⟨hn, hk⟩ | ⟨hn, hk⟩
    ·have hT : eKa P (.code (.loop a) ⟨e.fn, aOa (Θ.keep e.fn (aCa a)) (ntm P e.fn) (b.pick y).2.1⟩ (b.pick y).2.2) := ⟨hc, h2⟩
     obtain ⟨r, k1, ⟨k2, k3⟩, k4⟩ := hr _ _ _ hT hk
     rw [if_pos hn]
     exact ⟨r, k1, ⟨k2, k3⟩, k4⟩
    ·rw [if_neg hn]
     exact ⟨_, rfl, ⟨h2, rfl⟩, hk⟩
   ·exact mTa hS hr hc hσ h
 ·exact mTa hS hr hc hσ h
theorem wDa (hr : kTa P Θ rec) {f : Operand} {ps : Array Tmp} {as body : Code} {e : bNa} {σ : KSt} {k : dXa → Option α} {x : α} (hc : bSa P e.fn (.rangeFunc f ps as body)) (hσ : cEa P σ) (h : aNb Θ rec f ps as body e σ k = some x) :
  ∃ r : dXa, run P Θ (.code (.rangeFunc f ps as body) e.toL σ.toL) = some r.toL ∧ (cEa P r.σ ∧ r.env.fn = e.fn) ∧ k r = some x := by
 unfold aNb at h
 cases hf : (oRb Θ (e.ev f) && !Θ.gcF e.fn) with
 | false => rw [hf] at h; cases h
 | true =>
  rw [hf, cond_true] at h
  rw [Bool.and_eq_true] at hf
  obtain ⟨hf, hgc⟩ := hf
  have hT : eKa P (.apply false (e.ev f) [.func (.yield σ.loops.length) [] []] { σ with loops := σ.loops ++ [{ env := fIa Θ (aCa as) e, params := ps.toList, assign := as, body, pending := none, state := .ready }] }) := by
   intro lr hl
   rcases List.mem_append.1 hl with hl | hl
   ·exact hσ lr hl
   ·simp only [List.mem_singleton] at hl
    subst hl
    exact hc.range
  obtain ⟨r, h1, ⟨h2, _⟩, h3⟩ := hr _ _ _ hT h
  have hfn : ((e.toL.ev f).isFn Θ && !Θ.gcF e.toL.fn) = true := by
   rw [Bool.and_eq_true]
   refine ⟨?_, hgc⟩
   rw [iHa]
   cases hv : e.ev f <;> rw [hv] at hf <;> first | (cases hf; done) | skip
   rename_i fn fst caps
   cases fn <;> first | exact hf | (cases hf; done)
  have h1 : run P Θ (.apply false (e.toL.ev f) [.func (.yield σ.toL.loops.length) [] []] { σ.toL with loops := σ.toL.loops ++ [{ env := iZa Θ (aCa as) e.toL, params := ps.toList, assign := as, body, pending := none, state := .ready }] }) = some r.toL := by
   rw [iHa]
   simp only [sTa.toL, KSt.toL, List.map_append, List.map, toLs, toL] at h1
   simp only [KSt.toL, List.length_map]
   rw [gCa]
   exact h1
  rw [iIb, hfn, cond_true, h1]
  simp only [Option.bind_some, lFb, dXa.toL]
  split at h3
  ·rename_i lr hl
   have hlr : r.σ.toL.loops[σ.toL.loops.length]? = some lr.toL := by simp only [KSt.toL, List.length_map, List.getElem?_map, hl, Option.map_some]
   rw [hlr]
   simp only [Option.bind_some, lGb]
   cases hb : decide (lr.state = .busy) with
   | true => rw [hb] at h3; cases h3
   | false =>
    rw [hb, cond_false] at h3
    have hb' : ¬ lr.toL.state = .busy := by simpa [hJa.toL] using hb
    rw [if_neg hb']
    have hp : lr.toL.pending = lr.pending := rfl
    rw [hp, lYb]
    split at h3
    all_goals first
     | (rename_i hq; rw [hq]; exact ⟨_, rfl, ⟨cEa.end h2, rfl⟩, h3⟩)
     | cases h3
  ·cases h3
theorem aMb {fn : FuncId} : ∀ {l : List Oper} {B : List (List KV)}, oYb P Θ fn l = some B → fHb P Θ fn l = some (B.map toLs)
 | [], B, h => by cases h; rfl
 | o :: os, B, h => by
  simp only [oYb] at h
  simp only [fHb]
  cases hp : cBa Θ fn o with
  | false => rw [hp, cond_false] at h; rw [cond_false]; exact aMb h
  | true =>
   rw [hp, cond_true] at h
   rw [cond_true]
   split at h
   ·rename_i t ho
    split at h
    ·rename_i cs B' hz hB
     cases h
     simp only [ho, wSa, hz, aMb hB, Option.map_some, Option.bind_some, aHa, List.map_cons]
    ·cases h
   ·cases h
theorem dFb (fn : FuncId) (id : Nat) (r : dXa) : kVa Θ fn id r.toL = (jEa Θ fn id r).toL := by
 unfold kVa jEa
 cases Θ.gcF fn with
 | false => rfl
 | true =>
  cases Θ.gc fn id with
  | none => rfl
  | some k =>
   have := oNb (fIa Θ (some k) r.env) r.σ
   simp only [dXa.toL]
   rw [gCa, this]
theorem dGb {fn : FuncId} {id : Nat} {r : dXa} (h : cEa P r.σ) : cEa P (jEa Θ fn id r).σ ∧ (jEa Θ fn id r).env.fn = r.env.fn := by
 unfold jEa
 split
 ·refine ⟨cEa.gc h, ?_⟩
  unfold gcK
  cases (r.σ.loops.isEmpty && r.σ.maps.isEmpty) with
  | false => rfl
  | true => rw [cond_true]; split <;> rfl
 ·exact ⟨h, rfl⟩
theorem tDa (hr : kTa P Θ rec) {id : Nat} {ops : Array Oper} {draw : Bool} {e : bNa} {σ : KSt} {k : dXa → Option α} {x : α} (hσ : cEa P σ) (h : wEa P Θ S rec ops draw e σ (fun r => k (jEa Θ e.fn id r)) = some x) :
  ∃ r : dXa, run P Θ (.code (.region id ops draw) e.toL σ.toL) = some r.toL ∧ (cEa P r.σ ∧ r.env.fn = e.fn) ∧ k r = some x := by
 have fin : ∀ (e' : bNa) (σ' : KSt), cEa P σ' → e'.fn = e.fn → k (jEa Θ e.fn id { env := e', σ := σ' }) = some x → ∀ q : Option Res, q = (some (dXa.toL { env := e', σ := σ' })).map (kVa Θ e.toL.fn id) → ∃ r : dXa, q = some r.toL ∧ (cEa P r.σ ∧ r.env.fn = e.fn) ∧ k r = some x := fun e' σ' h1 h2 h3 q hq => by
  obtain ⟨a1, a2⟩ := dGb (P := P) (Θ := Θ) (fn := e.fn) (id := id) (r := { env := e', σ := σ' }) h1
  refine ⟨_, ?_, ⟨a1, a2.trans h2⟩, h3⟩
  rw [hq, Option.map_some, ← dFb]
  rfl
 unfold wEa at h
 cases draw with
 | true =>
  rw [cond_true] at h
  cases hd : kZa P Θ e.fn ⟨σ.boxes.length, e.bx⟩ ops with
  | false => rw [hd] at h; cases h
  | true =>
   rw [hd, cond_true] at h
   split at h
   case h_2 => cases h
   rename_i B hB
   have hσB : cEa P { σ with boxes := σ.boxes ++ B } := hσ.loops rfl
   obtain ⟨e', σ', h1, h2, h3, h4⟩ := mMa hr _ _ _ _ _ hσB h
   refine fin e' σ' h3 h2 h4 _ ?_
   have hbx : e.toL.bx = e.bx := by
    funext t
    show kYb (e.toL.ev (.tmp t)) = nWb (e.ev (.tmp t))
    rw [iHa]
    cases e.ev (.tmp t) <;> rfl
   have hn : σ.toL.boxes.length = σ.boxes.length := by simp [KSt.toL]
   have hd' : kZa P Θ e.toL.fn ⟨σ.toL.boxes.length, e.toL.bx⟩ ops = true := by
    have hfn : e.toL.fn = e.fn := rfl
    rw [hfn, hbx, hn]; exact hd
   have hBL : fHb P Θ e.toL.fn ops.toList = some (B.map toLs) := aMb hB
   have hst : (σ.toL.addB (B.map toLs)) = ({ σ with boxes := σ.boxes ++ B } : KSt).toL := by simp only [St.addB, KSt.toL, List.map_append]
   rw [rZa id ops e.toL σ.toL hd', hBL, Option.bind_some, hst, hn, hbx, h1]
   rfl
 | false =>
  rw [cond_false] at h
  rw [eLb]
  unfold hKb
  cases hl : fKa P ops.toList with
  | false =>
   rw [hl, cond_false] at h
   obtain ⟨e', σ', h1, h2, h3, h4⟩ := mMa hr _ _ _ _ _ hσ h
   refine fin e' σ' h3 h2 h4 _ ?_
   rw [cond_false, h1]
   rfl
  | true =>
   rw [hl, cond_true] at h
   rw [cond_true]
   split at h
   ·rename_i o1 o2 os hops
    rw [hops] at h ⊢
    split at h
    ·rename_i w hw
     split at h
     ·rename_i c v σ' ho
      obtain ⟨hcc, hq⟩ := bTa (S := S) h; clear h; have h := hq; clear hq
      obtain ⟨h1, h2⟩ := yJa ho hcc
      obtain ⟨e', σ'', h3, h4, h5, h6⟩ := mMa hr _ _ _ _ _ (hσ.loops h2) h
      refine fin e' σ'' h5 (by rw [h4, cQb, cQb]) h6 _ ?_
      simp only [oWb]
      have hw' : (o1.dst.bind fun d => e.toL.t[d]?) = some w.toL := by
       cases hd : o1.dst with
       | none => rw [hd] at hw; cases hw
       | some d =>
        rw [hd] at hw
        simp only [Option.bind_some] at hw ⊢
        simp only [bNa.toL, aHa, List.getElem?_map, hw, Option.map_some]
      rw [hw']
      have e1 : e.toL.ev = fun y => (e.ev y).toL := funext fun y => iHa e y
      rw [e1, h1]
      simp only [Option.bind_some]
      rw [cPb, cPb, h3]
      rfl
     ·cases h
    ·cases h
   ·cases h
theorem zVa (hS : sSa P Θ S) (hr : kTa P Θ rec) {c : Code} {e : bNa} {σ : KSt} {k : dXa → Option α} {x : α} (hc : bSa P e.fn c) (hσ : cEa P σ) (h : zUa P Θ S rec c e σ k = some x) :
  ∃ r : dXa, run P Θ (.code c e.toL σ.toL) = some r.toL ∧ (cEa P r.σ ∧ r.env.fn = e.fn) ∧ k r = some x := by
 cases c with
 | skip => exact ⟨_, kMb _ _, ⟨hσ, rfl⟩, h⟩
 | label l => exact ⟨_, iHb _ _ _, ⟨hσ, rfl⟩, h⟩
 | region id ops draw =>
  simp only [zUa, zXa] at h
  exact tDa hr hσ h
 | seq a b =>
  simp only [zUa] at h
  have hT : eKa P (.code a e σ) := ⟨hc.seq.1, hσ⟩
  obtain ⟨r, h1, ⟨h2, h3⟩, h4⟩ := hr _ _ _ hT h
  have h3 : r.env.fn = e.fn := h3
  have h1 : run P Θ (.code a e.toL σ.toL) = some r.toL := h1
  rw [mSb, h1]
  simp only [Option.bind_some, Res.onTo, dXa.toL]
  split at h4
  ·rename_i hex
   have hT2 : eKa P (.code b r.env r.σ) := ⟨by rw [h3]; exact hc.seq.2, h2⟩
   obtain ⟨r2, h5, ⟨h6, h7⟩, h8⟩ := hr _ _ _ hT2 h4
   refine ⟨r2, ?_, ⟨h6, by have h7 : r2.env.fn = r.env.fn := h7; rw [h7, h3]⟩, h8⟩
   rw [hex]
   exact h5
  ·rename_i hex
   refine ⟨r, ?_, ⟨h2, h3⟩, h4⟩
   cases hx : r.ex <;> first | exact absurd hx hex | (simp only [dXa.toL, hx])
 | cond c a b =>
  simp only [zUa] at h
  have hTa : eKa P (.code a e σ) := ⟨hc.cond.1, hσ⟩
  have hTb : eKa P (.code b e σ) := ⟨hc.cond.2, hσ⟩
  split at h
  ·rename_i t ht
   have hev : e.toL.ev c = .sc (.bool t) := by rw [iHa, cTa ht]
   cases t with
   | true => rw [uQa _ _ _ _ _ hev]; exact hr _ _ _ hTa h
   | false => rw [uPa _ _ _ _ _ hev]; exact hr _ _ _ hTb h
  ·rename_i t ht
   have hev : e.toL.ev c = .sc (.bool t) := by rw [iHa, cTa ht]
   cases t with
   | true => rw [vPa] at h; rw [uQa _ _ _ _ _ hev]; exact hr _ _ _ hTa h
   | false => rw [pLa] at h; rw [uPa _ _ _ _ _ hev]; exact hr _ _ _ hTb h
  ·cases h
 | block id a =>
  simp only [zUa] at h
  have hT : eKa P (.code a e σ) := ⟨hc.block, hσ⟩
  obtain ⟨r, h1, ⟨h2, h3⟩, h4⟩ := hr _ _ _ hT h
  have h1 : run P Θ (.code a e.toL σ.toL) = some r.toL := h1
  rw [iFb, h1]
  simp only [Option.bind_some, Res.unblock, dXa.toL]
  split at h4
  ·rename_i i hex
   rw [hex]
   simp only
   cases hi : Nat.beq i id with
   | true =>
    rw [hi, cond_true] at h4
    rw [if_pos (Nat.eq_of_beq_eq_true hi)]
    exact ⟨{ r with ex := .normal }, rfl, ⟨h2, h3⟩, h4⟩
   | false =>
    rw [hi, cond_false] at h4
    rw [if_neg (Nat.ne_of_beq_eq_false hi)]
    exact ⟨_, by simp only [dXa.toL, hex], ⟨h2, h3⟩, h4⟩
  ·rename_i hex
   refine ⟨r, ?_, ⟨h2, h3⟩, h4⟩
   cases hx : r.ex <;> first | exact absurd hx (hex _) | (simp only [dXa.toL, hx])
 | loop a => exact yDa hS hr hc hσ h
 | rangeFunc f ps as body => exact wDa hr hc hσ h
 | exit id => exact ⟨_, kKb _ _ _, ⟨hσ, rfl⟩, h⟩
 | goto t => exact ⟨_, kLb _ _ _, ⟨hσ, rfl⟩, h⟩
 | ret => exact ⟨_, mRb _ _, ⟨hσ, rfl⟩, h⟩
 | scope a =>
  simp only [zUa] at h
  have hT : eKa P (.code a e σ) := ⟨hc.scope, hσ⟩
  obtain ⟨r, h1, ⟨h2, h3⟩, h4⟩ := hr _ _ _ hT h
  have h1 : run P Θ (.code a e.toL σ.toL) = some r.toL := h1
  rw [iJb, h1]
  simp only [Option.bind_some, Res.unscope, dXa.toL]
  split at h4
  ·cases h4
  ·rename_i hne
   refine ⟨r, ?_, ⟨h2, h3⟩, h4⟩
   split
   ·rename_i i hex; exact absurd hex (hne i)
   ·rfl
 | refuse _ => cases h
theorem bDb (hS : sSa P Θ S) (hr : kTa P Θ rec) : kTa P Θ (mYb P Θ S rec) := by
 intro t k x hT h
 cases t with
 | call f args =>
  obtain ⟨r, h1, h2, h3⟩ := zSa hS hr h
  exact ⟨r, h1, ⟨h2, trivial⟩, h3⟩
 | apply own f args σ =>
  obtain ⟨r, h1, h2, h3⟩ := xEa hS hr hT h
  exact ⟨r, h1, ⟨h2, trivial⟩, h3⟩
 | code c e σ =>
  obtain ⟨r, h1, ⟨h2, h4⟩, h3⟩ := zVa hS hr hT.1 hT.2 h
  exact ⟨r, h1, ⟨h2, h4⟩, h3⟩
 | callS f args σ =>
  simp only [mYb] at h
  cases hgc : (Θ.gcF f && !σ.isEmpty) with
  | true => rw [hgc, cond_true] at h; cases h
  | false =>
  rw [hgc, cond_false] at h
  have hgc : (Θ.gcF f && !σ.toL.isEmpty) = false := by rw [aCb]; exact hgc
  split at h
  ·rename_i fn hf
   split at h
   ·rename_i c hb
    have hbody : aWa P f = c := by simp only [aWa, hf, hb]
    have hT2 : eKa P (.code c { fn := f, t := args ++ List.replicate (fn.ntmps - args.length) .undef } σ) := ⟨⟨fun a ha => by show a ∈ aGa (aWa P f); rw [hbody]; exact ha, fun a ha => by show a ∈ aFa (aWa P f); rw [hbody]; exact ha⟩, hT⟩
    obtain ⟨r, h1, ⟨h2, _⟩, h3⟩ := hr _ _ _ hT2 h
    have h1 : run P Θ (.code c { fn := f, t := toLs args ++ List.replicate (fn.ntmps - (toLs args).length) .undef } σ.toL) = some r.toL := by
     simp only [sTa.toL, bNa.toL, cMa] at h1
     have e1 : toLs (List.replicate (fn.ntmps - args.length) KV.undef) = List.replicate (fn.ntmps - (toLs args).length) LV.undef := by
      simp only [aHa, List.map_replicate, List.length_map, toL]
     rw [e1] at h1
     exact h1
    have fin : ∀ v, wFa P fn r.env r.σ = some v → (r.ex = .normal ∨ r.ex = .ret) → run P Θ (.callS f (toLs args) σ.toL) = some (dXa.toL { v, σ := kUa σ.sz [v] r.σ }) := by
     intro v hv hex
     rw [iGb f _ _ hgc hf hb, h1]
     simp only [Option.bind_some, gQb, dXa.toL]
     have ht : ∀ v, trim σ.toL.sz [toL v] r.σ.toL = (kUa σ.sz [v] r.σ).toL := fun v => by
      rw [iVb]; exact nLa σ.sz [v] r.σ
     rcases hex with hex | hex <;> rw [hex] <;> simp only [eJb, hv, Option.map_some, ht] <;> rfl
    split at h3
    ·rename_i hex
     split at h3
     ·rename_i v hv; exact ⟨_, fin v hv (.inl hex), ⟨cEa.trim h2, trivial⟩, h3⟩
     ·cases h3
    ·rename_i hex
     split at h3
     ·rename_i v hv; exact ⟨_, fin v hv (.inr hex), ⟨cEa.trim h2, trivial⟩, h3⟩
     ·cases h3
    ·cases h3
   ·cases h
  ·cases h
theorem oDa (hS : sSa P Θ S) : ∀ n : Nat, kTa P Θ (pKb P Θ S (α := α) n)
 | 0 => fun _ _ _ _ h => by cases h
 | n + 1 => bDb hS (oDa hS n)
end Go.Proofs.YtpeaaophmddhnaaGreat.LI
