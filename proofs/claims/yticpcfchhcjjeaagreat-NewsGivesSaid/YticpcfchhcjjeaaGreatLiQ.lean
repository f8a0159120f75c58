/-
  A row of a law, out of what the interpreter answers at every argument. No program is named here.
-/
import Derived.Test.YticpcfchhcjjeaaGreatLiR
import Derived.Carry
import Derived.SizedLaws
import Derived.OpenShut
namespace Go.Proofs.YticpcfchhcjjeaaGreat.LI
open Go Go.RowKit Go.ChangeShapes Go.WideShapes

/-! ### which logical values a type's data have -/
structure Rep (P : Program) (t : TypeId) {α : Type} (enc : α → LV) (ok : α → Prop) : Prop where
  get : ∀ {H : Type} {e : TypeId × Value → H} {W : World} {base : Nat} {sp : Nat → Bool} {held : Bool} {fuel : Nat} {cs : List Value} {x : DataW H × List MemPlace}, DataW.trod e P W base sp held fuel t cs = some x →
    (x.1.weights P t).all (· ≤ reachBytes) = true → ∃ a, lvOf x.1 = enc a ∧ ok a
structure RepEach (P : Program) (ts : List TypeId) {α : Type} (enc : α → List LV) (ok : α → Prop) : Prop where
  get : ∀ {H : Type} {e : TypeId × Value → H} {W : World} {base : Nat} {sp : Nat → Bool} {held : Bool} {ds : List (DataW H)}, ds.length = ts.length →
    (∀ (i : Nat) (t : TypeId) (d : DataW H), ts[i]? = some t → ds[i]? = some d → ∃ fuel cs p, DataW.trod e P W base sp held fuel t cs = some (d, p)) →
    (DataW.weightsEach P ts ds).all (· ≤ reachBytes) = true → ∃ a, ds.map lvOf = enc a ∧ ok a

section
variable {P : Program}

theorem Rep.bool {t : TypeId} (ht : P.underlying t = some .bool) : Rep P t (fun b : Bool => .sc (.bool b)) (fun _ => True) where
  get := fun h _ => by
    obtain ⟨b, _, rfl⟩ := DataW.trod_bool ht h
    exact ⟨b, rfl, trivial⟩
theorem Rep.int {t : TypeId} {k : IntKind} (ht : P.underlying t = some (.int k)) : Rep P t (fun n : Int => .sc (.int k n)) (fun n => (Lit.int k n).wf = true) where
  get := fun h _ => by
    obtain ⟨n, _, rfl, hw⟩ := DataW.trod_int ht h
    exact ⟨n, rfl, hw⟩
theorem Rep.string {t : TypeId} (ht : P.underlying t = some .string) : Rep P t (fun s : ByteArray => .sc (.string s)) (fun s => s.size ≤ reachBytes) where
  get := fun h hw => by
    obtain ⟨s, _, rfl, _⟩ := DataW.trod_string ht h
    refine ⟨s, ?_, ?_⟩
    · have : (⟨s.data.toList.toArray⟩ : ByteArray) = s := by cases s; simp
      simp only [lvOf, this]
    · simp only [DataW.weights, List.all_cons, List.all_nil, Bool.and_true, decide_eq_true_eq, Array.length_toList] at hw
      exact hw

theorem weightsAll_mem {H : Type} {e : TypeId} : ∀ {ds : List (DataW H)}, (DataW.weightsAll P e ds).all (· ≤ reachBytes) = true → ∀ d ∈ ds, (d.weights P e).all (· ≤ reachBytes) = true
  | [], _, d, hd => by simp at hd
  | x :: ds, h, d, hd => by
    simp only [DataW.weightsAll, List.all_append, Bool.and_eq_true] at h
    rcases List.mem_cons.1 hd with rfl | hd
    · exact h.1
    · exact weightsAll_mem h.2 d hd

theorem choose_list {α : Type} {H : Type} {f : DataW H → LV} {enc : α → LV} {ok : α → Prop} : ∀ {ds : List (DataW H)}, (∀ d ∈ ds, ∃ a, f d = enc a ∧ ok a) → ∃ l : List α, ds.map f = l.map enc ∧ (∀ x ∈ l, ok x) ∧ l.length = ds.length
  | [], _ => ⟨[], rfl, by simp, rfl⟩
  | d :: ds, h => by
    obtain ⟨a, h1, h2⟩ := h d List.mem_cons_self
    obtain ⟨l, k1, k2, k3⟩ := choose_list fun x hx => h x (List.mem_cons_of_mem _ hx)
    refine ⟨a :: l, by rw [List.map_cons, List.map_cons, h1, k1], fun x hx => ?_, by simp [k3]⟩
    rcases List.mem_cons.1 hx with rfl | hx
    · exact h2
    · exact k2 x hx

theorem Rep.slice {t e : TypeId} (ht : P.underlying t = some (.slice e)) {α : Type} {enc : α → LV} {ok : α → Prop} (r : Rep P e enc ok) :
    Rep P t (fun l : List α => .slice (l.map enc)) (fun l => (∀ x ∈ l, ok x) ∧ l.length * P.bytesOf e ≤ reachBytes) where
  get := fun h hw => by
    rcases DataW.trod_slice ht h with ⟨_, rfl⟩ | ⟨a, len, cap, elems, rest, n, _, _, rfl, _, _, _, hlen, hel, _⟩
    · exact ⟨[], rfl, by simp, by simp⟩
    · simp only [DataW.weights, ht, List.all_cons, List.all_append, Bool.and_eq_true, decide_eq_true_eq] at hw
      obtain ⟨hw1, hw2, _⟩ := hw
      obtain ⟨l, k1, k2, k3⟩ := choose_list (f := lvOf) (enc := enc) (ok := ok) (ds := elems.map (·.1)) (fun d hd => by
        obtain ⟨y, hy, rfl⟩ := List.mem_map.1 hd
        obtain ⟨i, hi⟩ := List.mem_iff_getElem?.1 hy
        have hil : i < len := by rw [← hlen]; exact (List.getElem?_eq_some_iff.1 hi).1
        have h2 := hel i hil
        rw [hi] at h2
        obtain ⟨cs', _, htr⟩ := Option.bind_eq_some_iff.1 h2
        exact r.get htr (weightsAll_mem hw2 _ hd))
      refine ⟨l, by simp only [lvOf, lvOfL_map]; rw [k1], k2, ?_⟩
      rw [k3]
      refine Nat.le_trans (Nat.mul_le_mul_right _ ?_) hw1
      omega

theorem RepEach.nil : RepEach P [] (fun _ : Unit => []) (fun _ => True) where
  get := fun h _ _ => by
    have := List.eq_nil_of_length_eq_zero h
    subst this
    exact ⟨(), rfl, trivial⟩
theorem RepEach.cons {t : TypeId} {ts : List TypeId} {α β : Type} {enc : α → LV} {ok : α → Prop} {encs : β → List LV} {oks : β → Prop} (r : Rep P t enc ok) (rs : RepEach P ts encs oks) :
    RepEach P (t :: ts) (fun p : α × β => enc p.1 :: encs p.2) (fun p => ok p.1 ∧ oks p.2) where
  get := fun {H e W base sp held ds} h hget hw => by
    cases ds with
    | nil => simp at h
    | cons d ds =>
      simp only [DataW.weightsEach, List.all_append, Bool.and_eq_true] at hw
      obtain ⟨fuel, cs, p, htr⟩ := hget 0 t d rfl rfl
      obtain ⟨a, h1, h2⟩ := r.get htr hw.1
      obtain ⟨b, h3, h4⟩ := rs.get (by simpa using h) (fun i t' d' ht' hd' => hget (i + 1) t' d' (by simpa using ht') (by simpa using hd')) hw.2
      exact ⟨(a, b), by rw [List.map_cons, h1, h3], h2, h4⟩
theorem Rep.struct {t : TypeId} {fs : Array Field} (ht : P.underlying t = some (.struct fs)) {α : Type} {encs : α → List LV} {oks : α → Prop} (rs : RepEach P (fs.toList.map (·.type)) encs oks) :
    Rep P t (fun a => .agg ((encs a).flatMap LV.cells)) oks where
  get := fun {H e W base sp held fuel cs x} h hw => by
    obtain ⟨xs, n, _, rfl, _, hl, hf⟩ := DataW.trod_struct ht h
    simp only [DataW.weights, ht] at hw
    obtain ⟨a, h1, h2⟩ := rs.get (e := e) (W := W) (base := base) (sp := sp) (held := held) (ds := xs.map (·.1)) (by simp [hl]) (fun i t' d ht' hd => by
      rw [List.getElem?_map, Option.map_eq_some_iff] at ht' hd
      obtain ⟨f, hf', rfl⟩ := ht'
      obtain ⟨y, hy, rfl⟩ := hd
      have := hf i f (by simpa using hf')
      rw [hy] at this
      exact ⟨n, _, y.2, this⟩) hw
    exact ⟨a, by simp only [lvOf, cellsOfL_map]; rw [h1], h2⟩

/-! ### the row -/
theorem all_args {H : Type} {e : TypeId × Value → H} {W : World} {base b0 : Nat} {sp : Nat → Bool} {held : Bool} {r : Reach} {n : Nat} : ∀ {ts : List TypeId} {vs : List Value} {ds : List (DataW H)} {ps : List MemPlace}, ts.all (dataT P n) = true →
    DataW.TrodAll e P W base sp held ts vs ds ps → (∀ (j : Nat) t v, ts[j]? = some t → vs[j]? = some v → Value.okWide P W r b0 t v) →
    VsRel (gW W) (ds.map lvOf) vs ∧ ds.length = ts.length ∧ ∀ (i : Nat) (t : TypeId) (d : DataW H), ts[i]? = some t → ds[i]? = some d → ∃ fuel cs p, DataW.trod e P W base sp held fuel t cs = some (d, p)
  | [], vs, ds, ps, _, h, _ => by
    obtain ⟨rfl, rfl, _⟩ := trodAll_nil h
    simp [VsRel]
  | t :: ts, vs, ds, ps, hts, h, hv => by
    obtain ⟨v, vs', d, ds', p, q, rfl, rfl, rfl, h1, h2⟩ := trodAll_cons h
    simp only [List.all_cons, Bool.and_eq_true] at hts
    obtain ⟨k1, k2, k3⟩ := all_args hts.2 h2 (fun j t' v' ht' hv' => hv (j + 1) t' v' (by simpa using ht') (by simpa using hv'))
    obtain ⟨m1, _⟩ := arg_rel hts.1 (hv 0 t v rfl rfl) h1
    refine ⟨by simp only [List.map_cons, VsRel]; exact ⟨v, vs', rfl, m1, k1⟩, by simp [k2], fun i t' d' ht' hd' => ?_⟩
    cases i with
    | zero =>
      simp at ht' hd'
      subst ht' hd'
      obtain ⟨fuel, hf⟩ := h1
      exact ⟨fuel, _, p, hf⟩
    | succ i => exact k3 i t' d' (by simpa using ht') (by simpa using hd')

theorem args_stay {H : Type} {e : TypeId × Value → H} {W W' : World} (hl : laidOutB P = true) (hb : Below W.heap.size W W') : ∀ {ts : List TypeId} {vs : List Value} {ds : List (DataW H)} {ps : List MemPlace}, ts.all (fun t => P.readableRec t && decide (t < P.types.size)) = true →
    DataW.TrodAll e P W 0 (fun _ => true) true ts vs ds ps → DataW.TrodAll e P W' 0 (fun b => decide (b < W.heap.size)) true ts vs ds ps
  | [], vs, ds, ps, _, h => by
    obtain ⟨rfl, rfl, rfl⟩ := trodAll_nil h
    rfl
  | t :: ts, vs, ds, ps, hts, h => by
    obtain ⟨v, vs', d, ds', p, q, rfl, rfl, rfl, h1, h2⟩ := trodAll_cons h
    simp only [List.all_cons, Bool.and_eq_true, decide_eq_true_eq] at hts
    refine ⟨p, q, ?_, args_stay hl hb hts.2 h2, rfl⟩
    exact Below.trod hl hts.1.1 hts.1.2 h1 hb (by obtain ⟨m, hm⟩ := h1; exact DataW.trod_lt m _ _ _ hm)

theorem law_lifted {C : Checked} {Θ : Th} (hΘ : ThOK C.prog Θ) (own : ownKnob C.prog.godebug = none) {os : Os} (started : os.Started) {f : FuncId} {fn : Func} (hfn : C.prog.funcs[f]? = some fn) (noInit : C.prog.inits.idxOf? f = none)
    {s : ChangeSpec} {conds : List PathCond} (laid : laidOutB C.prog = true) {n : Nat} (hts : fn.params.toList.all (dataT C.prog n) = true) (hts' : fn.params.toList.all (fun t => C.prog.readableRec t && decide (t < C.prog.types.size)) = true)
    {bt : TypeId} (hres : fn.resultTypes = #[bt]) (hbt : C.prog.underlying bt = some .bool) (hvars : s.vars = []) (hvt : s.plain.varTypes C.prog = [])
    {H : Type} {enc : TypeId × Value → H} (hspec : ∀ (ds : List (DataW H)), ds.length = fn.params.size → s.fn H ds = { results := [.lit (.bool true)], args := ds })
    (witness : ∃ (w : World) (tape : Tape) (i : Input), w.os = os ∧ (w.forCall tape i).Shaped C.prog ∧ i.vars = [] ∧ Input.okWide C.prog (w.forCall tape i) .any w.heap.size f i ∧
      s.pre6 enc C.prog fn conds false (w.forCall tape i).memory i.args ∧ ({} : Assume).holds C.prog (lone (Frame.enter C.prog f i.args .normal) [] (w.forCall tape i)))
    {α : Type} {encs : α → List LV} {oks : α → Prop} (rep : RepEach C.prog fn.params.toList encs oks)
    (hrun : ∀ a, oks a → run C.prog Θ (.call f (encs a)) = some ⟨.normal, .sc (.bool true), default, {}⟩) :
    ReturnsInHanded {} C os f .any (s.pre6 enc C.prog fn conds false) (s.post enc C.prog fn false true false false) := by
  refine returnsInHanded_of_change_sized own started noInit hfn witness ?_
  intro W base args ds gs before hval hW _ hsz _
  have hW' := hW
  obtain ⟨p, q, hA, hV, rfl, _, _⟩ := hW
  rw [hvars] at hV
  obtain ⟨rfl, rfl⟩ := trodVars_none hV
  rw [hvt, List.append_nil, List.append_nil] at hsz
  obtain ⟨k1, k2, k3⟩ := all_args hts hA (fun j t v ht hv => hval j t v (by simpa using ht) (by simpa using hv))
  obtain ⟨a, h1, h2⟩ := rep.get k2 k3 hsz
  have hr := hrun a h2
  rw [← h1] at hr
  obtain ⟨_, hc⟩ := call_sound hΘ hr (gW_ok W) k1
  have hlen : ds.length = fn.params.size := by rw [k2]; simp
  refine (callsIn_wide.1 hc).mono fun e W' he => ?_
  obtain ⟨u, g', rfl, _, hsr, hu⟩ := he
  have hbel := hsr.below
  have hu' := VRel_bool hu
  subst hu'
  refine ⟨_, rfl, ds, [], p ++ [], [], p, [], hW', ?_, ?_, ?_, hbel.frame _, fun h => by cases h⟩
  · rw [hres, List.append_nil, hspec ds hlen]
    exact trodAll_mk1 (shut_bool hbt _)
  · rw [List.append_nil, hspec ds hlen]
    exact args_stay laid hbel hts' hA
  · rw [hvars, List.append_nil, hspec ds hlen]
    rfl

end
end Go.Proofs.YticpcfchhcjjeaaGreat.LI
