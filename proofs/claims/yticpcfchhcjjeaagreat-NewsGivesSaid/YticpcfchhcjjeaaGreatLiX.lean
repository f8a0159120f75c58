/-
  Functions of the library without a body, as the model answers them; the tables' conditions. No program is named here.
-/
import Derived.Test.YticpcfchhcjjeaaGreatLiQ
import Derived.Lib.Bytealg
import Derived.Lib.BytesEntry
import Derived.Laws.Externs
namespace Go.Proofs.YticpcfchhcjjeaaGreat.LI
open Go Go.RowKit

/-- The bytes of a string or of a slice of bytes. -/
def bytesL : LV → Option (List UInt8)
  | .sc (.string s) => some s.data.toList
  | .nils => some []
  | .slice es => allBytes es
  | _ => none
def indexByteL : List LV → Option LV
  | [b, .sc (.int .u8 c)] => (bytesL b).map fun l => .sc (.int .i64 (Lib.indexByte l c.toNat.toUInt8))
  | _ => none
def countL : List LV → Option LV
  | [b, .sc (.int .u8 c)] => (bytesL b).map fun l => .sc (.int .i64 (l.count c.toNat.toUInt8))
  | _ => none

section
variable {P : Program} {g : G} {w : World}

theorem bytesOf_rel (hf : FzOK g w) {b : LV} {v : Value} (hv : VRel g b v) {l : List UInt8} (hb : bytesL b = some l) : (Extern.Bytes.bytesOf v).run P w = .ok ⟨l.toArray⟩ w := by
  unfold bytesL at hb
  split at hb
  · rename_i s
    cases hb
    rw [VRel_str hv]
    have : (⟨s.data.toList.toArray⟩ : ByteArray) = s := by cases s; simp
    rw [this]
    rfl
  · cases hb
    simp only [VRel] at hv
    subst hv
    rfl
  · rename_i es
    obtain ⟨ns, rfl, rfl⟩ := allBytes_inv hb
    simp only [VRel] at hv
    obtain ⟨ao, cap, rfl, hle, hc⟩ := hv
    by_cases hne : ns = []
    · subst hne
      cases ao with
      | none => rfl
      | some a => rfl
    · rcases hc with hc | ⟨k, off, sz, h0, rfl, hes⟩
      · simp at hc; exact absurd hc hne
      · have hsz : sz = 1 := by
          cases ns with
          | nil => exact absurd rfl hne
          | cons n ns =>
            simp only [List.map_cons, EsRel] at hes
            obtain ⟨⟨u, u1, u2, u3, _⟩, _⟩ := hes
            rw [VRel_int u1] at u3
            simpa [Value.cells] using u3.symm
        subst hsz
        have hcell : ∀ (j : Nat) (x : Int), ns[j]? = some x → w.cell? ((⟨k, off, none⟩ : Addr).add j) = some (.int .u8 x) := fun j x hj => by
          rw [addr_add]
          have hjl := (List.getElem?_eq_some_iff.1 hj).1
          have h9 := EsRel_bytes hes j hjl
          have hx : ns.getD j 0 = x := by rw [List.getD_eq_getElem?_getD, hj]; rfl
          rw [hx] at h9
          exact lies_fz hf (us := (g.fz k).drop off) (rest := []) (by simp) j _ h9
        have := Lib.run_loadBytesX (P := P) w ns ⟨k, off, none⟩ .empty hcell
        simp only [List.length_map, Extern.Bytes.bytesOf]
        rw [this]
        congr 1
        apply ByteArray.ext
        simp [Lib.bytesOf]
  · cases hb

theorem ext_indexByte {f : FuncId} {fn : Func} (hfn : P.funcs[f]? = some fn) (hname : (fn.name == "runtime.NumGoroutine") = false) (hb : fn.body.isNone = true) (hn : Extern.findNext fn = none) (he : Extern.find fn = some Extern.BytealgIndexByte.indexByte) : ExtOK P f indexByteL where
  ok := fun args v g w vs hp hf hv => by
    unfold indexByteL at hp
    split at hp
    · rename_i b c
      obtain ⟨l, hl, rfl⟩ := Option.map_eq_some_iff.1 hp
      simp only [VsRel] at hv
      obtain ⟨vb, vs', hvs, h1, vc, vs2, rfl, h2, rfl⟩ := hv
      have hvs' := list2 hvs
      subst hvs'
      have hc := VRel_int (g := g) (k := .u8) (n := c) (v := vc) (by simpa [VRel] using h2)
      subst hc
      have e1 := run_callFunc_extern hfn hname hb hn he #[vb, .int .u8 c] w
      have e2 : (Extern.BytealgIndexByte.indexByte #[vb, .int .u8 c]).run P w = (Extern.BytealgIndexByte.indexByte #[.string ⟨l.toArray⟩, .int .u8 c]).run P w := by
        have gen : ∀ v, (Extern.BytealgIndexByte.indexByte #[v, .int .u8 c]).run P w = ((Extern.Bytes.bytesOf v).run P w).andThen fun b w' => (do
            let c ← Extern.Bytes.asByte (.int .u8 c)
            match (List.range b.size).find? fun i => b[i]! == c with
            | some i => pure (goInt i)
            | none => pure (goInt (-1)) : Sem Value).run P w' := fun v => Sem.run_bind ..
        rw [gen, gen, bytesOf_rel (P := P) hf h1 hl]
        rfl
      rw [e2, Lib.run_indexByteString] at e1
      exact ⟨_, e1, by simp [VRel, plainV]⟩
    · cases hp

theorem ext_count {f : FuncId} {fn : Func} (hfn : P.funcs[f]? = some fn) (hname : (fn.name == "runtime.NumGoroutine") = false) (hb : fn.body.isNone = true) (hn : Extern.findNext fn = none) (he : Extern.find fn = some Extern.BytealgCount.count) : ExtOK P f countL where
  ok := fun args v g w vs hp hf hv => by
    unfold countL at hp
    split at hp
    · rename_i b c
      obtain ⟨l, hl, rfl⟩ := Option.map_eq_some_iff.1 hp
      simp only [VsRel] at hv
      obtain ⟨vb, vs', hvs, h1, vc, vs2, rfl, h2, rfl⟩ := hv
      have hvs' := list2 hvs
      subst hvs'
      have hc := VRel_int (g := g) (k := .u8) (n := c) (v := vc) (by simpa [VRel] using h2)
      subst hc
      have e1 := run_callFunc_extern hfn hname hb hn he #[vb, .int .u8 c] w
      have e2 : (Extern.BytealgCount.count #[vb, .int .u8 c]).run P w = (Extern.BytealgCount.count #[.string ⟨l.toArray⟩, .int .u8 c]).run P w := by
        have gen : ∀ v, (Extern.BytealgCount.count #[v, .int .u8 c]).run P w = ((Extern.Bytes.bytesOf v).run P w).andThen fun b w' => (do
            let c ← Extern.Bytes.asByte (.int .u8 c)
            pure (goInt (b.foldl (fun n x => if x == c then n + 1 else n) (0 : Nat))) : Sem Value).run P w' := fun v => Sem.run_bind ..
        rw [gen, gen, bytesOf_rel (P := P) hf h1 hl]
        rfl
      rw [e2, Lib.run_countString] at e1
      exact ⟨_, e1, by simp [VRel, plainV, Lib.countByte]⟩
    · cases hp

/-- May the function be entered? -/
def entB (P : Program) (f : FuncId) : Bool := match P.funcs[f]? with
  | some fn => fn.body.isSome && fn.name != "runtime.NumGoroutine"
  | none => false
theorem ent_ok {f : FuncId} (h : entB P f = true) (args : Array Value) (w : World) : (callFunc f args).run P w = .ok (.enter f args) w := by
  unfold entB at h
  split at h
  · rename_i fn hfn
    simp only [Bool.and_eq_true, bne_iff_ne, ne_eq] at h
    have h3 : fn.body ≠ none := by
      intro hb
      rw [hb] at h
      simp at h
    simp [callFunc, hfn, h.2, h3]
  · cases h

theorem thOK {Θ : Th} (ord : P.follows .mixedOrders = true) {es : List FuncId} (he : ∀ f, Θ.ent f = true → f ∈ es) (hes : es.all (entB P) = true) (hp : ∀ f p, Θ.prim f = some p → PrimOK P f p) (hx : ∀ f p, Θ.ext f = some p → ExtOK P f p) (hs : ∀ f p, Θ.extS f = some p → ExtSOK P f p) : ThOK P Θ where
  ty := ⟨trivial⟩
  ord := ord
  ent := fun f h => ent_ok (List.all_eq_true.1 hes f (he f h))
  prim := hp
  ext := hx
  extS := hs

end
end Go.Proofs.YticpcfchhcjjeaaGreat.LI
