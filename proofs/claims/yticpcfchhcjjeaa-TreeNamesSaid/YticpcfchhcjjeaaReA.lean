/-
  From a law's function to its row: which data its arguments are.
-/
import Derived.Test.YticpcfchhcjjeaaPlM
import Derived.Test.YticpcfchhcjjeaaRows
import Derived.Test.YticpcfchhcjjeaaChecked
import Derived.ChangeOld
import Derived.ProofKit
import Derived.ShutString
namespace Go.Proofs.Yticpcfchhcjjeaa.LI
open Go Go.RowKit
open KV (toL)
open KV.toL (toLs)
set_option maxRecDepth 100000
theorem law_run {f : FuncId} {ash : List Shp} {F : dens ash Unit → Option (retS (.ty .bool) []).den} (h : FnOK Try.prog th f ash (.ty .bool) [] F) {x : dens ash Unit} (e : F x = some (true, ())) :
    run Try.prog th (.call f (toLs (encS.encSs [] ash _ x).1)) = some ⟨.normal, .sc (.bool true), default, {}⟩ := h x (true, ()) e
theorem repStrs : Rep Try.prog 32 (fun l : List ByteArray => .slice (l.map (encL .str))) (fun l => (∀ x ∈ l, x.size ≤ reachBytes) ∧ l.length * Try.prog.bytesOf 9 ≤ reachBytes) :=
  Rep.slice Try.underlying32 (Rep.str Try.underlying9)
theorem repFile : Rep Try.prog 41 (encL (.pair .str (.pair (.list .str) .unit))) (fun f : ByteArray × List ByteArray × Unit => f.1.size ≤ reachBytes ∧ ((∀ x ∈ f.2.1, x.size ≤ reachBytes) ∧ f.2.1.length * Try.prog.bytesOf 9 ≤ reachBytes) ∧ True) :=
  Rep.struct Try.underlying41 (RepEach.cons (Rep.str Try.underlying9) (RepEach.cons repStrs RepEach.nil))
theorem repTree : Rep Try.prog 23 (fun t : List (ByteArray × List ByteArray × Unit) => .slice (t.map (encL (.pair .str (.pair (.list .str) .unit))))) (fun t => (∀ f ∈ t, f.1.size ≤ reachBytes ∧ ((∀ x ∈ f.2.1, x.size ≤ reachBytes) ∧ f.2.1.length * Try.prog.bytesOf 9 ≤ reachBytes) ∧ True) ∧ t.length * Try.prog.bytesOf 41 ≤ reachBytes) :=
  Rep.slice Try.underlying23 repFile
theorem bytesS : Try.prog.bytesOf 9 = 16 := by kernel_rfl
theorem bytesF : Try.prog.bytesOf 41 = 40 := by kernel_rfl
theorem reach_eq : reachBytes ≤ 140737488355328 := by
  have := reachBytes_lt
  have h2 : (2 : Nat) ^ 47 = 140737488355328 := rfl
  omega
theorem okStrs {l : List ByteArray} (h : (∀ x ∈ l, x.size ≤ reachBytes) ∧ l.length * Try.prog.bytesOf 9 ≤ reachBytes) : Slim l ∧ l.length < 4611686018427387903 := by
  have hr := reach_eq
  rw [bytesS] at h
  exact ⟨fun s hs => by have := h.1 s hs; omega, by omega⟩
theorem okTree {t : Tree} (h : (∀ f ∈ t, f.1.size ≤ reachBytes ∧ ((∀ x ∈ f.2.1, x.size ≤ reachBytes) ∧ f.2.1.length * Try.prog.bytesOf 9 ≤ reachBytes) ∧ True) ∧ t.length * Try.prog.bytesOf 41 ≤ reachBytes) : SlimT t ∧ t.length < 4611686018427387903 := by
  have hr := reach_eq
  refine ⟨fun f hf => ?_, ?_⟩
  · obtain ⟨h1, h2, _⟩ := h.1 f hf
    obtain ⟨h3, h4⟩ := okStrs h2
    exact ⟨by omega, h3, h4⟩
  · have := h.2
    rw [bytesF] at this
    omega
end Go.Proofs.Yticpcfchhcjjeaa.LI
