/-
  No cell of these rows narrows 'for every input' (looked for: loops, veiled, ifaces, maps, wideKeys, modest, calm, conditions, laid).
  DERIVED. THE GIVEN ROWS OF THIS SEAT. 5 by the template 'for every input the law returns true; each argument reads behind the call as it read before'; 0 by the template 'total and deterministic' (their statements: YtecokfbldjekiaaTotals.lean).
  GIVEN WITH THE SEED: the statements are not yours to turn. If you find one false, say at which input.
  Laid BY PROGRAM, IN A SANDBOX (cutbox-rows.mjs): the forced cells as the released guide's own fill.sh prints them over the translation 8e440ddcd85635ac… (all of the seat's roots in one cut). By AI agents, Wed Nov 11 2026. No macro, syntax, notation, axiom, sorry.
-/
import Derived.Test.YtecokfbldjekiaaChecked
import GoSem.Claim
import GoSem.ClaimJoined
import GoSem.ClaimMapViews
import Derived.JoinedTies
import Derived.KernelRfl
namespace Go.Proofs.Ytecokfbldjekiaa
/- THE CELL 'sum', in the pinned program and in every row, IS THE sha256 OF THE DUMP (.gsa) THAT YtecokfbldjekiaaProg.lean LOADS. Nothing in Lean hashes anything: it is a label: what it is worth is what the hold of that sum in a sandbox is worth. -/
noncomputable def Try.pinned : Pinned := { name := "ytecokfbldjekiaa", sum := "8e440ddcd85635ac371f7cf401fe61d17fed794b0eca47da54c0013e4dc101f3", checked := Try.checked }
namespace Rows
def none {H : Type} : Left H := { results := [], args := [] }

/-- 'quiltmakerlaw01.TextJoins': WHATEVER THE INPUT: true; the input reads as it did. -/
def textJoinsSpec : ChangeSpec := { name := "textJoins", fn := fun _ => fun
  | [d1, d2] => { results := [.lit (.bool true)], args := [d1, d2] }
  | _ => none }
def textJoinsRow : OpenClaim := { program := "ytecokfbldjekiaa", sum := "8e440ddcd85635ac371f7cf401fe61d17fed794b0eca47da54c0013e4dc101f3", func := "quiltmaker/quiltmakerlaw01.TextJoins", spec := "textJoins", inPlace := ["internal/bytealg.Count", "internal/bytealg.IndexByte", "internal/bytealg.Index", "internal/bytealg.IndexByteString"], unfollowed := true, recurses := true, named := ["internal/bytealg.MaxLen"], apart := false }
def TextJoinsSaid : Prop := textJoinsRow.holds Try.pinned (OpenSpec.ofChange textJoinsSpec)

/-- ITS FALSE NEIGHBOUR: 'it returns false'. Refute it at one input. -/
def textJoinsWrong : ChangeSpec := { name := "textJoins", fn := fun _ => fun
  | [d1, d2] => { results := [.lit (.bool false)], args := [d1, d2] }
  | _ => none }
def TextJoinsWrongFalsely : Prop := textJoinsRow.holds Try.pinned (OpenSpec.ofChange textJoinsWrong)

/-- 'quiltmakerlaw01.TextNames': WHATEVER THE INPUT: true; the input reads as it did. -/
def textNamesSpec : ChangeSpec := { name := "textNames", fn := fun _ => fun
  | [d] => { results := [.lit (.bool true)], args := [d] }
  | _ => none }
def textNamesRow : OpenClaim := { program := "ytecokfbldjekiaa", sum := "8e440ddcd85635ac371f7cf401fe61d17fed794b0eca47da54c0013e4dc101f3", func := "quiltmaker/quiltmakerlaw01.TextNames", spec := "textNames", inPlace := ["internal/bytealg.Count", "internal/bytealg.IndexByte", "internal/bytealg.Index", "internal/bytealg.IndexByteString"], unfollowed := true, recurses := true, named := ["internal/bytealg.MaxLen"], apart := false }
def TextNamesSaid : Prop := textNamesRow.holds Try.pinned (OpenSpec.ofChange textNamesSpec)

/-- ITS FALSE NEIGHBOUR: 'it returns false'. Refute it at one input. -/
def textNamesWrong : ChangeSpec := { name := "textNames", fn := fun _ => fun
  | [d] => { results := [.lit (.bool false)], args := [d] }
  | _ => none }
def TextNamesWrongFalsely : Prop := textNamesRow.holds Try.pinned (OpenSpec.ofChange textNamesWrong)

/-- 'quiltmakerlaw01.TextMay': WHATEVER THE INPUT: true; the input reads as it did. -/
def textMaySpec : ChangeSpec := { name := "textMay", fn := fun _ => fun
  | [d] => { results := [.lit (.bool true)], args := [d] }
  | _ => none }
def textMayRow : OpenClaim := { program := "ytecokfbldjekiaa", sum := "8e440ddcd85635ac371f7cf401fe61d17fed794b0eca47da54c0013e4dc101f3", func := "quiltmaker/quiltmakerlaw01.TextMay", spec := "textMay", inPlace := ["internal/bytealg.Count", "internal/bytealg.IndexByte", "internal/bytealg.Index", "internal/bytealg.IndexByteString"], unfollowed := true, recurses := true, named := ["internal/bytealg.MaxLen"], apart := false }
def TextMaySaid : Prop := textMayRow.holds Try.pinned (OpenSpec.ofChange textMaySpec)

/-- ITS FALSE NEIGHBOUR: 'it returns false'. Refute it at one input. -/
def textMayWrong : ChangeSpec := { name := "textMay", fn := fun _ => fun
  | [d] => { results := [.lit (.bool false)], args := [d] }
  | _ => none }
def TextMayWrongFalsely : Prop := textMayRow.holds Try.pinned (OpenSpec.ofChange textMayWrong)

/-- 'quiltmakerlaw01.TextTells': WHATEVER THE INPUT: true; the input reads as it did. -/
def textTellsSpec : ChangeSpec := { name := "textTells", fn := fun _ => fun
  | [d1, d2, d3] => { results := [.lit (.bool true)], args := [d1, d2, d3] }
  | _ => none }
def textTellsRow : OpenClaim := { program := "ytecokfbldjekiaa", sum := "8e440ddcd85635ac371f7cf401fe61d17fed794b0eca47da54c0013e4dc101f3", func := "quiltmaker/quiltmakerlaw01.TextTells", spec := "textTells", inPlace := ["internal/bytealg.Count", "internal/bytealg.IndexByte", "internal/bytealg.Index", "internal/bytealg.IndexByteString"], unfollowed := true, recurses := true, named := ["internal/bytealg.MaxLen"], apart := false }
def TextTellsSaid : Prop := textTellsRow.holds Try.pinned (OpenSpec.ofChange textTellsSpec)

/-- ITS FALSE NEIGHBOUR: 'it returns false'. Refute it at one input. -/
def textTellsWrong : ChangeSpec := { name := "textTells", fn := fun _ => fun
  | [d1, d2, d3] => { results := [.lit (.bool false)], args := [d1, d2, d3] }
  | _ => none }
def TextTellsWrongFalsely : Prop := textTellsRow.holds Try.pinned (OpenSpec.ofChange textTellsWrong)

/-- 'quiltmakerlaw01.TextBack': WHATEVER THE INPUT: true; the input reads as it did. -/
def textBackSpec : ChangeSpec := { name := "textBack", fn := fun _ => fun
  | [d1, d2] => { results := [.lit (.bool true)], args := [d1, d2] }
  | _ => none }
def textBackRow : OpenClaim := { program := "ytecokfbldjekiaa", sum := "8e440ddcd85635ac371f7cf401fe61d17fed794b0eca47da54c0013e4dc101f3", func := "quiltmaker/quiltmakerlaw01.TextBack", spec := "textBack", inPlace := ["internal/bytealg.Count", "internal/bytealg.IndexByte", "internal/bytealg.Index", "internal/bytealg.IndexByteString"], unfollowed := true, recurses := true, named := ["internal/bytealg.MaxLen"], apart := false }
def TextBackSaid : Prop := textBackRow.holds Try.pinned (OpenSpec.ofChange textBackSpec)

/-- ITS FALSE NEIGHBOUR: 'it returns false'. Refute it at one input. -/
def textBackWrong : ChangeSpec := { name := "textBack", fn := fun _ => fun
  | [d1, d2] => { results := [.lit (.bool false)], args := [d1, d2] }
  | _ => none }
def TextBackWrongFalsely : Prop := textBackRow.holds Try.pinned (OpenSpec.ofChange textBackWrong)

/- THE SECOND FORM. 'bulk': how many values and letters a reading holds, each counted each time it is reached (what is shared counts as often as it is met; a slice's spare places count too). A statement '..UptoSaid' is the law's where the arguments, and the package variables that the reading takes, are together of bulk at most 1048576: NARROWER than '..Said'. Prove '..Said' where nothing that the law and all that it calls make is longer than what came in: it says more and counts as full. Else prove '..UptoSaid'. A law counts once. -/
mutual
def uptoBulk {H : Type} : DataW H → Nat
  | .lit (.string bytes) => bytes.length + 1
  | .lit _ => 1
  | .nil => 1
  | .ptr d => uptoBulk d + 1
  | .slice elems spare => uptoBulkAll elems + uptoBulkAll spare + 1
  | .agg parts => uptoBulkAll parts + 1
  | .iface _ d => uptoBulk d + 1
  | .map entries => uptoBulkEntries entries + 1
  | .held _ => 1
def uptoBulkAll {H : Type} : List (DataW H) → Nat
  | [] => 0
  | d :: r => uptoBulk d + uptoBulkAll r
def uptoBulkEntries {H : Type} : List (Lit × DataW H) → Nat
  | [] => 0
  | x :: r => uptoBulkEntry x + uptoBulkEntries r
def uptoBulkEntry {H : Type} : Lit × DataW H → Nat
  | (.string bytes, d) => bytes.length + uptoBulk d + 1
  | (_, d) => uptoBulk d + 1
 end
def uptoSmall : (H : Type) → List (DataW H) → Bool := fun _ ds => decide (uptoBulkAll ds ≤ 1048576)
def OpenSpec.upto (s : _root_.Go.ChangeSpec) : _root_.Go.OpenSpec := { _root_.Go.OpenSpec.ofChange s with cond := some uptoSmall }

/-- 'quiltmakerlaw01.TextJoins', WHERE WHAT IT READS IS OF BULK AT MOST 1048576: true; the input reads as it did. -/
def textJoinsUptoRow : OpenClaim := { program := "ytecokfbldjekiaa", sum := "8e440ddcd85635ac371f7cf401fe61d17fed794b0eca47da54c0013e4dc101f3", func := "quiltmaker/quiltmakerlaw01.TextJoins", spec := "textJoins", inPlace := ["internal/bytealg.Count", "internal/bytealg.IndexByte", "internal/bytealg.Index", "internal/bytealg.IndexByteString"], unfollowed := true, recurses := true, named := ["internal/bytealg.MaxLen"], apart := false, narrowed := true }
def TextJoinsUptoSaid : Prop := textJoinsUptoRow.holds Try.pinned (OpenSpec.upto textJoinsSpec)

/-- 'quiltmakerlaw01.TextNames', WHERE WHAT IT READS IS OF BULK AT MOST 1048576: true; the input reads as it did. -/
def textNamesUptoRow : OpenClaim := { program := "ytecokfbldjekiaa", sum := "8e440ddcd85635ac371f7cf401fe61d17fed794b0eca47da54c0013e4dc101f3", func := "quiltmaker/quiltmakerlaw01.TextNames", spec := "textNames", inPlace := ["internal/bytealg.Count", "internal/bytealg.IndexByte", "internal/bytealg.Index", "internal/bytealg.IndexByteString"], unfollowed := true, recurses := true, named := ["internal/bytealg.MaxLen"], apart := false, narrowed := true }
def TextNamesUptoSaid : Prop := textNamesUptoRow.holds Try.pinned (OpenSpec.upto textNamesSpec)

/-- 'quiltmakerlaw01.TextMay', WHERE WHAT IT READS IS OF BULK AT MOST 1048576: true; the input reads as it did. -/
def textMayUptoRow : OpenClaim := { program := "ytecokfbldjekiaa", sum := "8e440ddcd85635ac371f7cf401fe61d17fed794b0eca47da54c0013e4dc101f3", func := "quiltmaker/quiltmakerlaw01.TextMay", spec := "textMay", inPlace := ["internal/bytealg.Count", "internal/bytealg.IndexByte", "internal/bytealg.Index", "internal/bytealg.IndexByteString"], unfollowed := true, recurses := true, named := ["internal/bytealg.MaxLen"], apart := false, narrowed := true }
def TextMayUptoSaid : Prop := textMayUptoRow.holds Try.pinned (OpenSpec.upto textMaySpec)

/-- 'quiltmakerlaw01.TextTells', WHERE WHAT IT READS IS OF BULK AT MOST 1048576: true; the input reads as it did. -/
def textTellsUptoRow : OpenClaim := { program := "ytecokfbldjekiaa", sum := "8e440ddcd85635ac371f7cf401fe61d17fed794b0eca47da54c0013e4dc101f3", func := "quiltmaker/quiltmakerlaw01.TextTells", spec := "textTells", inPlace := ["internal/bytealg.Count", "internal/bytealg.IndexByte", "internal/bytealg.Index", "internal/bytealg.IndexByteString"], unfollowed := true, recurses := true, named := ["internal/bytealg.MaxLen"], apart := false, narrowed := true }
def TextTellsUptoSaid : Prop := textTellsUptoRow.holds Try.pinned (OpenSpec.upto textTellsSpec)

/-- 'quiltmakerlaw01.TextBack', WHERE WHAT IT READS IS OF BULK AT MOST 1048576: true; the input reads as it did. -/
def textBackUptoRow : OpenClaim := { program := "ytecokfbldjekiaa", sum := "8e440ddcd85635ac371f7cf401fe61d17fed794b0eca47da54c0013e4dc101f3", func := "quiltmaker/quiltmakerlaw01.TextBack", spec := "textBack", inPlace := ["internal/bytealg.Count", "internal/bytealg.IndexByte", "internal/bytealg.Index", "internal/bytealg.IndexByteString"], unfollowed := true, recurses := true, named := ["internal/bytealg.MaxLen"], apart := false, narrowed := true }
def TextBackUptoSaid : Prop := textBackUptoRow.holds Try.pinned (OpenSpec.upto textBackSpec)

end Rows
end Go.Proofs.Ytecokfbldjekiaa
