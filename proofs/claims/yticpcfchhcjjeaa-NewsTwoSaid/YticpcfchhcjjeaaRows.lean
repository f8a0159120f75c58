/-
  No cell of these rows narrows 'for every input' (looked for: loops, veiled, ifaces, maps, wideKeys, modest, calm, conditions, laid).
  DERIVED. THE GIVEN ROWS OF THIS SEAT. 11 by the template 'for every input the law returns true; each argument reads behind the call as it read before'; 0 by the template 'total and deterministic' (their statements: YticpcfchhcjjeaaTotals.lean).
  GIVEN WITH THE SEED: the statements are not yours to turn. If you find one false, say at which input.
  Laid BY PROGRAM, IN A SANDBOX (cutbox-rows.mjs): the forced cells as the released guide's own fill.sh prints them over the translation a15e1910cdd0f94a… (all of the seat's roots in one cut). By AI agents, Wed Nov 11 2026. No macro, syntax, notation, axiom, sorry.
-/
import Derived.Test.YticpcfchhcjjeaaChecked
import GoSem.Claim
import GoSem.ClaimJoined
import GoSem.ClaimMapViews
import Derived.JoinedTies
import Derived.KernelRfl
namespace Go.Proofs.Yticpcfchhcjjeaa
/- THE CELL 'sum', in the pinned program and in every row, IS THE sha256 OF THE DUMP (.gsa) THAT YticpcfchhcjjeaaProg.lean LOADS. Nothing in Lean hashes anything: it is a label: what it is worth is what the hold of that sum in a sandbox is worth. -/
noncomputable def Try.pinned : Pinned := { name := "yticpcfchhcjjeaa", sum := "a15e1910cdd0f94a92e93a13517ee27b7c7cdfebb29754cf8243d9552794ea09", checked := Try.checked }
namespace Rows
def none {H : Type} : Left H := { results := [], args := [] }

/-- 'quiltmakerlaw13.NewsTells': WHATEVER THE INPUT: true; the input reads as it did. -/
def newsTellsSpec : ChangeSpec := { name := "newsTells", fn := fun _ => fun
  | [d1, d2] => { results := [.lit (.bool true)], args := [d1, d2] }
  | _ => none }
def newsTellsRow : OpenClaim := { program := "yticpcfchhcjjeaa", sum := "a15e1910cdd0f94a92e93a13517ee27b7c7cdfebb29754cf8243d9552794ea09", func := "quiltmaker/quiltmakerlaw13.NewsTells", spec := "newsTells", inPlace := ["internal/bytealg.IndexByteString"], unfollowed := true, recurses := true, apart := false }
def NewsTellsSaid : Prop := newsTellsRow.holds Try.pinned (OpenSpec.ofChange newsTellsSpec)

/-- ITS FALSE NEIGHBOUR: 'it returns false'. Refute it at one input. -/
def newsTellsWrong : ChangeSpec := { name := "newsTells", fn := fun _ => fun
  | [d1, d2] => { results := [.lit (.bool false)], args := [d1, d2] }
  | _ => none }
def NewsTellsWrongFalsely : Prop := newsTellsRow.holds Try.pinned (OpenSpec.ofChange newsTellsWrong)

/-- 'quiltmakerlaw13.NewsCost': WHATEVER THE INPUT: true; the input reads as it did. -/
def newsCostSpec : ChangeSpec := { name := "newsCost", fn := fun _ => fun
  | [d1, d2] => { results := [.lit (.bool true)], args := [d1, d2] }
  | _ => none }
def newsCostRow : OpenClaim := { program := "yticpcfchhcjjeaa", sum := "a15e1910cdd0f94a92e93a13517ee27b7c7cdfebb29754cf8243d9552794ea09", func := "quiltmaker/quiltmakerlaw13.NewsCost", spec := "newsCost", inPlace := ["internal/bytealg.IndexByteString"], unfollowed := true, recurses := true, apart := false }
def NewsCostSaid : Prop := newsCostRow.holds Try.pinned (OpenSpec.ofChange newsCostSpec)

/-- ITS FALSE NEIGHBOUR: 'it returns false'. Refute it at one input. -/
def newsCostWrong : ChangeSpec := { name := "newsCost", fn := fun _ => fun
  | [d1, d2] => { results := [.lit (.bool false)], args := [d1, d2] }
  | _ => none }
def NewsCostWrongFalsely : Prop := newsCostRow.holds Try.pinned (OpenSpec.ofChange newsCostWrong)

/-- 'quiltmakerlaw07.TreeNames': WHATEVER THE INPUT: true; the input reads as it did. -/
def treeNamesSpec : ChangeSpec := { name := "treeNames", fn := fun _ => fun
  | [d1, d2] => { results := [.lit (.bool true)], args := [d1, d2] }
  | _ => none }
def treeNamesRow : OpenClaim := { program := "yticpcfchhcjjeaa", sum := "a15e1910cdd0f94a92e93a13517ee27b7c7cdfebb29754cf8243d9552794ea09", func := "quiltmaker/quiltmakerlaw07.TreeNames", spec := "treeNames", inPlace := ["slices.overlaps[quiltmaker/api.File]", "internal/bytealg.IndexByteString"], unfollowed := true, recurses := true, apart := false }
def TreeNamesSaid : Prop := treeNamesRow.holds Try.pinned (OpenSpec.ofChange treeNamesSpec)

/-- ITS FALSE NEIGHBOUR: 'it returns false'. Refute it at one input. -/
def treeNamesWrong : ChangeSpec := { name := "treeNames", fn := fun _ => fun
  | [d1, d2] => { results := [.lit (.bool false)], args := [d1, d2] }
  | _ => none }
def TreeNamesWrongFalsely : Prop := treeNamesRow.holds Try.pinned (OpenSpec.ofChange treeNamesWrong)

/-- 'quiltmakerlaw07.TreeEqual': WHATEVER THE INPUT: true; the input reads as it did. -/
def treeEqualSpec : ChangeSpec := { name := "treeEqual", fn := fun _ => fun
  | [d1, d2, d3, d4] => { results := [.lit (.bool true)], args := [d1, d2, d3, d4] }
  | _ => none }
def treeEqualRow : OpenClaim := { program := "yticpcfchhcjjeaa", sum := "a15e1910cdd0f94a92e93a13517ee27b7c7cdfebb29754cf8243d9552794ea09", func := "quiltmaker/quiltmakerlaw07.TreeEqual", spec := "treeEqual", inPlace := ["slices.overlaps[quiltmaker/api.File]", "internal/bytealg.IndexByteString"], unfollowed := true, recurses := true, apart := false }
def TreeEqualSaid : Prop := treeEqualRow.holds Try.pinned (OpenSpec.ofChange treeEqualSpec)

/-- ITS FALSE NEIGHBOUR: 'it returns false'. Refute it at one input. -/
def treeEqualWrong : ChangeSpec := { name := "treeEqual", fn := fun _ => fun
  | [d1, d2, d3, d4] => { results := [.lit (.bool false)], args := [d1, d2, d3, d4] }
  | _ => none }
def TreeEqualWrongFalsely : Prop := treeEqualRow.holds Try.pinned (OpenSpec.ofChange treeEqualWrong)

/-- 'quiltmakerlaw07.TreeTells': WHATEVER THE INPUT: true; the input reads as it did. -/
def treeTellsSpec : ChangeSpec := { name := "treeTells", fn := fun _ => fun
  | [d1, d2, d3, d4] => { results := [.lit (.bool true)], args := [d1, d2, d3, d4] }
  | _ => none }
def treeTellsRow : OpenClaim := { program := "yticpcfchhcjjeaa", sum := "a15e1910cdd0f94a92e93a13517ee27b7c7cdfebb29754cf8243d9552794ea09", func := "quiltmaker/quiltmakerlaw07.TreeTells", spec := "treeTells", inPlace := ["slices.overlaps[quiltmaker/api.File]", "internal/bytealg.IndexByteString"], unfollowed := true, recurses := true, apart := false }
def TreeTellsSaid : Prop := treeTellsRow.holds Try.pinned (OpenSpec.ofChange treeTellsSpec)

/-- ITS FALSE NEIGHBOUR: 'it returns false'. Refute it at one input. -/
def treeTellsWrong : ChangeSpec := { name := "treeTells", fn := fun _ => fun
  | [d1, d2, d3, d4] => { results := [.lit (.bool false)], args := [d1, d2, d3, d4] }
  | _ => none }
def TreeTellsWrongFalsely : Prop := treeTellsRow.holds Try.pinned (OpenSpec.ofChange treeTellsWrong)

/-- 'quiltmakerlaw07.TreeKeeps': WHATEVER THE INPUT: true; the input reads as it did. -/
def treeKeepsSpec : ChangeSpec := { name := "treeKeeps", fn := fun _ => fun
  | [d1, d2, d3, d4] => { results := [.lit (.bool true)], args := [d1, d2, d3, d4] }
  | _ => none }
def treeKeepsRow : OpenClaim := { program := "yticpcfchhcjjeaa", sum := "a15e1910cdd0f94a92e93a13517ee27b7c7cdfebb29754cf8243d9552794ea09", func := "quiltmaker/quiltmakerlaw07.TreeKeeps", spec := "treeKeeps", inPlace := ["slices.overlaps[quiltmaker/api.File]", "internal/bytealg.IndexByteString"], unfollowed := true, recurses := true, apart := false }
def TreeKeepsSaid : Prop := treeKeepsRow.holds Try.pinned (OpenSpec.ofChange treeKeepsSpec)

/-- ITS FALSE NEIGHBOUR: 'it returns false'. Refute it at one input. -/
def treeKeepsWrong : ChangeSpec := { name := "treeKeeps", fn := fun _ => fun
  | [d1, d2, d3, d4] => { results := [.lit (.bool false)], args := [d1, d2, d3, d4] }
  | _ => none }
def TreeKeepsWrongFalsely : Prop := treeKeepsRow.holds Try.pinned (OpenSpec.ofChange treeKeepsWrong)

/-- 'quiltmakerlaw07.TreeStays': WHATEVER THE INPUT: true; the input reads as it did. -/
def treeStaysSpec : ChangeSpec := { name := "treeStays", fn := fun _ => fun
  | [d1, d2, d3] => { results := [.lit (.bool true)], args := [d1, d2, d3] }
  | _ => none }
def treeStaysRow : OpenClaim := { program := "yticpcfchhcjjeaa", sum := "a15e1910cdd0f94a92e93a13517ee27b7c7cdfebb29754cf8243d9552794ea09", func := "quiltmaker/quiltmakerlaw07.TreeStays", spec := "treeStays", inPlace := ["slices.overlaps[quiltmaker/api.File]", "internal/bytealg.IndexByteString"], unfollowed := true, recurses := true, apart := false }
def TreeStaysSaid : Prop := treeStaysRow.holds Try.pinned (OpenSpec.ofChange treeStaysSpec)

/-- ITS FALSE NEIGHBOUR: 'it returns false'. Refute it at one input. -/
def treeStaysWrong : ChangeSpec := { name := "treeStays", fn := fun _ => fun
  | [d1, d2, d3] => { results := [.lit (.bool false)], args := [d1, d2, d3] }
  | _ => none }
def TreeStaysWrongFalsely : Prop := treeStaysRow.holds Try.pinned (OpenSpec.ofChange treeStaysWrong)

/-- 'quiltmakerlaw07.TreeOrder': WHATEVER THE INPUT: true; the input reads as it did. -/
def treeOrderSpec : ChangeSpec := { name := "treeOrder", fn := fun _ => fun
  | [d1, d2, d3, d4, d5] => { results := [.lit (.bool true)], args := [d1, d2, d3, d4, d5] }
  | _ => none }
def treeOrderRow : OpenClaim := { program := "yticpcfchhcjjeaa", sum := "a15e1910cdd0f94a92e93a13517ee27b7c7cdfebb29754cf8243d9552794ea09", func := "quiltmaker/quiltmakerlaw07.TreeOrder", spec := "treeOrder", inPlace := ["slices.overlaps[quiltmaker/api.File]", "internal/bytealg.IndexByteString"], unfollowed := true, recurses := true, apart := false }
def TreeOrderSaid : Prop := treeOrderRow.holds Try.pinned (OpenSpec.ofChange treeOrderSpec)

/-- ITS FALSE NEIGHBOUR: 'it returns false'. Refute it at one input. -/
def treeOrderWrong : ChangeSpec := { name := "treeOrder", fn := fun _ => fun
  | [d1, d2, d3, d4, d5] => { results := [.lit (.bool false)], args := [d1, d2, d3, d4, d5] }
  | _ => none }
def TreeOrderWrongFalsely : Prop := treeOrderRow.holds Try.pinned (OpenSpec.ofChange treeOrderWrong)

/-- 'quiltmakerlaw13.NewsTight': WHATEVER THE INPUT: true; the input reads as it did. -/
def newsTightSpec : ChangeSpec := { name := "newsTight", fn := fun _ => fun
  | [d1, d2] => { results := [.lit (.bool true)], args := [d1, d2] }
  | _ => none }
def newsTightRow : OpenClaim := { program := "yticpcfchhcjjeaa", sum := "a15e1910cdd0f94a92e93a13517ee27b7c7cdfebb29754cf8243d9552794ea09", func := "quiltmaker/quiltmakerlaw13.NewsTight", spec := "newsTight", inPlace := ["internal/bytealg.IndexByteString"], unfollowed := true, recurses := true, apart := false }
def NewsTightSaid : Prop := newsTightRow.holds Try.pinned (OpenSpec.ofChange newsTightSpec)

/-- ITS FALSE NEIGHBOUR: 'it returns false'. Refute it at one input. -/
def newsTightWrong : ChangeSpec := { name := "newsTight", fn := fun _ => fun
  | [d1, d2] => { results := [.lit (.bool false)], args := [d1, d2] }
  | _ => none }
def NewsTightWrongFalsely : Prop := newsTightRow.holds Try.pinned (OpenSpec.ofChange newsTightWrong)

/-- 'quiltmakerlaw13.NewsFiles': WHATEVER THE INPUT: true; the input reads as it did. -/
def newsFilesSpec : ChangeSpec := { name := "newsFiles", fn := fun _ => fun
  | [d1, d2] => { results := [.lit (.bool true)], args := [d1, d2] }
  | _ => none }
def newsFilesRow : OpenClaim := { program := "yticpcfchhcjjeaa", sum := "a15e1910cdd0f94a92e93a13517ee27b7c7cdfebb29754cf8243d9552794ea09", func := "quiltmaker/quiltmakerlaw13.NewsFiles", spec := "newsFiles", inPlace := ["internal/bytealg.IndexByteString", "slices.overlaps[quiltmaker/api.File]"], unfollowed := true, recurses := true, apart := false }
def NewsFilesSaid : Prop := newsFilesRow.holds Try.pinned (OpenSpec.ofChange newsFilesSpec)

/-- ITS FALSE NEIGHBOUR: 'it returns false'. Refute it at one input. -/
def newsFilesWrong : ChangeSpec := { name := "newsFiles", fn := fun _ => fun
  | [d1, d2] => { results := [.lit (.bool false)], args := [d1, d2] }
  | _ => none }
def NewsFilesWrongFalsely : Prop := newsFilesRow.holds Try.pinned (OpenSpec.ofChange newsFilesWrong)

/-- 'quiltmakerlaw13.NewsTwo': WHATEVER THE INPUT: true; the input reads as it did. -/
def newsTwoSpec : ChangeSpec := { name := "newsTwo", fn := fun _ => fun
  | [d1, d2, d3] => { results := [.lit (.bool true)], args := [d1, d2, d3] }
  | _ => none }
def newsTwoRow : OpenClaim := { program := "yticpcfchhcjjeaa", sum := "a15e1910cdd0f94a92e93a13517ee27b7c7cdfebb29754cf8243d9552794ea09", func := "quiltmaker/quiltmakerlaw13.NewsTwo", spec := "newsTwo", inPlace := ["internal/bytealg.IndexByteString", "slices.overlaps[quiltmaker/api.File]"], unfollowed := true, recurses := true, apart := false }
def NewsTwoSaid : Prop := newsTwoRow.holds Try.pinned (OpenSpec.ofChange newsTwoSpec)

/-- ITS FALSE NEIGHBOUR: 'it returns false'. Refute it at one input. -/
def newsTwoWrong : ChangeSpec := { name := "newsTwo", fn := fun _ => fun
  | [d1, d2, d3] => { results := [.lit (.bool false)], args := [d1, d2, d3] }
  | _ => none }
def NewsTwoWrongFalsely : Prop := newsTwoRow.holds Try.pinned (OpenSpec.ofChange newsTwoWrong)

/- THE SECOND FORM. 'bulk': how many values and letters a reading holds, each counted each time it is reached (what is shared counts as often as it is met; a slice's spare places count too). A statement '..UptoSaid' is the law's where the arguments, and the package variables that the reading takes, are together of bulk at most 1048576: NARROWER than '..Said'. Prove '..Said' where nothing that the law and all that it calls make is longer than what came in: it says more and counts as full. Else prove '..UptoSaid'. A law counts once. -/
mutual
def uptoBulk {H : Type} : DataW H → Nat
  | .lit (.string bytes) => bytes.length + 1
  | .lit _ => 1
  | .nil => 1
  | .ptr d => uptoBulk d + 1
  | .slice elems spare => uptoBulkAll elems + uptoBulkAll spare + 1
  | .agg parts => uptoBulkAll parts + 1
  | .iface _ d => uptoBulk d + 1
  | .map entries => uptoBulkEntries entries + 1
  | .held _ => 1
def uptoBulkAll {H : Type} : List (DataW H) → Nat
  | [] => 0
  | d :: r => uptoBulk d + uptoBulkAll r
def uptoBulkEntries {H : Type} : List (Lit × DataW H) → Nat
  | [] => 0
  | x :: r => uptoBulkEntry x + uptoBulkEntries r
def uptoBulkEntry {H : Type} : Lit × DataW H → Nat
  | (.string bytes, d) => bytes.length + uptoBulk d + 1
  | (_, d) => uptoBulk d + 1
 end
def uptoSmall : (H : Type) → List (DataW H) → Bool := fun _ ds => decide (uptoBulkAll ds ≤ 1048576)
def OpenSpec.upto (s : _root_.Go.ChangeSpec) : _root_.Go.OpenSpec := { _root_.Go.OpenSpec.ofChange s with cond := some uptoSmall }

/-- 'quiltmakerlaw13.NewsTells', WHERE WHAT IT READS IS OF BULK AT MOST 1048576: true; the input reads as it did. -/
def newsTellsUptoRow : OpenClaim := { program := "yticpcfchhcjjeaa", sum := "a15e1910cdd0f94a92e93a13517ee27b7c7cdfebb29754cf8243d9552794ea09", func := "quiltmaker/quiltmakerlaw13.NewsTells", spec := "newsTells", inPlace := ["internal/bytealg.IndexByteString"], unfollowed := true, recurses := true, apart := false, narrowed := true }
def NewsTellsUptoSaid : Prop := newsTellsUptoRow.holds Try.pinned (OpenSpec.upto newsTellsSpec)

/-- 'quiltmakerlaw13.NewsCost', WHERE WHAT IT READS IS OF BULK AT MOST 1048576: true; the input reads as it did. -/
def newsCostUptoRow : OpenClaim := { program := "yticpcfchhcjjeaa", sum := "a15e1910cdd0f94a92e93a13517ee27b7c7cdfebb29754cf8243d9552794ea09", func := "quiltmaker/quiltmakerlaw13.NewsCost", spec := "newsCost", inPlace := ["internal/bytealg.IndexByteString"], unfollowed := true, recurses := true, apart := false, narrowed := true }
def NewsCostUptoSaid : Prop := newsCostUptoRow.holds Try.pinned (OpenSpec.upto newsCostSpec)

/-- 'quiltmakerlaw07.TreeNames', WHERE WHAT IT READS IS OF BULK AT MOST 1048576: true; the input reads as it did. -/
def treeNamesUptoRow : OpenClaim := { program := "yticpcfchhcjjeaa", sum := "a15e1910cdd0f94a92e93a13517ee27b7c7cdfebb29754cf8243d9552794ea09", func := "quiltmaker/quiltmakerlaw07.TreeNames", spec := "treeNames", inPlace := ["slices.overlaps[quiltmaker/api.File]", "internal/bytealg.IndexByteString"], unfollowed := true, recurses := true, apart := false, narrowed := true }
def TreeNamesUptoSaid : Prop := treeNamesUptoRow.holds Try.pinned (OpenSpec.upto treeNamesSpec)

/-- 'quiltmakerlaw07.TreeEqual', WHERE WHAT IT READS IS OF BULK AT MOST 1048576: true; the input reads as it did. -/
def treeEqualUptoRow : OpenClaim := { program := "yticpcfchhcjjeaa", sum := "a15e1910cdd0f94a92e93a13517ee27b7c7cdfebb29754cf8243d9552794ea09", func := "quiltmaker/quiltmakerlaw07.TreeEqual", spec := "treeEqual", inPlace := ["slices.overlaps[quiltmaker/api.File]", "internal/bytealg.IndexByteString"], unfollowed := true, recurses := true, apart := false, narrowed := true }
def TreeEqualUptoSaid : Prop := treeEqualUptoRow.holds Try.pinned (OpenSpec.upto treeEqualSpec)

/-- 'quiltmakerlaw07.TreeTells', WHERE WHAT IT READS IS OF BULK AT MOST 1048576: true; the input reads as it did. -/
def treeTellsUptoRow : OpenClaim := { program := "yticpcfchhcjjeaa", sum := "a15e1910cdd0f94a92e93a13517ee27b7c7cdfebb29754cf8243d9552794ea09", func := "quiltmaker/quiltmakerlaw07.TreeTells", spec := "treeTells", inPlace := ["slices.overlaps[quiltmaker/api.File]", "internal/bytealg.IndexByteString"], unfollowed := true, recurses := true, apart := false, narrowed := true }
def TreeTellsUptoSaid : Prop := treeTellsUptoRow.holds Try.pinned (OpenSpec.upto treeTellsSpec)

/-- 'quiltmakerlaw07.TreeKeeps', WHERE WHAT IT READS IS OF BULK AT MOST 1048576: true; the input reads as it did. -/
def treeKeepsUptoRow : OpenClaim := { program := "yticpcfchhcjjeaa", sum := "a15e1910cdd0f94a92e93a13517ee27b7c7cdfebb29754cf8243d9552794ea09", func := "quiltmaker/quiltmakerlaw07.TreeKeeps", spec := "treeKeeps", inPlace := ["slices.overlaps[quiltmaker/api.File]", "internal/bytealg.IndexByteString"], unfollowed := true, recurses := true, apart := false, narrowed := true }
def TreeKeepsUptoSaid : Prop := treeKeepsUptoRow.holds Try.pinned (OpenSpec.upto treeKeepsSpec)

/-- 'quiltmakerlaw07.TreeStays', WHERE WHAT IT READS IS OF BULK AT MOST 1048576: true; the input reads as it did. -/
def treeStaysUptoRow : OpenClaim := { program := "yticpcfchhcjjeaa", sum := "a15e1910cdd0f94a92e93a13517ee27b7c7cdfebb29754cf8243d9552794ea09", func := "quiltmaker/quiltmakerlaw07.TreeStays", spec := "treeStays", inPlace := ["slices.overlaps[quiltmaker/api.File]", "internal/bytealg.IndexByteString"], unfollowed := true, recurses := true, apart := false, narrowed := true }
def TreeStaysUptoSaid : Prop := treeStaysUptoRow.holds Try.pinned (OpenSpec.upto treeStaysSpec)

/-- 'quiltmakerlaw07.TreeOrder', WHERE WHAT IT READS IS OF BULK AT MOST 1048576: true; the input reads as it did. -/
def treeOrderUptoRow : OpenClaim := { program := "yticpcfchhcjjeaa", sum := "a15e1910cdd0f94a92e93a13517ee27b7c7cdfebb29754cf8243d9552794ea09", func := "quiltmaker/quiltmakerlaw07.TreeOrder", spec := "treeOrder", inPlace := ["slices.overlaps[quiltmaker/api.File]", "internal/bytealg.IndexByteString"], unfollowed := true, recurses := true, apart := false, narrowed := true }
def TreeOrderUptoSaid : Prop := treeOrderUptoRow.holds Try.pinned (OpenSpec.upto treeOrderSpec)

/-- 'quiltmakerlaw13.NewsTight', WHERE WHAT IT READS IS OF BULK AT MOST 1048576: true; the input reads as it did. -/
def newsTightUptoRow : OpenClaim := { program := "yticpcfchhcjjeaa", sum := "a15e1910cdd0f94a92e93a13517ee27b7c7cdfebb29754cf8243d9552794ea09", func := "quiltmaker/quiltmakerlaw13.NewsTight", spec := "newsTight", inPlace := ["internal/bytealg.IndexByteString"], unfollowed := true, recurses := true, apart := false, narrowed := true }
def NewsTightUptoSaid : Prop := newsTightUptoRow.holds Try.pinned (OpenSpec.upto newsTightSpec)

/-- 'quiltmakerlaw13.NewsFiles', WHERE WHAT IT READS IS OF BULK AT MOST 1048576: true; the input reads as it did. -/
def newsFilesUptoRow : OpenClaim := { program := "yticpcfchhcjjeaa", sum := "a15e1910cdd0f94a92e93a13517ee27b7c7cdfebb29754cf8243d9552794ea09", func := "quiltmaker/quiltmakerlaw13.NewsFiles", spec := "newsFiles", inPlace := ["internal/bytealg.IndexByteString", "slices.overlaps[quiltmaker/api.File]"], unfollowed := true, recurses := true, apart := false, narrowed := true }
def NewsFilesUptoSaid : Prop := newsFilesUptoRow.holds Try.pinned (OpenSpec.upto newsFilesSpec)

/-- 'quiltmakerlaw13.NewsTwo', WHERE WHAT IT READS IS OF BULK AT MOST 1048576: true; the input reads as it did. -/
def newsTwoUptoRow : OpenClaim := { program := "yticpcfchhcjjeaa", sum := "a15e1910cdd0f94a92e93a13517ee27b7c7cdfebb29754cf8243d9552794ea09", func := "quiltmaker/quiltmakerlaw13.NewsTwo", spec := "newsTwo", inPlace := ["internal/bytealg.IndexByteString", "slices.overlaps[quiltmaker/api.File]"], unfollowed := true, recurses := true, apart := false, narrowed := true }
def NewsTwoUptoSaid : Prop := newsTwoUptoRow.holds Try.pinned (OpenSpec.upto newsTwoSpec)

end Rows
end Go.Proofs.Yticpcfchhcjjeaa
