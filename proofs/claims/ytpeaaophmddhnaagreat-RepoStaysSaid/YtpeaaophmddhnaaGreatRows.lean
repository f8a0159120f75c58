/-
  No cell of these rows narrows 'for every input' (looked for: loops, veiled, ifaces, maps, wideKeys, modest, calm, conditions, laid).
  DERIVED. THE GIVEN ROWS OF THIS SEAT. 7 by the template 'for every input the law returns true; each argument reads behind the call as it read before'; 0 by the template 'total and deterministic' (their statements: YtpeaaophmddhnaaGreatTotals.lean).
  GIVEN WITH THE SEED: the statements are not yours to turn. If you find one false, say at which input.
  Laid BY PROGRAM, IN A SANDBOX (cutbox-rows.mjs): the forced cells as the released guide's own fill.sh prints them over the translation 1cd87a8068dd931d… (all of the seat's roots in one cut). By AI agents, Wed Nov 11 2026. No macro, syntax, notation, axiom, sorry.
-/
import Derived.Test.YtpeaaophmddhnaaGreatChecked
import GoSem.Claim
import GoSem.ClaimJoined
import GoSem.ClaimMapViews
import Derived.JoinedTies
import Derived.KernelRfl
namespace Go.Proofs.YtpeaaophmddhnaaGreat
/- THE CELL 'sum', in the pinned program and in every row, IS THE sha256 OF THE DUMP (.gsa) THAT YtpeaaophmddhnaaGreatProg.lean LOADS. Nothing in Lean hashes anything: it is a label: what it is worth is what the hold of that sum in a sandbox is worth. -/
noncomputable def Tryz.pinned : Pinned := { name := "ytpeaaophmddhnaagreat", sum := "1cd87a8068dd931d7a6523371d16e24da06a606bd60181492827691ac6b4b045", checked := Tryz.checked }
namespace Rows
def none {H : Type} : Left H := { results := [], args := [] }

/-- 'quiltmakerlaw17.BlameTells': WHATEVER THE INPUT: true; the input reads as it did. -/
def blameTellsSpec : ChangeSpec := { name := "blameTells", fn := fun _ => fun
  | [d1, d2, d3] => { results := [.lit (.bool true)], args := [d1, d2, d3] }
  | _ => none }
def blameTellsRow : OpenClaim := { program := "ytpeaaophmddhnaagreat", sum := "1cd87a8068dd931d7a6523371d16e24da06a606bd60181492827691ac6b4b045", func := "quiltmaker/quiltmakerlaw17.BlameTells", spec := "blameTells", inPlace := ["slices.overlaps[quiltmaker/api.File]", "internal/bytealg.IndexByteString"], unfollowed := true, recurses := true, apart := false }
def BlameTellsSaid : Prop := blameTellsRow.holds Tryz.pinned (OpenSpec.ofChange blameTellsSpec)

/-- ITS FALSE NEIGHBOUR: 'it returns false'. Refute it at one input. -/
def blameTellsWrong : ChangeSpec := { name := "blameTells", fn := fun _ => fun
  | [d1, d2, d3] => { results := [.lit (.bool false)], args := [d1, d2, d3] }
  | _ => none }
def BlameTellsWrongFalsely : Prop := blameTellsRow.holds Tryz.pinned (OpenSpec.ofChange blameTellsWrong)

/-- 'quiltmakerlaw17.BlameStays': WHATEVER THE INPUT: true; the input reads as it did. -/
def blameStaysSpec : ChangeSpec := { name := "blameStays", fn := fun _ => fun
  | [d1, d2, d3] => { results := [.lit (.bool true)], args := [d1, d2, d3] }
  | _ => none }
def blameStaysRow : OpenClaim := { program := "ytpeaaophmddhnaagreat", sum := "1cd87a8068dd931d7a6523371d16e24da06a606bd60181492827691ac6b4b045", func := "quiltmaker/quiltmakerlaw17.BlameStays", spec := "blameStays", inPlace := ["slices.overlaps[quiltmaker/api.File]", "internal/bytealg.IndexByteString"], unfollowed := true, recurses := true, apart := false }
def BlameStaysSaid : Prop := blameStaysRow.holds Tryz.pinned (OpenSpec.ofChange blameStaysSpec)

/-- ITS FALSE NEIGHBOUR: 'it returns false'. Refute it at one input. -/
def blameStaysWrong : ChangeSpec := { name := "blameStays", fn := fun _ => fun
  | [d1, d2, d3] => { results := [.lit (.bool false)], args := [d1, d2, d3] }
  | _ => none }
def BlameStaysWrongFalsely : Prop := blameStaysRow.holds Tryz.pinned (OpenSpec.ofChange blameStaysWrong)

/-- 'quiltmakerlaw19.RepoReverts': WHATEVER THE INPUT: true; the input reads as it did. -/
def repoRevertsSpec : ChangeSpec := { name := "repoReverts", fn := fun _ => fun
  | [d] => { results := [.lit (.bool true)], args := [d] }
  | _ => none }
def repoRevertsRow : OpenClaim := { program := "ytpeaaophmddhnaagreat", sum := "1cd87a8068dd931d7a6523371d16e24da06a606bd60181492827691ac6b4b045", func := "quiltmaker/quiltmakerlaw19.RepoReverts", spec := "repoReverts", inPlace := ["internal/bytealg.IndexByteString", "slices.overlaps[quiltmaker/api.File]"], unfollowed := true, recurses := true, apart := false }
def RepoRevertsSaid : Prop := repoRevertsRow.holds Tryz.pinned (OpenSpec.ofChange repoRevertsSpec)

/-- ITS FALSE NEIGHBOUR: 'it returns false'. Refute it at one input. -/
def repoRevertsWrong : ChangeSpec := { name := "repoReverts", fn := fun _ => fun
  | [d] => { results := [.lit (.bool false)], args := [d] }
  | _ => none }
def RepoRevertsWrongFalsely : Prop := repoRevertsRow.holds Tryz.pinned (OpenSpec.ofChange repoRevertsWrong)

/-- 'quiltmakerlaw19.RepoMoves': WHATEVER THE INPUT: true; the input reads as it did. -/
def repoMovesSpec : ChangeSpec := { name := "repoMoves", fn := fun _ => fun
  | [d1, d2, d3] => { results := [.lit (.bool true)], args := [d1, d2, d3] }
  | _ => none }
def repoMovesRow : OpenClaim := { program := "ytpeaaophmddhnaagreat", sum := "1cd87a8068dd931d7a6523371d16e24da06a606bd60181492827691ac6b4b045", func := "quiltmaker/quiltmakerlaw19.RepoMoves", spec := "repoMoves", inPlace := ["internal/bytealg.IndexByteString", "slices.overlaps[quiltmaker/api.File]"], unfollowed := true, recurses := true, apart := false }
def RepoMovesSaid : Prop := repoMovesRow.holds Tryz.pinned (OpenSpec.ofChange repoMovesSpec)

/-- ITS FALSE NEIGHBOUR: 'it returns false'. Refute it at one input. -/
def repoMovesWrong : ChangeSpec := { name := "repoMoves", fn := fun _ => fun
  | [d1, d2, d3] => { results := [.lit (.bool false)], args := [d1, d2, d3] }
  | _ => none }
def RepoMovesWrongFalsely : Prop := repoMovesRow.holds Tryz.pinned (OpenSpec.ofChange repoMovesWrong)

/-- 'quiltmakerlaw19.RepoRecords': WHATEVER THE INPUT: true; the input reads as it did. -/
def repoRecordsSpec : ChangeSpec := { name := "repoRecords", fn := fun _ => fun
  | [d1, d2] => { results := [.lit (.bool true)], args := [d1, d2] }
  | _ => none }
def repoRecordsRow : OpenClaim := { program := "ytpeaaophmddhnaagreat", sum := "1cd87a8068dd931d7a6523371d16e24da06a606bd60181492827691ac6b4b045", func := "quiltmaker/quiltmakerlaw19.RepoRecords", spec := "repoRecords", inPlace := ["internal/bytealg.IndexByteString", "slices.overlaps[quiltmaker/api.File]"], unfollowed := true, recurses := true, apart := false }
def RepoRecordsSaid : Prop := repoRecordsRow.holds Tryz.pinned (OpenSpec.ofChange repoRecordsSpec)

/-- ITS FALSE NEIGHBOUR: 'it returns false'. Refute it at one input. -/
def repoRecordsWrong : ChangeSpec := { name := "repoRecords", fn := fun _ => fun
  | [d1, d2] => { results := [.lit (.bool false)], args := [d1, d2] }
  | _ => none }
def RepoRecordsWrongFalsely : Prop := repoRecordsRow.holds Tryz.pinned (OpenSpec.ofChange repoRecordsWrong)

/-- 'quiltmakerlaw19.RepoTells': WHATEVER THE INPUT: true; the input reads as it did. -/
def repoTellsSpec : ChangeSpec := { name := "repoTells", fn := fun _ => fun
  | [d1, d2, d3, d4] => { results := [.lit (.bool true)], args := [d1, d2, d3, d4] }
  | _ => none }
def repoTellsRow : OpenClaim := { program := "ytpeaaophmddhnaagreat", sum := "1cd87a8068dd931d7a6523371d16e24da06a606bd60181492827691ac6b4b045", func := "quiltmaker/quiltmakerlaw19.RepoTells", spec := "repoTells", inPlace := ["internal/bytealg.IndexByteString", "slices.overlaps[quiltmaker/api.File]"], unfollowed := true, recurses := true, apart := false }
def RepoTellsSaid : Prop := repoTellsRow.holds Tryz.pinned (OpenSpec.ofChange repoTellsSpec)

/-- ITS FALSE NEIGHBOUR: 'it returns false'. Refute it at one input. -/
def repoTellsWrong : ChangeSpec := { name := "repoTells", fn := fun _ => fun
  | [d1, d2, d3, d4] => { results := [.lit (.bool false)], args := [d1, d2, d3, d4] }
  | _ => none }
def RepoTellsWrongFalsely : Prop := repoTellsRow.holds Tryz.pinned (OpenSpec.ofChange repoTellsWrong)

/-- 'quiltmakerlaw19.RepoStays': WHATEVER THE INPUT: true; the input reads as it did. -/
def repoStaysSpec : ChangeSpec := { name := "repoStays", fn := fun _ => fun
  | [d1, d2, d3, d4, d5, d6] => { results := [.lit (.bool true)], args := [d1, d2, d3, d4, d5, d6] }
  | _ => none }
def repoStaysRow : OpenClaim := { program := "ytpeaaophmddhnaagreat", sum := "1cd87a8068dd931d7a6523371d16e24da06a606bd60181492827691ac6b4b045", func := "quiltmaker/quiltmakerlaw19.RepoStays", spec := "repoStays", inPlace := ["internal/bytealg.IndexByteString", "slices.overlaps[quiltmaker/api.File]"], unfollowed := true, recurses := true, apart := false }
def RepoStaysSaid : Prop := repoStaysRow.holds Tryz.pinned (OpenSpec.ofChange repoStaysSpec)

/-- ITS FALSE NEIGHBOUR: 'it returns false'. Refute it at one input. -/
def repoStaysWrong : ChangeSpec := { name := "repoStays", fn := fun _ => fun
  | [d1, d2, d3, d4, d5, d6] => { results := [.lit (.bool false)], args := [d1, d2, d3, d4, d5, d6] }
  | _ => none }
def RepoStaysWrongFalsely : Prop := repoStaysRow.holds Tryz.pinned (OpenSpec.ofChange repoStaysWrong)

/- THE SECOND FORM. 'bulk': how many values and letters a reading holds, each counted each time it is reached (what is shared counts as often as it is met; a slice's spare places count too). A statement '..UptoSaid' is the law's where the arguments, and the package variables that the reading takes, are together of bulk at most 1048576: NARROWER than '..Said'. Prove '..Said' where nothing that the law and all that it calls make is longer than what came in: it says more and counts as full. Else prove '..UptoSaid'. A law counts once. -/
mutual
def uptoBulk {H : Type} : DataW H → Nat
  | .lit (.string bytes) => bytes.length + 1
  | .lit _ => 1
  | .nil => 1
  | .ptr d => uptoBulk d + 1
  | .slice elems spare => uptoBulkAll elems + uptoBulkAll spare + 1
  | .agg parts => uptoBulkAll parts + 1
  | .iface _ d => uptoBulk d + 1
  | .map entries => uptoBulkEntries entries + 1
  | .held _ => 1
def uptoBulkAll {H : Type} : List (DataW H) → Nat
  | [] => 0
  | d :: r => uptoBulk d + uptoBulkAll r
def uptoBulkEntries {H : Type} : List (Lit × DataW H) → Nat
  | [] => 0
  | x :: r => uptoBulkEntry x + uptoBulkEntries r
def uptoBulkEntry {H : Type} : Lit × DataW H → Nat
  | (.string bytes, d) => bytes.length + uptoBulk d + 1
  | (_, d) => uptoBulk d + 1
 end
def uptoSmall : (H : Type) → List (DataW H) → Bool := fun _ ds => decide (uptoBulkAll ds ≤ 1048576)
def OpenSpec.upto (s : _root_.Go.ChangeSpec) : _root_.Go.OpenSpec := { _root_.Go.OpenSpec.ofChange s with cond := some uptoSmall }

/-- 'quiltmakerlaw17.BlameTells', WHERE WHAT IT READS IS OF BULK AT MOST 1048576: true; the input reads as it did. -/
def blameTellsUptoRow : OpenClaim := { program := "ytpeaaophmddhnaagreat", sum := "1cd87a8068dd931d7a6523371d16e24da06a606bd60181492827691ac6b4b045", func := "quiltmaker/quiltmakerlaw17.BlameTells", spec := "blameTells", inPlace := ["slices.overlaps[quiltmaker/api.File]", "internal/bytealg.IndexByteString"], unfollowed := true, recurses := true, apart := false, narrowed := true }
def BlameTellsUptoSaid : Prop := blameTellsUptoRow.holds Tryz.pinned (OpenSpec.upto blameTellsSpec)

/-- 'quiltmakerlaw17.BlameStays', WHERE WHAT IT READS IS OF BULK AT MOST 1048576: true; the input reads as it did. -/
def blameStaysUptoRow : OpenClaim := { program := "ytpeaaophmddhnaagreat", sum := "1cd87a8068dd931d7a6523371d16e24da06a606bd60181492827691ac6b4b045", func := "quiltmaker/quiltmakerlaw17.BlameStays", spec := "blameStays", inPlace := ["slices.overlaps[quiltmaker/api.File]", "internal/bytealg.IndexByteString"], unfollowed := true, recurses := true, apart := false, narrowed := true }
def BlameStaysUptoSaid : Prop := blameStaysUptoRow.holds Tryz.pinned (OpenSpec.upto blameStaysSpec)

/-- 'quiltmakerlaw19.RepoReverts', WHERE WHAT IT READS IS OF BULK AT MOST 1048576: true; the input reads as it did. -/
def repoRevertsUptoRow : OpenClaim := { program := "ytpeaaophmddhnaagreat", sum := "1cd87a8068dd931d7a6523371d16e24da06a606bd60181492827691ac6b4b045", func := "quiltmaker/quiltmakerlaw19.RepoReverts", spec := "repoReverts", inPlace := ["internal/bytealg.IndexByteString", "slices.overlaps[quiltmaker/api.File]"], unfollowed := true, recurses := true, apart := false, narrowed := true }
def RepoRevertsUptoSaid : Prop := repoRevertsUptoRow.holds Tryz.pinned (OpenSpec.upto repoRevertsSpec)

/-- 'quiltmakerlaw19.RepoMoves', WHERE WHAT IT READS IS OF BULK AT MOST 1048576: true; the input reads as it did. -/
def repoMovesUptoRow : OpenClaim := { program := "ytpeaaophmddhnaagreat", sum := "1cd87a8068dd931d7a6523371d16e24da06a606bd60181492827691ac6b4b045", func := "quiltmaker/quiltmakerlaw19.RepoMoves", spec := "repoMoves", inPlace := ["internal/bytealg.IndexByteString", "slices.overlaps[quiltmaker/api.File]"], unfollowed := true, recurses := true, apart := false, narrowed := true }
def RepoMovesUptoSaid : Prop := repoMovesUptoRow.holds Tryz.pinned (OpenSpec.upto repoMovesSpec)

/-- 'quiltmakerlaw19.RepoRecords', WHERE WHAT IT READS IS OF BULK AT MOST 1048576: true; the input reads as it did. -/
def repoRecordsUptoRow : OpenClaim := { program := "ytpeaaophmddhnaagreat", sum := "1cd87a8068dd931d7a6523371d16e24da06a606bd60181492827691ac6b4b045", func := "quiltmaker/quiltmakerlaw19.RepoRecords", spec := "repoRecords", inPlace := ["internal/bytealg.IndexByteString", "slices.overlaps[quiltmaker/api.File]"], unfollowed := true, recurses := true, apart := false, narrowed := true }
def RepoRecordsUptoSaid : Prop := repoRecordsUptoRow.holds Tryz.pinned (OpenSpec.upto repoRecordsSpec)

/-- 'quiltmakerlaw19.RepoTells', WHERE WHAT IT READS IS OF BULK AT MOST 1048576: true; the input reads as it did. -/
def repoTellsUptoRow : OpenClaim := { program := "ytpeaaophmddhnaagreat", sum := "1cd87a8068dd931d7a6523371d16e24da06a606bd60181492827691ac6b4b045", func := "quiltmaker/quiltmakerlaw19.RepoTells", spec := "repoTells", inPlace := ["internal/bytealg.IndexByteString", "slices.overlaps[quiltmaker/api.File]"], unfollowed := true, recurses := true, apart := false, narrowed := true }
def RepoTellsUptoSaid : Prop := repoTellsUptoRow.holds Tryz.pinned (OpenSpec.upto repoTellsSpec)

/-- 'quiltmakerlaw19.RepoStays', WHERE WHAT IT READS IS OF BULK AT MOST 1048576: true; the input reads as it did. -/
def repoStaysUptoRow : OpenClaim := { program := "ytpeaaophmddhnaagreat", sum := "1cd87a8068dd931d7a6523371d16e24da06a606bd60181492827691ac6b4b045", func := "quiltmaker/quiltmakerlaw19.RepoStays", spec := "repoStays", inPlace := ["internal/bytealg.IndexByteString", "slices.overlaps[quiltmaker/api.File]"], unfollowed := true, recurses := true, apart := false, narrowed := true }
def RepoStaysUptoSaid : Prop := repoStaysUptoRow.holds Tryz.pinned (OpenSpec.upto repoStaysSpec)

end Rows
end Go.Proofs.YtpeaaophmddhnaaGreat
