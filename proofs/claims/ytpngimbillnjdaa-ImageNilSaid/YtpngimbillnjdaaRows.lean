/-
  No cell of these rows narrows 'for every input' (looked for: loops, veiled, ifaces, maps, wideKeys, modest, calm, conditions, laid).
  DERIVED. THE GIVEN ROWS OF THIS SEAT. 10 by the template 'for every input the law returns true; each argument reads behind the call as it read before'; 0 by the template 'total and deterministic' (their statements: YtpngimbillnjdaaTotals.lean).
  GIVEN WITH THE SEED: the statements are not yours to turn. If you find one false, say at which input.
  Laid BY PROGRAM, IN A SANDBOX (cutbox-rows.mjs): the forced cells as the released guide's own fill.sh prints them over the translation 7215256899ae84d6… (all of the seat's roots in one cut). By AI agents, Wed Nov 11 2026. No macro, syntax, notation, axiom, sorry.
-/
import Derived.Test.YtpngimbillnjdaaChecked
import GoSem.Claim
import GoSem.ClaimJoined
import GoSem.ClaimMapViews
import Derived.JoinedTies
import Derived.KernelRfl
namespace Go.Proofs.Ytpngimbillnjdaa
/- THE CELL 'sum', in the pinned program and in every row, IS THE sha256 OF THE DUMP (.gsa) THAT YtpngimbillnjdaaProg.lean LOADS. Nothing in Lean hashes anything: it is a label: what it is worth is what the hold of that sum in a sandbox is worth. -/
noncomputable def Try.pinned : Pinned := { name := "ytpngimbillnjdaa", sum := "7215256899ae84d602e9d8368c922be2419aadf27567ba0f651ce20c20688bd3", checked := Try.checked }
namespace Rows
def none {H : Type} : Left H := { results := [], args := [] }

/-- 'revenantlaw08.ExtentSets': WHATEVER THE INPUT: true; the input reads as it did. -/
def extentSetsSpec : ChangeSpec := { name := "extentSets", fn := fun _ => fun
  | [d1, d2, d3] => { results := [.lit (.bool true)], args := [d1, d2, d3] }
  | _ => none }
def extentSetsRow : OpenClaim := { program := "ytpngimbillnjdaa", sum := "7215256899ae84d602e9d8368c922be2419aadf27567ba0f651ce20c20688bd3", func := "revenant/revenantlaw08.ExtentSets", spec := "extentSets", unfollowed := true, recurses := true, apart := false }
def ExtentSetsSaid : Prop := extentSetsRow.holds Try.pinned (OpenSpec.ofChange extentSetsSpec)

/-- ITS FALSE NEIGHBOUR: 'it returns false'. Refute it at one input. -/
def extentSetsWrong : ChangeSpec := { name := "extentSets", fn := fun _ => fun
  | [d1, d2, d3] => { results := [.lit (.bool false)], args := [d1, d2, d3] }
  | _ => none }
def ExtentSetsWrongFalsely : Prop := extentSetsRow.holds Try.pinned (OpenSpec.ofChange extentSetsWrong)

/-- 'revenantlaw08.ExtentReads': WHATEVER THE INPUT: true; the input reads as it did. -/
def extentReadsSpec : ChangeSpec := { name := "extentReads", fn := fun _ => fun
  | [d1, d2] => { results := [.lit (.bool true)], args := [d1, d2] }
  | _ => none }
def extentReadsRow : OpenClaim := { program := "ytpngimbillnjdaa", sum := "7215256899ae84d602e9d8368c922be2419aadf27567ba0f651ce20c20688bd3", func := "revenant/revenantlaw08.ExtentReads", spec := "extentReads", unfollowed := true, recurses := true, apart := false }
def ExtentReadsSaid : Prop := extentReadsRow.holds Try.pinned (OpenSpec.ofChange extentReadsSpec)

/-- ITS FALSE NEIGHBOUR: 'it returns false'. Refute it at one input. -/
def extentReadsWrong : ChangeSpec := { name := "extentReads", fn := fun _ => fun
  | [d1, d2] => { results := [.lit (.bool false)], args := [d1, d2] }
  | _ => none }
def ExtentReadsWrongFalsely : Prop := extentReadsRow.holds Try.pinned (OpenSpec.ofChange extentReadsWrong)

/-- 'revenantlaw08.ExtentBytes': WHATEVER THE INPUT: true; the input reads as it did. -/
def extentBytesSpec : ChangeSpec := { name := "extentBytes", fn := fun _ => fun
  | [d] => { results := [.lit (.bool true)], args := [d] }
  | _ => none }
def extentBytesRow : OpenClaim := { program := "ytpngimbillnjdaa", sum := "7215256899ae84d602e9d8368c922be2419aadf27567ba0f651ce20c20688bd3", func := "revenant/revenantlaw08.ExtentBytes", spec := "extentBytes", unfollowed := true, recurses := true, apart := false }
def ExtentBytesSaid : Prop := extentBytesRow.holds Try.pinned (OpenSpec.ofChange extentBytesSpec)

/-- ITS FALSE NEIGHBOUR: 'it returns false'. Refute it at one input. -/
def extentBytesWrong : ChangeSpec := { name := "extentBytes", fn := fun _ => fun
  | [d] => { results := [.lit (.bool false)], args := [d] }
  | _ => none }
def ExtentBytesWrongFalsely : Prop := extentBytesRow.holds Try.pinned (OpenSpec.ofChange extentBytesWrong)

/-- 'revenantlaw17.ReaderDumps': WHATEVER THE INPUT: true; the input reads as it did. -/
def readerDumpsSpec : ChangeSpec := { name := "readerDumps", fn := fun _ => fun
  | [d1, d2] => { results := [.lit (.bool true)], args := [d1, d2] }
  | _ => none }
def readerDumpsRow : OpenClaim := { program := "ytpngimbillnjdaa", sum := "7215256899ae84d602e9d8368c922be2419aadf27567ba0f651ce20c20688bd3", func := "revenant/revenantlaw17.ReaderDumps", spec := "readerDumps", unfollowed := true, recurses := true, apart := false }
def ReaderDumpsSaid : Prop := readerDumpsRow.holds Try.pinned (OpenSpec.ofChange readerDumpsSpec)

/-- ITS FALSE NEIGHBOUR: 'it returns false'. Refute it at one input. -/
def readerDumpsWrong : ChangeSpec := { name := "readerDumps", fn := fun _ => fun
  | [d1, d2] => { results := [.lit (.bool false)], args := [d1, d2] }
  | _ => none }
def ReaderDumpsWrongFalsely : Prop := readerDumpsRow.holds Try.pinned (OpenSpec.ofChange readerDumpsWrong)

/-- 'revenantlaw17.ReaderNil': WHATEVER THE INPUT: true; the input reads as it did. -/
def readerNilSpec : ChangeSpec := { name := "readerNil", fn := fun _ => fun
  | [d] => { results := [.lit (.bool true)], args := [d] }
  | _ => none }
def readerNilRow : OpenClaim := { program := "ytpngimbillnjdaa", sum := "7215256899ae84d602e9d8368c922be2419aadf27567ba0f651ce20c20688bd3", func := "revenant/revenantlaw17.ReaderNil", spec := "readerNil", unfollowed := true, recurses := true, apart := false }
def ReaderNilSaid : Prop := readerNilRow.holds Try.pinned (OpenSpec.ofChange readerNilSpec)

/-- ITS FALSE NEIGHBOUR: 'it returns false'. Refute it at one input. -/
def readerNilWrong : ChangeSpec := { name := "readerNil", fn := fun _ => fun
  | [d] => { results := [.lit (.bool false)], args := [d] }
  | _ => none }
def ReaderNilWrongFalsely : Prop := readerNilRow.holds Try.pinned (OpenSpec.ofChange readerNilWrong)

/-- 'revenantlaw17.ReaderOnes': WHATEVER THE INPUT: true; the input reads as it did. -/
def readerOnesSpec : ChangeSpec := { name := "readerOnes", fn := fun _ => fun
  | [d1, d2, d3] => { results := [.lit (.bool true)], args := [d1, d2, d3] }
  | _ => none }
def readerOnesRow : OpenClaim := { program := "ytpngimbillnjdaa", sum := "7215256899ae84d602e9d8368c922be2419aadf27567ba0f651ce20c20688bd3", func := "revenant/revenantlaw17.ReaderOnes", spec := "readerOnes", unfollowed := true, recurses := true, apart := false }
def ReaderOnesSaid : Prop := readerOnesRow.holds Try.pinned (OpenSpec.ofChange readerOnesSpec)

/-- ITS FALSE NEIGHBOUR: 'it returns false'. Refute it at one input. -/
def readerOnesWrong : ChangeSpec := { name := "readerOnes", fn := fun _ => fun
  | [d1, d2, d3] => { results := [.lit (.bool false)], args := [d1, d2, d3] }
  | _ => none }
def ReaderOnesWrongFalsely : Prop := readerOnesRow.holds Try.pinned (OpenSpec.ofChange readerOnesWrong)

/-- 'revenantlaw09.ImageDiffs': WHATEVER THE INPUT: true; the input reads as it did. -/
def imageDiffsSpec : ChangeSpec := { name := "imageDiffs", fn := fun _ => fun
  | [d1, d2] => { results := [.lit (.bool true)], args := [d1, d2] }
  | _ => none }
def imageDiffsRow : OpenClaim := { program := "ytpngimbillnjdaa", sum := "7215256899ae84d602e9d8368c922be2419aadf27567ba0f651ce20c20688bd3", func := "revenant/revenantlaw09.ImageDiffs", spec := "imageDiffs", unfollowed := true, recurses := true, apart := false }
def ImageDiffsSaid : Prop := imageDiffsRow.holds Try.pinned (OpenSpec.ofChange imageDiffsSpec)

/-- ITS FALSE NEIGHBOUR: 'it returns false'. Refute it at one input. -/
def imageDiffsWrong : ChangeSpec := { name := "imageDiffs", fn := fun _ => fun
  | [d1, d2] => { results := [.lit (.bool false)], args := [d1, d2] }
  | _ => none }
def ImageDiffsWrongFalsely : Prop := imageDiffsRow.holds Try.pinned (OpenSpec.ofChange imageDiffsWrong)

/-- 'revenantlaw09.ImageNil': WHATEVER THE INPUT: true; the input reads as it did. -/
def imageNilSpec : ChangeSpec := { name := "imageNil", fn := fun _ => fun
  | [d1, d2] => { results := [.lit (.bool true)], args := [d1, d2] }
  | _ => none }
def imageNilRow : OpenClaim := { program := "ytpngimbillnjdaa", sum := "7215256899ae84d602e9d8368c922be2419aadf27567ba0f651ce20c20688bd3", func := "revenant/revenantlaw09.ImageNil", spec := "imageNil", inPlace := ["maps.clone"], unfollowed := true, recurses := true, apart := false }
def ImageNilSaid : Prop := imageNilRow.holds Try.pinned (OpenSpec.ofChange imageNilSpec)

/-- ITS FALSE NEIGHBOUR: 'it returns false'. Refute it at one input. -/
def imageNilWrong : ChangeSpec := { name := "imageNil", fn := fun _ => fun
  | [d1, d2] => { results := [.lit (.bool false)], args := [d1, d2] }
  | _ => none }
def ImageNilWrongFalsely : Prop := imageNilRow.holds Try.pinned (OpenSpec.ofChange imageNilWrong)

/-- 'revenantlaw09.ImageReads': WHATEVER THE INPUT: true; the input reads as it did. -/
def imageReadsSpec : ChangeSpec := { name := "imageReads", fn := fun _ => fun
  | [d] => { results := [.lit (.bool true)], args := [d] }
  | _ => none }
def imageReadsRow : OpenClaim := { program := "ytpngimbillnjdaa", sum := "7215256899ae84d602e9d8368c922be2419aadf27567ba0f651ce20c20688bd3", func := "revenant/revenantlaw09.ImageReads", spec := "imageReads", unfollowed := true, recurses := true, apart := false }
def ImageReadsSaid : Prop := imageReadsRow.holds Try.pinned (OpenSpec.ofChange imageReadsSpec)

/-- ITS FALSE NEIGHBOUR: 'it returns false'. Refute it at one input. -/
def imageReadsWrong : ChangeSpec := { name := "imageReads", fn := fun _ => fun
  | [d] => { results := [.lit (.bool false)], args := [d] }
  | _ => none }
def ImageReadsWrongFalsely : Prop := imageReadsRow.holds Try.pinned (OpenSpec.ofChange imageReadsWrong)

/-- 'revenantlaw09.ImageBlocks': WHATEVER THE INPUT: true; the input reads as it did. -/
def imageBlocksSpec : ChangeSpec := { name := "imageBlocks", fn := fun _ => fun
  | [d1, d2] => { results := [.lit (.bool true)], args := [d1, d2] }
  | _ => none }
def imageBlocksRow : OpenClaim := { program := "ytpngimbillnjdaa", sum := "7215256899ae84d602e9d8368c922be2419aadf27567ba0f651ce20c20688bd3", func := "revenant/revenantlaw09.ImageBlocks", spec := "imageBlocks", inPlace := ["maps.clone"], unfollowed := true, recurses := true, apart := false }
def ImageBlocksSaid : Prop := imageBlocksRow.holds Try.pinned (OpenSpec.ofChange imageBlocksSpec)

/-- ITS FALSE NEIGHBOUR: 'it returns false'. Refute it at one input. -/
def imageBlocksWrong : ChangeSpec := { name := "imageBlocks", fn := fun _ => fun
  | [d1, d2] => { results := [.lit (.bool false)], args := [d1, d2] }
  | _ => none }
def ImageBlocksWrongFalsely : Prop := imageBlocksRow.holds Try.pinned (OpenSpec.ofChange imageBlocksWrong)

/- THE SECOND FORM. 'bulk': how many values and letters a reading holds, each counted each time it is reached (what is shared counts as often as it is met; a slice's spare places count too). A statement '..UptoSaid' is the law's where the arguments, and the package variables that the reading takes, are together of bulk at most 1048576: NARROWER than '..Said'. Prove '..Said' where nothing that the law and all that it calls make is longer than what came in: it says more and counts as full. Else prove '..UptoSaid'. A law counts once. -/
mutual
def uptoBulk {H : Type} : DataW H → Nat
  | .lit (.string bytes) => bytes.length + 1
  | .lit _ => 1
  | .nil => 1
  | .ptr d => uptoBulk d + 1
  | .slice elems spare => uptoBulkAll elems + uptoBulkAll spare + 1
  | .agg parts => uptoBulkAll parts + 1
  | .iface _ d => uptoBulk d + 1
  | .map entries => uptoBulkEntries entries + 1
  | .held _ => 1
def uptoBulkAll {H : Type} : List (DataW H) → Nat
  | [] => 0
  | d :: r => uptoBulk d + uptoBulkAll r
def uptoBulkEntries {H : Type} : List (Lit × DataW H) → Nat
  | [] => 0
  | x :: r => uptoBulkEntry x + uptoBulkEntries r
def uptoBulkEntry {H : Type} : Lit × DataW H → Nat
  | (.string bytes, d) => bytes.length + uptoBulk d + 1
  | (_, d) => uptoBulk d + 1
 end
def uptoSmall : (H : Type) → List (DataW H) → Bool := fun _ ds => decide (uptoBulkAll ds ≤ 1048576)
def OpenSpec.upto (s : _root_.Go.ChangeSpec) : _root_.Go.OpenSpec := { _root_.Go.OpenSpec.ofChange s with cond := some uptoSmall }

/-- 'revenantlaw08.ExtentSets', WHERE WHAT IT READS IS OF BULK AT MOST 1048576: true; the input reads as it did. -/
def extentSetsUptoRow : OpenClaim := { program := "ytpngimbillnjdaa", sum := "7215256899ae84d602e9d8368c922be2419aadf27567ba0f651ce20c20688bd3", func := "revenant/revenantlaw08.ExtentSets", spec := "extentSets", unfollowed := true, recurses := true, apart := false, narrowed := true }
def ExtentSetsUptoSaid : Prop := extentSetsUptoRow.holds Try.pinned (OpenSpec.upto extentSetsSpec)

/-- 'revenantlaw08.ExtentReads', WHERE WHAT IT READS IS OF BULK AT MOST 1048576: true; the input reads as it did. -/
def extentReadsUptoRow : OpenClaim := { program := "ytpngimbillnjdaa", sum := "7215256899ae84d602e9d8368c922be2419aadf27567ba0f651ce20c20688bd3", func := "revenant/revenantlaw08.ExtentReads", spec := "extentReads", unfollowed := true, recurses := true, apart := false, narrowed := true }
def ExtentReadsUptoSaid : Prop := extentReadsUptoRow.holds Try.pinned (OpenSpec.upto extentReadsSpec)

/-- 'revenantlaw08.ExtentBytes', WHERE WHAT IT READS IS OF BULK AT MOST 1048576: true; the input reads as it did. -/
def extentBytesUptoRow : OpenClaim := { program := "ytpngimbillnjdaa", sum := "7215256899ae84d602e9d8368c922be2419aadf27567ba0f651ce20c20688bd3", func := "revenant/revenantlaw08.ExtentBytes", spec := "extentBytes", unfollowed := true, recurses := true, apart := false, narrowed := true }
def ExtentBytesUptoSaid : Prop := extentBytesUptoRow.holds Try.pinned (OpenSpec.upto extentBytesSpec)

/-- 'revenantlaw17.ReaderDumps', WHERE WHAT IT READS IS OF BULK AT MOST 1048576: true; the input reads as it did. -/
def readerDumpsUptoRow : OpenClaim := { program := "ytpngimbillnjdaa", sum := "7215256899ae84d602e9d8368c922be2419aadf27567ba0f651ce20c20688bd3", func := "revenant/revenantlaw17.ReaderDumps", spec := "readerDumps", unfollowed := true, recurses := true, apart := false, narrowed := true }
def ReaderDumpsUptoSaid : Prop := readerDumpsUptoRow.holds Try.pinned (OpenSpec.upto readerDumpsSpec)

/-- 'revenantlaw17.ReaderNil', WHERE WHAT IT READS IS OF BULK AT MOST 1048576: true; the input reads as it did. -/
def readerNilUptoRow : OpenClaim := { program := "ytpngimbillnjdaa", sum := "7215256899ae84d602e9d8368c922be2419aadf27567ba0f651ce20c20688bd3", func := "revenant/revenantlaw17.ReaderNil", spec := "readerNil", unfollowed := true, recurses := true, apart := false, narrowed := true }
def ReaderNilUptoSaid : Prop := readerNilUptoRow.holds Try.pinned (OpenSpec.upto readerNilSpec)

/-- 'revenantlaw17.ReaderOnes', WHERE WHAT IT READS IS OF BULK AT MOST 1048576: true; the input reads as it did. -/
def readerOnesUptoRow : OpenClaim := { program := "ytpngimbillnjdaa", sum := "7215256899ae84d602e9d8368c922be2419aadf27567ba0f651ce20c20688bd3", func := "revenant/revenantlaw17.ReaderOnes", spec := "readerOnes", unfollowed := true, recurses := true, apart := false, narrowed := true }
def ReaderOnesUptoSaid : Prop := readerOnesUptoRow.holds Try.pinned (OpenSpec.upto readerOnesSpec)

/-- 'revenantlaw09.ImageDiffs', WHERE WHAT IT READS IS OF BULK AT MOST 1048576: true; the input reads as it did. -/
def imageDiffsUptoRow : OpenClaim := { program := "ytpngimbillnjdaa", sum := "7215256899ae84d602e9d8368c922be2419aadf27567ba0f651ce20c20688bd3", func := "revenant/revenantlaw09.ImageDiffs", spec := "imageDiffs", unfollowed := true, recurses := true, apart := false, narrowed := true }
def ImageDiffsUptoSaid : Prop := imageDiffsUptoRow.holds Try.pinned (OpenSpec.upto imageDiffsSpec)

/-- 'revenantlaw09.ImageNil', WHERE WHAT IT READS IS OF BULK AT MOST 1048576: true; the input reads as it did. -/
def imageNilUptoRow : OpenClaim := { program := "ytpngimbillnjdaa", sum := "7215256899ae84d602e9d8368c922be2419aadf27567ba0f651ce20c20688bd3", func := "revenant/revenantlaw09.ImageNil", spec := "imageNil", inPlace := ["maps.clone"], unfollowed := true, recurses := true, apart := false, narrowed := true }
def ImageNilUptoSaid : Prop := imageNilUptoRow.holds Try.pinned (OpenSpec.upto imageNilSpec)

/-- 'revenantlaw09.ImageReads', WHERE WHAT IT READS IS OF BULK AT MOST 1048576: true; the input reads as it did. -/
def imageReadsUptoRow : OpenClaim := { program := "ytpngimbillnjdaa", sum := "7215256899ae84d602e9d8368c922be2419aadf27567ba0f651ce20c20688bd3", func := "revenant/revenantlaw09.ImageReads", spec := "imageReads", unfollowed := true, recurses := true, apart := false, narrowed := true }
def ImageReadsUptoSaid : Prop := imageReadsUptoRow.holds Try.pinned (OpenSpec.upto imageReadsSpec)

/-- 'revenantlaw09.ImageBlocks', WHERE WHAT IT READS IS OF BULK AT MOST 1048576: true; the input reads as it did. -/
def imageBlocksUptoRow : OpenClaim := { program := "ytpngimbillnjdaa", sum := "7215256899ae84d602e9d8368c922be2419aadf27567ba0f651ce20c20688bd3", func := "revenant/revenantlaw09.ImageBlocks", spec := "imageBlocks", inPlace := ["maps.clone"], unfollowed := true, recurses := true, apart := false, narrowed := true }
def ImageBlocksUptoSaid : Prop := imageBlocksUptoRow.holds Try.pinned (OpenSpec.upto imageBlocksSpec)

end Rows
end Go.Proofs.Ytpngimbillnjdaa
