/-
  No cell of these rows narrows 'for every input' (looked for: loops, veiled, ifaces, maps, wideKeys, modest, calm, conditions, laid).
  DERIVED. THE GIVEN ROWS OF THIS SEAT. 7 by the template 'for every input the law returns true; each argument reads behind the call as it read before'; 0 by the template 'total and deterministic' (their statements: YtcgaobfbgfefhaaTotals.lean).
  GIVEN WITH THE SEED: the statements are not yours to turn. If you find one false, say at which input.
  Laid BY PROGRAM, IN A SANDBOX (cutbox-rows.mjs): the forced cells as the released guide's own fill.sh prints them over the translation 2423a7eb37b75e34… (all of the seat's roots in one cut). By AI agents, Wed Nov 11 2026. No macro, syntax, notation, axiom, sorry.
-/
import Derived.Test.YtcgaobfbgfefhaaChecked
import GoSem.Claim
import GoSem.ClaimJoined
import GoSem.ClaimMapViews
import Derived.JoinedTies
import Derived.KernelRfl
namespace Go.Proofs.Ytcgaobfbgfefhaa
/- THE CELL 'sum', in the pinned program and in every row, IS THE sha256 OF THE DUMP (.gsa) THAT YtcgaobfbgfefhaaProg.lean LOADS. Nothing in Lean hashes anything: it is a label: what it is worth is what the hold of that sum in a sandbox is worth. -/
noncomputable def Try.pinned : Pinned := { name := "ytcgaobfbgfefhaa", sum := "2423a7eb37b75e346904624cd90d85df09c8407ffd762778ac7a0551ce8b85e5", checked := Try.checked }
namespace Rows
def none {H : Type} : Left H := { results := [], args := [] }

/-- 'incunablelaw16.FolioWrites': WHATEVER THE INPUT: true; the input reads as it did. -/
def folioWritesSpec : ChangeSpec := { name := "folioWrites", fn := fun _ => fun
  | [d] => { results := [.lit (.bool true)], args := [d] }
  | _ => none }
def folioWritesRow : OpenClaim := { program := "ytcgaobfbgfefhaa", sum := "2423a7eb37b75e346904624cd90d85df09c8407ffd762778ac7a0551ce8b85e5", func := "incunable/incunablelaw16.FolioWrites", spec := "folioWrites", unfollowed := true, recurses := true, apart := false }
def FolioWritesSaid : Prop := folioWritesRow.holds Try.pinned (OpenSpec.ofChange folioWritesSpec)

/-- ITS FALSE NEIGHBOUR: 'it returns false'. Refute it at one input. -/
def folioWritesWrong : ChangeSpec := { name := "folioWrites", fn := fun _ => fun
  | [d] => { results := [.lit (.bool false)], args := [d] }
  | _ => none }
def FolioWritesWrongFalsely : Prop := folioWritesRow.holds Try.pinned (OpenSpec.ofChange folioWritesWrong)

/-- 'incunablelaw16.FolioReads': WHATEVER THE INPUT: true; the input reads as it did. -/
def folioReadsSpec : ChangeSpec := { name := "folioReads", fn := fun _ => fun
  | [d] => { results := [.lit (.bool true)], args := [d] }
  | _ => none }
def folioReadsRow : OpenClaim := { program := "ytcgaobfbgfefhaa", sum := "2423a7eb37b75e346904624cd90d85df09c8407ffd762778ac7a0551ce8b85e5", func := "incunable/incunablelaw16.FolioReads", spec := "folioReads", unfollowed := true, recurses := true, apart := false }
def FolioReadsSaid : Prop := folioReadsRow.holds Try.pinned (OpenSpec.ofChange folioReadsSpec)

/-- ITS FALSE NEIGHBOUR: 'it returns false'. Refute it at one input. -/
def folioReadsWrong : ChangeSpec := { name := "folioReads", fn := fun _ => fun
  | [d] => { results := [.lit (.bool false)], args := [d] }
  | _ => none }
def FolioReadsWrongFalsely : Prop := folioReadsRow.holds Try.pinned (OpenSpec.ofChange folioReadsWrong)

/-- 'incunablelaw16.FolioHeads': WHATEVER THE INPUT: true; the input reads as it did. -/
def folioHeadsSpec : ChangeSpec := { name := "folioHeads", fn := fun _ => fun
  | [d] => { results := [.lit (.bool true)], args := [d] }
  | _ => none }
def folioHeadsRow : OpenClaim := { program := "ytcgaobfbgfefhaa", sum := "2423a7eb37b75e346904624cd90d85df09c8407ffd762778ac7a0551ce8b85e5", func := "incunable/incunablelaw16.FolioHeads", spec := "folioHeads", unfollowed := true, recurses := true, apart := false }
def FolioHeadsSaid : Prop := folioHeadsRow.holds Try.pinned (OpenSpec.ofChange folioHeadsSpec)

/-- ITS FALSE NEIGHBOUR: 'it returns false'. Refute it at one input. -/
def folioHeadsWrong : ChangeSpec := { name := "folioHeads", fn := fun _ => fun
  | [d] => { results := [.lit (.bool false)], args := [d] }
  | _ => none }
def FolioHeadsWrongFalsely : Prop := folioHeadsRow.holds Try.pinned (OpenSpec.ofChange folioHeadsWrong)

/-- 'incunablelaw16.FolioBack': WHATEVER THE INPUT: true; the input reads as it did. -/
def folioBackSpec : ChangeSpec := { name := "folioBack", fn := fun _ => fun
  | [d] => { results := [.lit (.bool true)], args := [d] }
  | _ => none }
def folioBackRow : OpenClaim := { program := "ytcgaobfbgfefhaa", sum := "2423a7eb37b75e346904624cd90d85df09c8407ffd762778ac7a0551ce8b85e5", func := "incunable/incunablelaw16.FolioBack", spec := "folioBack", unfollowed := true, recurses := true, apart := false }
def FolioBackSaid : Prop := folioBackRow.holds Try.pinned (OpenSpec.ofChange folioBackSpec)

/-- ITS FALSE NEIGHBOUR: 'it returns false'. Refute it at one input. -/
def folioBackWrong : ChangeSpec := { name := "folioBack", fn := fun _ => fun
  | [d] => { results := [.lit (.bool false)], args := [d] }
  | _ => none }
def FolioBackWrongFalsely : Prop := folioBackRow.holds Try.pinned (OpenSpec.ofChange folioBackWrong)

/-- 'incunablelaw16.FolioAgain': WHATEVER THE INPUT: true; the input reads as it did. -/
def folioAgainSpec : ChangeSpec := { name := "folioAgain", fn := fun _ => fun
  | [d] => { results := [.lit (.bool true)], args := [d] }
  | _ => none }
def folioAgainRow : OpenClaim := { program := "ytcgaobfbgfefhaa", sum := "2423a7eb37b75e346904624cd90d85df09c8407ffd762778ac7a0551ce8b85e5", func := "incunable/incunablelaw16.FolioAgain", spec := "folioAgain", unfollowed := true, recurses := true, apart := false }
def FolioAgainSaid : Prop := folioAgainRow.holds Try.pinned (OpenSpec.ofChange folioAgainSpec)

/-- ITS FALSE NEIGHBOUR: 'it returns false'. Refute it at one input. -/
def folioAgainWrong : ChangeSpec := { name := "folioAgain", fn := fun _ => fun
  | [d] => { results := [.lit (.bool false)], args := [d] }
  | _ => none }
def FolioAgainWrongFalsely : Prop := folioAgainRow.holds Try.pinned (OpenSpec.ofChange folioAgainWrong)

/-- 'incunablelaw16.FolioTurned': WHATEVER THE INPUT: true; the input reads as it did. -/
def folioTurnedSpec : ChangeSpec := { name := "folioTurned", fn := fun _ => fun
  | [d1, d2, d3] => { results := [.lit (.bool true)], args := [d1, d2, d3] }
  | _ => none }
def folioTurnedRow : OpenClaim := { program := "ytcgaobfbgfefhaa", sum := "2423a7eb37b75e346904624cd90d85df09c8407ffd762778ac7a0551ce8b85e5", func := "incunable/incunablelaw16.FolioTurned", spec := "folioTurned", unfollowed := true, recurses := true, apart := false }
def FolioTurnedSaid : Prop := folioTurnedRow.holds Try.pinned (OpenSpec.ofChange folioTurnedSpec)

/-- ITS FALSE NEIGHBOUR: 'it returns false'. Refute it at one input. -/
def folioTurnedWrong : ChangeSpec := { name := "folioTurned", fn := fun _ => fun
  | [d1, d2, d3] => { results := [.lit (.bool false)], args := [d1, d2, d3] }
  | _ => none }
def FolioTurnedWrongFalsely : Prop := folioTurnedRow.holds Try.pinned (OpenSpec.ofChange folioTurnedWrong)

/-- 'incunablelaw16.FolioSizes': WHATEVER THE INPUT: true; the input reads as it did. -/
def folioSizesSpec : ChangeSpec := { name := "folioSizes", fn := fun _ => fun
  | [d] => { results := [.lit (.bool true)], args := [d] }
  | _ => none }
def folioSizesRow : OpenClaim := { program := "ytcgaobfbgfefhaa", sum := "2423a7eb37b75e346904624cd90d85df09c8407ffd762778ac7a0551ce8b85e5", func := "incunable/incunablelaw16.FolioSizes", spec := "folioSizes", unfollowed := true, recurses := true, apart := false }
def FolioSizesSaid : Prop := folioSizesRow.holds Try.pinned (OpenSpec.ofChange folioSizesSpec)

/-- ITS FALSE NEIGHBOUR: 'it returns false'. Refute it at one input. -/
def folioSizesWrong : ChangeSpec := { name := "folioSizes", fn := fun _ => fun
  | [d] => { results := [.lit (.bool false)], args := [d] }
  | _ => none }
def FolioSizesWrongFalsely : Prop := folioSizesRow.holds Try.pinned (OpenSpec.ofChange folioSizesWrong)

/- THE SECOND FORM. 'bulk': how many values and letters a reading holds, each counted each time it is reached (what is shared counts as often as it is met; a slice's spare places count too). A statement '..UptoSaid' is the law's where the arguments, and the package variables that the reading takes, are together of bulk at most 1048576: NARROWER than '..Said'. Prove '..Said' where nothing that the law and all that it calls make is longer than what came in: it says more and counts as full. Else prove '..UptoSaid'. A law counts once. -/
mutual
def uptoBulk {H : Type} : DataW H → Nat
  | .lit (.string bytes) => bytes.length + 1
  | .lit _ => 1
  | .nil => 1
  | .ptr d => uptoBulk d + 1
  | .slice elems spare => uptoBulkAll elems + uptoBulkAll spare + 1
  | .agg parts => uptoBulkAll parts + 1
  | .iface _ d => uptoBulk d + 1
  | .map entries => uptoBulkEntries entries + 1
  | .held _ => 1
def uptoBulkAll {H : Type} : List (DataW H) → Nat
  | [] => 0
  | d :: r => uptoBulk d + uptoBulkAll r
def uptoBulkEntries {H : Type} : List (Lit × DataW H) → Nat
  | [] => 0
  | x :: r => uptoBulkEntry x + uptoBulkEntries r
def uptoBulkEntry {H : Type} : Lit × DataW H → Nat
  | (.string bytes, d) => bytes.length + uptoBulk d + 1
  | (_, d) => uptoBulk d + 1
 end
def uptoSmall : (H : Type) → List (DataW H) → Bool := fun _ ds => decide (uptoBulkAll ds ≤ 1048576)
def OpenSpec.upto (s : _root_.Go.ChangeSpec) : _root_.Go.OpenSpec := { _root_.Go.OpenSpec.ofChange s with cond := some uptoSmall }

/-- 'incunablelaw16.FolioWrites', WHERE WHAT IT READS IS OF BULK AT MOST 1048576: true; the input reads as it did. -/
def folioWritesUptoRow : OpenClaim := { program := "ytcgaobfbgfefhaa", sum := "2423a7eb37b75e346904624cd90d85df09c8407ffd762778ac7a0551ce8b85e5", func := "incunable/incunablelaw16.FolioWrites", spec := "folioWrites", unfollowed := true, recurses := true, apart := false, narrowed := true }
def FolioWritesUptoSaid : Prop := folioWritesUptoRow.holds Try.pinned (OpenSpec.upto folioWritesSpec)

/-- 'incunablelaw16.FolioReads', WHERE WHAT IT READS IS OF BULK AT MOST 1048576: true; the input reads as it did. -/
def folioReadsUptoRow : OpenClaim := { program := "ytcgaobfbgfefhaa", sum := "2423a7eb37b75e346904624cd90d85df09c8407ffd762778ac7a0551ce8b85e5", func := "incunable/incunablelaw16.FolioReads", spec := "folioReads", unfollowed := true, recurses := true, apart := false, narrowed := true }
def FolioReadsUptoSaid : Prop := folioReadsUptoRow.holds Try.pinned (OpenSpec.upto folioReadsSpec)

/-- 'incunablelaw16.FolioHeads', WHERE WHAT IT READS IS OF BULK AT MOST 1048576: true; the input reads as it did. -/
def folioHeadsUptoRow : OpenClaim := { program := "ytcgaobfbgfefhaa", sum := "2423a7eb37b75e346904624cd90d85df09c8407ffd762778ac7a0551ce8b85e5", func := "incunable/incunablelaw16.FolioHeads", spec := "folioHeads", unfollowed := true, recurses := true, apart := false, narrowed := true }
def FolioHeadsUptoSaid : Prop := folioHeadsUptoRow.holds Try.pinned (OpenSpec.upto folioHeadsSpec)

/-- 'incunablelaw16.FolioBack', WHERE WHAT IT READS IS OF BULK AT MOST 1048576: true; the input reads as it did. -/
def folioBackUptoRow : OpenClaim := { program := "ytcgaobfbgfefhaa", sum := "2423a7eb37b75e346904624cd90d85df09c8407ffd762778ac7a0551ce8b85e5", func := "incunable/incunablelaw16.FolioBack", spec := "folioBack", unfollowed := true, recurses := true, apart := false, narrowed := true }
def FolioBackUptoSaid : Prop := folioBackUptoRow.holds Try.pinned (OpenSpec.upto folioBackSpec)

/-- 'incunablelaw16.FolioAgain', WHERE WHAT IT READS IS OF BULK AT MOST 1048576: true; the input reads as it did. -/
def folioAgainUptoRow : OpenClaim := { program := "ytcgaobfbgfefhaa", sum := "2423a7eb37b75e346904624cd90d85df09c8407ffd762778ac7a0551ce8b85e5", func := "incunable/incunablelaw16.FolioAgain", spec := "folioAgain", unfollowed := true, recurses := true, apart := false, narrowed := true }
def FolioAgainUptoSaid : Prop := folioAgainUptoRow.holds Try.pinned (OpenSpec.upto folioAgainSpec)

/-- 'incunablelaw16.FolioTurned', WHERE WHAT IT READS IS OF BULK AT MOST 1048576: true; the input reads as it did. -/
def folioTurnedUptoRow : OpenClaim := { program := "ytcgaobfbgfefhaa", sum := "2423a7eb37b75e346904624cd90d85df09c8407ffd762778ac7a0551ce8b85e5", func := "incunable/incunablelaw16.FolioTurned", spec := "folioTurned", unfollowed := true, recurses := true, apart := false, narrowed := true }
def FolioTurnedUptoSaid : Prop := folioTurnedUptoRow.holds Try.pinned (OpenSpec.upto folioTurnedSpec)

/-- 'incunablelaw16.FolioSizes', WHERE WHAT IT READS IS OF BULK AT MOST 1048576: true; the input reads as it did. -/
def folioSizesUptoRow : OpenClaim := { program := "ytcgaobfbgfefhaa", sum := "2423a7eb37b75e346904624cd90d85df09c8407ffd762778ac7a0551ce8b85e5", func := "incunable/incunablelaw16.FolioSizes", spec := "folioSizes", unfollowed := true, recurses := true, apart := false, narrowed := true }
def FolioSizesUptoSaid : Prop := folioSizesUptoRow.holds Try.pinned (OpenSpec.upto folioSizesSpec)

end Rows
end Go.Proofs.Ytcgaobfbgfefhaa
