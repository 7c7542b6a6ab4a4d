/-
  No cell of these rows narrows 'for every input' (looked for: loops, veiled, ifaces, maps, wideKeys, modest, calm, conditions, laid).
  DERIVED. THE GIVEN ROWS OF THIS SEAT. 5 by the template 'for every input the law returns true; each argument reads behind the call as it read before'; 0 by the template 'total and deterministic' (their statements: YtiagjabdfppgkaaTotals.lean).
  GIVEN WITH THE SEED: the statements are not yours to turn. If you find one false, say at which input.
  Laid BY PROGRAM, IN A SANDBOX (cutbox-rows.mjs): the forced cells as the released guide's own fill.sh prints them over the translation a360d86569adc0e2… (all of the seat's roots in one cut). By AI agents, Wed Nov 11 2026. No macro, syntax, notation, axiom, sorry.
-/
import Derived.Test.YtiagjabdfppgkaaChecked
import GoSem.Claim
import GoSem.ClaimJoined
import GoSem.ClaimMapViews
import Derived.JoinedTies
import Derived.KernelRfl
namespace Go.Proofs.Ytiagjabdfppgkaa
/- THE CELL 'sum', in the pinned program and in every row, IS THE sha256 OF THE DUMP (.gsa) THAT YtiagjabdfppgkaaProg.lean LOADS. Nothing in Lean hashes anything: it is a label: what it is worth is what the hold of that sum in a sandbox is worth. -/
noncomputable def Try.pinned : Pinned := { name := "ytiagjabdfppgkaa", sum := "a360d86569adc0e277ff5aa6c81d5e553cc52e8fd6994c480c4b56a3458a101e", checked := Try.checked }
namespace Rows
def none {H : Type} : Left H := { results := [], args := [] }

/-- 'incunablelaw12.FramesAhead': WHATEVER THE INPUT: true; the input reads as it did. -/
def framesAheadSpec : ChangeSpec := { name := "framesAhead", fn := fun _ => fun
  | [d1, d2] => { results := [.lit (.bool true)], args := [d1, d2] }
  | _ => none }
def framesAheadRow : OpenClaim := { program := "ytiagjabdfppgkaa", sum := "a360d86569adc0e277ff5aa6c81d5e553cc52e8fd6994c480c4b56a3458a101e", func := "incunable/incunablelaw12.FramesAhead", spec := "framesAhead", unfollowed := true, recurses := true, apart := false }
def FramesAheadSaid : Prop := framesAheadRow.holds Try.pinned (OpenSpec.ofChange framesAheadSpec)

/-- ITS FALSE NEIGHBOUR: 'it returns false'. Refute it at one input. -/
def framesAheadWrong : ChangeSpec := { name := "framesAhead", fn := fun _ => fun
  | [d1, d2] => { results := [.lit (.bool false)], args := [d1, d2] }
  | _ => none }
def FramesAheadWrongFalsely : Prop := framesAheadRow.holds Try.pinned (OpenSpec.ofChange framesAheadWrong)

/-- 'incunablelaw12.FramesPages': WHATEVER THE INPUT: true; the input reads as it did. -/
def framesPagesSpec : ChangeSpec := { name := "framesPages", fn := fun _ => fun
  | [d1, d2] => { results := [.lit (.bool true)], args := [d1, d2] }
  | _ => none }
def framesPagesRow : OpenClaim := { program := "ytiagjabdfppgkaa", sum := "a360d86569adc0e277ff5aa6c81d5e553cc52e8fd6994c480c4b56a3458a101e", func := "incunable/incunablelaw12.FramesPages", spec := "framesPages", unfollowed := true, recurses := true, apart := false }
def FramesPagesSaid : Prop := framesPagesRow.holds Try.pinned (OpenSpec.ofChange framesPagesSpec)

/-- ITS FALSE NEIGHBOUR: 'it returns false'. Refute it at one input. -/
def framesPagesWrong : ChangeSpec := { name := "framesPages", fn := fun _ => fun
  | [d1, d2] => { results := [.lit (.bool false)], args := [d1, d2] }
  | _ => none }
def FramesPagesWrongFalsely : Prop := framesPagesRow.holds Try.pinned (OpenSpec.ofChange framesPagesWrong)

/-- 'incunablelaw12.FramesRefused': WHATEVER THE INPUT: true; the input reads as it did. -/
def framesRefusedSpec : ChangeSpec := { name := "framesRefused", fn := fun _ => fun
  | [d1, d2] => { results := [.lit (.bool true)], args := [d1, d2] }
  | _ => none }
def framesRefusedRow : OpenClaim := { program := "ytiagjabdfppgkaa", sum := "a360d86569adc0e277ff5aa6c81d5e553cc52e8fd6994c480c4b56a3458a101e", func := "incunable/incunablelaw12.FramesRefused", spec := "framesRefused", unfollowed := true, recurses := true, apart := false }
def FramesRefusedSaid : Prop := framesRefusedRow.holds Try.pinned (OpenSpec.ofChange framesRefusedSpec)

/-- ITS FALSE NEIGHBOUR: 'it returns false'. Refute it at one input. -/
def framesRefusedWrong : ChangeSpec := { name := "framesRefused", fn := fun _ => fun
  | [d1, d2] => { results := [.lit (.bool false)], args := [d1, d2] }
  | _ => none }
def FramesRefusedWrongFalsely : Prop := framesRefusedRow.holds Try.pinned (OpenSpec.ofChange framesRefusedWrong)

/-- 'incunablelaw12.FramesAll': WHATEVER THE INPUT: true; the input reads as it did. -/
def framesAllSpec : ChangeSpec := { name := "framesAll", fn := fun _ => fun
  | [d1, d2] => { results := [.lit (.bool true)], args := [d1, d2] }
  | _ => none }
def framesAllRow : OpenClaim := { program := "ytiagjabdfppgkaa", sum := "a360d86569adc0e277ff5aa6c81d5e553cc52e8fd6994c480c4b56a3458a101e", func := "incunable/incunablelaw12.FramesAll", spec := "framesAll", unfollowed := true, recurses := true, apart := false }
def FramesAllSaid : Prop := framesAllRow.holds Try.pinned (OpenSpec.ofChange framesAllSpec)

/-- ITS FALSE NEIGHBOUR: 'it returns false'. Refute it at one input. -/
def framesAllWrong : ChangeSpec := { name := "framesAll", fn := fun _ => fun
  | [d1, d2] => { results := [.lit (.bool false)], args := [d1, d2] }
  | _ => none }
def FramesAllWrongFalsely : Prop := framesAllRow.holds Try.pinned (OpenSpec.ofChange framesAllWrong)

/-- 'incunablelaw12.FramesFails': WHATEVER THE INPUT: true; the input reads as it did. -/
def framesFailsSpec : ChangeSpec := { name := "framesFails", fn := fun _ => fun
  | [d1, d2, d3] => { results := [.lit (.bool true)], args := [d1, d2, d3] }
  | _ => none }
def framesFailsRow : OpenClaim := { program := "ytiagjabdfppgkaa", sum := "a360d86569adc0e277ff5aa6c81d5e553cc52e8fd6994c480c4b56a3458a101e", func := "incunable/incunablelaw12.FramesFails", spec := "framesFails", unfollowed := true, recurses := true, apart := false }
def FramesFailsSaid : Prop := framesFailsRow.holds Try.pinned (OpenSpec.ofChange framesFailsSpec)

/-- ITS FALSE NEIGHBOUR: 'it returns false'. Refute it at one input. -/
def framesFailsWrong : ChangeSpec := { name := "framesFails", fn := fun _ => fun
  | [d1, d2, d3] => { results := [.lit (.bool false)], args := [d1, d2, d3] }
  | _ => none }
def FramesFailsWrongFalsely : Prop := framesFailsRow.holds Try.pinned (OpenSpec.ofChange framesFailsWrong)

/- THE SECOND FORM. 'bulk': how many values and letters a reading holds, each counted each time it is reached (what is shared counts as often as it is met; a slice's spare places count too). A statement '..UptoSaid' is the law's where the arguments, and the package variables that the reading takes, are together of bulk at most 1048576: NARROWER than '..Said'. Prove '..Said' where nothing that the law and all that it calls make is longer than what came in: it says more and counts as full. Else prove '..UptoSaid'. A law counts once. -/
mutual
def uptoBulk {H : Type} : DataW H → Nat
  | .lit (.string bytes) => bytes.length + 1
  | .lit _ => 1
  | .nil => 1
  | .ptr d => uptoBulk d + 1
  | .slice elems spare => uptoBulkAll elems + uptoBulkAll spare + 1
  | .agg parts => uptoBulkAll parts + 1
  | .iface _ d => uptoBulk d + 1
  | .map entries => uptoBulkEntries entries + 1
  | .held _ => 1
def uptoBulkAll {H : Type} : List (DataW H) → Nat
  | [] => 0
  | d :: r => uptoBulk d + uptoBulkAll r
def uptoBulkEntries {H : Type} : List (Lit × DataW H) → Nat
  | [] => 0
  | x :: r => uptoBulkEntry x + uptoBulkEntries r
def uptoBulkEntry {H : Type} : Lit × DataW H → Nat
  | (.string bytes, d) => bytes.length + uptoBulk d + 1
  | (_, d) => uptoBulk d + 1
 end
def uptoSmall : (H : Type) → List (DataW H) → Bool := fun _ ds => decide (uptoBulkAll ds ≤ 1048576)
def OpenSpec.upto (s : _root_.Go.ChangeSpec) : _root_.Go.OpenSpec := { _root_.Go.OpenSpec.ofChange s with cond := some uptoSmall }

/-- 'incunablelaw12.FramesAhead', WHERE WHAT IT READS IS OF BULK AT MOST 1048576: true; the input reads as it did. -/
def framesAheadUptoRow : OpenClaim := { program := "ytiagjabdfppgkaa", sum := "a360d86569adc0e277ff5aa6c81d5e553cc52e8fd6994c480c4b56a3458a101e", func := "incunable/incunablelaw12.FramesAhead", spec := "framesAhead", unfollowed := true, recurses := true, apart := false, narrowed := true }
def FramesAheadUptoSaid : Prop := framesAheadUptoRow.holds Try.pinned (OpenSpec.upto framesAheadSpec)

/-- 'incunablelaw12.FramesPages', WHERE WHAT IT READS IS OF BULK AT MOST 1048576: true; the input reads as it did. -/
def framesPagesUptoRow : OpenClaim := { program := "ytiagjabdfppgkaa", sum := "a360d86569adc0e277ff5aa6c81d5e553cc52e8fd6994c480c4b56a3458a101e", func := "incunable/incunablelaw12.FramesPages", spec := "framesPages", unfollowed := true, recurses := true, apart := false, narrowed := true }
def FramesPagesUptoSaid : Prop := framesPagesUptoRow.holds Try.pinned (OpenSpec.upto framesPagesSpec)

/-- 'incunablelaw12.FramesRefused', WHERE WHAT IT READS IS OF BULK AT MOST 1048576: true; the input reads as it did. -/
def framesRefusedUptoRow : OpenClaim := { program := "ytiagjabdfppgkaa", sum := "a360d86569adc0e277ff5aa6c81d5e553cc52e8fd6994c480c4b56a3458a101e", func := "incunable/incunablelaw12.FramesRefused", spec := "framesRefused", unfollowed := true, recurses := true, apart := false, narrowed := true }
def FramesRefusedUptoSaid : Prop := framesRefusedUptoRow.holds Try.pinned (OpenSpec.upto framesRefusedSpec)

/-- 'incunablelaw12.FramesAll', WHERE WHAT IT READS IS OF BULK AT MOST 1048576: true; the input reads as it did. -/
def framesAllUptoRow : OpenClaim := { program := "ytiagjabdfppgkaa", sum := "a360d86569adc0e277ff5aa6c81d5e553cc52e8fd6994c480c4b56a3458a101e", func := "incunable/incunablelaw12.FramesAll", spec := "framesAll", unfollowed := true, recurses := true, apart := false, narrowed := true }
def FramesAllUptoSaid : Prop := framesAllUptoRow.holds Try.pinned (OpenSpec.upto framesAllSpec)

/-- 'incunablelaw12.FramesFails', WHERE WHAT IT READS IS OF BULK AT MOST 1048576: true; the input reads as it did. -/
def framesFailsUptoRow : OpenClaim := { program := "ytiagjabdfppgkaa", sum := "a360d86569adc0e277ff5aa6c81d5e553cc52e8fd6994c480c4b56a3458a101e", func := "incunable/incunablelaw12.FramesFails", spec := "framesFails", unfollowed := true, recurses := true, apart := false, narrowed := true }
def FramesFailsUptoSaid : Prop := framesFailsUptoRow.holds Try.pinned (OpenSpec.upto framesFailsSpec)

end Rows
end Go.Proofs.Ytiagjabdfppgkaa
