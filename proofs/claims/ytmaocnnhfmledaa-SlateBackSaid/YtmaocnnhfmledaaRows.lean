/-
  No cell of these rows narrows 'for every input' (looked for: loops, veiled, ifaces, maps, wideKeys, modest, calm, conditions, laid).
  DERIVED. THE GIVEN ROWS OF THIS SEAT. 5 by the template 'for every input the law returns true; each argument reads behind the call as it read before'; 0 by the template 'total and deterministic' (their statements: YtmaocnnhfmledaaTotals.lean).
  GIVEN WITH THE SEED: the statements are not yours to turn. If you find one false, say at which input.
  Laid BY PROGRAM, IN A SANDBOX (cutbox-rows.mjs): the forced cells as the released guide's own fill.sh prints them over the translation 850265c91696a2ba… (all of the seat's roots in one cut). By AI agents, Wed Nov 11 2026. No macro, syntax, notation, axiom, sorry.
-/
import Derived.Test.YtmaocnnhfmledaaChecked
import GoSem.Claim
import GoSem.ClaimJoined
import GoSem.ClaimMapViews
import Derived.JoinedTies
import Derived.KernelRfl
namespace Go.Proofs.Ytmaocnnhfmledaa
/- THE CELL 'sum', in the pinned program and in every row, IS THE sha256 OF THE DUMP (.gsa) THAT YtmaocnnhfmledaaProg.lean LOADS. Nothing in Lean hashes anything: it is a label: what it is worth is what the hold of that sum in a sandbox is worth. -/
noncomputable def Try.pinned : Pinned := { name := "ytmaocnnhfmledaa", sum := "850265c91696a2ba6f7a11f827bc45d1b9d788f31bf480d81cf2d38316330209", checked := Try.checked }
namespace Rows
def none {H : Type} : Left H := { results := [], args := [] }

/-- 'incunablelaw11.SlateFills': WHATEVER THE INPUT: true; the input reads as it did. -/
def slateFillsSpec : ChangeSpec := { name := "slateFills", fn := fun _ => fun
  | [d1, d2] => { results := [.lit (.bool true)], args := [d1, d2] }
  | _ => none }
def slateFillsRow : OpenClaim := { program := "ytmaocnnhfmledaa", sum := "850265c91696a2ba6f7a11f827bc45d1b9d788f31bf480d81cf2d38316330209", func := "incunable/incunablelaw11.SlateFills", spec := "slateFills", unfollowed := true, recurses := true, apart := false }
def SlateFillsSaid : Prop := slateFillsRow.holds Try.pinned (OpenSpec.ofChange slateFillsSpec)

/-- ITS FALSE NEIGHBOUR: 'it returns false'. Refute it at one input. -/
def slateFillsWrong : ChangeSpec := { name := "slateFills", fn := fun _ => fun
  | [d1, d2] => { results := [.lit (.bool false)], args := [d1, d2] }
  | _ => none }
def SlateFillsWrongFalsely : Prop := slateFillsRow.holds Try.pinned (OpenSpec.ofChange slateFillsWrong)

/-- 'incunablelaw11.SlateAll': WHATEVER THE INPUT: true; the input reads as it did. -/
def slateAllSpec : ChangeSpec := { name := "slateAll", fn := fun _ => fun
  | [d] => { results := [.lit (.bool true)], args := [d] }
  | _ => none }
def slateAllRow : OpenClaim := { program := "ytmaocnnhfmledaa", sum := "850265c91696a2ba6f7a11f827bc45d1b9d788f31bf480d81cf2d38316330209", func := "incunable/incunablelaw11.SlateAll", spec := "slateAll", unfollowed := true, recurses := true, apart := false }
def SlateAllSaid : Prop := slateAllRow.holds Try.pinned (OpenSpec.ofChange slateAllSpec)

/-- ITS FALSE NEIGHBOUR: 'it returns false'. Refute it at one input. -/
def slateAllWrong : ChangeSpec := { name := "slateAll", fn := fun _ => fun
  | [d] => { results := [.lit (.bool false)], args := [d] }
  | _ => none }
def SlateAllWrongFalsely : Prop := slateAllRow.holds Try.pinned (OpenSpec.ofChange slateAllWrong)

/-- 'incunablelaw11.SlateStamps': WHATEVER THE INPUT: true; the input reads as it did. -/
def slateStampsSpec : ChangeSpec := { name := "slateStamps", fn := fun _ => fun
  | [d1, d2] => { results := [.lit (.bool true)], args := [d1, d2] }
  | _ => none }
def slateStampsRow : OpenClaim := { program := "ytmaocnnhfmledaa", sum := "850265c91696a2ba6f7a11f827bc45d1b9d788f31bf480d81cf2d38316330209", func := "incunable/incunablelaw11.SlateStamps", spec := "slateStamps", unfollowed := true, recurses := true, apart := false }
def SlateStampsSaid : Prop := slateStampsRow.holds Try.pinned (OpenSpec.ofChange slateStampsSpec)

/-- ITS FALSE NEIGHBOUR: 'it returns false'. Refute it at one input. -/
def slateStampsWrong : ChangeSpec := { name := "slateStamps", fn := fun _ => fun
  | [d1, d2] => { results := [.lit (.bool false)], args := [d1, d2] }
  | _ => none }
def SlateStampsWrongFalsely : Prop := slateStampsRow.holds Try.pinned (OpenSpec.ofChange slateStampsWrong)

/-- 'incunablelaw11.SlateApart': WHATEVER THE INPUT: true; the input reads as it did. -/
def slateApartSpec : ChangeSpec := { name := "slateApart", fn := fun _ => fun
  | [d1, d2, d3] => { results := [.lit (.bool true)], args := [d1, d2, d3] }
  | _ => none }
def slateApartRow : OpenClaim := { program := "ytmaocnnhfmledaa", sum := "850265c91696a2ba6f7a11f827bc45d1b9d788f31bf480d81cf2d38316330209", func := "incunable/incunablelaw11.SlateApart", spec := "slateApart", unfollowed := true, recurses := true, apart := false }
def SlateApartSaid : Prop := slateApartRow.holds Try.pinned (OpenSpec.ofChange slateApartSpec)

/-- ITS FALSE NEIGHBOUR: 'it returns false'. Refute it at one input. -/
def slateApartWrong : ChangeSpec := { name := "slateApart", fn := fun _ => fun
  | [d1, d2, d3] => { results := [.lit (.bool false)], args := [d1, d2, d3] }
  | _ => none }
def SlateApartWrongFalsely : Prop := slateApartRow.holds Try.pinned (OpenSpec.ofChange slateApartWrong)

/-- 'incunablelaw11.SlateBack': WHATEVER THE INPUT: true; the input reads as it did. -/
def slateBackSpec : ChangeSpec := { name := "slateBack", fn := fun _ => fun
  | [d1, d2] => { results := [.lit (.bool true)], args := [d1, d2] }
  | _ => none }
def slateBackRow : OpenClaim := { program := "ytmaocnnhfmledaa", sum := "850265c91696a2ba6f7a11f827bc45d1b9d788f31bf480d81cf2d38316330209", func := "incunable/incunablelaw11.SlateBack", spec := "slateBack", unfollowed := true, recurses := true, apart := false }
def SlateBackSaid : Prop := slateBackRow.holds Try.pinned (OpenSpec.ofChange slateBackSpec)

/-- ITS FALSE NEIGHBOUR: 'it returns false'. Refute it at one input. -/
def slateBackWrong : ChangeSpec := { name := "slateBack", fn := fun _ => fun
  | [d1, d2] => { results := [.lit (.bool false)], args := [d1, d2] }
  | _ => none }
def SlateBackWrongFalsely : Prop := slateBackRow.holds Try.pinned (OpenSpec.ofChange slateBackWrong)

/- THE SECOND FORM. 'bulk': how many values and letters a reading holds, each counted each time it is reached (what is shared counts as often as it is met; a slice's spare places count too). A statement '..UptoSaid' is the law's where the arguments, and the package variables that the reading takes, are together of bulk at most 1048576: NARROWER than '..Said'. Prove '..Said' where nothing that the law and all that it calls make is longer than what came in: it says more and counts as full. Else prove '..UptoSaid'. A law counts once. -/
mutual
def uptoBulk {H : Type} : DataW H → Nat
  | .lit (.string bytes) => bytes.length + 1
  | .lit _ => 1
  | .nil => 1
  | .ptr d => uptoBulk d + 1
  | .slice elems spare => uptoBulkAll elems + uptoBulkAll spare + 1
  | .agg parts => uptoBulkAll parts + 1
  | .iface _ d => uptoBulk d + 1
  | .map entries => uptoBulkEntries entries + 1
  | .held _ => 1
def uptoBulkAll {H : Type} : List (DataW H) → Nat
  | [] => 0
  | d :: r => uptoBulk d + uptoBulkAll r
def uptoBulkEntries {H : Type} : List (Lit × DataW H) → Nat
  | [] => 0
  | x :: r => uptoBulkEntry x + uptoBulkEntries r
def uptoBulkEntry {H : Type} : Lit × DataW H → Nat
  | (.string bytes, d) => bytes.length + uptoBulk d + 1
  | (_, d) => uptoBulk d + 1
 end
def uptoSmall : (H : Type) → List (DataW H) → Bool := fun _ ds => decide (uptoBulkAll ds ≤ 1048576)
def OpenSpec.upto (s : _root_.Go.ChangeSpec) : _root_.Go.OpenSpec := { _root_.Go.OpenSpec.ofChange s with cond := some uptoSmall }

/-- 'incunablelaw11.SlateFills', WHERE WHAT IT READS IS OF BULK AT MOST 1048576: true; the input reads as it did. -/
def slateFillsUptoRow : OpenClaim := { program := "ytmaocnnhfmledaa", sum := "850265c91696a2ba6f7a11f827bc45d1b9d788f31bf480d81cf2d38316330209", func := "incunable/incunablelaw11.SlateFills", spec := "slateFills", unfollowed := true, recurses := true, apart := false, narrowed := true }
def SlateFillsUptoSaid : Prop := slateFillsUptoRow.holds Try.pinned (OpenSpec.upto slateFillsSpec)

/-- 'incunablelaw11.SlateAll', WHERE WHAT IT READS IS OF BULK AT MOST 1048576: true; the input reads as it did. -/
def slateAllUptoRow : OpenClaim := { program := "ytmaocnnhfmledaa", sum := "850265c91696a2ba6f7a11f827bc45d1b9d788f31bf480d81cf2d38316330209", func := "incunable/incunablelaw11.SlateAll", spec := "slateAll", unfollowed := true, recurses := true, apart := false, narrowed := true }
def SlateAllUptoSaid : Prop := slateAllUptoRow.holds Try.pinned (OpenSpec.upto slateAllSpec)

/-- 'incunablelaw11.SlateStamps', WHERE WHAT IT READS IS OF BULK AT MOST 1048576: true; the input reads as it did. -/
def slateStampsUptoRow : OpenClaim := { program := "ytmaocnnhfmledaa", sum := "850265c91696a2ba6f7a11f827bc45d1b9d788f31bf480d81cf2d38316330209", func := "incunable/incunablelaw11.SlateStamps", spec := "slateStamps", unfollowed := true, recurses := true, apart := false, narrowed := true }
def SlateStampsUptoSaid : Prop := slateStampsUptoRow.holds Try.pinned (OpenSpec.upto slateStampsSpec)

/-- 'incunablelaw11.SlateApart', WHERE WHAT IT READS IS OF BULK AT MOST 1048576: true; the input reads as it did. -/
def slateApartUptoRow : OpenClaim := { program := "ytmaocnnhfmledaa", sum := "850265c91696a2ba6f7a11f827bc45d1b9d788f31bf480d81cf2d38316330209", func := "incunable/incunablelaw11.SlateApart", spec := "slateApart", unfollowed := true, recurses := true, apart := false, narrowed := true }
def SlateApartUptoSaid : Prop := slateApartUptoRow.holds Try.pinned (OpenSpec.upto slateApartSpec)

/-- 'incunablelaw11.SlateBack', WHERE WHAT IT READS IS OF BULK AT MOST 1048576: true; the input reads as it did. -/
def slateBackUptoRow : OpenClaim := { program := "ytmaocnnhfmledaa", sum := "850265c91696a2ba6f7a11f827bc45d1b9d788f31bf480d81cf2d38316330209", func := "incunable/incunablelaw11.SlateBack", spec := "slateBack", unfollowed := true, recurses := true, apart := false, narrowed := true }
def SlateBackUptoSaid : Prop := slateBackUptoRow.holds Try.pinned (OpenSpec.upto slateBackSpec)

end Rows
end Go.Proofs.Ytmaocnnhfmledaa
