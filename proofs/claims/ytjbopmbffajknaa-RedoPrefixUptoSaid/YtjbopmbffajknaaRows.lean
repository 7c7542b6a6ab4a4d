/-
  No cell of these rows narrows 'for every input' (looked for: loops, veiled, ifaces, maps, wideKeys, modest, calm, conditions, laid).
  DERIVED. THE GIVEN ROWS OF THIS SEAT. 4 by the template 'for every input the law returns true; each argument reads behind the call as it read before'; 0 by the template 'total and deterministic' (their statements: YtjbopmbffajknaaTotals.lean).
  GIVEN WITH THE SEED: the statements are not yours to turn. If you find one false, say at which input.
  Laid BY PROGRAM, IN A SANDBOX (cutbox-rows.mjs): the forced cells as the released guide's own fill.sh prints them over the translation 2bacf1bff19a780e… (all of the seat's roots in one cut). By AI agents, Wed Nov 11 2026. No macro, syntax, notation, axiom, sorry.
-/
import Derived.Test.YtjbopmbffajknaaChecked
import GoSem.Claim
import GoSem.ClaimJoined
import GoSem.ClaimMapViews
import Derived.JoinedTies
import Derived.KernelRfl
namespace Go.Proofs.Ytjbopmbffajknaa
/- THE CELL 'sum', in the pinned program and in every row, IS THE sha256 OF THE DUMP (.gsa) THAT YtjbopmbffajknaaProg.lean LOADS. Nothing in Lean hashes anything: it is a label: what it is worth is what the hold of that sum in a sandbox is worth. -/
noncomputable def Try.pinned : Pinned := { name := "ytjbopmbffajknaa", sum := "2bacf1bff19a780edf4dcd015273b8f154efc0802623c21df5aaa2dd568d2e7f", checked := Try.checked }
namespace Rows
def none {H : Type} : Left H := { results := [], args := [] }

/-- 'incunablelaw10.RedoRaw': WHATEVER THE INPUT: true; the input reads as it did. -/
def redoRawSpec : ChangeSpec := { name := "redoRaw", fn := fun _ => fun
  | [d1, d2] => { results := [.lit (.bool true)], args := [d1, d2] }
  | _ => none }
def redoRawRow : OpenClaim := { program := "ytjbopmbffajknaa", sum := "2bacf1bff19a780edf4dcd015273b8f154efc0802623c21df5aaa2dd568d2e7f", func := "incunable/incunablelaw10.RedoRaw", spec := "redoRaw", inPlace := ["maps.clone"], unfollowed := true, recurses := true, apart := false }
def RedoRawSaid : Prop := redoRawRow.holds Try.pinned (OpenSpec.ofChange redoRawSpec)

/-- ITS FALSE NEIGHBOUR: 'it returns false'. Refute it at one input. -/
def redoRawWrong : ChangeSpec := { name := "redoRaw", fn := fun _ => fun
  | [d1, d2] => { results := [.lit (.bool false)], args := [d1, d2] }
  | _ => none }
def RedoRawWrongFalsely : Prop := redoRawRow.holds Try.pinned (OpenSpec.ofChange redoRawWrong)

/-- 'incunablelaw10.RedoBegins': WHATEVER THE INPUT: true; the input reads as it did. -/
def redoBeginsSpec : ChangeSpec := { name := "redoBegins", fn := fun _ => fun
  | [d1, d2] => { results := [.lit (.bool true)], args := [d1, d2] }
  | _ => none }
def redoBeginsRow : OpenClaim := { program := "ytjbopmbffajknaa", sum := "2bacf1bff19a780edf4dcd015273b8f154efc0802623c21df5aaa2dd568d2e7f", func := "incunable/incunablelaw10.RedoBegins", spec := "redoBegins", inPlace := ["maps.clone"], unfollowed := true, recurses := true, apart := false }
def RedoBeginsSaid : Prop := redoBeginsRow.holds Try.pinned (OpenSpec.ofChange redoBeginsSpec)

/-- ITS FALSE NEIGHBOUR: 'it returns false'. Refute it at one input. -/
def redoBeginsWrong : ChangeSpec := { name := "redoBegins", fn := fun _ => fun
  | [d1, d2] => { results := [.lit (.bool false)], args := [d1, d2] }
  | _ => none }
def RedoBeginsWrongFalsely : Prop := redoBeginsRow.holds Try.pinned (OpenSpec.ofChange redoBeginsWrong)

/-- 'incunablelaw10.RedoPrefix': WHATEVER THE INPUT: true; the input reads as it did. -/
def redoPrefixSpec : ChangeSpec := { name := "redoPrefix", fn := fun _ => fun
  | [d] => { results := [.lit (.bool true)], args := [d] }
  | _ => none }
def redoPrefixRow : OpenClaim := { program := "ytjbopmbffajknaa", sum := "2bacf1bff19a780edf4dcd015273b8f154efc0802623c21df5aaa2dd568d2e7f", func := "incunable/incunablelaw10.RedoPrefix", spec := "redoPrefix", inPlace := ["maps.clone"], unfollowed := true, recurses := true, apart := false }
def RedoPrefixSaid : Prop := redoPrefixRow.holds Try.pinned (OpenSpec.ofChange redoPrefixSpec)

/-- ITS FALSE NEIGHBOUR: 'it returns false'. Refute it at one input. -/
def redoPrefixWrong : ChangeSpec := { name := "redoPrefix", fn := fun _ => fun
  | [d] => { results := [.lit (.bool false)], args := [d] }
  | _ => none }
def RedoPrefixWrongFalsely : Prop := redoPrefixRow.holds Try.pinned (OpenSpec.ofChange redoPrefixWrong)

/-- 'incunablelaw10.RedoAll': WHATEVER THE INPUT: true; the input reads as it did. -/
def redoAllSpec : ChangeSpec := { name := "redoAll", fn := fun _ => fun
  | [d] => { results := [.lit (.bool true)], args := [d] }
  | _ => none }
def redoAllRow : OpenClaim := { program := "ytjbopmbffajknaa", sum := "2bacf1bff19a780edf4dcd015273b8f154efc0802623c21df5aaa2dd568d2e7f", func := "incunable/incunablelaw10.RedoAll", spec := "redoAll", inPlace := ["maps.clone"], unfollowed := true, recurses := true, apart := false }
def RedoAllSaid : Prop := redoAllRow.holds Try.pinned (OpenSpec.ofChange redoAllSpec)

/-- ITS FALSE NEIGHBOUR: 'it returns false'. Refute it at one input. -/
def redoAllWrong : ChangeSpec := { name := "redoAll", fn := fun _ => fun
  | [d] => { results := [.lit (.bool false)], args := [d] }
  | _ => none }
def RedoAllWrongFalsely : Prop := redoAllRow.holds Try.pinned (OpenSpec.ofChange redoAllWrong)

/- THE SECOND FORM. 'bulk': how many values and letters a reading holds, each counted each time it is reached (what is shared counts as often as it is met; a slice's spare places count too). A statement '..UptoSaid' is the law's where the arguments, and the package variables that the reading takes, are together of bulk at most 1048576: NARROWER than '..Said'. Prove '..Said' where nothing that the law and all that it calls make is longer than what came in: it says more and counts as full. Else prove '..UptoSaid'. A law counts once. -/
mutual
def uptoBulk {H : Type} : DataW H → Nat
  | .lit (.string bytes) => bytes.length + 1
  | .lit _ => 1
  | .nil => 1
  | .ptr d => uptoBulk d + 1
  | .slice elems spare => uptoBulkAll elems + uptoBulkAll spare + 1
  | .agg parts => uptoBulkAll parts + 1
  | .iface _ d => uptoBulk d + 1
  | .map entries => uptoBulkEntries entries + 1
  | .held _ => 1
def uptoBulkAll {H : Type} : List (DataW H) → Nat
  | [] => 0
  | d :: r => uptoBulk d + uptoBulkAll r
def uptoBulkEntries {H : Type} : List (Lit × DataW H) → Nat
  | [] => 0
  | x :: r => uptoBulkEntry x + uptoBulkEntries r
def uptoBulkEntry {H : Type} : Lit × DataW H → Nat
  | (.string bytes, d) => bytes.length + uptoBulk d + 1
  | (_, d) => uptoBulk d + 1
 end
def uptoSmall : (H : Type) → List (DataW H) → Bool := fun _ ds => decide (uptoBulkAll ds ≤ 1048576)
def OpenSpec.upto (s : _root_.Go.ChangeSpec) : _root_.Go.OpenSpec := { _root_.Go.OpenSpec.ofChange s with cond := some uptoSmall }

/-- 'incunablelaw10.RedoRaw', WHERE WHAT IT READS IS OF BULK AT MOST 1048576: true; the input reads as it did. -/
def redoRawUptoRow : OpenClaim := { program := "ytjbopmbffajknaa", sum := "2bacf1bff19a780edf4dcd015273b8f154efc0802623c21df5aaa2dd568d2e7f", func := "incunable/incunablelaw10.RedoRaw", spec := "redoRaw", inPlace := ["maps.clone"], unfollowed := true, recurses := true, apart := false, narrowed := true }
def RedoRawUptoSaid : Prop := redoRawUptoRow.holds Try.pinned (OpenSpec.upto redoRawSpec)

/-- 'incunablelaw10.RedoBegins', WHERE WHAT IT READS IS OF BULK AT MOST 1048576: true; the input reads as it did. -/
def redoBeginsUptoRow : OpenClaim := { program := "ytjbopmbffajknaa", sum := "2bacf1bff19a780edf4dcd015273b8f154efc0802623c21df5aaa2dd568d2e7f", func := "incunable/incunablelaw10.RedoBegins", spec := "redoBegins", inPlace := ["maps.clone"], unfollowed := true, recurses := true, apart := false, narrowed := true }
def RedoBeginsUptoSaid : Prop := redoBeginsUptoRow.holds Try.pinned (OpenSpec.upto redoBeginsSpec)

/-- 'incunablelaw10.RedoPrefix', WHERE WHAT IT READS IS OF BULK AT MOST 1048576: true; the input reads as it did. -/
def redoPrefixUptoRow : OpenClaim := { program := "ytjbopmbffajknaa", sum := "2bacf1bff19a780edf4dcd015273b8f154efc0802623c21df5aaa2dd568d2e7f", func := "incunable/incunablelaw10.RedoPrefix", spec := "redoPrefix", inPlace := ["maps.clone"], unfollowed := true, recurses := true, apart := false, narrowed := true }
def RedoPrefixUptoSaid : Prop := redoPrefixUptoRow.holds Try.pinned (OpenSpec.upto redoPrefixSpec)

/-- 'incunablelaw10.RedoAll', WHERE WHAT IT READS IS OF BULK AT MOST 1048576: true; the input reads as it did. -/
def redoAllUptoRow : OpenClaim := { program := "ytjbopmbffajknaa", sum := "2bacf1bff19a780edf4dcd015273b8f154efc0802623c21df5aaa2dd568d2e7f", func := "incunable/incunablelaw10.RedoAll", spec := "redoAll", inPlace := ["maps.clone"], unfollowed := true, recurses := true, apart := false, narrowed := true }
def RedoAllUptoSaid : Prop := redoAllUptoRow.holds Try.pinned (OpenSpec.upto redoAllSpec)

end Rows
end Go.Proofs.Ytjbopmbffajknaa
