/-
  No cell of these rows narrows 'for every input' (looked for: loops, veiled, ifaces, maps, wideKeys, modest, calm, conditions, laid).
  DERIVED. THE GIVEN ROWS OF THIS SEAT. 5 by the template 'for every input the law returns true; each argument reads behind the call as it read before'; 0 by the template 'total and deterministic' (their statements: YtdpkamajecmebaaTotals.lean).
  GIVEN WITH THE SEED: the statements are not yours to turn. If you find one false, say at which input.
  Laid BY PROGRAM, IN A SANDBOX (cutbox-rows.mjs): the forced cells as the released guide's own fill.sh prints them over the translation c10c999a0d90b56b… (all of the seat's roots in one cut). By AI agents, Wed Nov 11 2026. No macro, syntax, notation, axiom, sorry.
-/
import Derived.Test.YtdpkamajecmebaaChecked
import GoSem.Claim
import GoSem.ClaimJoined
import GoSem.ClaimMapViews
import Derived.JoinedTies
import Derived.KernelRfl
namespace Go.Proofs.Ytdpkamajecmebaa
/- THE CELL 'sum', in the pinned program and in every row, IS THE sha256 OF THE DUMP (.gsa) THAT YtdpkamajecmebaaProg.lean LOADS. Nothing in Lean hashes anything: it is a label: what it is worth is what the hold of that sum in a sandbox is worth. -/
noncomputable def Try.pinned : Pinned := { name := "ytdpkamajecmebaa", sum := "c10c999a0d90b56bb668951e17df0df03ba362285f66e24e6ab1337b083fb23d", checked := Try.checked }
namespace Rows
def none {H : Type} : Left H := { results := [], args := [] }

/-- 'incunablelaw20.PressBack': WHATEVER THE INPUT: true; the input reads as it did. -/
def pressBackSpec : ChangeSpec := { name := "pressBack", fn := fun _ => fun
  | [d] => { results := [.lit (.bool true)], args := [d] }
  | _ => none }
def pressBackRow : OpenClaim := { program := "ytdpkamajecmebaa", sum := "c10c999a0d90b56bb668951e17df0df03ba362285f66e24e6ab1337b083fb23d", func := "incunable/incunablelaw20.PressBack", spec := "pressBack", inPlace := ["maps.clone", "internal/abi.NoEscape"], unfollowed := true, recurses := true, apart := false }
def PressBackSaid : Prop := pressBackRow.holds Try.pinned (OpenSpec.ofChange pressBackSpec)

/-- ITS FALSE NEIGHBOUR: 'it returns false'. Refute it at one input. -/
def pressBackWrong : ChangeSpec := { name := "pressBack", fn := fun _ => fun
  | [d] => { results := [.lit (.bool false)], args := [d] }
  | _ => none }
def PressBackWrongFalsely : Prop := pressBackRow.holds Try.pinned (OpenSpec.ofChange pressBackWrong)

/-- 'incunablelaw20.PressRaw': WHATEVER THE INPUT: true; the input reads as it did. -/
def pressRawSpec : ChangeSpec := { name := "pressRaw", fn := fun _ => fun
  | [d1, d2] => { results := [.lit (.bool true)], args := [d1, d2] }
  | _ => none }
def pressRawRow : OpenClaim := { program := "ytdpkamajecmebaa", sum := "c10c999a0d90b56bb668951e17df0df03ba362285f66e24e6ab1337b083fb23d", func := "incunable/incunablelaw20.PressRaw", spec := "pressRaw", inPlace := ["maps.clone", "internal/abi.NoEscape"], unfollowed := true, recurses := true, apart := false }
def PressRawSaid : Prop := pressRawRow.holds Try.pinned (OpenSpec.ofChange pressRawSpec)

/-- ITS FALSE NEIGHBOUR: 'it returns false'. Refute it at one input. -/
def pressRawWrong : ChangeSpec := { name := "pressRaw", fn := fun _ => fun
  | [d1, d2] => { results := [.lit (.bool false)], args := [d1, d2] }
  | _ => none }
def PressRawWrongFalsely : Prop := pressRawRow.holds Try.pinned (OpenSpec.ofChange pressRawWrong)

/-- 'incunablelaw20.PressLong': WHATEVER THE INPUT: true; the input reads as it did. -/
def pressLongSpec : ChangeSpec := { name := "pressLong", fn := fun _ => fun
  | [d1, d2] => { results := [.lit (.bool true)], args := [d1, d2] }
  | _ => none }
def pressLongRow : OpenClaim := { program := "ytdpkamajecmebaa", sum := "c10c999a0d90b56bb668951e17df0df03ba362285f66e24e6ab1337b083fb23d", func := "incunable/incunablelaw20.PressLong", spec := "pressLong", inPlace := ["maps.clone", "internal/abi.NoEscape"], unfollowed := true, recurses := true, apart := false }
def PressLongSaid : Prop := pressLongRow.holds Try.pinned (OpenSpec.ofChange pressLongSpec)

/-- ITS FALSE NEIGHBOUR: 'it returns false'. Refute it at one input. -/
def pressLongWrong : ChangeSpec := { name := "pressLong", fn := fun _ => fun
  | [d1, d2] => { results := [.lit (.bool false)], args := [d1, d2] }
  | _ => none }
def PressLongWrongFalsely : Prop := pressLongRow.holds Try.pinned (OpenSpec.ofChange pressLongWrong)

/-- 'incunablelaw20.PressApart': WHATEVER THE INPUT: true; the input reads as it did. -/
def pressApartSpec : ChangeSpec := { name := "pressApart", fn := fun _ => fun
  | [d1, d2] => { results := [.lit (.bool true)], args := [d1, d2] }
  | _ => none }
def pressApartRow : OpenClaim := { program := "ytdpkamajecmebaa", sum := "c10c999a0d90b56bb668951e17df0df03ba362285f66e24e6ab1337b083fb23d", func := "incunable/incunablelaw20.PressApart", spec := "pressApart", inPlace := ["maps.clone", "internal/abi.NoEscape"], unfollowed := true, recurses := true, apart := false }
def PressApartSaid : Prop := pressApartRow.holds Try.pinned (OpenSpec.ofChange pressApartSpec)

/-- ITS FALSE NEIGHBOUR: 'it returns false'. Refute it at one input. -/
def pressApartWrong : ChangeSpec := { name := "pressApart", fn := fun _ => fun
  | [d1, d2] => { results := [.lit (.bool false)], args := [d1, d2] }
  | _ => none }
def PressApartWrongFalsely : Prop := pressApartRow.holds Try.pinned (OpenSpec.ofChange pressApartWrong)

/-- 'incunablelaw20.PressCrash': WHATEVER THE INPUT: true; the input reads as it did. -/
def pressCrashSpec : ChangeSpec := { name := "pressCrash", fn := fun _ => fun
  | [d1, d2] => { results := [.lit (.bool true)], args := [d1, d2] }
  | _ => none }
def pressCrashRow : OpenClaim := { program := "ytdpkamajecmebaa", sum := "c10c999a0d90b56bb668951e17df0df03ba362285f66e24e6ab1337b083fb23d", func := "incunable/incunablelaw20.PressCrash", spec := "pressCrash", inPlace := ["maps.clone", "internal/abi.NoEscape"], unfollowed := true, recurses := true, apart := false }
def PressCrashSaid : Prop := pressCrashRow.holds Try.pinned (OpenSpec.ofChange pressCrashSpec)

/-- ITS FALSE NEIGHBOUR: 'it returns false'. Refute it at one input. -/
def pressCrashWrong : ChangeSpec := { name := "pressCrash", fn := fun _ => fun
  | [d1, d2] => { results := [.lit (.bool false)], args := [d1, d2] }
  | _ => none }
def PressCrashWrongFalsely : Prop := pressCrashRow.holds Try.pinned (OpenSpec.ofChange pressCrashWrong)

/- THE SECOND FORM. 'bulk': how many values and letters a reading holds, each counted each time it is reached (what is shared counts as often as it is met; a slice's spare places count too). A statement '..UptoSaid' is the law's where the arguments, and the package variables that the reading takes, are together of bulk at most 1048576: NARROWER than '..Said'. Prove '..Said' where nothing that the law and all that it calls make is longer than what came in: it says more and counts as full. Else prove '..UptoSaid'. A law counts once. -/
mutual
def uptoBulk {H : Type} : DataW H → Nat
  | .lit (.string bytes) => bytes.length + 1
  | .lit _ => 1
  | .nil => 1
  | .ptr d => uptoBulk d + 1
  | .slice elems spare => uptoBulkAll elems + uptoBulkAll spare + 1
  | .agg parts => uptoBulkAll parts + 1
  | .iface _ d => uptoBulk d + 1
  | .map entries => uptoBulkEntries entries + 1
  | .held _ => 1
def uptoBulkAll {H : Type} : List (DataW H) → Nat
  | [] => 0
  | d :: r => uptoBulk d + uptoBulkAll r
def uptoBulkEntries {H : Type} : List (Lit × DataW H) → Nat
  | [] => 0
  | x :: r => uptoBulkEntry x + uptoBulkEntries r
def uptoBulkEntry {H : Type} : Lit × DataW H → Nat
  | (.string bytes, d) => bytes.length + uptoBulk d + 1
  | (_, d) => uptoBulk d + 1
 end
def uptoSmall : (H : Type) → List (DataW H) → Bool := fun _ ds => decide (uptoBulkAll ds ≤ 1048576)
def OpenSpec.upto (s : _root_.Go.ChangeSpec) : _root_.Go.OpenSpec := { _root_.Go.OpenSpec.ofChange s with cond := some uptoSmall }

/-- 'incunablelaw20.PressBack', WHERE WHAT IT READS IS OF BULK AT MOST 1048576: true; the input reads as it did. -/
def pressBackUptoRow : OpenClaim := { program := "ytdpkamajecmebaa", sum := "c10c999a0d90b56bb668951e17df0df03ba362285f66e24e6ab1337b083fb23d", func := "incunable/incunablelaw20.PressBack", spec := "pressBack", inPlace := ["maps.clone", "internal/abi.NoEscape"], unfollowed := true, recurses := true, apart := false, narrowed := true }
def PressBackUptoSaid : Prop := pressBackUptoRow.holds Try.pinned (OpenSpec.upto pressBackSpec)

/-- 'incunablelaw20.PressRaw', WHERE WHAT IT READS IS OF BULK AT MOST 1048576: true; the input reads as it did. -/
def pressRawUptoRow : OpenClaim := { program := "ytdpkamajecmebaa", sum := "c10c999a0d90b56bb668951e17df0df03ba362285f66e24e6ab1337b083fb23d", func := "incunable/incunablelaw20.PressRaw", spec := "pressRaw", inPlace := ["maps.clone", "internal/abi.NoEscape"], unfollowed := true, recurses := true, apart := false, narrowed := true }
def PressRawUptoSaid : Prop := pressRawUptoRow.holds Try.pinned (OpenSpec.upto pressRawSpec)

/-- 'incunablelaw20.PressLong', WHERE WHAT IT READS IS OF BULK AT MOST 1048576: true; the input reads as it did. -/
def pressLongUptoRow : OpenClaim := { program := "ytdpkamajecmebaa", sum := "c10c999a0d90b56bb668951e17df0df03ba362285f66e24e6ab1337b083fb23d", func := "incunable/incunablelaw20.PressLong", spec := "pressLong", inPlace := ["maps.clone", "internal/abi.NoEscape"], unfollowed := true, recurses := true, apart := false, narrowed := true }
def PressLongUptoSaid : Prop := pressLongUptoRow.holds Try.pinned (OpenSpec.upto pressLongSpec)

/-- 'incunablelaw20.PressApart', WHERE WHAT IT READS IS OF BULK AT MOST 1048576: true; the input reads as it did. -/
def pressApartUptoRow : OpenClaim := { program := "ytdpkamajecmebaa", sum := "c10c999a0d90b56bb668951e17df0df03ba362285f66e24e6ab1337b083fb23d", func := "incunable/incunablelaw20.PressApart", spec := "pressApart", inPlace := ["maps.clone", "internal/abi.NoEscape"], unfollowed := true, recurses := true, apart := false, narrowed := true }
def PressApartUptoSaid : Prop := pressApartUptoRow.holds Try.pinned (OpenSpec.upto pressApartSpec)

/-- 'incunablelaw20.PressCrash', WHERE WHAT IT READS IS OF BULK AT MOST 1048576: true; the input reads as it did. -/
def pressCrashUptoRow : OpenClaim := { program := "ytdpkamajecmebaa", sum := "c10c999a0d90b56bb668951e17df0df03ba362285f66e24e6ab1337b083fb23d", func := "incunable/incunablelaw20.PressCrash", spec := "pressCrash", inPlace := ["maps.clone", "internal/abi.NoEscape"], unfollowed := true, recurses := true, apart := false, narrowed := true }
def PressCrashUptoSaid : Prop := pressCrashUptoRow.holds Try.pinned (OpenSpec.upto pressCrashSpec)

end Rows
end Go.Proofs.Ytdpkamajecmebaa
