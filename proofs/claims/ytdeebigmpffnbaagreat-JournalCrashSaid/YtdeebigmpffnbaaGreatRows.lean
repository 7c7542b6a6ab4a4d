/-
  No cell of these rows narrows 'for every input' (looked for: loops, veiled, ifaces, maps, wideKeys, modest, calm, conditions, laid).
  DERIVED. THE GIVEN ROWS OF THIS SEAT. 4 by the template 'for every input the law returns true; each argument reads behind the call as it read before'; 0 by the template 'total and deterministic' (their statements: YtdeebigmpffnbaaGreatTotals.lean).
  GIVEN WITH THE SEED: the statements are not yours to turn. If you find one false, say at which input.
  Laid BY PROGRAM, IN A SANDBOX (cutbox-rows.mjs): the forced cells as the released guide's own fill.sh prints them over the translation 0c4bfa729132526c… (all of the seat's roots in one cut). By AI agents, Wed Nov 11 2026. No macro, syntax, notation, axiom, sorry.
-/
import Derived.Test.YtdeebigmpffnbaaGreatChecked
import GoSem.Claim
import GoSem.ClaimJoined
import GoSem.ClaimMapViews
import Derived.JoinedTies
import Derived.KernelRfl
namespace Go.Proofs.YtdeebigmpffnbaaGreat
/- THE CELL 'sum', in the pinned program and in every row, IS THE sha256 OF THE DUMP (.gsa) THAT YtdeebigmpffnbaaGreatProg.lean LOADS. Nothing in Lean hashes anything: it is a label: what it is worth is what the hold of that sum in a sandbox is worth. -/
noncomputable def Tryz.pinned : Pinned := { name := "ytdeebigmpffnbaagreat", sum := "0c4bfa729132526cb53248a08ccf6cd436cd0d2eae47e292bb9022679449f3f8", checked := Tryz.checked }
namespace Rows
def none {H : Type} : Left H := { results := [], args := [] }

/-- 'incunablelaw18.JournalRaw': WHATEVER THE INPUT: true; the input reads as it did. -/
def journalRawSpec : ChangeSpec := { name := "journalRaw", fn := fun _ => fun
  | [d] => { results := [.lit (.bool true)], args := [d] }
  | _ => none }
def journalRawRow : OpenClaim := { program := "ytdeebigmpffnbaagreat", sum := "0c4bfa729132526cb53248a08ccf6cd436cd0d2eae47e292bb9022679449f3f8", func := "incunable/incunablelaw18.JournalRaw", spec := "journalRaw", inPlace := ["maps.clone"], unfollowed := true, recurses := true, plainKeys := false, apart := false }
def JournalRawSaid : Prop := journalRawRow.holds Tryz.pinned (OpenSpec.ofChange journalRawSpec)

/-- ITS FALSE NEIGHBOUR: 'it returns false'. Refute it at one input. -/
def journalRawWrong : ChangeSpec := { name := "journalRaw", fn := fun _ => fun
  | [d] => { results := [.lit (.bool false)], args := [d] }
  | _ => none }
def JournalRawWrongFalsely : Prop := journalRawRow.holds Tryz.pinned (OpenSpec.ofChange journalRawWrong)

/-- 'incunablelaw18.JournalAnywhere': WHATEVER THE INPUT: true; the input reads as it did. -/
def journalAnywhereSpec : ChangeSpec := { name := "journalAnywhere", fn := fun _ => fun
  | [d1, d2, d3] => { results := [.lit (.bool true)], args := [d1, d2, d3] }
  | _ => none }
def journalAnywhereRow : OpenClaim := { program := "ytdeebigmpffnbaagreat", sum := "0c4bfa729132526cb53248a08ccf6cd436cd0d2eae47e292bb9022679449f3f8", func := "incunable/incunablelaw18.JournalAnywhere", spec := "journalAnywhere", inPlace := ["maps.clone"], unfollowed := true, recurses := true, plainKeys := false, apart := false }
def JournalAnywhereSaid : Prop := journalAnywhereRow.holds Tryz.pinned (OpenSpec.ofChange journalAnywhereSpec)

/-- ITS FALSE NEIGHBOUR: 'it returns false'. Refute it at one input. -/
def journalAnywhereWrong : ChangeSpec := { name := "journalAnywhere", fn := fun _ => fun
  | [d1, d2, d3] => { results := [.lit (.bool false)], args := [d1, d2, d3] }
  | _ => none }
def JournalAnywhereWrongFalsely : Prop := journalAnywhereRow.holds Tryz.pinned (OpenSpec.ofChange journalAnywhereWrong)

/-- 'incunablelaw18.JournalFirm': WHATEVER THE INPUT: true; the input reads as it did. -/
def journalFirmSpec : ChangeSpec := { name := "journalFirm", fn := fun _ => fun
  | [d1, d2, d3] => { results := [.lit (.bool true)], args := [d1, d2, d3] }
  | _ => none }
def journalFirmRow : OpenClaim := { program := "ytdeebigmpffnbaagreat", sum := "0c4bfa729132526cb53248a08ccf6cd436cd0d2eae47e292bb9022679449f3f8", func := "incunable/incunablelaw18.JournalFirm", spec := "journalFirm", inPlace := ["maps.clone"], unfollowed := true, recurses := true, plainKeys := false, apart := false }
def JournalFirmSaid : Prop := journalFirmRow.holds Tryz.pinned (OpenSpec.ofChange journalFirmSpec)

/-- ITS FALSE NEIGHBOUR: 'it returns false'. Refute it at one input. -/
def journalFirmWrong : ChangeSpec := { name := "journalFirm", fn := fun _ => fun
  | [d1, d2, d3] => { results := [.lit (.bool false)], args := [d1, d2, d3] }
  | _ => none }
def JournalFirmWrongFalsely : Prop := journalFirmRow.holds Tryz.pinned (OpenSpec.ofChange journalFirmWrong)

/-- 'incunablelaw18.JournalCrash': WHATEVER THE INPUT: true; the input reads as it did. -/
def journalCrashSpec : ChangeSpec := { name := "journalCrash", fn := fun _ => fun
  | [d1, d2] => { results := [.lit (.bool true)], args := [d1, d2] }
  | _ => none }
def journalCrashRow : OpenClaim := { program := "ytdeebigmpffnbaagreat", sum := "0c4bfa729132526cb53248a08ccf6cd436cd0d2eae47e292bb9022679449f3f8", func := "incunable/incunablelaw18.JournalCrash", spec := "journalCrash", inPlace := ["maps.clone"], unfollowed := true, recurses := true, plainKeys := false, apart := false }
def JournalCrashSaid : Prop := journalCrashRow.holds Tryz.pinned (OpenSpec.ofChange journalCrashSpec)

/-- ITS FALSE NEIGHBOUR: 'it returns false'. Refute it at one input. -/
def journalCrashWrong : ChangeSpec := { name := "journalCrash", fn := fun _ => fun
  | [d1, d2] => { results := [.lit (.bool false)], args := [d1, d2] }
  | _ => none }
def JournalCrashWrongFalsely : Prop := journalCrashRow.holds Tryz.pinned (OpenSpec.ofChange journalCrashWrong)

/- THE SECOND FORM. 'bulk': how many values and letters a reading holds, each counted each time it is reached (what is shared counts as often as it is met; a slice's spare places count too). A statement '..UptoSaid' is the law's where the arguments, and the package variables that the reading takes, are together of bulk at most 1048576: NARROWER than '..Said'. Prove '..Said' where nothing that the law and all that it calls make is longer than what came in: it says more and counts as full. Else prove '..UptoSaid'. A law counts once. -/
mutual
def uptoBulk {H : Type} : DataW H → Nat
  | .lit (.string bytes) => bytes.length + 1
  | .lit _ => 1
  | .nil => 1
  | .ptr d => uptoBulk d + 1
  | .slice elems spare => uptoBulkAll elems + uptoBulkAll spare + 1
  | .agg parts => uptoBulkAll parts + 1
  | .iface _ d => uptoBulk d + 1
  | .map entries => uptoBulkEntries entries + 1
  | .held _ => 1
def uptoBulkAll {H : Type} : List (DataW H) → Nat
  | [] => 0
  | d :: r => uptoBulk d + uptoBulkAll r
def uptoBulkEntries {H : Type} : List (Lit × DataW H) → Nat
  | [] => 0
  | x :: r => uptoBulkEntry x + uptoBulkEntries r
def uptoBulkEntry {H : Type} : Lit × DataW H → Nat
  | (.string bytes, d) => bytes.length + uptoBulk d + 1
  | (_, d) => uptoBulk d + 1
 end
def uptoSmall : (H : Type) → List (DataW H) → Bool := fun _ ds => decide (uptoBulkAll ds ≤ 1048576)
def OpenSpec.upto (s : _root_.Go.ChangeSpec) : _root_.Go.OpenSpec := { _root_.Go.OpenSpec.ofChange s with cond := some uptoSmall }

/-- 'incunablelaw18.JournalRaw', WHERE WHAT IT READS IS OF BULK AT MOST 1048576: true; the input reads as it did. -/
def journalRawUptoRow : OpenClaim := { program := "ytdeebigmpffnbaagreat", sum := "0c4bfa729132526cb53248a08ccf6cd436cd0d2eae47e292bb9022679449f3f8", func := "incunable/incunablelaw18.JournalRaw", spec := "journalRaw", inPlace := ["maps.clone"], unfollowed := true, recurses := true, plainKeys := false, apart := false, narrowed := true }
def JournalRawUptoSaid : Prop := journalRawUptoRow.holds Tryz.pinned (OpenSpec.upto journalRawSpec)

/-- 'incunablelaw18.JournalAnywhere', WHERE WHAT IT READS IS OF BULK AT MOST 1048576: true; the input reads as it did. -/
def journalAnywhereUptoRow : OpenClaim := { program := "ytdeebigmpffnbaagreat", sum := "0c4bfa729132526cb53248a08ccf6cd436cd0d2eae47e292bb9022679449f3f8", func := "incunable/incunablelaw18.JournalAnywhere", spec := "journalAnywhere", inPlace := ["maps.clone"], unfollowed := true, recurses := true, plainKeys := false, apart := false, narrowed := true }
def JournalAnywhereUptoSaid : Prop := journalAnywhereUptoRow.holds Tryz.pinned (OpenSpec.upto journalAnywhereSpec)

/-- 'incunablelaw18.JournalFirm', WHERE WHAT IT READS IS OF BULK AT MOST 1048576: true; the input reads as it did. -/
def journalFirmUptoRow : OpenClaim := { program := "ytdeebigmpffnbaagreat", sum := "0c4bfa729132526cb53248a08ccf6cd436cd0d2eae47e292bb9022679449f3f8", func := "incunable/incunablelaw18.JournalFirm", spec := "journalFirm", inPlace := ["maps.clone"], unfollowed := true, recurses := true, plainKeys := false, apart := false, narrowed := true }
def JournalFirmUptoSaid : Prop := journalFirmUptoRow.holds Tryz.pinned (OpenSpec.upto journalFirmSpec)

/-- 'incunablelaw18.JournalCrash', WHERE WHAT IT READS IS OF BULK AT MOST 1048576: true; the input reads as it did. -/
def journalCrashUptoRow : OpenClaim := { program := "ytdeebigmpffnbaagreat", sum := "0c4bfa729132526cb53248a08ccf6cd436cd0d2eae47e292bb9022679449f3f8", func := "incunable/incunablelaw18.JournalCrash", spec := "journalCrash", inPlace := ["maps.clone"], unfollowed := true, recurses := true, plainKeys := false, apart := false, narrowed := true }
def JournalCrashUptoSaid : Prop := journalCrashUptoRow.holds Tryz.pinned (OpenSpec.upto journalCrashSpec)

end Rows
end Go.Proofs.YtdeebigmpffnbaaGreat
