/-
  No cell of these rows narrows 'for every input' (looked for: loops, veiled, ifaces, maps, wideKeys, modest, calm, conditions, laid).
  DERIVED. THE GIVEN ROWS OF THIS SEAT. 7 by the template 'for every input the law returns true; each argument reads behind the call as it read before'; 0 by the template 'total and deterministic' (their statements: YtnmlkecmokhhhaaTotals.lean).
  GIVEN WITH THE SEED: the statements are not yours to turn. If you find one false, say at which input.
  Laid BY PROGRAM, IN A SANDBOX (cutbox-rows.mjs): the forced cells as the released guide's own fill.sh prints them over the translation ab0eb854fd7850ff… (all of the seat's roots in one cut). By AI agents, Wed Nov 11 2026. No macro, syntax, notation, axiom, sorry.
-/
import Derived.Test.YtnmlkecmokhhhaaChecked
import GoSem.Claim
import GoSem.ClaimJoined
import GoSem.ClaimMapViews
import Derived.JoinedTies
import Derived.KernelRfl
namespace Go.Proofs.Ytnmlkecmokhhhaa
/- THE CELL 'sum', in the pinned program and in every row, IS THE sha256 OF THE DUMP (.gsa) THAT YtnmlkecmokhhhaaProg.lean LOADS. Nothing in Lean hashes anything: it is a label: what it is worth is what the hold of that sum in a sandbox is worth. -/
noncomputable def Try.pinned : Pinned := { name := "ytnmlkecmokhhhaa", sum := "ab0eb854fd7850fff8f191514217bd2542adf6d99e55e6224fd8a6d7bba6d302", checked := Try.checked }
namespace Rows
def none {H : Type} : Left H := { results := [], args := [] }

/-- 'incunablelaw09.VaultRoom': WHATEVER THE INPUT: true; the input reads as it did. -/
def vaultRoomSpec : ChangeSpec := { name := "vaultRoom", fn := fun _ => fun
  | [d1, d2] => { results := [.lit (.bool true)], args := [d1, d2] }
  | _ => none }
def vaultRoomRow : OpenClaim := { program := "ytnmlkecmokhhhaa", sum := "ab0eb854fd7850fff8f191514217bd2542adf6d99e55e6224fd8a6d7bba6d302", func := "incunable/incunablelaw09.VaultRoom", spec := "vaultRoom", inPlace := ["maps.clone"], unfollowed := true, recurses := true, apart := false }
def VaultRoomSaid : Prop := vaultRoomRow.holds Try.pinned (OpenSpec.ofChange vaultRoomSpec)

/-- ITS FALSE NEIGHBOUR: 'it returns false'. Refute it at one input. -/
def vaultRoomWrong : ChangeSpec := { name := "vaultRoom", fn := fun _ => fun
  | [d1, d2] => { results := [.lit (.bool false)], args := [d1, d2] }
  | _ => none }
def VaultRoomWrongFalsely : Prop := vaultRoomRow.holds Try.pinned (OpenSpec.ofChange vaultRoomWrong)

/-- 'incunablelaw09.VaultLasts': WHATEVER THE INPUT: true; the input reads as it did. -/
def vaultLastsSpec : ChangeSpec := { name := "vaultLasts", fn := fun _ => fun
  | [d1, d2, d3] => { results := [.lit (.bool true)], args := [d1, d2, d3] }
  | _ => none }
def vaultLastsRow : OpenClaim := { program := "ytnmlkecmokhhhaa", sum := "ab0eb854fd7850fff8f191514217bd2542adf6d99e55e6224fd8a6d7bba6d302", func := "incunable/incunablelaw09.VaultLasts", spec := "vaultLasts", inPlace := ["maps.clone"], unfollowed := true, recurses := true, apart := false }
def VaultLastsSaid : Prop := vaultLastsRow.holds Try.pinned (OpenSpec.ofChange vaultLastsSpec)

/-- ITS FALSE NEIGHBOUR: 'it returns false'. Refute it at one input. -/
def vaultLastsWrong : ChangeSpec := { name := "vaultLasts", fn := fun _ => fun
  | [d1, d2, d3] => { results := [.lit (.bool false)], args := [d1, d2, d3] }
  | _ => none }
def VaultLastsWrongFalsely : Prop := vaultLastsRow.holds Try.pinned (OpenSpec.ofChange vaultLastsWrong)

/-- 'incunablelaw09.VaultReads': WHATEVER THE INPUT: true; the input reads as it did. -/
def vaultReadsSpec : ChangeSpec := { name := "vaultReads", fn := fun _ => fun
  | [d1, d2, d3] => { results := [.lit (.bool true)], args := [d1, d2, d3] }
  | _ => none }
def vaultReadsRow : OpenClaim := { program := "ytnmlkecmokhhhaa", sum := "ab0eb854fd7850fff8f191514217bd2542adf6d99e55e6224fd8a6d7bba6d302", func := "incunable/incunablelaw09.VaultReads", spec := "vaultReads", inPlace := ["maps.clone"], unfollowed := true, recurses := true, apart := false }
def VaultReadsSaid : Prop := vaultReadsRow.holds Try.pinned (OpenSpec.ofChange vaultReadsSpec)

/-- ITS FALSE NEIGHBOUR: 'it returns false'. Refute it at one input. -/
def vaultReadsWrong : ChangeSpec := { name := "vaultReads", fn := fun _ => fun
  | [d1, d2, d3] => { results := [.lit (.bool false)], args := [d1, d2, d3] }
  | _ => none }
def VaultReadsWrongFalsely : Prop := vaultReadsRow.holds Try.pinned (OpenSpec.ofChange vaultReadsWrong)

/-- 'incunablelaw09.VaultNames': WHATEVER THE INPUT: true; the input reads as it did. -/
def vaultNamesSpec : ChangeSpec := { name := "vaultNames", fn := fun _ => fun
  | [d1, d2] => { results := [.lit (.bool true)], args := [d1, d2] }
  | _ => none }
def vaultNamesRow : OpenClaim := { program := "ytnmlkecmokhhhaa", sum := "ab0eb854fd7850fff8f191514217bd2542adf6d99e55e6224fd8a6d7bba6d302", func := "incunable/incunablelaw09.VaultNames", spec := "vaultNames", inPlace := ["maps.clone"], unfollowed := true, recurses := true, apart := false }
def VaultNamesSaid : Prop := vaultNamesRow.holds Try.pinned (OpenSpec.ofChange vaultNamesSpec)

/-- ITS FALSE NEIGHBOUR: 'it returns false'. Refute it at one input. -/
def vaultNamesWrong : ChangeSpec := { name := "vaultNames", fn := fun _ => fun
  | [d1, d2] => { results := [.lit (.bool false)], args := [d1, d2] }
  | _ => none }
def VaultNamesWrongFalsely : Prop := vaultNamesRow.holds Try.pinned (OpenSpec.ofChange vaultNamesWrong)

/-- 'incunablelaw09.VaultFinds': WHATEVER THE INPUT: true; the input reads as it did. -/
def vaultFindsSpec : ChangeSpec := { name := "vaultFinds", fn := fun _ => fun
  | [d1, d2, d3] => { results := [.lit (.bool true)], args := [d1, d2, d3] }
  | _ => none }
def vaultFindsRow : OpenClaim := { program := "ytnmlkecmokhhhaa", sum := "ab0eb854fd7850fff8f191514217bd2542adf6d99e55e6224fd8a6d7bba6d302", func := "incunable/incunablelaw09.VaultFinds", spec := "vaultFinds", inPlace := ["maps.clone"], unfollowed := true, recurses := true, apart := false }
def VaultFindsSaid : Prop := vaultFindsRow.holds Try.pinned (OpenSpec.ofChange vaultFindsSpec)

/-- ITS FALSE NEIGHBOUR: 'it returns false'. Refute it at one input. -/
def vaultFindsWrong : ChangeSpec := { name := "vaultFinds", fn := fun _ => fun
  | [d1, d2, d3] => { results := [.lit (.bool false)], args := [d1, d2, d3] }
  | _ => none }
def VaultFindsWrongFalsely : Prop := vaultFindsRow.holds Try.pinned (OpenSpec.ofChange vaultFindsWrong)

/-- 'incunablelaw09.VaultSynced': WHATEVER THE INPUT: true; the input reads as it did. -/
def vaultSyncedSpec : ChangeSpec := { name := "vaultSynced", fn := fun _ => fun
  | [d1, d2, d3] => { results := [.lit (.bool true)], args := [d1, d2, d3] }
  | _ => none }
def vaultSyncedRow : OpenClaim := { program := "ytnmlkecmokhhhaa", sum := "ab0eb854fd7850fff8f191514217bd2542adf6d99e55e6224fd8a6d7bba6d302", func := "incunable/incunablelaw09.VaultSynced", spec := "vaultSynced", inPlace := ["maps.clone"], unfollowed := true, recurses := true, apart := false }
def VaultSyncedSaid : Prop := vaultSyncedRow.holds Try.pinned (OpenSpec.ofChange vaultSyncedSpec)

/-- ITS FALSE NEIGHBOUR: 'it returns false'. Refute it at one input. -/
def vaultSyncedWrong : ChangeSpec := { name := "vaultSynced", fn := fun _ => fun
  | [d1, d2, d3] => { results := [.lit (.bool false)], args := [d1, d2, d3] }
  | _ => none }
def VaultSyncedWrongFalsely : Prop := vaultSyncedRow.holds Try.pinned (OpenSpec.ofChange vaultSyncedWrong)

/-- 'incunablelaw09.VaultApart': WHATEVER THE INPUT: true; the input reads as it did. -/
def vaultApartSpec : ChangeSpec := { name := "vaultApart", fn := fun _ => fun
  | [d1, d2] => { results := [.lit (.bool true)], args := [d1, d2] }
  | _ => none }
def vaultApartRow : OpenClaim := { program := "ytnmlkecmokhhhaa", sum := "ab0eb854fd7850fff8f191514217bd2542adf6d99e55e6224fd8a6d7bba6d302", func := "incunable/incunablelaw09.VaultApart", spec := "vaultApart", inPlace := ["maps.clone"], unfollowed := true, recurses := true, apart := false }
def VaultApartSaid : Prop := vaultApartRow.holds Try.pinned (OpenSpec.ofChange vaultApartSpec)

/-- ITS FALSE NEIGHBOUR: 'it returns false'. Refute it at one input. -/
def vaultApartWrong : ChangeSpec := { name := "vaultApart", fn := fun _ => fun
  | [d1, d2] => { results := [.lit (.bool false)], args := [d1, d2] }
  | _ => none }
def VaultApartWrongFalsely : Prop := vaultApartRow.holds Try.pinned (OpenSpec.ofChange vaultApartWrong)

/- THE SECOND FORM. 'bulk': how many values and letters a reading holds, each counted each time it is reached (what is shared counts as often as it is met; a slice's spare places count too). A statement '..UptoSaid' is the law's where the arguments, and the package variables that the reading takes, are together of bulk at most 1048576: NARROWER than '..Said'. Prove '..Said' where nothing that the law and all that it calls make is longer than what came in: it says more and counts as full. Else prove '..UptoSaid'. A law counts once. -/
mutual
def uptoBulk {H : Type} : DataW H → Nat
  | .lit (.string bytes) => bytes.length + 1
  | .lit _ => 1
  | .nil => 1
  | .ptr d => uptoBulk d + 1
  | .slice elems spare => uptoBulkAll elems + uptoBulkAll spare + 1
  | .agg parts => uptoBulkAll parts + 1
  | .iface _ d => uptoBulk d + 1
  | .map entries => uptoBulkEntries entries + 1
  | .held _ => 1
def uptoBulkAll {H : Type} : List (DataW H) → Nat
  | [] => 0
  | d :: r => uptoBulk d + uptoBulkAll r
def uptoBulkEntries {H : Type} : List (Lit × DataW H) → Nat
  | [] => 0
  | x :: r => uptoBulkEntry x + uptoBulkEntries r
def uptoBulkEntry {H : Type} : Lit × DataW H → Nat
  | (.string bytes, d) => bytes.length + uptoBulk d + 1
  | (_, d) => uptoBulk d + 1
 end
def uptoSmall : (H : Type) → List (DataW H) → Bool := fun _ ds => decide (uptoBulkAll ds ≤ 1048576)
def OpenSpec.upto (s : _root_.Go.ChangeSpec) : _root_.Go.OpenSpec := { _root_.Go.OpenSpec.ofChange s with cond := some uptoSmall }

/-- 'incunablelaw09.VaultRoom', WHERE WHAT IT READS IS OF BULK AT MOST 1048576: true; the input reads as it did. -/
def vaultRoomUptoRow : OpenClaim := { program := "ytnmlkecmokhhhaa", sum := "ab0eb854fd7850fff8f191514217bd2542adf6d99e55e6224fd8a6d7bba6d302", func := "incunable/incunablelaw09.VaultRoom", spec := "vaultRoom", inPlace := ["maps.clone"], unfollowed := true, recurses := true, apart := false, narrowed := true }
def VaultRoomUptoSaid : Prop := vaultRoomUptoRow.holds Try.pinned (OpenSpec.upto vaultRoomSpec)

/-- 'incunablelaw09.VaultLasts', WHERE WHAT IT READS IS OF BULK AT MOST 1048576: true; the input reads as it did. -/
def vaultLastsUptoRow : OpenClaim := { program := "ytnmlkecmokhhhaa", sum := "ab0eb854fd7850fff8f191514217bd2542adf6d99e55e6224fd8a6d7bba6d302", func := "incunable/incunablelaw09.VaultLasts", spec := "vaultLasts", inPlace := ["maps.clone"], unfollowed := true, recurses := true, apart := false, narrowed := true }
def VaultLastsUptoSaid : Prop := vaultLastsUptoRow.holds Try.pinned (OpenSpec.upto vaultLastsSpec)

/-- 'incunablelaw09.VaultReads', WHERE WHAT IT READS IS OF BULK AT MOST 1048576: true; the input reads as it did. -/
def vaultReadsUptoRow : OpenClaim := { program := "ytnmlkecmokhhhaa", sum := "ab0eb854fd7850fff8f191514217bd2542adf6d99e55e6224fd8a6d7bba6d302", func := "incunable/incunablelaw09.VaultReads", spec := "vaultReads", inPlace := ["maps.clone"], unfollowed := true, recurses := true, apart := false, narrowed := true }
def VaultReadsUptoSaid : Prop := vaultReadsUptoRow.holds Try.pinned (OpenSpec.upto vaultReadsSpec)

/-- 'incunablelaw09.VaultNames', WHERE WHAT IT READS IS OF BULK AT MOST 1048576: true; the input reads as it did. -/
def vaultNamesUptoRow : OpenClaim := { program := "ytnmlkecmokhhhaa", sum := "ab0eb854fd7850fff8f191514217bd2542adf6d99e55e6224fd8a6d7bba6d302", func := "incunable/incunablelaw09.VaultNames", spec := "vaultNames", inPlace := ["maps.clone"], unfollowed := true, recurses := true, apart := false, narrowed := true }
def VaultNamesUptoSaid : Prop := vaultNamesUptoRow.holds Try.pinned (OpenSpec.upto vaultNamesSpec)

/-- 'incunablelaw09.VaultFinds', WHERE WHAT IT READS IS OF BULK AT MOST 1048576: true; the input reads as it did. -/
def vaultFindsUptoRow : OpenClaim := { program := "ytnmlkecmokhhhaa", sum := "ab0eb854fd7850fff8f191514217bd2542adf6d99e55e6224fd8a6d7bba6d302", func := "incunable/incunablelaw09.VaultFinds", spec := "vaultFinds", inPlace := ["maps.clone"], unfollowed := true, recurses := true, apart := false, narrowed := true }
def VaultFindsUptoSaid : Prop := vaultFindsUptoRow.holds Try.pinned (OpenSpec.upto vaultFindsSpec)

/-- 'incunablelaw09.VaultSynced', WHERE WHAT IT READS IS OF BULK AT MOST 1048576: true; the input reads as it did. -/
def vaultSyncedUptoRow : OpenClaim := { program := "ytnmlkecmokhhhaa", sum := "ab0eb854fd7850fff8f191514217bd2542adf6d99e55e6224fd8a6d7bba6d302", func := "incunable/incunablelaw09.VaultSynced", spec := "vaultSynced", inPlace := ["maps.clone"], unfollowed := true, recurses := true, apart := false, narrowed := true }
def VaultSyncedUptoSaid : Prop := vaultSyncedUptoRow.holds Try.pinned (OpenSpec.upto vaultSyncedSpec)

/-- 'incunablelaw09.VaultApart', WHERE WHAT IT READS IS OF BULK AT MOST 1048576: true; the input reads as it did. -/
def vaultApartUptoRow : OpenClaim := { program := "ytnmlkecmokhhhaa", sum := "ab0eb854fd7850fff8f191514217bd2542adf6d99e55e6224fd8a6d7bba6d302", func := "incunable/incunablelaw09.VaultApart", spec := "vaultApart", inPlace := ["maps.clone"], unfollowed := true, recurses := true, apart := false, narrowed := true }
def VaultApartUptoSaid : Prop := vaultApartUptoRow.holds Try.pinned (OpenSpec.upto vaultApartSpec)

end Rows
end Go.Proofs.Ytnmlkecmokhhhaa
