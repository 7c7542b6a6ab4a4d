/-
  No cell of these rows narrows 'for every input' (looked for: loops, veiled, ifaces, maps, wideKeys, modest, calm, conditions, laid).
  DERIVED. THE GIVEN ROWS OF THIS SEAT. 7 by the template 'for every input the law returns true; each argument reads behind the call as it read before'; 0 by the template 'total and deterministic' (their statements: YtljenkbpnioipaaGreatTotals.lean).
  GIVEN WITH THE SEED: the statements are not yours to turn. If you find one false, say at which input.
  Laid BY PROGRAM, IN A SANDBOX (cutbox-rows.mjs): the forced cells as the released guide's own fill.sh prints them over the translation 76468c6a3b78bf47… (all of the seat's roots in one cut). By AI agents, Wed Nov 11 2026. No macro, syntax, notation, axiom, sorry.
-/
import Derived.Test.YtljenkbpnioipaaGreatChecked
import GoSem.Claim
import GoSem.ClaimJoined
import GoSem.ClaimMapViews
import Derived.JoinedTies
import Derived.KernelRfl
namespace Go.Proofs.YtljenkbpnioipaaGreat
/- THE CELL 'sum', in the pinned program and in every row, IS THE sha256 OF THE DUMP (.gsa) THAT YtljenkbpnioipaaGreatProg.lean LOADS. Nothing in Lean hashes anything: it is a label: what it is worth is what the hold of that sum in a sandbox is worth. -/
noncomputable def Tryz.pinned : Pinned := { name := "ytljenkbpnioipaagreat", sum := "76468c6a3b78bf47335d4422e80e0f7a97bfb2c02eeddb2de276866836206967", checked := Tryz.checked }
namespace Rows
def none {H : Type} : Left H := { results := [], args := [] }

/-- 'incunablelaw17.NodetabAll': WHATEVER THE INPUT: true; the input reads as it did. -/
def nodetabAllSpec : ChangeSpec := { name := "nodetabAll", fn := fun _ => fun
  | [d] => { results := [.lit (.bool true)], args := [d] }
  | _ => none }
def nodetabAllRow : OpenClaim := { program := "ytljenkbpnioipaagreat", sum := "76468c6a3b78bf47335d4422e80e0f7a97bfb2c02eeddb2de276866836206967", func := "incunable/incunablelaw17.NodetabAll", spec := "nodetabAll", inPlace := ["maps.clone", "slices.overlaps[int]", "slices.overlaps[incunable/api.Attr]", "internal/bytealg.abigen_runtime_cmpstring"], unfollowed := true, recurses := true, plainKeys := false, apart := false }
def NodetabAllSaid : Prop := nodetabAllRow.holds Tryz.pinned (OpenSpec.ofChange nodetabAllSpec)

/-- ITS FALSE NEIGHBOUR: 'it returns false'. Refute it at one input. -/
def nodetabAllWrong : ChangeSpec := { name := "nodetabAll", fn := fun _ => fun
  | [d] => { results := [.lit (.bool false)], args := [d] }
  | _ => none }
def NodetabAllWrongFalsely : Prop := nodetabAllRow.holds Tryz.pinned (OpenSpec.ofChange nodetabAllWrong)

/-- 'incunablelaw17.NodetabRefused': WHATEVER THE INPUT: true; the input reads as it did. -/
def nodetabRefusedSpec : ChangeSpec := { name := "nodetabRefused", fn := fun _ => fun
  | [d1, d2] => { results := [.lit (.bool true)], args := [d1, d2] }
  | _ => none }
def nodetabRefusedRow : OpenClaim := { program := "ytljenkbpnioipaagreat", sum := "76468c6a3b78bf47335d4422e80e0f7a97bfb2c02eeddb2de276866836206967", func := "incunable/incunablelaw17.NodetabRefused", spec := "nodetabRefused", inPlace := ["maps.clone", "slices.overlaps[int]", "slices.overlaps[incunable/api.Attr]", "internal/bytealg.abigen_runtime_cmpstring"], unfollowed := true, recurses := true, plainKeys := false, apart := false }
def NodetabRefusedSaid : Prop := nodetabRefusedRow.holds Tryz.pinned (OpenSpec.ofChange nodetabRefusedSpec)

/-- ITS FALSE NEIGHBOUR: 'it returns false'. Refute it at one input. -/
def nodetabRefusedWrong : ChangeSpec := { name := "nodetabRefused", fn := fun _ => fun
  | [d1, d2] => { results := [.lit (.bool false)], args := [d1, d2] }
  | _ => none }
def NodetabRefusedWrongFalsely : Prop := nodetabRefusedRow.holds Tryz.pinned (OpenSpec.ofChange nodetabRefusedWrong)

/-- 'incunablelaw17.NodetabApart': WHATEVER THE INPUT: true; the input reads as it did. -/
def nodetabApartSpec : ChangeSpec := { name := "nodetabApart", fn := fun _ => fun
  | [d1, d2] => { results := [.lit (.bool true)], args := [d1, d2] }
  | _ => none }
def nodetabApartRow : OpenClaim := { program := "ytljenkbpnioipaagreat", sum := "76468c6a3b78bf47335d4422e80e0f7a97bfb2c02eeddb2de276866836206967", func := "incunable/incunablelaw17.NodetabApart", spec := "nodetabApart", inPlace := ["maps.clone", "slices.overlaps[int]", "slices.overlaps[incunable/api.Attr]", "internal/bytealg.abigen_runtime_cmpstring"], unfollowed := true, recurses := true, plainKeys := false, apart := false }
def NodetabApartSaid : Prop := nodetabApartRow.holds Tryz.pinned (OpenSpec.ofChange nodetabApartSpec)

/-- ITS FALSE NEIGHBOUR: 'it returns false'. Refute it at one input. -/
def nodetabApartWrong : ChangeSpec := { name := "nodetabApart", fn := fun _ => fun
  | [d1, d2] => { results := [.lit (.bool false)], args := [d1, d2] }
  | _ => none }
def NodetabApartWrongFalsely : Prop := nodetabApartRow.holds Tryz.pinned (OpenSpec.ofChange nodetabApartWrong)

/-- 'incunablelaw17.NodetabAgain': WHATEVER THE INPUT: true; the input reads as it did. -/
def nodetabAgainSpec : ChangeSpec := { name := "nodetabAgain", fn := fun _ => fun
  | [d] => { results := [.lit (.bool true)], args := [d] }
  | _ => none }
def nodetabAgainRow : OpenClaim := { program := "ytljenkbpnioipaagreat", sum := "76468c6a3b78bf47335d4422e80e0f7a97bfb2c02eeddb2de276866836206967", func := "incunable/incunablelaw17.NodetabAgain", spec := "nodetabAgain", inPlace := ["maps.clone", "slices.overlaps[int]", "slices.overlaps[incunable/api.Attr]", "internal/bytealg.abigen_runtime_cmpstring"], unfollowed := true, recurses := true, plainKeys := false, apart := false }
def NodetabAgainSaid : Prop := nodetabAgainRow.holds Tryz.pinned (OpenSpec.ofChange nodetabAgainSpec)

/-- ITS FALSE NEIGHBOUR: 'it returns false'. Refute it at one input. -/
def nodetabAgainWrong : ChangeSpec := { name := "nodetabAgain", fn := fun _ => fun
  | [d] => { results := [.lit (.bool false)], args := [d] }
  | _ => none }
def NodetabAgainWrongFalsely : Prop := nodetabAgainRow.holds Tryz.pinned (OpenSpec.ofChange nodetabAgainWrong)

/-- 'incunablelaw17.NodetabBack': WHATEVER THE INPUT: true; the input reads as it did. -/
def nodetabBackSpec : ChangeSpec := { name := "nodetabBack", fn := fun _ => fun
  | [d1, d2, d3] => { results := [.lit (.bool true)], args := [d1, d2, d3] }
  | _ => none }
def nodetabBackRow : OpenClaim := { program := "ytljenkbpnioipaagreat", sum := "76468c6a3b78bf47335d4422e80e0f7a97bfb2c02eeddb2de276866836206967", func := "incunable/incunablelaw17.NodetabBack", spec := "nodetabBack", inPlace := ["maps.clone", "slices.overlaps[int]", "slices.overlaps[incunable/api.Attr]", "internal/bytealg.abigen_runtime_cmpstring"], unfollowed := true, recurses := true, plainKeys := false, apart := false }
def NodetabBackSaid : Prop := nodetabBackRow.holds Tryz.pinned (OpenSpec.ofChange nodetabBackSpec)

/-- ITS FALSE NEIGHBOUR: 'it returns false'. Refute it at one input. -/
def nodetabBackWrong : ChangeSpec := { name := "nodetabBack", fn := fun _ => fun
  | [d1, d2, d3] => { results := [.lit (.bool false)], args := [d1, d2, d3] }
  | _ => none }
def NodetabBackWrongFalsely : Prop := nodetabBackRow.holds Tryz.pinned (OpenSpec.ofChange nodetabBackWrong)

/-- 'incunablelaw17.NodetabSpans': WHATEVER THE INPUT: true; the input reads as it did. -/
def nodetabSpansSpec : ChangeSpec := { name := "nodetabSpans", fn := fun _ => fun
  | [d1, d2] => { results := [.lit (.bool true)], args := [d1, d2] }
  | _ => none }
def nodetabSpansRow : OpenClaim := { program := "ytljenkbpnioipaagreat", sum := "76468c6a3b78bf47335d4422e80e0f7a97bfb2c02eeddb2de276866836206967", func := "incunable/incunablelaw17.NodetabSpans", spec := "nodetabSpans", inPlace := ["maps.clone", "slices.overlaps[int]", "slices.overlaps[incunable/api.Attr]", "internal/bytealg.abigen_runtime_cmpstring"], unfollowed := true, recurses := true, plainKeys := false, apart := false }
def NodetabSpansSaid : Prop := nodetabSpansRow.holds Tryz.pinned (OpenSpec.ofChange nodetabSpansSpec)

/-- ITS FALSE NEIGHBOUR: 'it returns false'. Refute it at one input. -/
def nodetabSpansWrong : ChangeSpec := { name := "nodetabSpans", fn := fun _ => fun
  | [d1, d2] => { results := [.lit (.bool false)], args := [d1, d2] }
  | _ => none }
def NodetabSpansWrongFalsely : Prop := nodetabSpansRow.holds Tryz.pinned (OpenSpec.ofChange nodetabSpansWrong)

/-- 'incunablelaw17.NodetabPages': WHATEVER THE INPUT: true; the input reads as it did. -/
def nodetabPagesSpec : ChangeSpec := { name := "nodetabPages", fn := fun _ => fun
  | [d] => { results := [.lit (.bool true)], args := [d] }
  | _ => none }
def nodetabPagesRow : OpenClaim := { program := "ytljenkbpnioipaagreat", sum := "76468c6a3b78bf47335d4422e80e0f7a97bfb2c02eeddb2de276866836206967", func := "incunable/incunablelaw17.NodetabPages", spec := "nodetabPages", inPlace := ["maps.clone", "slices.overlaps[int]", "slices.overlaps[incunable/api.Attr]", "internal/bytealg.abigen_runtime_cmpstring"], unfollowed := true, recurses := true, plainKeys := false, apart := false }
def NodetabPagesSaid : Prop := nodetabPagesRow.holds Tryz.pinned (OpenSpec.ofChange nodetabPagesSpec)

/-- ITS FALSE NEIGHBOUR: 'it returns false'. Refute it at one input. -/
def nodetabPagesWrong : ChangeSpec := { name := "nodetabPages", fn := fun _ => fun
  | [d] => { results := [.lit (.bool false)], args := [d] }
  | _ => none }
def NodetabPagesWrongFalsely : Prop := nodetabPagesRow.holds Tryz.pinned (OpenSpec.ofChange nodetabPagesWrong)

/- THE SECOND FORM. 'bulk': how many values and letters a reading holds, each counted each time it is reached (what is shared counts as often as it is met; a slice's spare places count too). A statement '..UptoSaid' is the law's where the arguments, and the package variables that the reading takes, are together of bulk at most 1048576: NARROWER than '..Said'. Prove '..Said' where nothing that the law and all that it calls make is longer than what came in: it says more and counts as full. Else prove '..UptoSaid'. A law counts once. -/
mutual
def uptoBulk {H : Type} : DataW H → Nat
  | .lit (.string bytes) => bytes.length + 1
  | .lit _ => 1
  | .nil => 1
  | .ptr d => uptoBulk d + 1
  | .slice elems spare => uptoBulkAll elems + uptoBulkAll spare + 1
  | .agg parts => uptoBulkAll parts + 1
  | .iface _ d => uptoBulk d + 1
  | .map entries => uptoBulkEntries entries + 1
  | .held _ => 1
def uptoBulkAll {H : Type} : List (DataW H) → Nat
  | [] => 0
  | d :: r => uptoBulk d + uptoBulkAll r
def uptoBulkEntries {H : Type} : List (Lit × DataW H) → Nat
  | [] => 0
  | x :: r => uptoBulkEntry x + uptoBulkEntries r
def uptoBulkEntry {H : Type} : Lit × DataW H → Nat
  | (.string bytes, d) => bytes.length + uptoBulk d + 1
  | (_, d) => uptoBulk d + 1
 end
def uptoSmall : (H : Type) → List (DataW H) → Bool := fun _ ds => decide (uptoBulkAll ds ≤ 1048576)
def OpenSpec.upto (s : _root_.Go.ChangeSpec) : _root_.Go.OpenSpec := { _root_.Go.OpenSpec.ofChange s with cond := some uptoSmall }

/-- 'incunablelaw17.NodetabAll', WHERE WHAT IT READS IS OF BULK AT MOST 1048576: true; the input reads as it did. -/
def nodetabAllUptoRow : OpenClaim := { program := "ytljenkbpnioipaagreat", sum := "76468c6a3b78bf47335d4422e80e0f7a97bfb2c02eeddb2de276866836206967", func := "incunable/incunablelaw17.NodetabAll", spec := "nodetabAll", inPlace := ["maps.clone", "slices.overlaps[int]", "slices.overlaps[incunable/api.Attr]", "internal/bytealg.abigen_runtime_cmpstring"], unfollowed := true, recurses := true, plainKeys := false, apart := false, narrowed := true }
def NodetabAllUptoSaid : Prop := nodetabAllUptoRow.holds Tryz.pinned (OpenSpec.upto nodetabAllSpec)

/-- 'incunablelaw17.NodetabRefused', WHERE WHAT IT READS IS OF BULK AT MOST 1048576: true; the input reads as it did. -/
def nodetabRefusedUptoRow : OpenClaim := { program := "ytljenkbpnioipaagreat", sum := "76468c6a3b78bf47335d4422e80e0f7a97bfb2c02eeddb2de276866836206967", func := "incunable/incunablelaw17.NodetabRefused", spec := "nodetabRefused", inPlace := ["maps.clone", "slices.overlaps[int]", "slices.overlaps[incunable/api.Attr]", "internal/bytealg.abigen_runtime_cmpstring"], unfollowed := true, recurses := true, plainKeys := false, apart := false, narrowed := true }
def NodetabRefusedUptoSaid : Prop := nodetabRefusedUptoRow.holds Tryz.pinned (OpenSpec.upto nodetabRefusedSpec)

/-- 'incunablelaw17.NodetabApart', WHERE WHAT IT READS IS OF BULK AT MOST 1048576: true; the input reads as it did. -/
def nodetabApartUptoRow : OpenClaim := { program := "ytljenkbpnioipaagreat", sum := "76468c6a3b78bf47335d4422e80e0f7a97bfb2c02eeddb2de276866836206967", func := "incunable/incunablelaw17.NodetabApart", spec := "nodetabApart", inPlace := ["maps.clone", "slices.overlaps[int]", "slices.overlaps[incunable/api.Attr]", "internal/bytealg.abigen_runtime_cmpstring"], unfollowed := true, recurses := true, plainKeys := false, apart := false, narrowed := true }
def NodetabApartUptoSaid : Prop := nodetabApartUptoRow.holds Tryz.pinned (OpenSpec.upto nodetabApartSpec)

/-- 'incunablelaw17.NodetabAgain', WHERE WHAT IT READS IS OF BULK AT MOST 1048576: true; the input reads as it did. -/
def nodetabAgainUptoRow : OpenClaim := { program := "ytljenkbpnioipaagreat", sum := "76468c6a3b78bf47335d4422e80e0f7a97bfb2c02eeddb2de276866836206967", func := "incunable/incunablelaw17.NodetabAgain", spec := "nodetabAgain", inPlace := ["maps.clone", "slices.overlaps[int]", "slices.overlaps[incunable/api.Attr]", "internal/bytealg.abigen_runtime_cmpstring"], unfollowed := true, recurses := true, plainKeys := false, apart := false, narrowed := true }
def NodetabAgainUptoSaid : Prop := nodetabAgainUptoRow.holds Tryz.pinned (OpenSpec.upto nodetabAgainSpec)

/-- 'incunablelaw17.NodetabBack', WHERE WHAT IT READS IS OF BULK AT MOST 1048576: true; the input reads as it did. -/
def nodetabBackUptoRow : OpenClaim := { program := "ytljenkbpnioipaagreat", sum := "76468c6a3b78bf47335d4422e80e0f7a97bfb2c02eeddb2de276866836206967", func := "incunable/incunablelaw17.NodetabBack", spec := "nodetabBack", inPlace := ["maps.clone", "slices.overlaps[int]", "slices.overlaps[incunable/api.Attr]", "internal/bytealg.abigen_runtime_cmpstring"], unfollowed := true, recurses := true, plainKeys := false, apart := false, narrowed := true }
def NodetabBackUptoSaid : Prop := nodetabBackUptoRow.holds Tryz.pinned (OpenSpec.upto nodetabBackSpec)

/-- 'incunablelaw17.NodetabSpans', WHERE WHAT IT READS IS OF BULK AT MOST 1048576: true; the input reads as it did. -/
def nodetabSpansUptoRow : OpenClaim := { program := "ytljenkbpnioipaagreat", sum := "76468c6a3b78bf47335d4422e80e0f7a97bfb2c02eeddb2de276866836206967", func := "incunable/incunablelaw17.NodetabSpans", spec := "nodetabSpans", inPlace := ["maps.clone", "slices.overlaps[int]", "slices.overlaps[incunable/api.Attr]", "internal/bytealg.abigen_runtime_cmpstring"], unfollowed := true, recurses := true, plainKeys := false, apart := false, narrowed := true }
def NodetabSpansUptoSaid : Prop := nodetabSpansUptoRow.holds Tryz.pinned (OpenSpec.upto nodetabSpansSpec)

/-- 'incunablelaw17.NodetabPages', WHERE WHAT IT READS IS OF BULK AT MOST 1048576: true; the input reads as it did. -/
def nodetabPagesUptoRow : OpenClaim := { program := "ytljenkbpnioipaagreat", sum := "76468c6a3b78bf47335d4422e80e0f7a97bfb2c02eeddb2de276866836206967", func := "incunable/incunablelaw17.NodetabPages", spec := "nodetabPages", inPlace := ["maps.clone", "slices.overlaps[int]", "slices.overlaps[incunable/api.Attr]", "internal/bytealg.abigen_runtime_cmpstring"], unfollowed := true, recurses := true, plainKeys := false, apart := false, narrowed := true }
def NodetabPagesUptoSaid : Prop := nodetabPagesUptoRow.holds Tryz.pinned (OpenSpec.upto nodetabPagesSpec)

end Rows
end Go.Proofs.YtljenkbpnioipaaGreat
