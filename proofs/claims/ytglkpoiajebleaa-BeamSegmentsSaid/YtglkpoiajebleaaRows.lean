/-
  No cell of these rows narrows 'for every input' (looked for: loops, veiled, ifaces, maps, wideKeys, modest, calm, conditions, laid).
  DERIVED. THE GIVEN ROWS OF THIS SEAT. 6 by the template 'for every input the law returns true; each argument reads behind the call as it read before'; 0 by the template 'total and deterministic' (their statements: YtglkpoiajebleaaTotals.lean).
  GIVEN WITH THE SEED: the statements are not yours to turn. If you find one false, say at which input.
  Laid BY PROGRAM, IN A SANDBOX (cutbox-rows.mjs): the forced cells as the released guide's own fill.sh prints them over the translation 1bc702aedb6c030d… (all of the seat's roots in one cut). By AI agents, Wed Nov 11 2026. No macro, syntax, notation, axiom, sorry.
-/
import Derived.Test.YtglkpoiajebleaaChecked
import GoSem.Claim
import GoSem.ClaimJoined
import GoSem.ClaimMapViews
import Derived.JoinedTies
import Derived.KernelRfl
namespace Go.Proofs.Ytglkpoiajebleaa
/- THE CELL 'sum', in the pinned program and in every row, IS THE sha256 OF THE DUMP (.gsa) THAT YtglkpoiajebleaaProg.lean LOADS. Nothing in Lean hashes anything: it is a label: what it is worth is what the hold of that sum in a sandbox is worth. -/
noncomputable def Try.pinned : Pinned := { name := "ytglkpoiajebleaa", sum := "1bc702aedb6c030de6203083f135ebb7619110c87fa0a55ff3f6f225ada43cff", checked := Try.checked }
namespace Rows
def none {H : Type} : Left H := { results := [], args := [] }

/-- 'hemiolalaw26.BeamGroups': WHATEVER THE INPUT: true; the input reads as it did. -/
def beamGroupsSpec : ChangeSpec := { name := "beamGroups", fn := fun _ => fun
  | [d1, d2] => { results := [.lit (.bool true)], args := [d1, d2] }
  | _ => none }
def beamGroupsRow : OpenClaim := { program := "ytglkpoiajebleaa", sum := "1bc702aedb6c030de6203083f135ebb7619110c87fa0a55ff3f6f225ada43cff", func := "hemiola/hemiolalaw26.BeamGroups", spec := "beamGroups", unfollowed := true, recurses := true, apart := false }
def BeamGroupsSaid : Prop := beamGroupsRow.holds Try.pinned (OpenSpec.ofChange beamGroupsSpec)

/-- ITS FALSE NEIGHBOUR: 'it returns false'. Refute it at one input. -/
def beamGroupsWrong : ChangeSpec := { name := "beamGroups", fn := fun _ => fun
  | [d1, d2] => { results := [.lit (.bool false)], args := [d1, d2] }
  | _ => none }
def BeamGroupsWrongFalsely : Prop := beamGroupsRow.holds Try.pinned (OpenSpec.ofChange beamGroupsWrong)

/-- 'hemiolalaw26.BeamFlags': WHATEVER THE INPUT: true; the input reads as it did. -/
def beamFlagsSpec : ChangeSpec := { name := "beamFlags", fn := fun _ => fun
  | [d1, d2] => { results := [.lit (.bool true)], args := [d1, d2] }
  | _ => none }
def beamFlagsRow : OpenClaim := { program := "ytglkpoiajebleaa", sum := "1bc702aedb6c030de6203083f135ebb7619110c87fa0a55ff3f6f225ada43cff", func := "hemiola/hemiolalaw26.BeamFlags", spec := "beamFlags", unfollowed := true, recurses := true, apart := false }
def BeamFlagsSaid : Prop := beamFlagsRow.holds Try.pinned (OpenSpec.ofChange beamFlagsSpec)

/-- ITS FALSE NEIGHBOUR: 'it returns false'. Refute it at one input. -/
def beamFlagsWrong : ChangeSpec := { name := "beamFlags", fn := fun _ => fun
  | [d1, d2] => { results := [.lit (.bool false)], args := [d1, d2] }
  | _ => none }
def BeamFlagsWrongFalsely : Prop := beamFlagsRow.holds Try.pinned (OpenSpec.ofChange beamFlagsWrong)

/-- 'hemiolalaw26.BeamClears': WHATEVER THE INPUT: true; the input reads as it did. -/
def beamClearsSpec : ChangeSpec := { name := "beamClears", fn := fun _ => fun
  | [d1, d2, d3] => { results := [.lit (.bool true)], args := [d1, d2, d3] }
  | _ => none }
def beamClearsRow : OpenClaim := { program := "ytglkpoiajebleaa", sum := "1bc702aedb6c030de6203083f135ebb7619110c87fa0a55ff3f6f225ada43cff", func := "hemiola/hemiolalaw26.BeamClears", spec := "beamClears", unfollowed := true, recurses := true, apart := false }
def BeamClearsSaid : Prop := beamClearsRow.holds Try.pinned (OpenSpec.ofChange beamClearsSpec)

/-- ITS FALSE NEIGHBOUR: 'it returns false'. Refute it at one input. -/
def beamClearsWrong : ChangeSpec := { name := "beamClears", fn := fun _ => fun
  | [d1, d2, d3] => { results := [.lit (.bool false)], args := [d1, d2, d3] }
  | _ => none }
def BeamClearsWrongFalsely : Prop := beamClearsRow.holds Try.pinned (OpenSpec.ofChange beamClearsWrong)

/-- 'hemiolalaw26.BeamSegments': WHATEVER THE INPUT: true; the input reads as it did. -/
def beamSegmentsSpec : ChangeSpec := { name := "beamSegments", fn := fun _ => fun
  | [d1, d2, d3] => { results := [.lit (.bool true)], args := [d1, d2, d3] }
  | _ => none }
def beamSegmentsRow : OpenClaim := { program := "ytglkpoiajebleaa", sum := "1bc702aedb6c030de6203083f135ebb7619110c87fa0a55ff3f6f225ada43cff", func := "hemiola/hemiolalaw26.BeamSegments", spec := "beamSegments", unfollowed := true, recurses := true, apart := false }
def BeamSegmentsSaid : Prop := beamSegmentsRow.holds Try.pinned (OpenSpec.ofChange beamSegmentsSpec)

/-- ITS FALSE NEIGHBOUR: 'it returns false'. Refute it at one input. -/
def beamSegmentsWrong : ChangeSpec := { name := "beamSegments", fn := fun _ => fun
  | [d1, d2, d3] => { results := [.lit (.bool false)], args := [d1, d2, d3] }
  | _ => none }
def BeamSegmentsWrongFalsely : Prop := beamSegmentsRow.holds Try.pinned (OpenSpec.ofChange beamSegmentsWrong)

/-- 'hemiolalaw26.BeamErrors': WHATEVER THE INPUT: true; the input reads as it did. -/
def beamErrorsSpec : ChangeSpec := { name := "beamErrors", fn := fun _ => fun
  | [d1, d2, d3] => { results := [.lit (.bool true)], args := [d1, d2, d3] }
  | _ => none }
def beamErrorsRow : OpenClaim := { program := "ytglkpoiajebleaa", sum := "1bc702aedb6c030de6203083f135ebb7619110c87fa0a55ff3f6f225ada43cff", func := "hemiola/hemiolalaw26.BeamErrors", spec := "beamErrors", unfollowed := true, recurses := true, apart := false }
def BeamErrorsSaid : Prop := beamErrorsRow.holds Try.pinned (OpenSpec.ofChange beamErrorsSpec)

/-- ITS FALSE NEIGHBOUR: 'it returns false'. Refute it at one input. -/
def beamErrorsWrong : ChangeSpec := { name := "beamErrors", fn := fun _ => fun
  | [d1, d2, d3] => { results := [.lit (.bool false)], args := [d1, d2, d3] }
  | _ => none }
def BeamErrorsWrongFalsely : Prop := beamErrorsRow.holds Try.pinned (OpenSpec.ofChange beamErrorsWrong)

/-- 'hemiolalaw26.BeamReads': WHATEVER THE INPUT: true; the input reads as it did. -/
def beamReadsSpec : ChangeSpec := { name := "beamReads", fn := fun _ => fun
  | [d1, d2, d3] => { results := [.lit (.bool true)], args := [d1, d2, d3] }
  | _ => none }
def beamReadsRow : OpenClaim := { program := "ytglkpoiajebleaa", sum := "1bc702aedb6c030de6203083f135ebb7619110c87fa0a55ff3f6f225ada43cff", func := "hemiola/hemiolalaw26.BeamReads", spec := "beamReads", unfollowed := true, recurses := true, apart := false }
def BeamReadsSaid : Prop := beamReadsRow.holds Try.pinned (OpenSpec.ofChange beamReadsSpec)

/-- ITS FALSE NEIGHBOUR: 'it returns false'. Refute it at one input. -/
def beamReadsWrong : ChangeSpec := { name := "beamReads", fn := fun _ => fun
  | [d1, d2, d3] => { results := [.lit (.bool false)], args := [d1, d2, d3] }
  | _ => none }
def BeamReadsWrongFalsely : Prop := beamReadsRow.holds Try.pinned (OpenSpec.ofChange beamReadsWrong)

/- THE SECOND FORM. 'bulk': how many values and letters a reading holds, each counted each time it is reached (what is shared counts as often as it is met; a slice's spare places count too). A statement '..UptoSaid' is the law's where the arguments, and the package variables that the reading takes, are together of bulk at most 1048576: NARROWER than '..Said'. Prove '..Said' where nothing that the law and all that it calls make is longer than what came in: it says more and counts as full. Else prove '..UptoSaid'. A law counts once. -/
mutual
def uptoBulk {H : Type} : DataW H → Nat
  | .lit (.string bytes) => bytes.length + 1
  | .lit _ => 1
  | .nil => 1
  | .ptr d => uptoBulk d + 1
  | .slice elems spare => uptoBulkAll elems + uptoBulkAll spare + 1
  | .agg parts => uptoBulkAll parts + 1
  | .iface _ d => uptoBulk d + 1
  | .map entries => uptoBulkEntries entries + 1
  | .held _ => 1
def uptoBulkAll {H : Type} : List (DataW H) → Nat
  | [] => 0
  | d :: r => uptoBulk d + uptoBulkAll r
def uptoBulkEntries {H : Type} : List (Lit × DataW H) → Nat
  | [] => 0
  | x :: r => uptoBulkEntry x + uptoBulkEntries r
def uptoBulkEntry {H : Type} : Lit × DataW H → Nat
  | (.string bytes, d) => bytes.length + uptoBulk d + 1
  | (_, d) => uptoBulk d + 1
 end
def uptoSmall : (H : Type) → List (DataW H) → Bool := fun _ ds => decide (uptoBulkAll ds ≤ 1048576)
def OpenSpec.upto (s : _root_.Go.ChangeSpec) : _root_.Go.OpenSpec := { _root_.Go.OpenSpec.ofChange s with cond := some uptoSmall }

/-- 'hemiolalaw26.BeamGroups', WHERE WHAT IT READS IS OF BULK AT MOST 1048576: true; the input reads as it did. -/
def beamGroupsUptoRow : OpenClaim := { program := "ytglkpoiajebleaa", sum := "1bc702aedb6c030de6203083f135ebb7619110c87fa0a55ff3f6f225ada43cff", func := "hemiola/hemiolalaw26.BeamGroups", spec := "beamGroups", unfollowed := true, recurses := true, apart := false, narrowed := true }
def BeamGroupsUptoSaid : Prop := beamGroupsUptoRow.holds Try.pinned (OpenSpec.upto beamGroupsSpec)

/-- 'hemiolalaw26.BeamFlags', WHERE WHAT IT READS IS OF BULK AT MOST 1048576: true; the input reads as it did. -/
def beamFlagsUptoRow : OpenClaim := { program := "ytglkpoiajebleaa", sum := "1bc702aedb6c030de6203083f135ebb7619110c87fa0a55ff3f6f225ada43cff", func := "hemiola/hemiolalaw26.BeamFlags", spec := "beamFlags", unfollowed := true, recurses := true, apart := false, narrowed := true }
def BeamFlagsUptoSaid : Prop := beamFlagsUptoRow.holds Try.pinned (OpenSpec.upto beamFlagsSpec)

/-- 'hemiolalaw26.BeamClears', WHERE WHAT IT READS IS OF BULK AT MOST 1048576: true; the input reads as it did. -/
def beamClearsUptoRow : OpenClaim := { program := "ytglkpoiajebleaa", sum := "1bc702aedb6c030de6203083f135ebb7619110c87fa0a55ff3f6f225ada43cff", func := "hemiola/hemiolalaw26.BeamClears", spec := "beamClears", unfollowed := true, recurses := true, apart := false, narrowed := true }
def BeamClearsUptoSaid : Prop := beamClearsUptoRow.holds Try.pinned (OpenSpec.upto beamClearsSpec)

/-- 'hemiolalaw26.BeamSegments', WHERE WHAT IT READS IS OF BULK AT MOST 1048576: true; the input reads as it did. -/
def beamSegmentsUptoRow : OpenClaim := { program := "ytglkpoiajebleaa", sum := "1bc702aedb6c030de6203083f135ebb7619110c87fa0a55ff3f6f225ada43cff", func := "hemiola/hemiolalaw26.BeamSegments", spec := "beamSegments", unfollowed := true, recurses := true, apart := false, narrowed := true }
def BeamSegmentsUptoSaid : Prop := beamSegmentsUptoRow.holds Try.pinned (OpenSpec.upto beamSegmentsSpec)

/-- 'hemiolalaw26.BeamErrors', WHERE WHAT IT READS IS OF BULK AT MOST 1048576: true; the input reads as it did. -/
def beamErrorsUptoRow : OpenClaim := { program := "ytglkpoiajebleaa", sum := "1bc702aedb6c030de6203083f135ebb7619110c87fa0a55ff3f6f225ada43cff", func := "hemiola/hemiolalaw26.BeamErrors", spec := "beamErrors", unfollowed := true, recurses := true, apart := false, narrowed := true }
def BeamErrorsUptoSaid : Prop := beamErrorsUptoRow.holds Try.pinned (OpenSpec.upto beamErrorsSpec)

/-- 'hemiolalaw26.BeamReads', WHERE WHAT IT READS IS OF BULK AT MOST 1048576: true; the input reads as it did. -/
def beamReadsUptoRow : OpenClaim := { program := "ytglkpoiajebleaa", sum := "1bc702aedb6c030de6203083f135ebb7619110c87fa0a55ff3f6f225ada43cff", func := "hemiola/hemiolalaw26.BeamReads", spec := "beamReads", unfollowed := true, recurses := true, apart := false, narrowed := true }
def BeamReadsUptoSaid : Prop := beamReadsUptoRow.holds Try.pinned (OpenSpec.upto beamReadsSpec)

end Rows
end Go.Proofs.Ytglkpoiajebleaa
