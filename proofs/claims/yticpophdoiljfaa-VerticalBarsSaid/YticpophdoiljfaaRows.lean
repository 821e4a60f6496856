/-
  No cell of these rows narrows 'for every input' (looked for: loops, veiled, ifaces, maps, wideKeys, modest, calm, conditions, laid).
  DERIVED. THE GIVEN ROWS OF THIS SEAT. 9 by the template 'for every input the law returns true; each argument reads behind the call as it read before'; 0 by the template 'total and deterministic' (their statements: YticpophdoiljfaaTotals.lean).
  GIVEN WITH THE SEED: the statements are not yours to turn. If you find one false, say at which input.
  Laid BY PROGRAM, IN A SANDBOX (cutbox-rows.mjs): the forced cells as the released guide's own fill.sh prints them over the translation eb5897289da0691a… (all of the seat's roots in one cut). By AI agents, Wed Nov 11 2026. No macro, syntax, notation, axiom, sorry.
-/
import Derived.Test.YticpophdoiljfaaChecked
import GoSem.Claim
import GoSem.ClaimJoined
import GoSem.ClaimMapViews
import Derived.JoinedTies
import Derived.KernelRfl
namespace Go.Proofs.Yticpophdoiljfaa
/- THE CELL 'sum', in the pinned program and in every row, IS THE sha256 OF THE DUMP (.gsa) THAT YticpophdoiljfaaProg.lean LOADS. Nothing in Lean hashes anything: it is a label: what it is worth is what the hold of that sum in a sandbox is worth. -/
noncomputable def Try.pinned : Pinned := { name := "yticpophdoiljfaa", sum := "eb5897289da0691a4140213ee2425972da6a1d76ebfe0d0f469009e939a1ddf7", checked := Try.checked }
namespace Rows
def none {H : Type} : Left H := { results := [], args := [] }

/-- 'hemiolalaw34.VerticalNearest': WHATEVER THE INPUT: true; the input reads as it did. -/
def verticalNearestSpec : ChangeSpec := { name := "verticalNearest", fn := fun _ => fun
  | [d1, d2] => { results := [.lit (.bool true)], args := [d1, d2] }
  | _ => none }
def verticalNearestRow : OpenClaim := { program := "yticpophdoiljfaa", sum := "eb5897289da0691a4140213ee2425972da6a1d76ebfe0d0f469009e939a1ddf7", func := "hemiola/hemiolalaw34.VerticalNearest", spec := "verticalNearest", unfollowed := true, recurses := true, apart := false }
def VerticalNearestSaid : Prop := verticalNearestRow.holds Try.pinned (OpenSpec.ofChange verticalNearestSpec)

/-- ITS FALSE NEIGHBOUR: 'it returns false'. Refute it at one input. -/
def verticalNearestWrong : ChangeSpec := { name := "verticalNearest", fn := fun _ => fun
  | [d1, d2] => { results := [.lit (.bool false)], args := [d1, d2] }
  | _ => none }
def VerticalNearestWrongFalsely : Prop := verticalNearestRow.holds Try.pinned (OpenSpec.ofChange verticalNearestWrong)

/-- 'hemiolalaw34.VerticalTight': WHATEVER THE INPUT: true; the input reads as it did. -/
def verticalTightSpec : ChangeSpec := { name := "verticalTight", fn := fun _ => fun
  | [d1, d2, d3] => { results := [.lit (.bool true)], args := [d1, d2, d3] }
  | _ => none }
def verticalTightRow : OpenClaim := { program := "yticpophdoiljfaa", sum := "eb5897289da0691a4140213ee2425972da6a1d76ebfe0d0f469009e939a1ddf7", func := "hemiola/hemiolalaw34.VerticalTight", spec := "verticalTight", unfollowed := true, recurses := true, apart := false }
def VerticalTightSaid : Prop := verticalTightRow.holds Try.pinned (OpenSpec.ofChange verticalTightSpec)

/-- ITS FALSE NEIGHBOUR: 'it returns false'. Refute it at one input. -/
def verticalTightWrong : ChangeSpec := { name := "verticalTight", fn := fun _ => fun
  | [d1, d2, d3] => { results := [.lit (.bool false)], args := [d1, d2, d3] }
  | _ => none }
def VerticalTightWrongFalsely : Prop := verticalTightRow.holds Try.pinned (OpenSpec.ofChange verticalTightWrong)

/-- 'hemiolalaw34.VerticalClears': WHATEVER THE INPUT: true; the input reads as it did. -/
def verticalClearsSpec : ChangeSpec := { name := "verticalClears", fn := fun _ => fun
  | [d1, d2, d3] => { results := [.lit (.bool true)], args := [d1, d2, d3] }
  | _ => none }
def verticalClearsRow : OpenClaim := { program := "yticpophdoiljfaa", sum := "eb5897289da0691a4140213ee2425972da6a1d76ebfe0d0f469009e939a1ddf7", func := "hemiola/hemiolalaw34.VerticalClears", spec := "verticalClears", unfollowed := true, recurses := true, apart := false }
def VerticalClearsSaid : Prop := verticalClearsRow.holds Try.pinned (OpenSpec.ofChange verticalClearsSpec)

/-- ITS FALSE NEIGHBOUR: 'it returns false'. Refute it at one input. -/
def verticalClearsWrong : ChangeSpec := { name := "verticalClears", fn := fun _ => fun
  | [d1, d2, d3] => { results := [.lit (.bool false)], args := [d1, d2, d3] }
  | _ => none }
def VerticalClearsWrongFalsely : Prop := verticalClearsRow.holds Try.pinned (OpenSpec.ofChange verticalClearsWrong)

/-- 'hemiolalaw34.VerticalStacks': WHATEVER THE INPUT: true; the input reads as it did. -/
def verticalStacksSpec : ChangeSpec := { name := "verticalStacks", fn := fun _ => fun
  | [d1, d2, d3] => { results := [.lit (.bool true)], args := [d1, d2, d3] }
  | _ => none }
def verticalStacksRow : OpenClaim := { program := "yticpophdoiljfaa", sum := "eb5897289da0691a4140213ee2425972da6a1d76ebfe0d0f469009e939a1ddf7", func := "hemiola/hemiolalaw34.VerticalStacks", spec := "verticalStacks", unfollowed := true, recurses := true, apart := false }
def VerticalStacksSaid : Prop := verticalStacksRow.holds Try.pinned (OpenSpec.ofChange verticalStacksSpec)

/-- ITS FALSE NEIGHBOUR: 'it returns false'. Refute it at one input. -/
def verticalStacksWrong : ChangeSpec := { name := "verticalStacks", fn := fun _ => fun
  | [d1, d2, d3] => { results := [.lit (.bool false)], args := [d1, d2, d3] }
  | _ => none }
def VerticalStacksWrongFalsely : Prop := verticalStacksRow.holds Try.pinned (OpenSpec.ofChange verticalStacksWrong)

/-- 'hemiolalaw34.VerticalBars': WHATEVER THE INPUT: true; the input reads as it did. -/
def verticalBarsSpec : ChangeSpec := { name := "verticalBars", fn := fun _ => fun
  | [d1, d2] => { results := [.lit (.bool true)], args := [d1, d2] }
  | _ => none }
def verticalBarsRow : OpenClaim := { program := "yticpophdoiljfaa", sum := "eb5897289da0691a4140213ee2425972da6a1d76ebfe0d0f469009e939a1ddf7", func := "hemiola/hemiolalaw34.VerticalBars", spec := "verticalBars", unfollowed := true, recurses := true, apart := false }
def VerticalBarsSaid : Prop := verticalBarsRow.holds Try.pinned (OpenSpec.ofChange verticalBarsSpec)

/-- ITS FALSE NEIGHBOUR: 'it returns false'. Refute it at one input. -/
def verticalBarsWrong : ChangeSpec := { name := "verticalBars", fn := fun _ => fun
  | [d1, d2] => { results := [.lit (.bool false)], args := [d1, d2] }
  | _ => none }
def VerticalBarsWrongFalsely : Prop := verticalBarsRow.holds Try.pinned (OpenSpec.ofChange verticalBarsWrong)

/-- 'hemiolalaw34.VerticalGrows': WHATEVER THE INPUT: true; the input reads as it did. -/
def verticalGrowsSpec : ChangeSpec := { name := "verticalGrows", fn := fun _ => fun
  | [d1, d2, d3] => { results := [.lit (.bool true)], args := [d1, d2, d3] }
  | _ => none }
def verticalGrowsRow : OpenClaim := { program := "yticpophdoiljfaa", sum := "eb5897289da0691a4140213ee2425972da6a1d76ebfe0d0f469009e939a1ddf7", func := "hemiola/hemiolalaw34.VerticalGrows", spec := "verticalGrows", unfollowed := true, recurses := true, apart := false }
def VerticalGrowsSaid : Prop := verticalGrowsRow.holds Try.pinned (OpenSpec.ofChange verticalGrowsSpec)

/-- ITS FALSE NEIGHBOUR: 'it returns false'. Refute it at one input. -/
def verticalGrowsWrong : ChangeSpec := { name := "verticalGrows", fn := fun _ => fun
  | [d1, d2, d3] => { results := [.lit (.bool false)], args := [d1, d2, d3] }
  | _ => none }
def VerticalGrowsWrongFalsely : Prop := verticalGrowsRow.holds Try.pinned (OpenSpec.ofChange verticalGrowsWrong)

/-- 'hemiolalaw34.VerticalEqual': WHATEVER THE INPUT: true; the input reads as it did. -/
def verticalEqualSpec : ChangeSpec := { name := "verticalEqual", fn := fun _ => fun
  | [d1, d2, d3] => { results := [.lit (.bool true)], args := [d1, d2, d3] }
  | _ => none }
def verticalEqualRow : OpenClaim := { program := "yticpophdoiljfaa", sum := "eb5897289da0691a4140213ee2425972da6a1d76ebfe0d0f469009e939a1ddf7", func := "hemiola/hemiolalaw34.VerticalEqual", spec := "verticalEqual", unfollowed := true, recurses := true, apart := false }
def VerticalEqualSaid : Prop := verticalEqualRow.holds Try.pinned (OpenSpec.ofChange verticalEqualSpec)

/-- ITS FALSE NEIGHBOUR: 'it returns false'. Refute it at one input. -/
def verticalEqualWrong : ChangeSpec := { name := "verticalEqual", fn := fun _ => fun
  | [d1, d2, d3] => { results := [.lit (.bool false)], args := [d1, d2, d3] }
  | _ => none }
def VerticalEqualWrongFalsely : Prop := verticalEqualRow.holds Try.pinned (OpenSpec.ofChange verticalEqualWrong)

/-- 'hemiolalaw34.VerticalSpreads': WHATEVER THE INPUT: true; the input reads as it did. -/
def verticalSpreadsSpec : ChangeSpec := { name := "verticalSpreads", fn := fun _ => fun
  | [d1, d2, d3] => { results := [.lit (.bool true)], args := [d1, d2, d3] }
  | _ => none }
def verticalSpreadsRow : OpenClaim := { program := "yticpophdoiljfaa", sum := "eb5897289da0691a4140213ee2425972da6a1d76ebfe0d0f469009e939a1ddf7", func := "hemiola/hemiolalaw34.VerticalSpreads", spec := "verticalSpreads", unfollowed := true, recurses := true, apart := false }
def VerticalSpreadsSaid : Prop := verticalSpreadsRow.holds Try.pinned (OpenSpec.ofChange verticalSpreadsSpec)

/-- ITS FALSE NEIGHBOUR: 'it returns false'. Refute it at one input. -/
def verticalSpreadsWrong : ChangeSpec := { name := "verticalSpreads", fn := fun _ => fun
  | [d1, d2, d3] => { results := [.lit (.bool false)], args := [d1, d2, d3] }
  | _ => none }
def VerticalSpreadsWrongFalsely : Prop := verticalSpreadsRow.holds Try.pinned (OpenSpec.ofChange verticalSpreadsWrong)

/-- 'hemiolalaw34.VerticalErrors': WHATEVER THE INPUT: true; the input reads as it did. -/
def verticalErrorsSpec : ChangeSpec := { name := "verticalErrors", fn := fun _ => fun
  | [d1, d2, d3] => { results := [.lit (.bool true)], args := [d1, d2, d3] }
  | _ => none }
def verticalErrorsRow : OpenClaim := { program := "yticpophdoiljfaa", sum := "eb5897289da0691a4140213ee2425972da6a1d76ebfe0d0f469009e939a1ddf7", func := "hemiola/hemiolalaw34.VerticalErrors", spec := "verticalErrors", unfollowed := true, recurses := true, apart := false }
def VerticalErrorsSaid : Prop := verticalErrorsRow.holds Try.pinned (OpenSpec.ofChange verticalErrorsSpec)

/-- ITS FALSE NEIGHBOUR: 'it returns false'. Refute it at one input. -/
def verticalErrorsWrong : ChangeSpec := { name := "verticalErrors", fn := fun _ => fun
  | [d1, d2, d3] => { results := [.lit (.bool false)], args := [d1, d2, d3] }
  | _ => none }
def VerticalErrorsWrongFalsely : Prop := verticalErrorsRow.holds Try.pinned (OpenSpec.ofChange verticalErrorsWrong)

/- THE SECOND FORM. 'bulk': how many values and letters a reading holds, each counted each time it is reached (what is shared counts as often as it is met; a slice's spare places count too). A statement '..UptoSaid' is the law's where the arguments, and the package variables that the reading takes, are together of bulk at most 1048576: NARROWER than '..Said'. Prove '..Said' where nothing that the law and all that it calls make is longer than what came in: it says more and counts as full. Else prove '..UptoSaid'. A law counts once. -/
mutual
def uptoBulk {H : Type} : DataW H → Nat
  | .lit (.string bytes) => bytes.length + 1
  | .lit _ => 1
  | .nil => 1
  | .ptr d => uptoBulk d + 1
  | .slice elems spare => uptoBulkAll elems + uptoBulkAll spare + 1
  | .agg parts => uptoBulkAll parts + 1
  | .iface _ d => uptoBulk d + 1
  | .map entries => uptoBulkEntries entries + 1
  | .held _ => 1
def uptoBulkAll {H : Type} : List (DataW H) → Nat
  | [] => 0
  | d :: r => uptoBulk d + uptoBulkAll r
def uptoBulkEntries {H : Type} : List (Lit × DataW H) → Nat
  | [] => 0
  | x :: r => uptoBulkEntry x + uptoBulkEntries r
def uptoBulkEntry {H : Type} : Lit × DataW H → Nat
  | (.string bytes, d) => bytes.length + uptoBulk d + 1
  | (_, d) => uptoBulk d + 1
 end
def uptoSmall : (H : Type) → List (DataW H) → Bool := fun _ ds => decide (uptoBulkAll ds ≤ 1048576)
def OpenSpec.upto (s : _root_.Go.ChangeSpec) : _root_.Go.OpenSpec := { _root_.Go.OpenSpec.ofChange s with cond := some uptoSmall }

/-- 'hemiolalaw34.VerticalNearest', WHERE WHAT IT READS IS OF BULK AT MOST 1048576: true; the input reads as it did. -/
def verticalNearestUptoRow : OpenClaim := { program := "yticpophdoiljfaa", sum := "eb5897289da0691a4140213ee2425972da6a1d76ebfe0d0f469009e939a1ddf7", func := "hemiola/hemiolalaw34.VerticalNearest", spec := "verticalNearest", unfollowed := true, recurses := true, apart := false, narrowed := true }
def VerticalNearestUptoSaid : Prop := verticalNearestUptoRow.holds Try.pinned (OpenSpec.upto verticalNearestSpec)

/-- 'hemiolalaw34.VerticalTight', WHERE WHAT IT READS IS OF BULK AT MOST 1048576: true; the input reads as it did. -/
def verticalTightUptoRow : OpenClaim := { program := "yticpophdoiljfaa", sum := "eb5897289da0691a4140213ee2425972da6a1d76ebfe0d0f469009e939a1ddf7", func := "hemiola/hemiolalaw34.VerticalTight", spec := "verticalTight", unfollowed := true, recurses := true, apart := false, narrowed := true }
def VerticalTightUptoSaid : Prop := verticalTightUptoRow.holds Try.pinned (OpenSpec.upto verticalTightSpec)

/-- 'hemiolalaw34.VerticalClears', WHERE WHAT IT READS IS OF BULK AT MOST 1048576: true; the input reads as it did. -/
def verticalClearsUptoRow : OpenClaim := { program := "yticpophdoiljfaa", sum := "eb5897289da0691a4140213ee2425972da6a1d76ebfe0d0f469009e939a1ddf7", func := "hemiola/hemiolalaw34.VerticalClears", spec := "verticalClears", unfollowed := true, recurses := true, apart := false, narrowed := true }
def VerticalClearsUptoSaid : Prop := verticalClearsUptoRow.holds Try.pinned (OpenSpec.upto verticalClearsSpec)

/-- 'hemiolalaw34.VerticalStacks', WHERE WHAT IT READS IS OF BULK AT MOST 1048576: true; the input reads as it did. -/
def verticalStacksUptoRow : OpenClaim := { program := "yticpophdoiljfaa", sum := "eb5897289da0691a4140213ee2425972da6a1d76ebfe0d0f469009e939a1ddf7", func := "hemiola/hemiolalaw34.VerticalStacks", spec := "verticalStacks", unfollowed := true, recurses := true, apart := false, narrowed := true }
def VerticalStacksUptoSaid : Prop := verticalStacksUptoRow.holds Try.pinned (OpenSpec.upto verticalStacksSpec)

/-- 'hemiolalaw34.VerticalBars', WHERE WHAT IT READS IS OF BULK AT MOST 1048576: true; the input reads as it did. -/
def verticalBarsUptoRow : OpenClaim := { program := "yticpophdoiljfaa", sum := "eb5897289da0691a4140213ee2425972da6a1d76ebfe0d0f469009e939a1ddf7", func := "hemiola/hemiolalaw34.VerticalBars", spec := "verticalBars", unfollowed := true, recurses := true, apart := false, narrowed := true }
def VerticalBarsUptoSaid : Prop := verticalBarsUptoRow.holds Try.pinned (OpenSpec.upto verticalBarsSpec)

/-- 'hemiolalaw34.VerticalGrows', WHERE WHAT IT READS IS OF BULK AT MOST 1048576: true; the input reads as it did. -/
def verticalGrowsUptoRow : OpenClaim := { program := "yticpophdoiljfaa", sum := "eb5897289da0691a4140213ee2425972da6a1d76ebfe0d0f469009e939a1ddf7", func := "hemiola/hemiolalaw34.VerticalGrows", spec := "verticalGrows", unfollowed := true, recurses := true, apart := false, narrowed := true }
def VerticalGrowsUptoSaid : Prop := verticalGrowsUptoRow.holds Try.pinned (OpenSpec.upto verticalGrowsSpec)

/-- 'hemiolalaw34.VerticalEqual', WHERE WHAT IT READS IS OF BULK AT MOST 1048576: true; the input reads as it did. -/
def verticalEqualUptoRow : OpenClaim := { program := "yticpophdoiljfaa", sum := "eb5897289da0691a4140213ee2425972da6a1d76ebfe0d0f469009e939a1ddf7", func := "hemiola/hemiolalaw34.VerticalEqual", spec := "verticalEqual", unfollowed := true, recurses := true, apart := false, narrowed := true }
def VerticalEqualUptoSaid : Prop := verticalEqualUptoRow.holds Try.pinned (OpenSpec.upto verticalEqualSpec)

/-- 'hemiolalaw34.VerticalSpreads', WHERE WHAT IT READS IS OF BULK AT MOST 1048576: true; the input reads as it did. -/
def verticalSpreadsUptoRow : OpenClaim := { program := "yticpophdoiljfaa", sum := "eb5897289da0691a4140213ee2425972da6a1d76ebfe0d0f469009e939a1ddf7", func := "hemiola/hemiolalaw34.VerticalSpreads", spec := "verticalSpreads", unfollowed := true, recurses := true, apart := false, narrowed := true }
def VerticalSpreadsUptoSaid : Prop := verticalSpreadsUptoRow.holds Try.pinned (OpenSpec.upto verticalSpreadsSpec)

/-- 'hemiolalaw34.VerticalErrors', WHERE WHAT IT READS IS OF BULK AT MOST 1048576: true; the input reads as it did. -/
def verticalErrorsUptoRow : OpenClaim := { program := "yticpophdoiljfaa", sum := "eb5897289da0691a4140213ee2425972da6a1d76ebfe0d0f469009e939a1ddf7", func := "hemiola/hemiolalaw34.VerticalErrors", spec := "verticalErrors", unfollowed := true, recurses := true, apart := false, narrowed := true }
def VerticalErrorsUptoSaid : Prop := verticalErrorsUptoRow.holds Try.pinned (OpenSpec.upto verticalErrorsSpec)

end Rows
end Go.Proofs.Yticpophdoiljfaa
