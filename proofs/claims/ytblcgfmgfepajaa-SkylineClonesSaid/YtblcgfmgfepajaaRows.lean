/-
  No cell of these rows narrows 'for every input' (looked for: loops, veiled, ifaces, maps, wideKeys, modest, calm, conditions, laid).
  DERIVED. THE GIVEN ROWS OF THIS SEAT. 10 by the template 'for every input the law returns true; each argument reads behind the call as it read before'; 0 by the template 'total and deterministic' (their statements: YtblcgfmgfepajaaTotals.lean).
  GIVEN WITH THE SEED: the statements are not yours to turn. If you find one false, say at which input.
  Laid BY PROGRAM, IN A SANDBOX (cutbox-rows.mjs): the forced cells as the released guide's own fill.sh prints them over the translation e02f51564619849b… (all of the seat's roots in one cut). By AI agents, Wed Nov 11 2026. No macro, syntax, notation, axiom, sorry.
-/
import Derived.Test.YtblcgfmgfepajaaChecked
import GoSem.Claim
import GoSem.ClaimJoined
import GoSem.ClaimMapViews
import Derived.JoinedTies
import Derived.KernelRfl
namespace Go.Proofs.Ytblcgfmgfepajaa
/- THE CELL 'sum', in the pinned program and in every row, IS THE sha256 OF THE DUMP (.gsa) THAT YtblcgfmgfepajaaProg.lean LOADS. Nothing in Lean hashes anything: it is a label: what it is worth is what the hold of that sum in a sandbox is worth. -/
noncomputable def Try.pinned : Pinned := { name := "ytblcgfmgfepajaa", sum := "e02f51564619849b31cd5c247ecf81ed51be8cadb9157b9391123354edc6f242", checked := Try.checked }
namespace Rows
def none {H : Type} : Left H := { results := [], args := [] }

/-- 'hemiolalaw24.SkylineBegins': WHATEVER THE INPUT: true; the input reads as it did. -/
def skylineBeginsSpec : ChangeSpec := { name := "skylineBegins", fn := fun _ => fun
  | [d1, d2, d3] => { results := [.lit (.bool true)], args := [d1, d2, d3] }
  | _ => none }
def skylineBeginsRow : OpenClaim := { program := "ytblcgfmgfepajaa", sum := "e02f51564619849b31cd5c247ecf81ed51be8cadb9157b9391123354edc6f242", func := "hemiola/hemiolalaw24.SkylineBegins", spec := "skylineBegins", apart := false }
def SkylineBeginsSaid : Prop := skylineBeginsRow.holds Try.pinned (OpenSpec.ofChange skylineBeginsSpec)

/-- ITS FALSE NEIGHBOUR: 'it returns false'. Refute it at one input. -/
def skylineBeginsWrong : ChangeSpec := { name := "skylineBegins", fn := fun _ => fun
  | [d1, d2, d3] => { results := [.lit (.bool false)], args := [d1, d2, d3] }
  | _ => none }
def SkylineBeginsWrongFalsely : Prop := skylineBeginsRow.holds Try.pinned (OpenSpec.ofChange skylineBeginsWrong)

/-- 'hemiolalaw24.SkylineMirrors': WHATEVER THE INPUT: true; the input reads as it did. -/
def skylineMirrorsSpec : ChangeSpec := { name := "skylineMirrors", fn := fun _ => fun
  | [d1, d2] => { results := [.lit (.bool true)], args := [d1, d2] }
  | _ => none }
def skylineMirrorsRow : OpenClaim := { program := "ytblcgfmgfepajaa", sum := "e02f51564619849b31cd5c247ecf81ed51be8cadb9157b9391123354edc6f242", func := "hemiola/hemiolalaw24.SkylineMirrors", spec := "skylineMirrors", apart := false }
def SkylineMirrorsSaid : Prop := skylineMirrorsRow.holds Try.pinned (OpenSpec.ofChange skylineMirrorsSpec)

/-- ITS FALSE NEIGHBOUR: 'it returns false'. Refute it at one input. -/
def skylineMirrorsWrong : ChangeSpec := { name := "skylineMirrors", fn := fun _ => fun
  | [d1, d2] => { results := [.lit (.bool false)], args := [d1, d2] }
  | _ => none }
def SkylineMirrorsWrongFalsely : Prop := skylineMirrorsRow.holds Try.pinned (OpenSpec.ofChange skylineMirrorsWrong)

/-- 'hemiolalaw24.SkylineTouches': WHATEVER THE INPUT: true; the input reads as it did. -/
def skylineTouchesSpec : ChangeSpec := { name := "skylineTouches", fn := fun _ => fun
  | [d1, d2, d3] => { results := [.lit (.bool true)], args := [d1, d2, d3] }
  | _ => none }
def skylineTouchesRow : OpenClaim := { program := "ytblcgfmgfepajaa", sum := "e02f51564619849b31cd5c247ecf81ed51be8cadb9157b9391123354edc6f242", func := "hemiola/hemiolalaw24.SkylineTouches", spec := "skylineTouches", apart := false }
def SkylineTouchesSaid : Prop := skylineTouchesRow.holds Try.pinned (OpenSpec.ofChange skylineTouchesSpec)

/-- ITS FALSE NEIGHBOUR: 'it returns false'. Refute it at one input. -/
def skylineTouchesWrong : ChangeSpec := { name := "skylineTouches", fn := fun _ => fun
  | [d1, d2, d3] => { results := [.lit (.bool false)], args := [d1, d2, d3] }
  | _ => none }
def SkylineTouchesWrongFalsely : Prop := skylineTouchesRow.holds Try.pinned (OpenSpec.ofChange skylineTouchesWrong)

/-- 'hemiolalaw24.SkylinePlays': WHATEVER THE INPUT: true; the input reads as it did. -/
def skylinePlaysSpec : ChangeSpec := { name := "skylinePlays", fn := fun _ => fun
  | [d1, d2, d3] => { results := [.lit (.bool true)], args := [d1, d2, d3] }
  | _ => none }
def skylinePlaysRow : OpenClaim := { program := "ytblcgfmgfepajaa", sum := "e02f51564619849b31cd5c247ecf81ed51be8cadb9157b9391123354edc6f242", func := "hemiola/hemiolalaw24.SkylinePlays", spec := "skylinePlays", apart := false }
def SkylinePlaysSaid : Prop := skylinePlaysRow.holds Try.pinned (OpenSpec.ofChange skylinePlaysSpec)

/-- ITS FALSE NEIGHBOUR: 'it returns false'. Refute it at one input. -/
def skylinePlaysWrong : ChangeSpec := { name := "skylinePlays", fn := fun _ => fun
  | [d1, d2, d3] => { results := [.lit (.bool false)], args := [d1, d2, d3] }
  | _ => none }
def SkylinePlaysWrongFalsely : Prop := skylinePlaysRow.holds Try.pinned (OpenSpec.ofChange skylinePlaysWrong)

/-- 'hemiolalaw24.SkylineSteps': WHATEVER THE INPUT: true; the input reads as it did. -/
def skylineStepsSpec : ChangeSpec := { name := "skylineSteps", fn := fun _ => fun
  | [d1, d2] => { results := [.lit (.bool true)], args := [d1, d2] }
  | _ => none }
def skylineStepsRow : OpenClaim := { program := "ytblcgfmgfepajaa", sum := "e02f51564619849b31cd5c247ecf81ed51be8cadb9157b9391123354edc6f242", func := "hemiola/hemiolalaw24.SkylineSteps", spec := "skylineSteps", apart := false }
def SkylineStepsSaid : Prop := skylineStepsRow.holds Try.pinned (OpenSpec.ofChange skylineStepsSpec)

/-- ITS FALSE NEIGHBOUR: 'it returns false'. Refute it at one input. -/
def skylineStepsWrong : ChangeSpec := { name := "skylineSteps", fn := fun _ => fun
  | [d1, d2] => { results := [.lit (.bool false)], args := [d1, d2] }
  | _ => none }
def SkylineStepsWrongFalsely : Prop := skylineStepsRow.holds Try.pinned (OpenSpec.ofChange skylineStepsWrong)

/-- 'hemiolalaw24.SkylineDistances': WHATEVER THE INPUT: true; the input reads as it did. -/
def skylineDistancesSpec : ChangeSpec := { name := "skylineDistances", fn := fun _ => fun
  | [d1, d2, d3] => { results := [.lit (.bool true)], args := [d1, d2, d3] }
  | _ => none }
def skylineDistancesRow : OpenClaim := { program := "ytblcgfmgfepajaa", sum := "e02f51564619849b31cd5c247ecf81ed51be8cadb9157b9391123354edc6f242", func := "hemiola/hemiolalaw24.SkylineDistances", spec := "skylineDistances", apart := false }
def SkylineDistancesSaid : Prop := skylineDistancesRow.holds Try.pinned (OpenSpec.ofChange skylineDistancesSpec)

/-- ITS FALSE NEIGHBOUR: 'it returns false'. Refute it at one input. -/
def skylineDistancesWrong : ChangeSpec := { name := "skylineDistances", fn := fun _ => fun
  | [d1, d2, d3] => { results := [.lit (.bool false)], args := [d1, d2, d3] }
  | _ => none }
def SkylineDistancesWrongFalsely : Prop := skylineDistancesRow.holds Try.pinned (OpenSpec.ofChange skylineDistancesWrong)

/-- 'hemiolalaw24.SkylineFree': WHATEVER THE INPUT: true; the input reads as it did. -/
def skylineFreeSpec : ChangeSpec := { name := "skylineFree", fn := fun _ => fun
  | [d1, d2, d3] => { results := [.lit (.bool true)], args := [d1, d2, d3] }
  | _ => none }
def skylineFreeRow : OpenClaim := { program := "ytblcgfmgfepajaa", sum := "e02f51564619849b31cd5c247ecf81ed51be8cadb9157b9391123354edc6f242", func := "hemiola/hemiolalaw24.SkylineFree", spec := "skylineFree", apart := false }
def SkylineFreeSaid : Prop := skylineFreeRow.holds Try.pinned (OpenSpec.ofChange skylineFreeSpec)

/-- ITS FALSE NEIGHBOUR: 'it returns false'. Refute it at one input. -/
def skylineFreeWrong : ChangeSpec := { name := "skylineFree", fn := fun _ => fun
  | [d1, d2, d3] => { results := [.lit (.bool false)], args := [d1, d2, d3] }
  | _ => none }
def SkylineFreeWrongFalsely : Prop := skylineFreeRow.holds Try.pinned (OpenSpec.ofChange skylineFreeWrong)

/-- 'hemiolalaw24.SkylineMerges': WHATEVER THE INPUT: true; the input reads as it did. -/
def skylineMergesSpec : ChangeSpec := { name := "skylineMerges", fn := fun _ => fun
  | [d1, d2, d3] => { results := [.lit (.bool true)], args := [d1, d2, d3] }
  | _ => none }
def skylineMergesRow : OpenClaim := { program := "ytblcgfmgfepajaa", sum := "e02f51564619849b31cd5c247ecf81ed51be8cadb9157b9391123354edc6f242", func := "hemiola/hemiolalaw24.SkylineMerges", spec := "skylineMerges", apart := false }
def SkylineMergesSaid : Prop := skylineMergesRow.holds Try.pinned (OpenSpec.ofChange skylineMergesSpec)

/-- ITS FALSE NEIGHBOUR: 'it returns false'. Refute it at one input. -/
def skylineMergesWrong : ChangeSpec := { name := "skylineMerges", fn := fun _ => fun
  | [d1, d2, d3] => { results := [.lit (.bool false)], args := [d1, d2, d3] }
  | _ => none }
def SkylineMergesWrongFalsely : Prop := skylineMergesRow.holds Try.pinned (OpenSpec.ofChange skylineMergesWrong)

/-- 'hemiolalaw24.SkylineOrders': WHATEVER THE INPUT: true; the input reads as it did. -/
def skylineOrdersSpec : ChangeSpec := { name := "skylineOrders", fn := fun _ => fun
  | [d1, d2, d3] => { results := [.lit (.bool true)], args := [d1, d2, d3] }
  | _ => none }
def skylineOrdersRow : OpenClaim := { program := "ytblcgfmgfepajaa", sum := "e02f51564619849b31cd5c247ecf81ed51be8cadb9157b9391123354edc6f242", func := "hemiola/hemiolalaw24.SkylineOrders", spec := "skylineOrders", apart := false }
def SkylineOrdersSaid : Prop := skylineOrdersRow.holds Try.pinned (OpenSpec.ofChange skylineOrdersSpec)

/-- ITS FALSE NEIGHBOUR: 'it returns false'. Refute it at one input. -/
def skylineOrdersWrong : ChangeSpec := { name := "skylineOrders", fn := fun _ => fun
  | [d1, d2, d3] => { results := [.lit (.bool false)], args := [d1, d2, d3] }
  | _ => none }
def SkylineOrdersWrongFalsely : Prop := skylineOrdersRow.holds Try.pinned (OpenSpec.ofChange skylineOrdersWrong)

/-- 'hemiolalaw24.SkylineClones': WHATEVER THE INPUT: true; the input reads as it did. -/
def skylineClonesSpec : ChangeSpec := { name := "skylineClones", fn := fun _ => fun
  | [d1, d2, d3] => { results := [.lit (.bool true)], args := [d1, d2, d3] }
  | _ => none }
def skylineClonesRow : OpenClaim := { program := "ytblcgfmgfepajaa", sum := "e02f51564619849b31cd5c247ecf81ed51be8cadb9157b9391123354edc6f242", func := "hemiola/hemiolalaw24.SkylineClones", spec := "skylineClones", apart := false }
def SkylineClonesSaid : Prop := skylineClonesRow.holds Try.pinned (OpenSpec.ofChange skylineClonesSpec)

/-- ITS FALSE NEIGHBOUR: 'it returns false'. Refute it at one input. -/
def skylineClonesWrong : ChangeSpec := { name := "skylineClones", fn := fun _ => fun
  | [d1, d2, d3] => { results := [.lit (.bool false)], args := [d1, d2, d3] }
  | _ => none }
def SkylineClonesWrongFalsely : Prop := skylineClonesRow.holds Try.pinned (OpenSpec.ofChange skylineClonesWrong)

/- THE SECOND FORM. 'bulk': how many values and letters a reading holds, each counted each time it is reached (what is shared counts as often as it is met; a slice's spare places count too). A statement '..UptoSaid' is the law's where the arguments, and the package variables that the reading takes, are together of bulk at most 1048576: NARROWER than '..Said'. Prove '..Said' where nothing that the law and all that it calls make is longer than what came in: it says more and counts as full. Else prove '..UptoSaid'. A law counts once. -/
mutual
def uptoBulk {H : Type} : DataW H → Nat
  | .lit (.string bytes) => bytes.length + 1
  | .lit _ => 1
  | .nil => 1
  | .ptr d => uptoBulk d + 1
  | .slice elems spare => uptoBulkAll elems + uptoBulkAll spare + 1
  | .agg parts => uptoBulkAll parts + 1
  | .iface _ d => uptoBulk d + 1
  | .map entries => uptoBulkEntries entries + 1
  | .held _ => 1
def uptoBulkAll {H : Type} : List (DataW H) → Nat
  | [] => 0
  | d :: r => uptoBulk d + uptoBulkAll r
def uptoBulkEntries {H : Type} : List (Lit × DataW H) → Nat
  | [] => 0
  | x :: r => uptoBulkEntry x + uptoBulkEntries r
def uptoBulkEntry {H : Type} : Lit × DataW H → Nat
  | (.string bytes, d) => bytes.length + uptoBulk d + 1
  | (_, d) => uptoBulk d + 1
 end
def uptoSmall : (H : Type) → List (DataW H) → Bool := fun _ ds => decide (uptoBulkAll ds ≤ 1048576)
def OpenSpec.upto (s : _root_.Go.ChangeSpec) : _root_.Go.OpenSpec := { _root_.Go.OpenSpec.ofChange s with cond := some uptoSmall }

/-- 'hemiolalaw24.SkylineBegins', WHERE WHAT IT READS IS OF BULK AT MOST 1048576: true; the input reads as it did. -/
def skylineBeginsUptoRow : OpenClaim := { program := "ytblcgfmgfepajaa", sum := "e02f51564619849b31cd5c247ecf81ed51be8cadb9157b9391123354edc6f242", func := "hemiola/hemiolalaw24.SkylineBegins", spec := "skylineBegins", apart := false, narrowed := true }
def SkylineBeginsUptoSaid : Prop := skylineBeginsUptoRow.holds Try.pinned (OpenSpec.upto skylineBeginsSpec)

/-- 'hemiolalaw24.SkylineMirrors', WHERE WHAT IT READS IS OF BULK AT MOST 1048576: true; the input reads as it did. -/
def skylineMirrorsUptoRow : OpenClaim := { program := "ytblcgfmgfepajaa", sum := "e02f51564619849b31cd5c247ecf81ed51be8cadb9157b9391123354edc6f242", func := "hemiola/hemiolalaw24.SkylineMirrors", spec := "skylineMirrors", apart := false, narrowed := true }
def SkylineMirrorsUptoSaid : Prop := skylineMirrorsUptoRow.holds Try.pinned (OpenSpec.upto skylineMirrorsSpec)

/-- 'hemiolalaw24.SkylineTouches', WHERE WHAT IT READS IS OF BULK AT MOST 1048576: true; the input reads as it did. -/
def skylineTouchesUptoRow : OpenClaim := { program := "ytblcgfmgfepajaa", sum := "e02f51564619849b31cd5c247ecf81ed51be8cadb9157b9391123354edc6f242", func := "hemiola/hemiolalaw24.SkylineTouches", spec := "skylineTouches", apart := false, narrowed := true }
def SkylineTouchesUptoSaid : Prop := skylineTouchesUptoRow.holds Try.pinned (OpenSpec.upto skylineTouchesSpec)

/-- 'hemiolalaw24.SkylinePlays', WHERE WHAT IT READS IS OF BULK AT MOST 1048576: true; the input reads as it did. -/
def skylinePlaysUptoRow : OpenClaim := { program := "ytblcgfmgfepajaa", sum := "e02f51564619849b31cd5c247ecf81ed51be8cadb9157b9391123354edc6f242", func := "hemiola/hemiolalaw24.SkylinePlays", spec := "skylinePlays", apart := false, narrowed := true }
def SkylinePlaysUptoSaid : Prop := skylinePlaysUptoRow.holds Try.pinned (OpenSpec.upto skylinePlaysSpec)

/-- 'hemiolalaw24.SkylineSteps', WHERE WHAT IT READS IS OF BULK AT MOST 1048576: true; the input reads as it did. -/
def skylineStepsUptoRow : OpenClaim := { program := "ytblcgfmgfepajaa", sum := "e02f51564619849b31cd5c247ecf81ed51be8cadb9157b9391123354edc6f242", func := "hemiola/hemiolalaw24.SkylineSteps", spec := "skylineSteps", apart := false, narrowed := true }
def SkylineStepsUptoSaid : Prop := skylineStepsUptoRow.holds Try.pinned (OpenSpec.upto skylineStepsSpec)

/-- 'hemiolalaw24.SkylineDistances', WHERE WHAT IT READS IS OF BULK AT MOST 1048576: true; the input reads as it did. -/
def skylineDistancesUptoRow : OpenClaim := { program := "ytblcgfmgfepajaa", sum := "e02f51564619849b31cd5c247ecf81ed51be8cadb9157b9391123354edc6f242", func := "hemiola/hemiolalaw24.SkylineDistances", spec := "skylineDistances", apart := false, narrowed := true }
def SkylineDistancesUptoSaid : Prop := skylineDistancesUptoRow.holds Try.pinned (OpenSpec.upto skylineDistancesSpec)

/-- 'hemiolalaw24.SkylineFree', WHERE WHAT IT READS IS OF BULK AT MOST 1048576: true; the input reads as it did. -/
def skylineFreeUptoRow : OpenClaim := { program := "ytblcgfmgfepajaa", sum := "e02f51564619849b31cd5c247ecf81ed51be8cadb9157b9391123354edc6f242", func := "hemiola/hemiolalaw24.SkylineFree", spec := "skylineFree", apart := false, narrowed := true }
def SkylineFreeUptoSaid : Prop := skylineFreeUptoRow.holds Try.pinned (OpenSpec.upto skylineFreeSpec)

/-- 'hemiolalaw24.SkylineMerges', WHERE WHAT IT READS IS OF BULK AT MOST 1048576: true; the input reads as it did. -/
def skylineMergesUptoRow : OpenClaim := { program := "ytblcgfmgfepajaa", sum := "e02f51564619849b31cd5c247ecf81ed51be8cadb9157b9391123354edc6f242", func := "hemiola/hemiolalaw24.SkylineMerges", spec := "skylineMerges", apart := false, narrowed := true }
def SkylineMergesUptoSaid : Prop := skylineMergesUptoRow.holds Try.pinned (OpenSpec.upto skylineMergesSpec)

/-- 'hemiolalaw24.SkylineOrders', WHERE WHAT IT READS IS OF BULK AT MOST 1048576: true; the input reads as it did. -/
def skylineOrdersUptoRow : OpenClaim := { program := "ytblcgfmgfepajaa", sum := "e02f51564619849b31cd5c247ecf81ed51be8cadb9157b9391123354edc6f242", func := "hemiola/hemiolalaw24.SkylineOrders", spec := "skylineOrders", apart := false, narrowed := true }
def SkylineOrdersUptoSaid : Prop := skylineOrdersUptoRow.holds Try.pinned (OpenSpec.upto skylineOrdersSpec)

/-- 'hemiolalaw24.SkylineClones', WHERE WHAT IT READS IS OF BULK AT MOST 1048576: true; the input reads as it did. -/
def skylineClonesUptoRow : OpenClaim := { program := "ytblcgfmgfepajaa", sum := "e02f51564619849b31cd5c247ecf81ed51be8cadb9157b9391123354edc6f242", func := "hemiola/hemiolalaw24.SkylineClones", spec := "skylineClones", apart := false, narrowed := true }
def SkylineClonesUptoSaid : Prop := skylineClonesUptoRow.holds Try.pinned (OpenSpec.upto skylineClonesSpec)

end Rows
end Go.Proofs.Ytblcgfmgfepajaa
