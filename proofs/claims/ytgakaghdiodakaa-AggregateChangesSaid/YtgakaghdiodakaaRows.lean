/-
  No cell of these rows narrows 'for every input' (looked for: loops, veiled, ifaces, maps, wideKeys, modest, calm, conditions, laid).
  DERIVED. THE GIVEN ROWS OF THIS SEAT. 5 by the template 'for every input the law returns true; each argument reads behind the call as it read before'; 0 by the template 'total and deterministic' (their statements: YtgakaghdiodakaaTotals.lean).
  GIVEN WITH THE SEED: the statements are not yours to turn. If you find one false, say at which input.
  Laid BY PROGRAM, IN A SANDBOX (cutbox-rows.mjs): the forced cells as the released guide's own fill.sh prints them over the translation 50d029042873c11d… (all of the seat's roots in one cut). By AI agents, Wed Nov 11 2026. No macro, syntax, notation, axiom, sorry.
-/
import Derived.Test.YtgakaghdiodakaaChecked
import GoSem.Claim
import GoSem.ClaimJoined
import GoSem.ClaimMapViews
import Derived.JoinedTies
import Derived.KernelRfl
namespace Go.Proofs.Ytgakaghdiodakaa
/- THE CELL 'sum', in the pinned program and in every row, IS THE sha256 OF THE DUMP (.gsa) THAT YtgakaghdiodakaaProg.lean LOADS. Nothing in Lean hashes anything: it is a label: what it is worth is what the hold of that sum in a sandbox is worth. -/
noncomputable def Try.pinned : Pinned := { name := "ytgakaghdiodakaa", sum := "50d029042873c11dc7853e972deef9796dd47c97847c3dfe2fdcff530c852c07", checked := Try.checked }
namespace Rows
def none {H : Type} : Left H := { results := [], args := [] }

/-- 'fiduciallaw45.AggregateLines': WHATEVER THE INPUT: true; the input reads as it did. -/
def aggregateLinesSpec : ChangeSpec := { name := "aggregateLines", fn := fun _ => fun
  | [d1, d2, d3] => { results := [.lit (.bool true)], args := [d1, d2, d3] }
  | _ => none }
def aggregateLinesRow : OpenClaim := { program := "ytgakaghdiodakaa", sum := "50d029042873c11dc7853e972deef9796dd47c97847c3dfe2fdcff530c852c07", func := "fiducial/fiduciallaw45.AggregateLines", spec := "aggregateLines", unfollowed := true, recurses := true, apart := false }
def AggregateLinesSaid : Prop := aggregateLinesRow.holds Try.pinned (OpenSpec.ofChange aggregateLinesSpec)

/-- ITS FALSE NEIGHBOUR: 'it returns false'. Refute it at one input. -/
def aggregateLinesWrong : ChangeSpec := { name := "aggregateLines", fn := fun _ => fun
  | [d1, d2, d3] => { results := [.lit (.bool false)], args := [d1, d2, d3] }
  | _ => none }
def AggregateLinesWrongFalsely : Prop := aggregateLinesRow.holds Try.pinned (OpenSpec.ofChange aggregateLinesWrong)

/-- 'fiduciallaw45.AggregateProofs': WHATEVER THE INPUT: true; the input reads as it did. -/
def aggregateProofsSpec : ChangeSpec := { name := "aggregateProofs", fn := fun _ => fun
  | [d1, d2, d3] => { results := [.lit (.bool true)], args := [d1, d2, d3] }
  | _ => none }
def aggregateProofsRow : OpenClaim := { program := "ytgakaghdiodakaa", sum := "50d029042873c11dc7853e972deef9796dd47c97847c3dfe2fdcff530c852c07", func := "fiducial/fiduciallaw45.AggregateProofs", spec := "aggregateProofs", unfollowed := true, recurses := true, apart := false }
def AggregateProofsSaid : Prop := aggregateProofsRow.holds Try.pinned (OpenSpec.ofChange aggregateProofsSpec)

/-- ITS FALSE NEIGHBOUR: 'it returns false'. Refute it at one input. -/
def aggregateProofsWrong : ChangeSpec := { name := "aggregateProofs", fn := fun _ => fun
  | [d1, d2, d3] => { results := [.lit (.bool false)], args := [d1, d2, d3] }
  | _ => none }
def AggregateProofsWrongFalsely : Prop := aggregateProofsRow.holds Try.pinned (OpenSpec.ofChange aggregateProofsWrong)

/-- 'fiduciallaw45.AggregateChanges': WHATEVER THE INPUT: true; the input reads as it did. -/
def aggregateChangesSpec : ChangeSpec := { name := "aggregateChanges", fn := fun _ => fun
  | [d1, d2, d3] => { results := [.lit (.bool true)], args := [d1, d2, d3] }
  | _ => none }
def aggregateChangesRow : OpenClaim := { program := "ytgakaghdiodakaa", sum := "50d029042873c11dc7853e972deef9796dd47c97847c3dfe2fdcff530c852c07", func := "fiducial/fiduciallaw45.AggregateChanges", spec := "aggregateChanges", unfollowed := true, recurses := true, apart := false }
def AggregateChangesSaid : Prop := aggregateChangesRow.holds Try.pinned (OpenSpec.ofChange aggregateChangesSpec)

/-- ITS FALSE NEIGHBOUR: 'it returns false'. Refute it at one input. -/
def aggregateChangesWrong : ChangeSpec := { name := "aggregateChanges", fn := fun _ => fun
  | [d1, d2, d3] => { results := [.lit (.bool false)], args := [d1, d2, d3] }
  | _ => none }
def AggregateChangesWrongFalsely : Prop := aggregateChangesRow.holds Try.pinned (OpenSpec.ofChange aggregateChangesWrong)

/-- 'fiduciallaw45.AggregateEnergies': WHATEVER THE INPUT: true; the input reads as it did. -/
def aggregateEnergiesSpec : ChangeSpec := { name := "aggregateEnergies", fn := fun _ => fun
  | [d1, d2, d3] => { results := [.lit (.bool true)], args := [d1, d2, d3] }
  | _ => none }
def aggregateEnergiesRow : OpenClaim := { program := "ytgakaghdiodakaa", sum := "50d029042873c11dc7853e972deef9796dd47c97847c3dfe2fdcff530c852c07", func := "fiducial/fiduciallaw45.AggregateEnergies", spec := "aggregateEnergies", unfollowed := true, recurses := true, apart := false }
def AggregateEnergiesSaid : Prop := aggregateEnergiesRow.holds Try.pinned (OpenSpec.ofChange aggregateEnergiesSpec)

/-- ITS FALSE NEIGHBOUR: 'it returns false'. Refute it at one input. -/
def aggregateEnergiesWrong : ChangeSpec := { name := "aggregateEnergies", fn := fun _ => fun
  | [d1, d2, d3] => { results := [.lit (.bool false)], args := [d1, d2, d3] }
  | _ => none }
def AggregateEnergiesWrongFalsely : Prop := aggregateEnergiesRow.holds Try.pinned (OpenSpec.ofChange aggregateEnergiesWrong)

/-- 'fiduciallaw45.AggregateGrids': WHATEVER THE INPUT: true; the input reads as it did. -/
def aggregateGridsSpec : ChangeSpec := { name := "aggregateGrids", fn := fun _ => fun
  | [d1, d2, d3] => { results := [.lit (.bool true)], args := [d1, d2, d3] }
  | _ => none }
def aggregateGridsRow : OpenClaim := { program := "ytgakaghdiodakaa", sum := "50d029042873c11dc7853e972deef9796dd47c97847c3dfe2fdcff530c852c07", func := "fiducial/fiduciallaw45.AggregateGrids", spec := "aggregateGrids", unfollowed := true, recurses := true, apart := false }
def AggregateGridsSaid : Prop := aggregateGridsRow.holds Try.pinned (OpenSpec.ofChange aggregateGridsSpec)

/-- ITS FALSE NEIGHBOUR: 'it returns false'. Refute it at one input. -/
def aggregateGridsWrong : ChangeSpec := { name := "aggregateGrids", fn := fun _ => fun
  | [d1, d2, d3] => { results := [.lit (.bool false)], args := [d1, d2, d3] }
  | _ => none }
def AggregateGridsWrongFalsely : Prop := aggregateGridsRow.holds Try.pinned (OpenSpec.ofChange aggregateGridsWrong)

/- THE SECOND FORM. 'bulk': how many values and letters a reading holds, each counted each time it is reached (what is shared counts as often as it is met; a slice's spare places count too). A statement '..UptoSaid' is the law's where the arguments, and the package variables that the reading takes, are together of bulk at most 1048576: NARROWER than '..Said'. Prove '..Said' where nothing that the law and all that it calls make is longer than what came in: it says more and counts as full. Else prove '..UptoSaid'. A law counts once. -/
mutual
def uptoBulk {H : Type} : DataW H → Nat
  | .lit (.string bytes) => bytes.length + 1
  | .lit _ => 1
  | .nil => 1
  | .ptr d => uptoBulk d + 1
  | .slice elems spare => uptoBulkAll elems + uptoBulkAll spare + 1
  | .agg parts => uptoBulkAll parts + 1
  | .iface _ d => uptoBulk d + 1
  | .map entries => uptoBulkEntries entries + 1
  | .held _ => 1
def uptoBulkAll {H : Type} : List (DataW H) → Nat
  | [] => 0
  | d :: r => uptoBulk d + uptoBulkAll r
def uptoBulkEntries {H : Type} : List (Lit × DataW H) → Nat
  | [] => 0
  | x :: r => uptoBulkEntry x + uptoBulkEntries r
def uptoBulkEntry {H : Type} : Lit × DataW H → Nat
  | (.string bytes, d) => bytes.length + uptoBulk d + 1
  | (_, d) => uptoBulk d + 1
 end
def uptoSmall : (H : Type) → List (DataW H) → Bool := fun _ ds => decide (uptoBulkAll ds ≤ 1048576)
def OpenSpec.upto (s : _root_.Go.ChangeSpec) : _root_.Go.OpenSpec := { _root_.Go.OpenSpec.ofChange s with cond := some uptoSmall }

/-- 'fiduciallaw45.AggregateLines', WHERE WHAT IT READS IS OF BULK AT MOST 1048576: true; the input reads as it did. -/
def aggregateLinesUptoRow : OpenClaim := { program := "ytgakaghdiodakaa", sum := "50d029042873c11dc7853e972deef9796dd47c97847c3dfe2fdcff530c852c07", func := "fiducial/fiduciallaw45.AggregateLines", spec := "aggregateLines", unfollowed := true, recurses := true, apart := false, narrowed := true }
def AggregateLinesUptoSaid : Prop := aggregateLinesUptoRow.holds Try.pinned (OpenSpec.upto aggregateLinesSpec)

/-- 'fiduciallaw45.AggregateProofs', WHERE WHAT IT READS IS OF BULK AT MOST 1048576: true; the input reads as it did. -/
def aggregateProofsUptoRow : OpenClaim := { program := "ytgakaghdiodakaa", sum := "50d029042873c11dc7853e972deef9796dd47c97847c3dfe2fdcff530c852c07", func := "fiducial/fiduciallaw45.AggregateProofs", spec := "aggregateProofs", unfollowed := true, recurses := true, apart := false, narrowed := true }
def AggregateProofsUptoSaid : Prop := aggregateProofsUptoRow.holds Try.pinned (OpenSpec.upto aggregateProofsSpec)

/-- 'fiduciallaw45.AggregateChanges', WHERE WHAT IT READS IS OF BULK AT MOST 1048576: true; the input reads as it did. -/
def aggregateChangesUptoRow : OpenClaim := { program := "ytgakaghdiodakaa", sum := "50d029042873c11dc7853e972deef9796dd47c97847c3dfe2fdcff530c852c07", func := "fiducial/fiduciallaw45.AggregateChanges", spec := "aggregateChanges", unfollowed := true, recurses := true, apart := false, narrowed := true }
def AggregateChangesUptoSaid : Prop := aggregateChangesUptoRow.holds Try.pinned (OpenSpec.upto aggregateChangesSpec)

/-- 'fiduciallaw45.AggregateEnergies', WHERE WHAT IT READS IS OF BULK AT MOST 1048576: true; the input reads as it did. -/
def aggregateEnergiesUptoRow : OpenClaim := { program := "ytgakaghdiodakaa", sum := "50d029042873c11dc7853e972deef9796dd47c97847c3dfe2fdcff530c852c07", func := "fiducial/fiduciallaw45.AggregateEnergies", spec := "aggregateEnergies", unfollowed := true, recurses := true, apart := false, narrowed := true }
def AggregateEnergiesUptoSaid : Prop := aggregateEnergiesUptoRow.holds Try.pinned (OpenSpec.upto aggregateEnergiesSpec)

/-- 'fiduciallaw45.AggregateGrids', WHERE WHAT IT READS IS OF BULK AT MOST 1048576: true; the input reads as it did. -/
def aggregateGridsUptoRow : OpenClaim := { program := "ytgakaghdiodakaa", sum := "50d029042873c11dc7853e972deef9796dd47c97847c3dfe2fdcff530c852c07", func := "fiducial/fiduciallaw45.AggregateGrids", spec := "aggregateGrids", unfollowed := true, recurses := true, apart := false, narrowed := true }
def AggregateGridsUptoSaid : Prop := aggregateGridsUptoRow.holds Try.pinned (OpenSpec.upto aggregateGridsSpec)

end Rows
end Go.Proofs.Ytgakaghdiodakaa
