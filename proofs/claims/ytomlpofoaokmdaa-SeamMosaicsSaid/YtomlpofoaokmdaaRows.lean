/-
  No cell of these rows narrows 'for every input' (looked for: loops, veiled, ifaces, maps, wideKeys, modest, calm, conditions, laid).
  DERIVED. THE GIVEN ROWS OF THIS SEAT. 8 by the template 'for every input the law returns true; each argument reads behind the call as it read before'; 0 by the template 'total and deterministic' (their statements: YtomlpofoaokmdaaTotals.lean).
  GIVEN WITH THE SEED: the statements are not yours to turn. If you find one false, say at which input.
  Laid BY PROGRAM, IN A SANDBOX (cutbox-rows.mjs): the forced cells as the released guide's own fill.sh prints them over the translation c2ab88beda98a77e… (all of the seat's roots in one cut). By AI agents, Wed Nov 11 2026. No macro, syntax, notation, axiom, sorry.
-/
import Derived.Test.YtomlpofoaokmdaaChecked
import GoSem.Claim
import GoSem.ClaimJoined
import GoSem.ClaimMapViews
import Derived.JoinedTies
import Derived.KernelRfl
namespace Go.Proofs.Ytomlpofoaokmdaa
/- THE CELL 'sum', in the pinned program and in every row, IS THE sha256 OF THE DUMP (.gsa) THAT YtomlpofoaokmdaaProg.lean LOADS. Nothing in Lean hashes anything: it is a label: what it is worth is what the hold of that sum in a sandbox is worth. -/
noncomputable def Try.pinned : Pinned := { name := "ytomlpofoaokmdaa", sum := "c2ab88beda98a77e7743a9cb180ed7c94680ad4ac667f16c3dd649bc56b2a484", checked := Try.checked }
namespace Rows
def none {H : Type} : Left H := { results := [], args := [] }

/-- 'fiduciallaw50.SeamProves': WHATEVER THE INPUT: true; the input reads as it did. -/
def seamProvesSpec : ChangeSpec := { name := "seamProves", fn := fun _ => fun
  | [d1, d2] => { results := [.lit (.bool true)], args := [d1, d2] }
  | _ => none }
def seamProvesRow : OpenClaim := { program := "ytomlpofoaokmdaa", sum := "c2ab88beda98a77e7743a9cb180ed7c94680ad4ac667f16c3dd649bc56b2a484", func := "fiducial/fiduciallaw50.SeamProves", spec := "seamProves", unfollowed := true, recurses := true, apart := false }
def SeamProvesSaid : Prop := seamProvesRow.holds Try.pinned (OpenSpec.ofChange seamProvesSpec)

/-- ITS FALSE NEIGHBOUR: 'it returns false'. Refute it at one input. -/
def seamProvesWrong : ChangeSpec := { name := "seamProves", fn := fun _ => fun
  | [d1, d2] => { results := [.lit (.bool false)], args := [d1, d2] }
  | _ => none }
def SeamProvesWrongFalsely : Prop := seamProvesRow.holds Try.pinned (OpenSpec.ofChange seamProvesWrong)

/-- 'fiduciallaw50.SeamMonotone': WHATEVER THE INPUT: true; the input reads as it did. -/
def seamMonotoneSpec : ChangeSpec := { name := "seamMonotone", fn := fun _ => fun
  | [d1, d2] => { results := [.lit (.bool true)], args := [d1, d2] }
  | _ => none }
def seamMonotoneRow : OpenClaim := { program := "ytomlpofoaokmdaa", sum := "c2ab88beda98a77e7743a9cb180ed7c94680ad4ac667f16c3dd649bc56b2a484", func := "fiducial/fiduciallaw50.SeamMonotone", spec := "seamMonotone", unfollowed := true, recurses := true, apart := false }
def SeamMonotoneSaid : Prop := seamMonotoneRow.holds Try.pinned (OpenSpec.ofChange seamMonotoneSpec)

/-- ITS FALSE NEIGHBOUR: 'it returns false'. Refute it at one input. -/
def seamMonotoneWrong : ChangeSpec := { name := "seamMonotone", fn := fun _ => fun
  | [d1, d2] => { results := [.lit (.bool false)], args := [d1, d2] }
  | _ => none }
def SeamMonotoneWrongFalsely : Prop := seamMonotoneRow.holds Try.pinned (OpenSpec.ofChange seamMonotoneWrong)

/-- 'fiduciallaw50.SeamShifts': WHATEVER THE INPUT: true; the input reads as it did. -/
def seamShiftsSpec : ChangeSpec := { name := "seamShifts", fn := fun _ => fun
  | [d1, d2, d3] => { results := [.lit (.bool true)], args := [d1, d2, d3] }
  | _ => none }
def seamShiftsRow : OpenClaim := { program := "ytomlpofoaokmdaa", sum := "c2ab88beda98a77e7743a9cb180ed7c94680ad4ac667f16c3dd649bc56b2a484", func := "fiducial/fiduciallaw50.SeamShifts", spec := "seamShifts", unfollowed := true, recurses := true, apart := false }
def SeamShiftsSaid : Prop := seamShiftsRow.holds Try.pinned (OpenSpec.ofChange seamShiftsSpec)

/-- ITS FALSE NEIGHBOUR: 'it returns false'. Refute it at one input. -/
def seamShiftsWrong : ChangeSpec := { name := "seamShifts", fn := fun _ => fun
  | [d1, d2, d3] => { results := [.lit (.bool false)], args := [d1, d2, d3] }
  | _ => none }
def SeamShiftsWrongFalsely : Prop := seamShiftsRow.holds Try.pinned (OpenSpec.ofChange seamShiftsWrong)

/-- 'fiduciallaw50.SeamFinds': WHATEVER THE INPUT: true; the input reads as it did. -/
def seamFindsSpec : ChangeSpec := { name := "seamFinds", fn := fun _ => fun
  | [d] => { results := [.lit (.bool true)], args := [d] }
  | _ => none }
def seamFindsRow : OpenClaim := { program := "ytomlpofoaokmdaa", sum := "c2ab88beda98a77e7743a9cb180ed7c94680ad4ac667f16c3dd649bc56b2a484", func := "fiducial/fiduciallaw50.SeamFinds", spec := "seamFinds", unfollowed := true, recurses := true, apart := false }
def SeamFindsSaid : Prop := seamFindsRow.holds Try.pinned (OpenSpec.ofChange seamFindsSpec)

/-- ITS FALSE NEIGHBOUR: 'it returns false'. Refute it at one input. -/
def seamFindsWrong : ChangeSpec := { name := "seamFinds", fn := fun _ => fun
  | [d] => { results := [.lit (.bool false)], args := [d] }
  | _ => none }
def SeamFindsWrongFalsely : Prop := seamFindsRow.holds Try.pinned (OpenSpec.ofChange seamFindsWrong)

/-- 'fiduciallaw50.SeamTotals': WHATEVER THE INPUT: true; the input reads as it did. -/
def seamTotalsSpec : ChangeSpec := { name := "seamTotals", fn := fun _ => fun
  | [d1, d2] => { results := [.lit (.bool true)], args := [d1, d2] }
  | _ => none }
def seamTotalsRow : OpenClaim := { program := "ytomlpofoaokmdaa", sum := "c2ab88beda98a77e7743a9cb180ed7c94680ad4ac667f16c3dd649bc56b2a484", func := "fiducial/fiduciallaw50.SeamTotals", spec := "seamTotals", unfollowed := true, recurses := true, apart := false }
def SeamTotalsSaid : Prop := seamTotalsRow.holds Try.pinned (OpenSpec.ofChange seamTotalsSpec)

/-- ITS FALSE NEIGHBOUR: 'it returns false'. Refute it at one input. -/
def seamTotalsWrong : ChangeSpec := { name := "seamTotals", fn := fun _ => fun
  | [d1, d2] => { results := [.lit (.bool false)], args := [d1, d2] }
  | _ => none }
def SeamTotalsWrongFalsely : Prop := seamTotalsRow.holds Try.pinned (OpenSpec.ofChange seamTotalsWrong)

/-- 'fiduciallaw50.SeamOptimal': WHATEVER THE INPUT: true; the input reads as it did. -/
def seamOptimalSpec : ChangeSpec := { name := "seamOptimal", fn := fun _ => fun
  | [d1, d2, d3] => { results := [.lit (.bool true)], args := [d1, d2, d3] }
  | _ => none }
def seamOptimalRow : OpenClaim := { program := "ytomlpofoaokmdaa", sum := "c2ab88beda98a77e7743a9cb180ed7c94680ad4ac667f16c3dd649bc56b2a484", func := "fiducial/fiduciallaw50.SeamOptimal", spec := "seamOptimal", unfollowed := true, recurses := true, apart := false }
def SeamOptimalSaid : Prop := seamOptimalRow.holds Try.pinned (OpenSpec.ofChange seamOptimalSpec)

/-- ITS FALSE NEIGHBOUR: 'it returns false'. Refute it at one input. -/
def seamOptimalWrong : ChangeSpec := { name := "seamOptimal", fn := fun _ => fun
  | [d1, d2, d3] => { results := [.lit (.bool false)], args := [d1, d2, d3] }
  | _ => none }
def SeamOptimalWrongFalsely : Prop := seamOptimalRow.holds Try.pinned (OpenSpec.ofChange seamOptimalWrong)

/-- 'fiduciallaw50.SeamMosaics': WHATEVER THE INPUT: true; the input reads as it did. -/
def seamMosaicsSpec : ChangeSpec := { name := "seamMosaics", fn := fun _ => fun
  | [d1, d2, d3] => { results := [.lit (.bool true)], args := [d1, d2, d3] }
  | _ => none }
def seamMosaicsRow : OpenClaim := { program := "ytomlpofoaokmdaa", sum := "c2ab88beda98a77e7743a9cb180ed7c94680ad4ac667f16c3dd649bc56b2a484", func := "fiducial/fiduciallaw50.SeamMosaics", spec := "seamMosaics", unfollowed := true, recurses := true, apart := false }
def SeamMosaicsSaid : Prop := seamMosaicsRow.holds Try.pinned (OpenSpec.ofChange seamMosaicsSpec)

/-- ITS FALSE NEIGHBOUR: 'it returns false'. Refute it at one input. -/
def seamMosaicsWrong : ChangeSpec := { name := "seamMosaics", fn := fun _ => fun
  | [d1, d2, d3] => { results := [.lit (.bool false)], args := [d1, d2, d3] }
  | _ => none }
def SeamMosaicsWrongFalsely : Prop := seamMosaicsRow.holds Try.pinned (OpenSpec.ofChange seamMosaicsWrong)

/-- 'fiduciallaw50.SeamThrough': WHATEVER THE INPUT: true; the input reads as it did. -/
def seamThroughSpec : ChangeSpec := { name := "seamThrough", fn := fun _ => fun
  | [d1, d2, d3] => { results := [.lit (.bool true)], args := [d1, d2, d3] }
  | _ => none }
def seamThroughRow : OpenClaim := { program := "ytomlpofoaokmdaa", sum := "c2ab88beda98a77e7743a9cb180ed7c94680ad4ac667f16c3dd649bc56b2a484", func := "fiducial/fiduciallaw50.SeamThrough", spec := "seamThrough", unfollowed := true, recurses := true, apart := false }
def SeamThroughSaid : Prop := seamThroughRow.holds Try.pinned (OpenSpec.ofChange seamThroughSpec)

/-- ITS FALSE NEIGHBOUR: 'it returns false'. Refute it at one input. -/
def seamThroughWrong : ChangeSpec := { name := "seamThrough", fn := fun _ => fun
  | [d1, d2, d3] => { results := [.lit (.bool false)], args := [d1, d2, d3] }
  | _ => none }
def SeamThroughWrongFalsely : Prop := seamThroughRow.holds Try.pinned (OpenSpec.ofChange seamThroughWrong)

/- THE SECOND FORM. 'bulk': how many values and letters a reading holds, each counted each time it is reached (what is shared counts as often as it is met; a slice's spare places count too). A statement '..UptoSaid' is the law's where the arguments, and the package variables that the reading takes, are together of bulk at most 1048576: NARROWER than '..Said'. Prove '..Said' where nothing that the law and all that it calls make is longer than what came in: it says more and counts as full. Else prove '..UptoSaid'. A law counts once. -/
mutual
def uptoBulk {H : Type} : DataW H → Nat
  | .lit (.string bytes) => bytes.length + 1
  | .lit _ => 1
  | .nil => 1
  | .ptr d => uptoBulk d + 1
  | .slice elems spare => uptoBulkAll elems + uptoBulkAll spare + 1
  | .agg parts => uptoBulkAll parts + 1
  | .iface _ d => uptoBulk d + 1
  | .map entries => uptoBulkEntries entries + 1
  | .held _ => 1
def uptoBulkAll {H : Type} : List (DataW H) → Nat
  | [] => 0
  | d :: r => uptoBulk d + uptoBulkAll r
def uptoBulkEntries {H : Type} : List (Lit × DataW H) → Nat
  | [] => 0
  | x :: r => uptoBulkEntry x + uptoBulkEntries r
def uptoBulkEntry {H : Type} : Lit × DataW H → Nat
  | (.string bytes, d) => bytes.length + uptoBulk d + 1
  | (_, d) => uptoBulk d + 1
 end
def uptoSmall : (H : Type) → List (DataW H) → Bool := fun _ ds => decide (uptoBulkAll ds ≤ 1048576)
def OpenSpec.upto (s : _root_.Go.ChangeSpec) : _root_.Go.OpenSpec := { _root_.Go.OpenSpec.ofChange s with cond := some uptoSmall }

/-- 'fiduciallaw50.SeamProves', WHERE WHAT IT READS IS OF BULK AT MOST 1048576: true; the input reads as it did. -/
def seamProvesUptoRow : OpenClaim := { program := "ytomlpofoaokmdaa", sum := "c2ab88beda98a77e7743a9cb180ed7c94680ad4ac667f16c3dd649bc56b2a484", func := "fiducial/fiduciallaw50.SeamProves", spec := "seamProves", unfollowed := true, recurses := true, apart := false, narrowed := true }
def SeamProvesUptoSaid : Prop := seamProvesUptoRow.holds Try.pinned (OpenSpec.upto seamProvesSpec)

/-- 'fiduciallaw50.SeamMonotone', WHERE WHAT IT READS IS OF BULK AT MOST 1048576: true; the input reads as it did. -/
def seamMonotoneUptoRow : OpenClaim := { program := "ytomlpofoaokmdaa", sum := "c2ab88beda98a77e7743a9cb180ed7c94680ad4ac667f16c3dd649bc56b2a484", func := "fiducial/fiduciallaw50.SeamMonotone", spec := "seamMonotone", unfollowed := true, recurses := true, apart := false, narrowed := true }
def SeamMonotoneUptoSaid : Prop := seamMonotoneUptoRow.holds Try.pinned (OpenSpec.upto seamMonotoneSpec)

/-- 'fiduciallaw50.SeamShifts', WHERE WHAT IT READS IS OF BULK AT MOST 1048576: true; the input reads as it did. -/
def seamShiftsUptoRow : OpenClaim := { program := "ytomlpofoaokmdaa", sum := "c2ab88beda98a77e7743a9cb180ed7c94680ad4ac667f16c3dd649bc56b2a484", func := "fiducial/fiduciallaw50.SeamShifts", spec := "seamShifts", unfollowed := true, recurses := true, apart := false, narrowed := true }
def SeamShiftsUptoSaid : Prop := seamShiftsUptoRow.holds Try.pinned (OpenSpec.upto seamShiftsSpec)

/-- 'fiduciallaw50.SeamFinds', WHERE WHAT IT READS IS OF BULK AT MOST 1048576: true; the input reads as it did. -/
def seamFindsUptoRow : OpenClaim := { program := "ytomlpofoaokmdaa", sum := "c2ab88beda98a77e7743a9cb180ed7c94680ad4ac667f16c3dd649bc56b2a484", func := "fiducial/fiduciallaw50.SeamFinds", spec := "seamFinds", unfollowed := true, recurses := true, apart := false, narrowed := true }
def SeamFindsUptoSaid : Prop := seamFindsUptoRow.holds Try.pinned (OpenSpec.upto seamFindsSpec)

/-- 'fiduciallaw50.SeamTotals', WHERE WHAT IT READS IS OF BULK AT MOST 1048576: true; the input reads as it did. -/
def seamTotalsUptoRow : OpenClaim := { program := "ytomlpofoaokmdaa", sum := "c2ab88beda98a77e7743a9cb180ed7c94680ad4ac667f16c3dd649bc56b2a484", func := "fiducial/fiduciallaw50.SeamTotals", spec := "seamTotals", unfollowed := true, recurses := true, apart := false, narrowed := true }
def SeamTotalsUptoSaid : Prop := seamTotalsUptoRow.holds Try.pinned (OpenSpec.upto seamTotalsSpec)

/-- 'fiduciallaw50.SeamOptimal', WHERE WHAT IT READS IS OF BULK AT MOST 1048576: true; the input reads as it did. -/
def seamOptimalUptoRow : OpenClaim := { program := "ytomlpofoaokmdaa", sum := "c2ab88beda98a77e7743a9cb180ed7c94680ad4ac667f16c3dd649bc56b2a484", func := "fiducial/fiduciallaw50.SeamOptimal", spec := "seamOptimal", unfollowed := true, recurses := true, apart := false, narrowed := true }
def SeamOptimalUptoSaid : Prop := seamOptimalUptoRow.holds Try.pinned (OpenSpec.upto seamOptimalSpec)

/-- 'fiduciallaw50.SeamMosaics', WHERE WHAT IT READS IS OF BULK AT MOST 1048576: true; the input reads as it did. -/
def seamMosaicsUptoRow : OpenClaim := { program := "ytomlpofoaokmdaa", sum := "c2ab88beda98a77e7743a9cb180ed7c94680ad4ac667f16c3dd649bc56b2a484", func := "fiducial/fiduciallaw50.SeamMosaics", spec := "seamMosaics", unfollowed := true, recurses := true, apart := false, narrowed := true }
def SeamMosaicsUptoSaid : Prop := seamMosaicsUptoRow.holds Try.pinned (OpenSpec.upto seamMosaicsSpec)

/-- 'fiduciallaw50.SeamThrough', WHERE WHAT IT READS IS OF BULK AT MOST 1048576: true; the input reads as it did. -/
def seamThroughUptoRow : OpenClaim := { program := "ytomlpofoaokmdaa", sum := "c2ab88beda98a77e7743a9cb180ed7c94680ad4ac667f16c3dd649bc56b2a484", func := "fiducial/fiduciallaw50.SeamThrough", spec := "seamThrough", unfollowed := true, recurses := true, apart := false, narrowed := true }
def SeamThroughUptoSaid : Prop := seamThroughUptoRow.holds Try.pinned (OpenSpec.upto seamThroughSpec)

end Rows
end Go.Proofs.Ytomlpofoaokmdaa
