/-
  No cell of these rows narrows 'for every input' (looked for: loops, veiled, ifaces, maps, wideKeys, modest, calm, conditions, laid).
  DERIVED. THE GIVEN ROWS OF THIS SEAT. 8 by the template 'for every input the law returns true; each argument reads behind the call as it read before'; 0 by the template 'total and deterministic' (their statements: YtmeopehknkfnbaaTotals.lean).
  GIVEN WITH THE SEED: the statements are not yours to turn. If you find one false, say at which input.
  Laid BY PROGRAM, IN A SANDBOX (cutbox-rows.mjs): the forced cells as the released guide's own fill.sh prints them over the translation 59fe55c15d393466… (all of the seat's roots in one cut). By AI agents, Wed Nov 11 2026. No macro, syntax, notation, axiom, sorry.
-/
import Derived.Test.YtmeopehknkfnbaaChecked
import GoSem.Claim
import GoSem.ClaimJoined
import GoSem.ClaimMapViews
import Derived.JoinedTies
import Derived.KernelRfl
namespace Go.Proofs.Ytmeopehknkfnbaa
/- THE CELL 'sum', in the pinned program and in every row, IS THE sha256 OF THE DUMP (.gsa) THAT YtmeopehknkfnbaaProg.lean LOADS. Nothing in Lean hashes anything: it is a label: what it is worth is what the hold of that sum in a sandbox is worth. -/
noncomputable def Try.pinned : Pinned := { name := "ytmeopehknkfnbaa", sum := "59fe55c15d39346698e0eba6f67e7580af8860b3fe7decda3660ed8f2537784a", checked := Try.checked }
namespace Rows
def none {H : Type} : Left H := { results := [], args := [] }

/-- 'fiduciallaw44.CensusTransforms': WHATEVER THE INPUT: true; the input reads as it did. -/
def censusTransformsSpec : ChangeSpec := { name := "censusTransforms", fn := fun _ => fun
  | [d1, d2, d3] => { results := [.lit (.bool true)], args := [d1, d2, d3] }
  | _ => none }
def censusTransformsRow : OpenClaim := { program := "ytmeopehknkfnbaa", sum := "59fe55c15d39346698e0eba6f67e7580af8860b3fe7decda3660ed8f2537784a", func := "fiducial/fiduciallaw44.CensusTransforms", spec := "censusTransforms", unfollowed := true, recurses := true, apart := false }
def CensusTransformsSaid : Prop := censusTransformsRow.holds Try.pinned (OpenSpec.ofChange censusTransformsSpec)

/-- ITS FALSE NEIGHBOUR: 'it returns false'. Refute it at one input. -/
def censusTransformsWrong : ChangeSpec := { name := "censusTransforms", fn := fun _ => fun
  | [d1, d2, d3] => { results := [.lit (.bool false)], args := [d1, d2, d3] }
  | _ => none }
def CensusTransformsWrongFalsely : Prop := censusTransformsRow.holds Try.pinned (OpenSpec.ofChange censusTransformsWrong)

/-- 'fiduciallaw44.CensusPlain': WHATEVER THE INPUT: true; the input reads as it did. -/
def censusPlainSpec : ChangeSpec := { name := "censusPlain", fn := fun _ => fun
  | [d1, d2] => { results := [.lit (.bool true)], args := [d1, d2] }
  | _ => none }
def censusPlainRow : OpenClaim := { program := "ytmeopehknkfnbaa", sum := "59fe55c15d39346698e0eba6f67e7580af8860b3fe7decda3660ed8f2537784a", func := "fiducial/fiduciallaw44.CensusPlain", spec := "censusPlain", unfollowed := true, recurses := true, apart := false }
def CensusPlainSaid : Prop := censusPlainRow.holds Try.pinned (OpenSpec.ofChange censusPlainSpec)

/-- ITS FALSE NEIGHBOUR: 'it returns false'. Refute it at one input. -/
def censusPlainWrong : ChangeSpec := { name := "censusPlain", fn := fun _ => fun
  | [d1, d2] => { results := [.lit (.bool false)], args := [d1, d2] }
  | _ => none }
def CensusPlainWrongFalsely : Prop := censusPlainRow.holds Try.pinned (OpenSpec.ofChange censusPlainWrong)

/-- 'fiduciallaw44.CensusCosts': WHATEVER THE INPUT: true; the input reads as it did. -/
def censusCostsSpec : ChangeSpec := { name := "censusCosts", fn := fun _ => fun
  | [d1, d2, d3] => { results := [.lit (.bool true)], args := [d1, d2, d3] }
  | _ => none }
def censusCostsRow : OpenClaim := { program := "ytmeopehknkfnbaa", sum := "59fe55c15d39346698e0eba6f67e7580af8860b3fe7decda3660ed8f2537784a", func := "fiducial/fiduciallaw44.CensusCosts", spec := "censusCosts", unfollowed := true, recurses := true, apart := false }
def CensusCostsSaid : Prop := censusCostsRow.holds Try.pinned (OpenSpec.ofChange censusCostsSpec)

/-- ITS FALSE NEIGHBOUR: 'it returns false'. Refute it at one input. -/
def censusCostsWrong : ChangeSpec := { name := "censusCosts", fn := fun _ => fun
  | [d1, d2, d3] => { results := [.lit (.bool false)], args := [d1, d2, d3] }
  | _ => none }
def CensusCostsWrongFalsely : Prop := censusCostsRow.holds Try.pinned (OpenSpec.ofChange censusCostsWrong)

/-- 'fiduciallaw44.CensusOrder': WHATEVER THE INPUT: true; the input reads as it did. -/
def censusOrderSpec : ChangeSpec := { name := "censusOrder", fn := fun _ => fun
  | [d1, d2, d3] => { results := [.lit (.bool true)], args := [d1, d2, d3] }
  | _ => none }
def censusOrderRow : OpenClaim := { program := "ytmeopehknkfnbaa", sum := "59fe55c15d39346698e0eba6f67e7580af8860b3fe7decda3660ed8f2537784a", func := "fiducial/fiduciallaw44.CensusOrder", spec := "censusOrder", unfollowed := true, recurses := true, apart := false }
def CensusOrderSaid : Prop := censusOrderRow.holds Try.pinned (OpenSpec.ofChange censusOrderSpec)

/-- ITS FALSE NEIGHBOUR: 'it returns false'. Refute it at one input. -/
def censusOrderWrong : ChangeSpec := { name := "censusOrder", fn := fun _ => fun
  | [d1, d2, d3] => { results := [.lit (.bool false)], args := [d1, d2, d3] }
  | _ => none }
def CensusOrderWrongFalsely : Prop := censusOrderRow.holds Try.pinned (OpenSpec.ofChange censusOrderWrong)

/-- 'fiduciallaw44.CensusEqual': WHATEVER THE INPUT: true; the input reads as it did. -/
def censusEqualSpec : ChangeSpec := { name := "censusEqual", fn := fun _ => fun
  | [d1, d2, d3] => { results := [.lit (.bool true)], args := [d1, d2, d3] }
  | _ => none }
def censusEqualRow : OpenClaim := { program := "ytmeopehknkfnbaa", sum := "59fe55c15d39346698e0eba6f67e7580af8860b3fe7decda3660ed8f2537784a", func := "fiducial/fiduciallaw44.CensusEqual", spec := "censusEqual", unfollowed := true, recurses := true, apart := false }
def CensusEqualSaid : Prop := censusEqualRow.holds Try.pinned (OpenSpec.ofChange censusEqualSpec)

/-- ITS FALSE NEIGHBOUR: 'it returns false'. Refute it at one input. -/
def censusEqualWrong : ChangeSpec := { name := "censusEqual", fn := fun _ => fun
  | [d1, d2, d3] => { results := [.lit (.bool false)], args := [d1, d2, d3] }
  | _ => none }
def CensusEqualWrongFalsely : Prop := censusEqualRow.holds Try.pinned (OpenSpec.ofChange censusEqualWrong)

/-- 'fiduciallaw44.CensusShifted': WHATEVER THE INPUT: true; the input reads as it did. -/
def censusShiftedSpec : ChangeSpec := { name := "censusShifted", fn := fun _ => fun
  | [d1, d2, d3] => { results := [.lit (.bool true)], args := [d1, d2, d3] }
  | _ => none }
def censusShiftedRow : OpenClaim := { program := "ytmeopehknkfnbaa", sum := "59fe55c15d39346698e0eba6f67e7580af8860b3fe7decda3660ed8f2537784a", func := "fiducial/fiduciallaw44.CensusShifted", spec := "censusShifted", unfollowed := true, recurses := true, apart := false }
def CensusShiftedSaid : Prop := censusShiftedRow.holds Try.pinned (OpenSpec.ofChange censusShiftedSpec)

/-- ITS FALSE NEIGHBOUR: 'it returns false'. Refute it at one input. -/
def censusShiftedWrong : ChangeSpec := { name := "censusShifted", fn := fun _ => fun
  | [d1, d2, d3] => { results := [.lit (.bool false)], args := [d1, d2, d3] }
  | _ => none }
def CensusShiftedWrongFalsely : Prop := censusShiftedRow.holds Try.pinned (OpenSpec.ofChange censusShiftedWrong)

/-- 'fiduciallaw44.CensusBest': WHATEVER THE INPUT: true; the input reads as it did. -/
def censusBestSpec : ChangeSpec := { name := "censusBest", fn := fun _ => fun
  | [d] => { results := [.lit (.bool true)], args := [d] }
  | _ => none }
def censusBestRow : OpenClaim := { program := "ytmeopehknkfnbaa", sum := "59fe55c15d39346698e0eba6f67e7580af8860b3fe7decda3660ed8f2537784a", func := "fiducial/fiduciallaw44.CensusBest", spec := "censusBest", unfollowed := true, recurses := true, apart := false }
def CensusBestSaid : Prop := censusBestRow.holds Try.pinned (OpenSpec.ofChange censusBestSpec)

/-- ITS FALSE NEIGHBOUR: 'it returns false'. Refute it at one input. -/
def censusBestWrong : ChangeSpec := { name := "censusBest", fn := fun _ => fun
  | [d] => { results := [.lit (.bool false)], args := [d] }
  | _ => none }
def CensusBestWrongFalsely : Prop := censusBestRow.holds Try.pinned (OpenSpec.ofChange censusBestWrong)

/-- 'fiduciallaw44.CensusTwice': WHATEVER THE INPUT: true; the input reads as it did. -/
def censusTwiceSpec : ChangeSpec := { name := "censusTwice", fn := fun _ => fun
  | [d] => { results := [.lit (.bool true)], args := [d] }
  | _ => none }
def censusTwiceRow : OpenClaim := { program := "ytmeopehknkfnbaa", sum := "59fe55c15d39346698e0eba6f67e7580af8860b3fe7decda3660ed8f2537784a", func := "fiducial/fiduciallaw44.CensusTwice", spec := "censusTwice", unfollowed := true, recurses := true, apart := false }
def CensusTwiceSaid : Prop := censusTwiceRow.holds Try.pinned (OpenSpec.ofChange censusTwiceSpec)

/-- ITS FALSE NEIGHBOUR: 'it returns false'. Refute it at one input. -/
def censusTwiceWrong : ChangeSpec := { name := "censusTwice", fn := fun _ => fun
  | [d] => { results := [.lit (.bool false)], args := [d] }
  | _ => none }
def CensusTwiceWrongFalsely : Prop := censusTwiceRow.holds Try.pinned (OpenSpec.ofChange censusTwiceWrong)

/- THE SECOND FORM. 'bulk': how many values and letters a reading holds, each counted each time it is reached (what is shared counts as often as it is met; a slice's spare places count too). A statement '..UptoSaid' is the law's where the arguments, and the package variables that the reading takes, are together of bulk at most 1048576: NARROWER than '..Said'. Prove '..Said' where nothing that the law and all that it calls make is longer than what came in: it says more and counts as full. Else prove '..UptoSaid'. A law counts once. -/
mutual
def uptoBulk {H : Type} : DataW H → Nat
  | .lit (.string bytes) => bytes.length + 1
  | .lit _ => 1
  | .nil => 1
  | .ptr d => uptoBulk d + 1
  | .slice elems spare => uptoBulkAll elems + uptoBulkAll spare + 1
  | .agg parts => uptoBulkAll parts + 1
  | .iface _ d => uptoBulk d + 1
  | .map entries => uptoBulkEntries entries + 1
  | .held _ => 1
def uptoBulkAll {H : Type} : List (DataW H) → Nat
  | [] => 0
  | d :: r => uptoBulk d + uptoBulkAll r
def uptoBulkEntries {H : Type} : List (Lit × DataW H) → Nat
  | [] => 0
  | x :: r => uptoBulkEntry x + uptoBulkEntries r
def uptoBulkEntry {H : Type} : Lit × DataW H → Nat
  | (.string bytes, d) => bytes.length + uptoBulk d + 1
  | (_, d) => uptoBulk d + 1
 end
def uptoSmall : (H : Type) → List (DataW H) → Bool := fun _ ds => decide (uptoBulkAll ds ≤ 1048576)
def OpenSpec.upto (s : _root_.Go.ChangeSpec) : _root_.Go.OpenSpec := { _root_.Go.OpenSpec.ofChange s with cond := some uptoSmall }

/-- 'fiduciallaw44.CensusTransforms', WHERE WHAT IT READS IS OF BULK AT MOST 1048576: true; the input reads as it did. -/
def censusTransformsUptoRow : OpenClaim := { program := "ytmeopehknkfnbaa", sum := "59fe55c15d39346698e0eba6f67e7580af8860b3fe7decda3660ed8f2537784a", func := "fiducial/fiduciallaw44.CensusTransforms", spec := "censusTransforms", unfollowed := true, recurses := true, apart := false, narrowed := true }
def CensusTransformsUptoSaid : Prop := censusTransformsUptoRow.holds Try.pinned (OpenSpec.upto censusTransformsSpec)

/-- 'fiduciallaw44.CensusPlain', WHERE WHAT IT READS IS OF BULK AT MOST 1048576: true; the input reads as it did. -/
def censusPlainUptoRow : OpenClaim := { program := "ytmeopehknkfnbaa", sum := "59fe55c15d39346698e0eba6f67e7580af8860b3fe7decda3660ed8f2537784a", func := "fiducial/fiduciallaw44.CensusPlain", spec := "censusPlain", unfollowed := true, recurses := true, apart := false, narrowed := true }
def CensusPlainUptoSaid : Prop := censusPlainUptoRow.holds Try.pinned (OpenSpec.upto censusPlainSpec)

/-- 'fiduciallaw44.CensusCosts', WHERE WHAT IT READS IS OF BULK AT MOST 1048576: true; the input reads as it did. -/
def censusCostsUptoRow : OpenClaim := { program := "ytmeopehknkfnbaa", sum := "59fe55c15d39346698e0eba6f67e7580af8860b3fe7decda3660ed8f2537784a", func := "fiducial/fiduciallaw44.CensusCosts", spec := "censusCosts", unfollowed := true, recurses := true, apart := false, narrowed := true }
def CensusCostsUptoSaid : Prop := censusCostsUptoRow.holds Try.pinned (OpenSpec.upto censusCostsSpec)

/-- 'fiduciallaw44.CensusOrder', WHERE WHAT IT READS IS OF BULK AT MOST 1048576: true; the input reads as it did. -/
def censusOrderUptoRow : OpenClaim := { program := "ytmeopehknkfnbaa", sum := "59fe55c15d39346698e0eba6f67e7580af8860b3fe7decda3660ed8f2537784a", func := "fiducial/fiduciallaw44.CensusOrder", spec := "censusOrder", unfollowed := true, recurses := true, apart := false, narrowed := true }
def CensusOrderUptoSaid : Prop := censusOrderUptoRow.holds Try.pinned (OpenSpec.upto censusOrderSpec)

/-- 'fiduciallaw44.CensusEqual', WHERE WHAT IT READS IS OF BULK AT MOST 1048576: true; the input reads as it did. -/
def censusEqualUptoRow : OpenClaim := { program := "ytmeopehknkfnbaa", sum := "59fe55c15d39346698e0eba6f67e7580af8860b3fe7decda3660ed8f2537784a", func := "fiducial/fiduciallaw44.CensusEqual", spec := "censusEqual", unfollowed := true, recurses := true, apart := false, narrowed := true }
def CensusEqualUptoSaid : Prop := censusEqualUptoRow.holds Try.pinned (OpenSpec.upto censusEqualSpec)

/-- 'fiduciallaw44.CensusShifted', WHERE WHAT IT READS IS OF BULK AT MOST 1048576: true; the input reads as it did. -/
def censusShiftedUptoRow : OpenClaim := { program := "ytmeopehknkfnbaa", sum := "59fe55c15d39346698e0eba6f67e7580af8860b3fe7decda3660ed8f2537784a", func := "fiducial/fiduciallaw44.CensusShifted", spec := "censusShifted", unfollowed := true, recurses := true, apart := false, narrowed := true }
def CensusShiftedUptoSaid : Prop := censusShiftedUptoRow.holds Try.pinned (OpenSpec.upto censusShiftedSpec)

/-- 'fiduciallaw44.CensusBest', WHERE WHAT IT READS IS OF BULK AT MOST 1048576: true; the input reads as it did. -/
def censusBestUptoRow : OpenClaim := { program := "ytmeopehknkfnbaa", sum := "59fe55c15d39346698e0eba6f67e7580af8860b3fe7decda3660ed8f2537784a", func := "fiducial/fiduciallaw44.CensusBest", spec := "censusBest", unfollowed := true, recurses := true, apart := false, narrowed := true }
def CensusBestUptoSaid : Prop := censusBestUptoRow.holds Try.pinned (OpenSpec.upto censusBestSpec)

/-- 'fiduciallaw44.CensusTwice', WHERE WHAT IT READS IS OF BULK AT MOST 1048576: true; the input reads as it did. -/
def censusTwiceUptoRow : OpenClaim := { program := "ytmeopehknkfnbaa", sum := "59fe55c15d39346698e0eba6f67e7580af8860b3fe7decda3660ed8f2537784a", func := "fiducial/fiduciallaw44.CensusTwice", spec := "censusTwice", unfollowed := true, recurses := true, apart := false, narrowed := true }
def CensusTwiceUptoSaid : Prop := censusTwiceUptoRow.holds Try.pinned (OpenSpec.upto censusTwiceSpec)

end Rows
end Go.Proofs.Ytmeopehknkfnbaa
