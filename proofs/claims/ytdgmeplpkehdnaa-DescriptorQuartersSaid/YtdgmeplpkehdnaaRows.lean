/-
  No cell of these rows narrows 'for every input' (looked for: loops, veiled, ifaces, maps, wideKeys, modest, calm, conditions, laid).
  DERIVED. THE GIVEN ROWS OF THIS SEAT. 8 by the template 'for every input the law returns true; each argument reads behind the call as it read before'; 0 by the template 'total and deterministic' (their statements: YtdgmeplpkehdnaaTotals.lean).
  GIVEN WITH THE SEED: the statements are not yours to turn. If you find one false, say at which input.
  Laid BY PROGRAM, IN A SANDBOX (cutbox-rows.mjs): the forced cells as the released guide's own fill.sh prints them over the translation 0aa1b666ea9c6e89… (all of the seat's roots in one cut). By AI agents, Wed Nov 11 2026. No macro, syntax, notation, axiom, sorry.
-/
import Derived.Test.YtdgmeplpkehdnaaChecked
import GoSem.Claim
import GoSem.ClaimJoined
import GoSem.ClaimMapViews
import Derived.JoinedTies
import Derived.KernelRfl
namespace Go.Proofs.Ytdgmeplpkehdnaa
/- THE CELL 'sum', in the pinned program and in every row, IS THE sha256 OF THE DUMP (.gsa) THAT YtdgmeplpkehdnaaProg.lean LOADS. Nothing in Lean hashes anything: it is a label: what it is worth is what the hold of that sum in a sandbox is worth. -/
noncomputable def Try.pinned : Pinned := { name := "ytdgmeplpkehdnaa", sum := "0aa1b666ea9c6e89fef1bf08f3cdaf6caf32fb7a1352b6493c87eeeb91dd6a48", checked := Try.checked }
namespace Rows
def none {H : Type} : Left H := { results := [], args := [] }

/-- 'fiduciallaw21.DescriptorDistances': WHATEVER THE INPUT: true; the input reads as it did. -/
def descriptorDistancesSpec : ChangeSpec := { name := "descriptorDistances", fn := fun _ => fun
  | [d1, d2, d3] => { results := [.lit (.bool true)], args := [d1, d2, d3] }
  | _ => none }
def descriptorDistancesRow : OpenClaim := { program := "ytdgmeplpkehdnaa", sum := "0aa1b666ea9c6e89fef1bf08f3cdaf6caf32fb7a1352b6493c87eeeb91dd6a48", func := "fiducial/fiduciallaw21.DescriptorDistances", spec := "descriptorDistances", unfollowed := true, recurses := true, apart := false }
def DescriptorDistancesSaid : Prop := descriptorDistancesRow.holds Try.pinned (OpenSpec.ofChange descriptorDistancesSpec)

/-- ITS FALSE NEIGHBOUR: 'it returns false'. Refute it at one input. -/
def descriptorDistancesWrong : ChangeSpec := { name := "descriptorDistances", fn := fun _ => fun
  | [d1, d2, d3] => { results := [.lit (.bool false)], args := [d1, d2, d3] }
  | _ => none }
def DescriptorDistancesWrongFalsely : Prop := descriptorDistancesRow.holds Try.pinned (OpenSpec.ofChange descriptorDistancesWrong)

/-- 'fiduciallaw21.DescriptorWords': WHATEVER THE INPUT: true; the input reads as it did. -/
def descriptorWordsSpec : ChangeSpec := { name := "descriptorWords", fn := fun _ => fun
  | [d1, d2, d3] => { results := [.lit (.bool true)], args := [d1, d2, d3] }
  | _ => none }
def descriptorWordsRow : OpenClaim := { program := "ytdgmeplpkehdnaa", sum := "0aa1b666ea9c6e89fef1bf08f3cdaf6caf32fb7a1352b6493c87eeeb91dd6a48", func := "fiducial/fiduciallaw21.DescriptorWords", spec := "descriptorWords", unfollowed := true, recurses := true, apart := false }
def DescriptorWordsSaid : Prop := descriptorWordsRow.holds Try.pinned (OpenSpec.ofChange descriptorWordsSpec)

/-- ITS FALSE NEIGHBOUR: 'it returns false'. Refute it at one input. -/
def descriptorWordsWrong : ChangeSpec := { name := "descriptorWords", fn := fun _ => fun
  | [d1, d2, d3] => { results := [.lit (.bool false)], args := [d1, d2, d3] }
  | _ => none }
def DescriptorWordsWrongFalsely : Prop := descriptorWordsRow.holds Try.pinned (OpenSpec.ofChange descriptorWordsWrong)

/-- 'fiduciallaw21.DescriptorForms': WHATEVER THE INPUT: true; the input reads as it did. -/
def descriptorFormsSpec : ChangeSpec := { name := "descriptorForms", fn := fun _ => fun
  | [d] => { results := [.lit (.bool true)], args := [d] }
  | _ => none }
def descriptorFormsRow : OpenClaim := { program := "ytdgmeplpkehdnaa", sum := "0aa1b666ea9c6e89fef1bf08f3cdaf6caf32fb7a1352b6493c87eeeb91dd6a48", func := "fiducial/fiduciallaw21.DescriptorForms", spec := "descriptorForms", unfollowed := true, recurses := true, apart := false }
def DescriptorFormsSaid : Prop := descriptorFormsRow.holds Try.pinned (OpenSpec.ofChange descriptorFormsSpec)

/-- ITS FALSE NEIGHBOUR: 'it returns false'. Refute it at one input. -/
def descriptorFormsWrong : ChangeSpec := { name := "descriptorForms", fn := fun _ => fun
  | [d] => { results := [.lit (.bool false)], args := [d] }
  | _ => none }
def DescriptorFormsWrongFalsely : Prop := descriptorFormsRow.holds Try.pinned (OpenSpec.ofChange descriptorFormsWrong)

/-- 'fiduciallaw21.DescriptorTurns': WHATEVER THE INPUT: true; the input reads as it did. -/
def descriptorTurnsSpec : ChangeSpec := { name := "descriptorTurns", fn := fun _ => fun
  | [d1, d2, d3] => { results := [.lit (.bool true)], args := [d1, d2, d3] }
  | _ => none }
def descriptorTurnsRow : OpenClaim := { program := "ytdgmeplpkehdnaa", sum := "0aa1b666ea9c6e89fef1bf08f3cdaf6caf32fb7a1352b6493c87eeeb91dd6a48", func := "fiducial/fiduciallaw21.DescriptorTurns", spec := "descriptorTurns", unfollowed := true, recurses := true, apart := false }
def DescriptorTurnsSaid : Prop := descriptorTurnsRow.holds Try.pinned (OpenSpec.ofChange descriptorTurnsSpec)

/-- ITS FALSE NEIGHBOUR: 'it returns false'. Refute it at one input. -/
def descriptorTurnsWrong : ChangeSpec := { name := "descriptorTurns", fn := fun _ => fun
  | [d1, d2, d3] => { results := [.lit (.bool false)], args := [d1, d2, d3] }
  | _ => none }
def DescriptorTurnsWrongFalsely : Prop := descriptorTurnsRow.holds Try.pinned (OpenSpec.ofChange descriptorTurnsWrong)

/-- 'fiduciallaw21.DescriptorAll': WHATEVER THE INPUT: true; the input reads as it did. -/
def descriptorAllSpec : ChangeSpec := { name := "descriptorAll", fn := fun _ => fun
  | [d1, d2] => { results := [.lit (.bool true)], args := [d1, d2] }
  | _ => none }
def descriptorAllRow : OpenClaim := { program := "ytdgmeplpkehdnaa", sum := "0aa1b666ea9c6e89fef1bf08f3cdaf6caf32fb7a1352b6493c87eeeb91dd6a48", func := "fiducial/fiduciallaw21.DescriptorAll", spec := "descriptorAll", unfollowed := true, recurses := true, apart := false }
def DescriptorAllSaid : Prop := descriptorAllRow.holds Try.pinned (OpenSpec.ofChange descriptorAllSpec)

/-- ITS FALSE NEIGHBOUR: 'it returns false'. Refute it at one input. -/
def descriptorAllWrong : ChangeSpec := { name := "descriptorAll", fn := fun _ => fun
  | [d1, d2] => { results := [.lit (.bool false)], args := [d1, d2] }
  | _ => none }
def DescriptorAllWrongFalsely : Prop := descriptorAllRow.holds Try.pinned (OpenSpec.ofChange descriptorAllWrong)

/-- 'fiduciallaw21.DescriptorGreys': WHATEVER THE INPUT: true; the input reads as it did. -/
def descriptorGreysSpec : ChangeSpec := { name := "descriptorGreys", fn := fun _ => fun
  | [d1, d2, d3] => { results := [.lit (.bool true)], args := [d1, d2, d3] }
  | _ => none }
def descriptorGreysRow : OpenClaim := { program := "ytdgmeplpkehdnaa", sum := "0aa1b666ea9c6e89fef1bf08f3cdaf6caf32fb7a1352b6493c87eeeb91dd6a48", func := "fiducial/fiduciallaw21.DescriptorGreys", spec := "descriptorGreys", unfollowed := true, recurses := true, apart := false }
def DescriptorGreysSaid : Prop := descriptorGreysRow.holds Try.pinned (OpenSpec.ofChange descriptorGreysSpec)

/-- ITS FALSE NEIGHBOUR: 'it returns false'. Refute it at one input. -/
def descriptorGreysWrong : ChangeSpec := { name := "descriptorGreys", fn := fun _ => fun
  | [d1, d2, d3] => { results := [.lit (.bool false)], args := [d1, d2, d3] }
  | _ => none }
def DescriptorGreysWrongFalsely : Prop := descriptorGreysRow.holds Try.pinned (OpenSpec.ofChange descriptorGreysWrong)

/-- 'fiduciallaw21.DescriptorQuarters': WHATEVER THE INPUT: true; the input reads as it did. -/
def descriptorQuartersSpec : ChangeSpec := { name := "descriptorQuarters", fn := fun _ => fun
  | [d1, d2, d3] => { results := [.lit (.bool true)], args := [d1, d2, d3] }
  | _ => none }
def descriptorQuartersRow : OpenClaim := { program := "ytdgmeplpkehdnaa", sum := "0aa1b666ea9c6e89fef1bf08f3cdaf6caf32fb7a1352b6493c87eeeb91dd6a48", func := "fiducial/fiduciallaw21.DescriptorQuarters", spec := "descriptorQuarters", unfollowed := true, recurses := true, apart := false }
def DescriptorQuartersSaid : Prop := descriptorQuartersRow.holds Try.pinned (OpenSpec.ofChange descriptorQuartersSpec)

/-- ITS FALSE NEIGHBOUR: 'it returns false'. Refute it at one input. -/
def descriptorQuartersWrong : ChangeSpec := { name := "descriptorQuarters", fn := fun _ => fun
  | [d1, d2, d3] => { results := [.lit (.bool false)], args := [d1, d2, d3] }
  | _ => none }
def DescriptorQuartersWrongFalsely : Prop := descriptorQuartersRow.holds Try.pinned (OpenSpec.ofChange descriptorQuartersWrong)

/-- 'fiduciallaw21.DescriptorUpright': WHATEVER THE INPUT: true; the input reads as it did. -/
def descriptorUprightSpec : ChangeSpec := { name := "descriptorUpright", fn := fun _ => fun
  | [d1, d2, d3] => { results := [.lit (.bool true)], args := [d1, d2, d3] }
  | _ => none }
def descriptorUprightRow : OpenClaim := { program := "ytdgmeplpkehdnaa", sum := "0aa1b666ea9c6e89fef1bf08f3cdaf6caf32fb7a1352b6493c87eeeb91dd6a48", func := "fiducial/fiduciallaw21.DescriptorUpright", spec := "descriptorUpright", unfollowed := true, recurses := true, apart := false }
def DescriptorUprightSaid : Prop := descriptorUprightRow.holds Try.pinned (OpenSpec.ofChange descriptorUprightSpec)

/-- ITS FALSE NEIGHBOUR: 'it returns false'. Refute it at one input. -/
def descriptorUprightWrong : ChangeSpec := { name := "descriptorUpright", fn := fun _ => fun
  | [d1, d2, d3] => { results := [.lit (.bool false)], args := [d1, d2, d3] }
  | _ => none }
def DescriptorUprightWrongFalsely : Prop := descriptorUprightRow.holds Try.pinned (OpenSpec.ofChange descriptorUprightWrong)

/- THE SECOND FORM. 'bulk': how many values and letters a reading holds, each counted each time it is reached (what is shared counts as often as it is met; a slice's spare places count too). A statement '..UptoSaid' is the law's where the arguments, and the package variables that the reading takes, are together of bulk at most 1048576: NARROWER than '..Said'. Prove '..Said' where nothing that the law and all that it calls make is longer than what came in: it says more and counts as full. Else prove '..UptoSaid'. A law counts once. -/
mutual
def uptoBulk {H : Type} : DataW H → Nat
  | .lit (.string bytes) => bytes.length + 1
  | .lit _ => 1
  | .nil => 1
  | .ptr d => uptoBulk d + 1
  | .slice elems spare => uptoBulkAll elems + uptoBulkAll spare + 1
  | .agg parts => uptoBulkAll parts + 1
  | .iface _ d => uptoBulk d + 1
  | .map entries => uptoBulkEntries entries + 1
  | .held _ => 1
def uptoBulkAll {H : Type} : List (DataW H) → Nat
  | [] => 0
  | d :: r => uptoBulk d + uptoBulkAll r
def uptoBulkEntries {H : Type} : List (Lit × DataW H) → Nat
  | [] => 0
  | x :: r => uptoBulkEntry x + uptoBulkEntries r
def uptoBulkEntry {H : Type} : Lit × DataW H → Nat
  | (.string bytes, d) => bytes.length + uptoBulk d + 1
  | (_, d) => uptoBulk d + 1
 end
def uptoSmall : (H : Type) → List (DataW H) → Bool := fun _ ds => decide (uptoBulkAll ds ≤ 1048576)
def OpenSpec.upto (s : _root_.Go.ChangeSpec) : _root_.Go.OpenSpec := { _root_.Go.OpenSpec.ofChange s with cond := some uptoSmall }

/-- 'fiduciallaw21.DescriptorDistances', WHERE WHAT IT READS IS OF BULK AT MOST 1048576: true; the input reads as it did. -/
def descriptorDistancesUptoRow : OpenClaim := { program := "ytdgmeplpkehdnaa", sum := "0aa1b666ea9c6e89fef1bf08f3cdaf6caf32fb7a1352b6493c87eeeb91dd6a48", func := "fiducial/fiduciallaw21.DescriptorDistances", spec := "descriptorDistances", unfollowed := true, recurses := true, apart := false, narrowed := true }
def DescriptorDistancesUptoSaid : Prop := descriptorDistancesUptoRow.holds Try.pinned (OpenSpec.upto descriptorDistancesSpec)

/-- 'fiduciallaw21.DescriptorWords', WHERE WHAT IT READS IS OF BULK AT MOST 1048576: true; the input reads as it did. -/
def descriptorWordsUptoRow : OpenClaim := { program := "ytdgmeplpkehdnaa", sum := "0aa1b666ea9c6e89fef1bf08f3cdaf6caf32fb7a1352b6493c87eeeb91dd6a48", func := "fiducial/fiduciallaw21.DescriptorWords", spec := "descriptorWords", unfollowed := true, recurses := true, apart := false, narrowed := true }
def DescriptorWordsUptoSaid : Prop := descriptorWordsUptoRow.holds Try.pinned (OpenSpec.upto descriptorWordsSpec)

/-- 'fiduciallaw21.DescriptorForms', WHERE WHAT IT READS IS OF BULK AT MOST 1048576: true; the input reads as it did. -/
def descriptorFormsUptoRow : OpenClaim := { program := "ytdgmeplpkehdnaa", sum := "0aa1b666ea9c6e89fef1bf08f3cdaf6caf32fb7a1352b6493c87eeeb91dd6a48", func := "fiducial/fiduciallaw21.DescriptorForms", spec := "descriptorForms", unfollowed := true, recurses := true, apart := false, narrowed := true }
def DescriptorFormsUptoSaid : Prop := descriptorFormsUptoRow.holds Try.pinned (OpenSpec.upto descriptorFormsSpec)

/-- 'fiduciallaw21.DescriptorTurns', WHERE WHAT IT READS IS OF BULK AT MOST 1048576: true; the input reads as it did. -/
def descriptorTurnsUptoRow : OpenClaim := { program := "ytdgmeplpkehdnaa", sum := "0aa1b666ea9c6e89fef1bf08f3cdaf6caf32fb7a1352b6493c87eeeb91dd6a48", func := "fiducial/fiduciallaw21.DescriptorTurns", spec := "descriptorTurns", unfollowed := true, recurses := true, apart := false, narrowed := true }
def DescriptorTurnsUptoSaid : Prop := descriptorTurnsUptoRow.holds Try.pinned (OpenSpec.upto descriptorTurnsSpec)

/-- 'fiduciallaw21.DescriptorAll', WHERE WHAT IT READS IS OF BULK AT MOST 1048576: true; the input reads as it did. -/
def descriptorAllUptoRow : OpenClaim := { program := "ytdgmeplpkehdnaa", sum := "0aa1b666ea9c6e89fef1bf08f3cdaf6caf32fb7a1352b6493c87eeeb91dd6a48", func := "fiducial/fiduciallaw21.DescriptorAll", spec := "descriptorAll", unfollowed := true, recurses := true, apart := false, narrowed := true }
def DescriptorAllUptoSaid : Prop := descriptorAllUptoRow.holds Try.pinned (OpenSpec.upto descriptorAllSpec)

/-- 'fiduciallaw21.DescriptorGreys', WHERE WHAT IT READS IS OF BULK AT MOST 1048576: true; the input reads as it did. -/
def descriptorGreysUptoRow : OpenClaim := { program := "ytdgmeplpkehdnaa", sum := "0aa1b666ea9c6e89fef1bf08f3cdaf6caf32fb7a1352b6493c87eeeb91dd6a48", func := "fiducial/fiduciallaw21.DescriptorGreys", spec := "descriptorGreys", unfollowed := true, recurses := true, apart := false, narrowed := true }
def DescriptorGreysUptoSaid : Prop := descriptorGreysUptoRow.holds Try.pinned (OpenSpec.upto descriptorGreysSpec)

/-- 'fiduciallaw21.DescriptorQuarters', WHERE WHAT IT READS IS OF BULK AT MOST 1048576: true; the input reads as it did. -/
def descriptorQuartersUptoRow : OpenClaim := { program := "ytdgmeplpkehdnaa", sum := "0aa1b666ea9c6e89fef1bf08f3cdaf6caf32fb7a1352b6493c87eeeb91dd6a48", func := "fiducial/fiduciallaw21.DescriptorQuarters", spec := "descriptorQuarters", unfollowed := true, recurses := true, apart := false, narrowed := true }
def DescriptorQuartersUptoSaid : Prop := descriptorQuartersUptoRow.holds Try.pinned (OpenSpec.upto descriptorQuartersSpec)

/-- 'fiduciallaw21.DescriptorUpright', WHERE WHAT IT READS IS OF BULK AT MOST 1048576: true; the input reads as it did. -/
def descriptorUprightUptoRow : OpenClaim := { program := "ytdgmeplpkehdnaa", sum := "0aa1b666ea9c6e89fef1bf08f3cdaf6caf32fb7a1352b6493c87eeeb91dd6a48", func := "fiducial/fiduciallaw21.DescriptorUpright", spec := "descriptorUpright", unfollowed := true, recurses := true, apart := false, narrowed := true }
def DescriptorUprightUptoSaid : Prop := descriptorUprightUptoRow.holds Try.pinned (OpenSpec.upto descriptorUprightSpec)

end Rows
end Go.Proofs.Ytdgmeplpkehdnaa
