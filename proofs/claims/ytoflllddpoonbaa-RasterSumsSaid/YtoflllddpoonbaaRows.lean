/-
  No cell of these rows narrows 'for every input' (looked for: loops, veiled, ifaces, maps, wideKeys, modest, calm, conditions, laid).
  DERIVED. THE GIVEN ROWS OF THIS SEAT. 8 by the template 'for every input the law returns true; each argument reads behind the call as it read before'; 0 by the template 'total and deterministic' (their statements: YtoflllddpoonbaaTotals.lean).
  GIVEN WITH THE SEED: the statements are not yours to turn. If you find one false, say at which input.
  Laid BY PROGRAM, IN A SANDBOX (cutbox-rows.mjs): the forced cells as the released guide's own fill.sh prints them over the translation f64ea8333ff4d71d… (all of the seat's roots in one cut). By AI agents, Wed Nov 11 2026. No macro, syntax, notation, axiom, sorry.
-/
import Derived.Test.YtoflllddpoonbaaChecked
import GoSem.Claim
import GoSem.ClaimJoined
import GoSem.ClaimMapViews
import Derived.JoinedTies
import Derived.KernelRfl
namespace Go.Proofs.Ytoflllddpoonbaa
/- THE CELL 'sum', in the pinned program and in every row, IS THE sha256 OF THE DUMP (.gsa) THAT YtoflllddpoonbaaProg.lean LOADS. Nothing in Lean hashes anything: it is a label: what it is worth is what the hold of that sum in a sandbox is worth. -/
noncomputable def Try.pinned : Pinned := { name := "ytoflllddpoonbaa", sum := "f64ea8333ff4d71de39f7fe78b202c0cbd379a3493f47464b7859fc9eac717ad", checked := Try.checked }
namespace Rows
def none {H : Type} : Left H := { results := [], args := [] }

/-- 'fiduciallaw13.RasterTurns': WHATEVER THE INPUT: true; the input reads as it did. -/
def rasterTurnsSpec : ChangeSpec := { name := "rasterTurns", fn := fun _ => fun
  | [d] => { results := [.lit (.bool true)], args := [d] }
  | _ => none }
def rasterTurnsRow : OpenClaim := { program := "ytoflllddpoonbaa", sum := "f64ea8333ff4d71de39f7fe78b202c0cbd379a3493f47464b7859fc9eac717ad", func := "fiducial/fiduciallaw13.RasterTurns", spec := "rasterTurns", unfollowed := true, recurses := true, apart := false }
def RasterTurnsSaid : Prop := rasterTurnsRow.holds Try.pinned (OpenSpec.ofChange rasterTurnsSpec)

/-- ITS FALSE NEIGHBOUR: 'it returns false'. Refute it at one input. -/
def rasterTurnsWrong : ChangeSpec := { name := "rasterTurns", fn := fun _ => fun
  | [d] => { results := [.lit (.bool false)], args := [d] }
  | _ => none }
def RasterTurnsWrongFalsely : Prop := rasterTurnsRow.holds Try.pinned (OpenSpec.ofChange rasterTurnsWrong)

/-- 'fiduciallaw13.RasterForms': WHATEVER THE INPUT: true; the input reads as it did. -/
def rasterFormsSpec : ChangeSpec := { name := "rasterForms", fn := fun _ => fun
  | [d1, d2, d3] => { results := [.lit (.bool true)], args := [d1, d2, d3] }
  | _ => none }
def rasterFormsRow : OpenClaim := { program := "ytoflllddpoonbaa", sum := "f64ea8333ff4d71de39f7fe78b202c0cbd379a3493f47464b7859fc9eac717ad", func := "fiducial/fiduciallaw13.RasterForms", spec := "rasterForms", unfollowed := true, recurses := true, apart := false }
def RasterFormsSaid : Prop := rasterFormsRow.holds Try.pinned (OpenSpec.ofChange rasterFormsSpec)

/-- ITS FALSE NEIGHBOUR: 'it returns false'. Refute it at one input. -/
def rasterFormsWrong : ChangeSpec := { name := "rasterForms", fn := fun _ => fun
  | [d1, d2, d3] => { results := [.lit (.bool false)], args := [d1, d2, d3] }
  | _ => none }
def RasterFormsWrongFalsely : Prop := rasterFormsRow.holds Try.pinned (OpenSpec.ofChange rasterFormsWrong)

/-- 'fiduciallaw13.RasterHistograms': WHATEVER THE INPUT: true; the input reads as it did. -/
def rasterHistogramsSpec : ChangeSpec := { name := "rasterHistograms", fn := fun _ => fun
  | [d] => { results := [.lit (.bool true)], args := [d] }
  | _ => none }
def rasterHistogramsRow : OpenClaim := { program := "ytoflllddpoonbaa", sum := "f64ea8333ff4d71de39f7fe78b202c0cbd379a3493f47464b7859fc9eac717ad", func := "fiducial/fiduciallaw13.RasterHistograms", spec := "rasterHistograms", unfollowed := true, recurses := true, apart := false }
def RasterHistogramsSaid : Prop := rasterHistogramsRow.holds Try.pinned (OpenSpec.ofChange rasterHistogramsSpec)

/-- ITS FALSE NEIGHBOUR: 'it returns false'. Refute it at one input. -/
def rasterHistogramsWrong : ChangeSpec := { name := "rasterHistograms", fn := fun _ => fun
  | [d] => { results := [.lit (.bool false)], args := [d] }
  | _ => none }
def RasterHistogramsWrongFalsely : Prop := rasterHistogramsRow.holds Try.pinned (OpenSpec.ofChange rasterHistogramsWrong)

/-- 'fiduciallaw13.RasterMaps': WHATEVER THE INPUT: true; the input reads as it did. -/
def rasterMapsSpec : ChangeSpec := { name := "rasterMaps", fn := fun _ => fun
  | [d1, d2] => { results := [.lit (.bool true)], args := [d1, d2] }
  | _ => none }
def rasterMapsRow : OpenClaim := { program := "ytoflllddpoonbaa", sum := "f64ea8333ff4d71de39f7fe78b202c0cbd379a3493f47464b7859fc9eac717ad", func := "fiducial/fiduciallaw13.RasterMaps", spec := "rasterMaps", unfollowed := true, recurses := true, apart := false }
def RasterMapsSaid : Prop := rasterMapsRow.holds Try.pinned (OpenSpec.ofChange rasterMapsSpec)

/-- ITS FALSE NEIGHBOUR: 'it returns false'. Refute it at one input. -/
def rasterMapsWrong : ChangeSpec := { name := "rasterMaps", fn := fun _ => fun
  | [d1, d2] => { results := [.lit (.bool false)], args := [d1, d2] }
  | _ => none }
def RasterMapsWrongFalsely : Prop := rasterMapsRow.holds Try.pinned (OpenSpec.ofChange rasterMapsWrong)

/-- 'fiduciallaw13.RasterSums': WHATEVER THE INPUT: true; the input reads as it did. -/
def rasterSumsSpec : ChangeSpec := { name := "rasterSums", fn := fun _ => fun
  | [d1, d2, d3] => { results := [.lit (.bool true)], args := [d1, d2, d3] }
  | _ => none }
def rasterSumsRow : OpenClaim := { program := "ytoflllddpoonbaa", sum := "f64ea8333ff4d71de39f7fe78b202c0cbd379a3493f47464b7859fc9eac717ad", func := "fiducial/fiduciallaw13.RasterSums", spec := "rasterSums", unfollowed := true, recurses := true, apart := false }
def RasterSumsSaid : Prop := rasterSumsRow.holds Try.pinned (OpenSpec.ofChange rasterSumsSpec)

/-- ITS FALSE NEIGHBOUR: 'it returns false'. Refute it at one input. -/
def rasterSumsWrong : ChangeSpec := { name := "rasterSums", fn := fun _ => fun
  | [d1, d2, d3] => { results := [.lit (.bool false)], args := [d1, d2, d3] }
  | _ => none }
def RasterSumsWrongFalsely : Prop := rasterSumsRow.holds Try.pinned (OpenSpec.ofChange rasterSumsWrong)

/-- 'fiduciallaw13.RasterPastes': WHATEVER THE INPUT: true; the input reads as it did. -/
def rasterPastesSpec : ChangeSpec := { name := "rasterPastes", fn := fun _ => fun
  | [d1, d2, d3] => { results := [.lit (.bool true)], args := [d1, d2, d3] }
  | _ => none }
def rasterPastesRow : OpenClaim := { program := "ytoflllddpoonbaa", sum := "f64ea8333ff4d71de39f7fe78b202c0cbd379a3493f47464b7859fc9eac717ad", func := "fiducial/fiduciallaw13.RasterPastes", spec := "rasterPastes", unfollowed := true, recurses := true, apart := false }
def RasterPastesSaid : Prop := rasterPastesRow.holds Try.pinned (OpenSpec.ofChange rasterPastesSpec)

/-- ITS FALSE NEIGHBOUR: 'it returns false'. Refute it at one input. -/
def rasterPastesWrong : ChangeSpec := { name := "rasterPastes", fn := fun _ => fun
  | [d1, d2, d3] => { results := [.lit (.bool false)], args := [d1, d2, d3] }
  | _ => none }
def RasterPastesWrongFalsely : Prop := rasterPastesRow.holds Try.pinned (OpenSpec.ofChange rasterPastesWrong)

/-- 'fiduciallaw13.RasterParts': WHATEVER THE INPUT: true; the input reads as it did. -/
def rasterPartsSpec : ChangeSpec := { name := "rasterParts", fn := fun _ => fun
  | [d1, d2] => { results := [.lit (.bool true)], args := [d1, d2] }
  | _ => none }
def rasterPartsRow : OpenClaim := { program := "ytoflllddpoonbaa", sum := "f64ea8333ff4d71de39f7fe78b202c0cbd379a3493f47464b7859fc9eac717ad", func := "fiducial/fiduciallaw13.RasterParts", spec := "rasterParts", unfollowed := true, recurses := true, apart := false }
def RasterPartsSaid : Prop := rasterPartsRow.holds Try.pinned (OpenSpec.ofChange rasterPartsSpec)

/-- ITS FALSE NEIGHBOUR: 'it returns false'. Refute it at one input. -/
def rasterPartsWrong : ChangeSpec := { name := "rasterParts", fn := fun _ => fun
  | [d1, d2] => { results := [.lit (.bool false)], args := [d1, d2] }
  | _ => none }
def RasterPartsWrongFalsely : Prop := rasterPartsRow.holds Try.pinned (OpenSpec.ofChange rasterPartsWrong)

/-- 'fiduciallaw13.RasterPixels': WHATEVER THE INPUT: true; the input reads as it did. -/
def rasterPixelsSpec : ChangeSpec := { name := "rasterPixels", fn := fun _ => fun
  | [d1, d2, d3] => { results := [.lit (.bool true)], args := [d1, d2, d3] }
  | _ => none }
def rasterPixelsRow : OpenClaim := { program := "ytoflllddpoonbaa", sum := "f64ea8333ff4d71de39f7fe78b202c0cbd379a3493f47464b7859fc9eac717ad", func := "fiducial/fiduciallaw13.RasterPixels", spec := "rasterPixels", unfollowed := true, recurses := true, apart := false }
def RasterPixelsSaid : Prop := rasterPixelsRow.holds Try.pinned (OpenSpec.ofChange rasterPixelsSpec)

/-- ITS FALSE NEIGHBOUR: 'it returns false'. Refute it at one input. -/
def rasterPixelsWrong : ChangeSpec := { name := "rasterPixels", fn := fun _ => fun
  | [d1, d2, d3] => { results := [.lit (.bool false)], args := [d1, d2, d3] }
  | _ => none }
def RasterPixelsWrongFalsely : Prop := rasterPixelsRow.holds Try.pinned (OpenSpec.ofChange rasterPixelsWrong)

/- THE SECOND FORM. 'bulk': how many values and letters a reading holds, each counted each time it is reached (what is shared counts as often as it is met; a slice's spare places count too). A statement '..UptoSaid' is the law's where the arguments, and the package variables that the reading takes, are together of bulk at most 1048576: NARROWER than '..Said'. Prove '..Said' where nothing that the law and all that it calls make is longer than what came in: it says more and counts as full. Else prove '..UptoSaid'. A law counts once. -/
mutual
def uptoBulk {H : Type} : DataW H → Nat
  | .lit (.string bytes) => bytes.length + 1
  | .lit _ => 1
  | .nil => 1
  | .ptr d => uptoBulk d + 1
  | .slice elems spare => uptoBulkAll elems + uptoBulkAll spare + 1
  | .agg parts => uptoBulkAll parts + 1
  | .iface _ d => uptoBulk d + 1
  | .map entries => uptoBulkEntries entries + 1
  | .held _ => 1
def uptoBulkAll {H : Type} : List (DataW H) → Nat
  | [] => 0
  | d :: r => uptoBulk d + uptoBulkAll r
def uptoBulkEntries {H : Type} : List (Lit × DataW H) → Nat
  | [] => 0
  | x :: r => uptoBulkEntry x + uptoBulkEntries r
def uptoBulkEntry {H : Type} : Lit × DataW H → Nat
  | (.string bytes, d) => bytes.length + uptoBulk d + 1
  | (_, d) => uptoBulk d + 1
 end
def uptoSmall : (H : Type) → List (DataW H) → Bool := fun _ ds => decide (uptoBulkAll ds ≤ 1048576)
def OpenSpec.upto (s : _root_.Go.ChangeSpec) : _root_.Go.OpenSpec := { _root_.Go.OpenSpec.ofChange s with cond := some uptoSmall }

/-- 'fiduciallaw13.RasterTurns', WHERE WHAT IT READS IS OF BULK AT MOST 1048576: true; the input reads as it did. -/
def rasterTurnsUptoRow : OpenClaim := { program := "ytoflllddpoonbaa", sum := "f64ea8333ff4d71de39f7fe78b202c0cbd379a3493f47464b7859fc9eac717ad", func := "fiducial/fiduciallaw13.RasterTurns", spec := "rasterTurns", unfollowed := true, recurses := true, apart := false, narrowed := true }
def RasterTurnsUptoSaid : Prop := rasterTurnsUptoRow.holds Try.pinned (OpenSpec.upto rasterTurnsSpec)

/-- 'fiduciallaw13.RasterForms', WHERE WHAT IT READS IS OF BULK AT MOST 1048576: true; the input reads as it did. -/
def rasterFormsUptoRow : OpenClaim := { program := "ytoflllddpoonbaa", sum := "f64ea8333ff4d71de39f7fe78b202c0cbd379a3493f47464b7859fc9eac717ad", func := "fiducial/fiduciallaw13.RasterForms", spec := "rasterForms", unfollowed := true, recurses := true, apart := false, narrowed := true }
def RasterFormsUptoSaid : Prop := rasterFormsUptoRow.holds Try.pinned (OpenSpec.upto rasterFormsSpec)

/-- 'fiduciallaw13.RasterHistograms', WHERE WHAT IT READS IS OF BULK AT MOST 1048576: true; the input reads as it did. -/
def rasterHistogramsUptoRow : OpenClaim := { program := "ytoflllddpoonbaa", sum := "f64ea8333ff4d71de39f7fe78b202c0cbd379a3493f47464b7859fc9eac717ad", func := "fiducial/fiduciallaw13.RasterHistograms", spec := "rasterHistograms", unfollowed := true, recurses := true, apart := false, narrowed := true }
def RasterHistogramsUptoSaid : Prop := rasterHistogramsUptoRow.holds Try.pinned (OpenSpec.upto rasterHistogramsSpec)

/-- 'fiduciallaw13.RasterMaps', WHERE WHAT IT READS IS OF BULK AT MOST 1048576: true; the input reads as it did. -/
def rasterMapsUptoRow : OpenClaim := { program := "ytoflllddpoonbaa", sum := "f64ea8333ff4d71de39f7fe78b202c0cbd379a3493f47464b7859fc9eac717ad", func := "fiducial/fiduciallaw13.RasterMaps", spec := "rasterMaps", unfollowed := true, recurses := true, apart := false, narrowed := true }
def RasterMapsUptoSaid : Prop := rasterMapsUptoRow.holds Try.pinned (OpenSpec.upto rasterMapsSpec)

/-- 'fiduciallaw13.RasterSums', WHERE WHAT IT READS IS OF BULK AT MOST 1048576: true; the input reads as it did. -/
def rasterSumsUptoRow : OpenClaim := { program := "ytoflllddpoonbaa", sum := "f64ea8333ff4d71de39f7fe78b202c0cbd379a3493f47464b7859fc9eac717ad", func := "fiducial/fiduciallaw13.RasterSums", spec := "rasterSums", unfollowed := true, recurses := true, apart := false, narrowed := true }
def RasterSumsUptoSaid : Prop := rasterSumsUptoRow.holds Try.pinned (OpenSpec.upto rasterSumsSpec)

/-- 'fiduciallaw13.RasterPastes', WHERE WHAT IT READS IS OF BULK AT MOST 1048576: true; the input reads as it did. -/
def rasterPastesUptoRow : OpenClaim := { program := "ytoflllddpoonbaa", sum := "f64ea8333ff4d71de39f7fe78b202c0cbd379a3493f47464b7859fc9eac717ad", func := "fiducial/fiduciallaw13.RasterPastes", spec := "rasterPastes", unfollowed := true, recurses := true, apart := false, narrowed := true }
def RasterPastesUptoSaid : Prop := rasterPastesUptoRow.holds Try.pinned (OpenSpec.upto rasterPastesSpec)

/-- 'fiduciallaw13.RasterParts', WHERE WHAT IT READS IS OF BULK AT MOST 1048576: true; the input reads as it did. -/
def rasterPartsUptoRow : OpenClaim := { program := "ytoflllddpoonbaa", sum := "f64ea8333ff4d71de39f7fe78b202c0cbd379a3493f47464b7859fc9eac717ad", func := "fiducial/fiduciallaw13.RasterParts", spec := "rasterParts", unfollowed := true, recurses := true, apart := false, narrowed := true }
def RasterPartsUptoSaid : Prop := rasterPartsUptoRow.holds Try.pinned (OpenSpec.upto rasterPartsSpec)

/-- 'fiduciallaw13.RasterPixels', WHERE WHAT IT READS IS OF BULK AT MOST 1048576: true; the input reads as it did. -/
def rasterPixelsUptoRow : OpenClaim := { program := "ytoflllddpoonbaa", sum := "f64ea8333ff4d71de39f7fe78b202c0cbd379a3493f47464b7859fc9eac717ad", func := "fiducial/fiduciallaw13.RasterPixels", spec := "rasterPixels", unfollowed := true, recurses := true, apart := false, narrowed := true }
def RasterPixelsUptoSaid : Prop := rasterPixelsUptoRow.holds Try.pinned (OpenSpec.upto rasterPixelsSpec)

end Rows
end Go.Proofs.Ytoflllddpoonbaa
