/-
  No cell of these rows narrows 'for every input' (looked for: loops, veiled, ifaces, maps, wideKeys, modest, calm, conditions, laid).
  DERIVED. THE GIVEN ROWS OF THIS SEAT. 8 by the template 'for every input the law returns true; each argument reads behind the call as it read before'; 0 by the template 'total and deterministic' (their statements: YtcaeieofjchpjaaTotals.lean).
  GIVEN WITH THE SEED: the statements are not yours to turn. If you find one false, say at which input.
  Laid BY PROGRAM, IN A SANDBOX (cutbox-rows.mjs): the forced cells as the released guide's own fill.sh prints them over the translation ea33abb1e68e27e8… (all of the seat's roots in one cut). By AI agents, Wed Nov 11 2026. No macro, syntax, notation, axiom, sorry.
-/
import Derived.Test.YtcaeieofjchpjaaChecked
import GoSem.Claim
import GoSem.ClaimJoined
import GoSem.ClaimMapViews
import Derived.JoinedTies
import Derived.KernelRfl
namespace Go.Proofs.Ytcaeieofjchpjaa
/- THE CELL 'sum', in the pinned program and in every row, IS THE sha256 OF THE DUMP (.gsa) THAT YtcaeieofjchpjaaProg.lean LOADS. Nothing in Lean hashes anything: it is a label: what it is worth is what the hold of that sum in a sandbox is worth. -/
noncomputable def Try.pinned : Pinned := { name := "ytcaeieofjchpjaa", sum := "ea33abb1e68e27e84b4951c9baa1f77f33d9089c822b790a2622f63f05e46417", checked := Try.checked }
namespace Rows
def none {H : Type} : Left H := { results := [], args := [] }

/-- 'fiduciallaw48.TerrainSurface': WHATEVER THE INPUT: true; the input reads as it did. -/
def terrainSurfaceSpec : ChangeSpec := { name := "terrainSurface", fn := fun _ => fun
  | [d1, d2] => { results := [.lit (.bool true)], args := [d1, d2] }
  | _ => none }
def terrainSurfaceRow : OpenClaim := { program := "ytcaeieofjchpjaa", sum := "ea33abb1e68e27e84b4951c9baa1f77f33d9089c822b790a2622f63f05e46417", func := "fiducial/fiduciallaw48.TerrainSurface", spec := "terrainSurface", unfollowed := true, recurses := true, apart := false }
def TerrainSurfaceSaid : Prop := terrainSurfaceRow.holds Try.pinned (OpenSpec.ofChange terrainSurfaceSpec)

/-- ITS FALSE NEIGHBOUR: 'it returns false'. Refute it at one input. -/
def terrainSurfaceWrong : ChangeSpec := { name := "terrainSurface", fn := fun _ => fun
  | [d1, d2] => { results := [.lit (.bool false)], args := [d1, d2] }
  | _ => none }
def TerrainSurfaceWrongFalsely : Prop := terrainSurfaceRow.holds Try.pinned (OpenSpec.ofChange terrainSurfaceWrong)

/-- 'fiduciallaw48.TerrainGround': WHATEVER THE INPUT: true; the input reads as it did. -/
def terrainGroundSpec : ChangeSpec := { name := "terrainGround", fn := fun _ => fun
  | [d1, d2, d3] => { results := [.lit (.bool true)], args := [d1, d2, d3] }
  | _ => none }
def terrainGroundRow : OpenClaim := { program := "ytcaeieofjchpjaa", sum := "ea33abb1e68e27e84b4951c9baa1f77f33d9089c822b790a2622f63f05e46417", func := "fiducial/fiduciallaw48.TerrainGround", spec := "terrainGround", unfollowed := true, recurses := true, apart := false }
def TerrainGroundSaid : Prop := terrainGroundRow.holds Try.pinned (OpenSpec.ofChange terrainGroundSpec)

/-- ITS FALSE NEIGHBOUR: 'it returns false'. Refute it at one input. -/
def terrainGroundWrong : ChangeSpec := { name := "terrainGround", fn := fun _ => fun
  | [d1, d2, d3] => { results := [.lit (.bool false)], args := [d1, d2, d3] }
  | _ => none }
def TerrainGroundWrongFalsely : Prop := terrainGroundRow.holds Try.pinned (OpenSpec.ofChange terrainGroundWrong)

/-- 'fiduciallaw48.TerrainBlocks': WHATEVER THE INPUT: true; the input reads as it did. -/
def terrainBlocksSpec : ChangeSpec := { name := "terrainBlocks", fn := fun _ => fun
  | [d1, d2, d3] => { results := [.lit (.bool true)], args := [d1, d2, d3] }
  | _ => none }
def terrainBlocksRow : OpenClaim := { program := "ytcaeieofjchpjaa", sum := "ea33abb1e68e27e84b4951c9baa1f77f33d9089c822b790a2622f63f05e46417", func := "fiducial/fiduciallaw48.TerrainBlocks", spec := "terrainBlocks", unfollowed := true, recurses := true, apart := false }
def TerrainBlocksSaid : Prop := terrainBlocksRow.holds Try.pinned (OpenSpec.ofChange terrainBlocksSpec)

/-- ITS FALSE NEIGHBOUR: 'it returns false'. Refute it at one input. -/
def terrainBlocksWrong : ChangeSpec := { name := "terrainBlocks", fn := fun _ => fun
  | [d1, d2, d3] => { results := [.lit (.bool false)], args := [d1, d2, d3] }
  | _ => none }
def TerrainBlocksWrongFalsely : Prop := terrainBlocksRow.holds Try.pinned (OpenSpec.ofChange terrainBlocksWrong)

/-- 'fiduciallaw48.TerrainLocal': WHATEVER THE INPUT: true; the input reads as it did. -/
def terrainLocalSpec : ChangeSpec := { name := "terrainLocal", fn := fun _ => fun
  | [d1, d2, d3] => { results := [.lit (.bool true)], args := [d1, d2, d3] }
  | _ => none }
def terrainLocalRow : OpenClaim := { program := "ytcaeieofjchpjaa", sum := "ea33abb1e68e27e84b4951c9baa1f77f33d9089c822b790a2622f63f05e46417", func := "fiducial/fiduciallaw48.TerrainLocal", spec := "terrainLocal", unfollowed := true, recurses := true, apart := false }
def TerrainLocalSaid : Prop := terrainLocalRow.holds Try.pinned (OpenSpec.ofChange terrainLocalSpec)

/-- ITS FALSE NEIGHBOUR: 'it returns false'. Refute it at one input. -/
def terrainLocalWrong : ChangeSpec := { name := "terrainLocal", fn := fun _ => fun
  | [d1, d2, d3] => { results := [.lit (.bool false)], args := [d1, d2, d3] }
  | _ => none }
def TerrainLocalWrongFalsely : Prop := terrainLocalRow.holds Try.pinned (OpenSpec.ofChange terrainLocalWrong)

/-- 'fiduciallaw48.TerrainFilters': WHATEVER THE INPUT: true; the input reads as it did. -/
def terrainFiltersSpec : ChangeSpec := { name := "terrainFilters", fn := fun _ => fun
  | [d1, d2] => { results := [.lit (.bool true)], args := [d1, d2] }
  | _ => none }
def terrainFiltersRow : OpenClaim := { program := "ytcaeieofjchpjaa", sum := "ea33abb1e68e27e84b4951c9baa1f77f33d9089c822b790a2622f63f05e46417", func := "fiducial/fiduciallaw48.TerrainFilters", spec := "terrainFilters", unfollowed := true, recurses := true, apart := false }
def TerrainFiltersSaid : Prop := terrainFiltersRow.holds Try.pinned (OpenSpec.ofChange terrainFiltersSpec)

/-- ITS FALSE NEIGHBOUR: 'it returns false'. Refute it at one input. -/
def terrainFiltersWrong : ChangeSpec := { name := "terrainFilters", fn := fun _ => fun
  | [d1, d2] => { results := [.lit (.bool false)], args := [d1, d2] }
  | _ => none }
def TerrainFiltersWrongFalsely : Prop := terrainFiltersRow.holds Try.pinned (OpenSpec.ofChange terrainFiltersWrong)

/-- 'fiduciallaw48.TerrainOpens': WHATEVER THE INPUT: true; the input reads as it did. -/
def terrainOpensSpec : ChangeSpec := { name := "terrainOpens", fn := fun _ => fun
  | [d1, d2, d3] => { results := [.lit (.bool true)], args := [d1, d2, d3] }
  | _ => none }
def terrainOpensRow : OpenClaim := { program := "ytcaeieofjchpjaa", sum := "ea33abb1e68e27e84b4951c9baa1f77f33d9089c822b790a2622f63f05e46417", func := "fiducial/fiduciallaw48.TerrainOpens", spec := "terrainOpens", unfollowed := true, recurses := true, apart := false }
def TerrainOpensSaid : Prop := terrainOpensRow.holds Try.pinned (OpenSpec.ofChange terrainOpensSpec)

/-- ITS FALSE NEIGHBOUR: 'it returns false'. Refute it at one input. -/
def terrainOpensWrong : ChangeSpec := { name := "terrainOpens", fn := fun _ => fun
  | [d1, d2, d3] => { results := [.lit (.bool false)], args := [d1, d2, d3] }
  | _ => none }
def TerrainOpensWrongFalsely : Prop := terrainOpensRow.holds Try.pinned (OpenSpec.ofChange terrainOpensWrong)

/-- 'fiduciallaw48.TerrainDifferences': WHATEVER THE INPUT: true; the input reads as it did. -/
def terrainDifferencesSpec : ChangeSpec := { name := "terrainDifferences", fn := fun _ => fun
  | [d1, d2] => { results := [.lit (.bool true)], args := [d1, d2] }
  | _ => none }
def terrainDifferencesRow : OpenClaim := { program := "ytcaeieofjchpjaa", sum := "ea33abb1e68e27e84b4951c9baa1f77f33d9089c822b790a2622f63f05e46417", func := "fiducial/fiduciallaw48.TerrainDifferences", spec := "terrainDifferences", unfollowed := true, recurses := true, apart := false }
def TerrainDifferencesSaid : Prop := terrainDifferencesRow.holds Try.pinned (OpenSpec.ofChange terrainDifferencesSpec)

/-- ITS FALSE NEIGHBOUR: 'it returns false'. Refute it at one input. -/
def terrainDifferencesWrong : ChangeSpec := { name := "terrainDifferences", fn := fun _ => fun
  | [d1, d2] => { results := [.lit (.bool false)], args := [d1, d2] }
  | _ => none }
def TerrainDifferencesWrongFalsely : Prop := terrainDifferencesRow.holds Try.pinned (OpenSpec.ofChange terrainDifferencesWrong)

/-- 'fiduciallaw48.TerrainFills': WHATEVER THE INPUT: true; the input reads as it did. -/
def terrainFillsSpec : ChangeSpec := { name := "terrainFills", fn := fun _ => fun
  | [d1, d2] => { results := [.lit (.bool true)], args := [d1, d2] }
  | _ => none }
def terrainFillsRow : OpenClaim := { program := "ytcaeieofjchpjaa", sum := "ea33abb1e68e27e84b4951c9baa1f77f33d9089c822b790a2622f63f05e46417", func := "fiducial/fiduciallaw48.TerrainFills", spec := "terrainFills", unfollowed := true, recurses := true, apart := false }
def TerrainFillsSaid : Prop := terrainFillsRow.holds Try.pinned (OpenSpec.ofChange terrainFillsSpec)

/-- ITS FALSE NEIGHBOUR: 'it returns false'. Refute it at one input. -/
def terrainFillsWrong : ChangeSpec := { name := "terrainFills", fn := fun _ => fun
  | [d1, d2] => { results := [.lit (.bool false)], args := [d1, d2] }
  | _ => none }
def TerrainFillsWrongFalsely : Prop := terrainFillsRow.holds Try.pinned (OpenSpec.ofChange terrainFillsWrong)

/- THE SECOND FORM. 'bulk': how many values and letters a reading holds, each counted each time it is reached (what is shared counts as often as it is met; a slice's spare places count too). A statement '..UptoSaid' is the law's where the arguments, and the package variables that the reading takes, are together of bulk at most 1048576: NARROWER than '..Said'. Prove '..Said' where nothing that the law and all that it calls make is longer than what came in: it says more and counts as full. Else prove '..UptoSaid'. A law counts once. -/
mutual
def uptoBulk {H : Type} : DataW H → Nat
  | .lit (.string bytes) => bytes.length + 1
  | .lit _ => 1
  | .nil => 1
  | .ptr d => uptoBulk d + 1
  | .slice elems spare => uptoBulkAll elems + uptoBulkAll spare + 1
  | .agg parts => uptoBulkAll parts + 1
  | .iface _ d => uptoBulk d + 1
  | .map entries => uptoBulkEntries entries + 1
  | .held _ => 1
def uptoBulkAll {H : Type} : List (DataW H) → Nat
  | [] => 0
  | d :: r => uptoBulk d + uptoBulkAll r
def uptoBulkEntries {H : Type} : List (Lit × DataW H) → Nat
  | [] => 0
  | x :: r => uptoBulkEntry x + uptoBulkEntries r
def uptoBulkEntry {H : Type} : Lit × DataW H → Nat
  | (.string bytes, d) => bytes.length + uptoBulk d + 1
  | (_, d) => uptoBulk d + 1
 end
def uptoSmall : (H : Type) → List (DataW H) → Bool := fun _ ds => decide (uptoBulkAll ds ≤ 1048576)
def OpenSpec.upto (s : _root_.Go.ChangeSpec) : _root_.Go.OpenSpec := { _root_.Go.OpenSpec.ofChange s with cond := some uptoSmall }

/-- 'fiduciallaw48.TerrainSurface', WHERE WHAT IT READS IS OF BULK AT MOST 1048576: true; the input reads as it did. -/
def terrainSurfaceUptoRow : OpenClaim := { program := "ytcaeieofjchpjaa", sum := "ea33abb1e68e27e84b4951c9baa1f77f33d9089c822b790a2622f63f05e46417", func := "fiducial/fiduciallaw48.TerrainSurface", spec := "terrainSurface", unfollowed := true, recurses := true, apart := false, narrowed := true }
def TerrainSurfaceUptoSaid : Prop := terrainSurfaceUptoRow.holds Try.pinned (OpenSpec.upto terrainSurfaceSpec)

/-- 'fiduciallaw48.TerrainGround', WHERE WHAT IT READS IS OF BULK AT MOST 1048576: true; the input reads as it did. -/
def terrainGroundUptoRow : OpenClaim := { program := "ytcaeieofjchpjaa", sum := "ea33abb1e68e27e84b4951c9baa1f77f33d9089c822b790a2622f63f05e46417", func := "fiducial/fiduciallaw48.TerrainGround", spec := "terrainGround", unfollowed := true, recurses := true, apart := false, narrowed := true }
def TerrainGroundUptoSaid : Prop := terrainGroundUptoRow.holds Try.pinned (OpenSpec.upto terrainGroundSpec)

/-- 'fiduciallaw48.TerrainBlocks', WHERE WHAT IT READS IS OF BULK AT MOST 1048576: true; the input reads as it did. -/
def terrainBlocksUptoRow : OpenClaim := { program := "ytcaeieofjchpjaa", sum := "ea33abb1e68e27e84b4951c9baa1f77f33d9089c822b790a2622f63f05e46417", func := "fiducial/fiduciallaw48.TerrainBlocks", spec := "terrainBlocks", unfollowed := true, recurses := true, apart := false, narrowed := true }
def TerrainBlocksUptoSaid : Prop := terrainBlocksUptoRow.holds Try.pinned (OpenSpec.upto terrainBlocksSpec)

/-- 'fiduciallaw48.TerrainLocal', WHERE WHAT IT READS IS OF BULK AT MOST 1048576: true; the input reads as it did. -/
def terrainLocalUptoRow : OpenClaim := { program := "ytcaeieofjchpjaa", sum := "ea33abb1e68e27e84b4951c9baa1f77f33d9089c822b790a2622f63f05e46417", func := "fiducial/fiduciallaw48.TerrainLocal", spec := "terrainLocal", unfollowed := true, recurses := true, apart := false, narrowed := true }
def TerrainLocalUptoSaid : Prop := terrainLocalUptoRow.holds Try.pinned (OpenSpec.upto terrainLocalSpec)

/-- 'fiduciallaw48.TerrainFilters', WHERE WHAT IT READS IS OF BULK AT MOST 1048576: true; the input reads as it did. -/
def terrainFiltersUptoRow : OpenClaim := { program := "ytcaeieofjchpjaa", sum := "ea33abb1e68e27e84b4951c9baa1f77f33d9089c822b790a2622f63f05e46417", func := "fiducial/fiduciallaw48.TerrainFilters", spec := "terrainFilters", unfollowed := true, recurses := true, apart := false, narrowed := true }
def TerrainFiltersUptoSaid : Prop := terrainFiltersUptoRow.holds Try.pinned (OpenSpec.upto terrainFiltersSpec)

/-- 'fiduciallaw48.TerrainOpens', WHERE WHAT IT READS IS OF BULK AT MOST 1048576: true; the input reads as it did. -/
def terrainOpensUptoRow : OpenClaim := { program := "ytcaeieofjchpjaa", sum := "ea33abb1e68e27e84b4951c9baa1f77f33d9089c822b790a2622f63f05e46417", func := "fiducial/fiduciallaw48.TerrainOpens", spec := "terrainOpens", unfollowed := true, recurses := true, apart := false, narrowed := true }
def TerrainOpensUptoSaid : Prop := terrainOpensUptoRow.holds Try.pinned (OpenSpec.upto terrainOpensSpec)

/-- 'fiduciallaw48.TerrainDifferences', WHERE WHAT IT READS IS OF BULK AT MOST 1048576: true; the input reads as it did. -/
def terrainDifferencesUptoRow : OpenClaim := { program := "ytcaeieofjchpjaa", sum := "ea33abb1e68e27e84b4951c9baa1f77f33d9089c822b790a2622f63f05e46417", func := "fiducial/fiduciallaw48.TerrainDifferences", spec := "terrainDifferences", unfollowed := true, recurses := true, apart := false, narrowed := true }
def TerrainDifferencesUptoSaid : Prop := terrainDifferencesUptoRow.holds Try.pinned (OpenSpec.upto terrainDifferencesSpec)

/-- 'fiduciallaw48.TerrainFills', WHERE WHAT IT READS IS OF BULK AT MOST 1048576: true; the input reads as it did. -/
def terrainFillsUptoRow : OpenClaim := { program := "ytcaeieofjchpjaa", sum := "ea33abb1e68e27e84b4951c9baa1f77f33d9089c822b790a2622f63f05e46417", func := "fiducial/fiduciallaw48.TerrainFills", spec := "terrainFills", unfollowed := true, recurses := true, apart := false, narrowed := true }
def TerrainFillsUptoSaid : Prop := terrainFillsUptoRow.holds Try.pinned (OpenSpec.upto terrainFillsSpec)

end Rows
end Go.Proofs.Ytcaeieofjchpjaa
