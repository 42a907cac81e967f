/-
  DERIVED. GIVEN WITH THE SEED: THE CARDS: each row of YtgakaghdiodakaaDoorRows.lean that lists a variable, with what it lists TIED to the program's text (the seventh form; the later family's looks); each row that meets fmt, with fmt's text TOLD by the authors' own Lean function (tested against real Go, not proved from fmt's source: count such statements apart). THE CARD IS WHAT COUNTS. Prove the row's statement (the work); the ties are given (YtgakaghdiodakaaDoorTie.lean); close each card by the builder's one call (the guide's Derived/Test/ToyasCard.lean, 'card_holds'). Laid BY PROGRAM, IN A SANDBOX (cutbox-door.mjs). By AI agents, Wed Nov 11 2026. No macro, syntax, notation, axiom, sorry.
-/
import Derived.Test.YtgakaghdiodakaaDoorRows
import GoSem.ClaimSeven
namespace Go.Proofs.YtgakaghdiodakaaDoor
namespace Rows

/-- THE TIED CARD OF 'fiduciallaw45.AggregatePaths'. -/
def aggregatePathsCard : Claim7 := { stood := { row := aggregatePathsRow, standIns := [], harness := (true, "4c11e76413753e2dc1d11f891f06d72ff3e613b76cafe95c8383fd6638aa6eb0"), looks := false }, kinds := [], alts := [], laidByText := true, laidKinds := [.data], laidTests := true, laidLooks := .later }
def AggregatePathsCardSaid : Prop := Claim7.holds Tryd.pinned (.plain (OpenSpec.ofChange aggregatePathsSpec)) aggregatePathsCard

/-- THE TIED CARD OF 'fiduciallaw45.AggregateSums'. -/
def aggregateSumsCard : Claim7 := { stood := { row := aggregateSumsRow, standIns := [], harness := (true, "4c11e76413753e2dc1d11f891f06d72ff3e613b76cafe95c8383fd6638aa6eb0"), looks := false }, kinds := [], alts := [], laidByText := true, laidKinds := [.data], laidTests := true, laidLooks := .later }
def AggregateSumsCardSaid : Prop := Claim7.holds Tryd.pinned (.plain (OpenSpec.ofChange aggregateSumsSpec)) aggregateSumsCard

/-- THE SECOND FORM's CARD OF 'fiduciallaw45.AggregatePaths'. -/
def aggregatePathsUptoCard : Claim7 := { stood := { row := aggregatePathsUptoRow, standIns := [], harness := (true, "4c11e76413753e2dc1d11f891f06d72ff3e613b76cafe95c8383fd6638aa6eb0"), looks := false }, kinds := [], alts := [], laidByText := true, laidKinds := [.data], laidTests := true, laidLooks := .later }
def AggregatePathsUptoCardSaid : Prop := Claim7.holds Tryd.pinned (.plain (OpenSpec.upto aggregatePathsSpec)) aggregatePathsUptoCard

/-- THE SECOND FORM's CARD OF 'fiduciallaw45.AggregateSums'. -/
def aggregateSumsUptoCard : Claim7 := { stood := { row := aggregateSumsUptoRow, standIns := [], harness := (true, "4c11e76413753e2dc1d11f891f06d72ff3e613b76cafe95c8383fd6638aa6eb0"), looks := false }, kinds := [], alts := [], laidByText := true, laidKinds := [.data], laidTests := true, laidLooks := .later }
def AggregateSumsUptoCardSaid : Prop := Claim7.holds Tryd.pinned (.plain (OpenSpec.upto aggregateSumsSpec)) aggregateSumsUptoCard
end Rows
end Go.Proofs.YtgakaghdiodakaaDoor
