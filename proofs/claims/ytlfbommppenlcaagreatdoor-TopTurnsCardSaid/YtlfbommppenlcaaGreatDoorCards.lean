/-
  DERIVED. GIVEN WITH THE SEED: THE CARDS: each row of YtlfbommppenlcaaGreatDoorRows.lean that lists a variable, with what it lists TIED to the program's text (the seventh form; the later family's looks); each row that meets fmt, with fmt's text TOLD by the authors' own Lean function (tested against real Go, not proved from fmt's source: count such statements apart). THE CARD IS WHAT COUNTS. Prove the row's statement (the work); the ties are given (YtlfbommppenlcaaGreatDoorTie.lean); close each card by the builder's one call (the guide's Derived/Test/ToyasCard.lean, 'card_holds'). Laid BY PROGRAM, IN A SANDBOX (cutbox-door.mjs). By AI agents, Wed Nov 11 2026. No macro, syntax, notation, axiom, sorry.
-/
import Derived.Test.YtlfbommppenlcaaGreatDoorRows
import GoSem.ClaimSeven
namespace Go.Proofs.YtlfbommppenlcaaGreatDoor
namespace Rows

/-- THE TIED CARD OF 'webstertop.TopTurns'. -/
def topTurnsCard : Claim7 := { stood := { row := topTurnsRow, standIns := [], harness := (true, "361a9e0961ddece2a32cf960fe085fb8237f928e875a27f959e8a21f9e023e7b"), looks := true }, kinds := [], alts := [], laidByText := true, laidKinds := [.data, .data], laidTests := true, laidLooks := .later }
def TopTurnsCardSaid : Prop := Claim7.holds Tryz.pinned (.plain (OpenSpec.ofChange topTurnsSpec)) topTurnsCard

/-- THE TIED CARD OF 'webstertop.TopPriors'. -/
def topPriorsCard : Claim7 := { stood := { row := topPriorsRow, standIns := [], harness := (true, "361a9e0961ddece2a32cf960fe085fb8237f928e875a27f959e8a21f9e023e7b"), looks := true }, kinds := [], alts := [], laidByText := true, laidKinds := [.data, .data], laidTests := true, laidLooks := .later }
def TopPriorsCardSaid : Prop := Claim7.holds Tryz.pinned (.plain (OpenSpec.ofChange topPriorsSpec)) topPriorsCard

/-- THE TIED CARD OF 'webstertop.TopSemaphores'. -/
def topSemaphoresCard : Claim7 := { stood := { row := topSemaphoresRow, standIns := [], harness := (true, "361a9e0961ddece2a32cf960fe085fb8237f928e875a27f959e8a21f9e023e7b"), looks := true }, kinds := [], alts := [], laidByText := true, laidKinds := [.data, .data], laidTests := true, laidLooks := .later }
def TopSemaphoresCardSaid : Prop := Claim7.holds Tryz.pinned (.plain (OpenSpec.ofChange topSemaphoresSpec)) topSemaphoresCard

/-- THE TIED CARD OF 'webstertop.TopReckons'. -/
def topReckonsCard : Claim7 := { stood := { row := topReckonsRow, standIns := [], harness := (true, "361a9e0961ddece2a32cf960fe085fb8237f928e875a27f959e8a21f9e023e7b"), looks := true }, kinds := [], alts := [], laidByText := true, laidKinds := [.data, .data, .data, .data], laidTests := true, laidLooks := .later }
def TopReckonsCardSaid : Prop := Claim7.holds Tryz.pinned (.plain (OpenSpec.ofChange topReckonsSpec)) topReckonsCard

/-- THE TIED CARD OF 'webstertop.TopLoops'. -/
def topLoopsCard : Claim7 := { stood := { row := topLoopsRow, standIns := [], harness := (true, "361a9e0961ddece2a32cf960fe085fb8237f928e875a27f959e8a21f9e023e7b"), looks := true }, kinds := [], alts := [], laidByText := true, laidKinds := [.data, .data, .data, .data], laidTests := true, laidLooks := .later }
def TopLoopsCardSaid : Prop := Claim7.holds Tryz.pinned (.plain (OpenSpec.ofChange topLoopsSpec)) topLoopsCard

/-- THE TIED CARD OF 'webstertop.TopCalls'. -/
def topCallsCard : Claim7 := { stood := { row := topCallsRow, standIns := [], harness := (true, "361a9e0961ddece2a32cf960fe085fb8237f928e875a27f959e8a21f9e023e7b"), looks := true }, kinds := [], alts := [], laidByText := true, laidKinds := [.data, .data, .data, .data], laidTests := true, laidLooks := .later }
def TopCallsCardSaid : Prop := Claim7.holds Tryz.pinned (.plain (OpenSpec.ofChange topCallsSpec)) topCallsCard

/-- THE TIED CARD OF 'webstertop.TopBlocks'. -/
def topBlocksCard : Claim7 := { stood := { row := topBlocksRow, standIns := [], harness := (true, "361a9e0961ddece2a32cf960fe085fb8237f928e875a27f959e8a21f9e023e7b"), looks := true }, kinds := [], alts := [], laidByText := true, laidKinds := [.data, .data, .data, .data], laidTests := true, laidLooks := .later }
def TopBlocksCardSaid : Prop := Claim7.holds Tryz.pinned (.plain (OpenSpec.ofChange topBlocksSpec)) topBlocksCard

/-- THE TIED CARD OF 'webstertop.TopSorts'. -/
def topSortsCard : Claim7 := { stood := { row := topSortsRow, standIns := [], harness := (true, "361a9e0961ddece2a32cf960fe085fb8237f928e875a27f959e8a21f9e023e7b"), looks := true }, kinds := [], alts := [], laidByText := true, laidKinds := [.data, .data, .data, .data], laidTests := true, laidLooks := .later }
def TopSortsCardSaid : Prop := Claim7.holds Tryz.pinned (.plain (OpenSpec.ofChange topSortsSpec)) topSortsCard

/-- THE TIED CARD OF 'webstertop.TopFactors'. -/
def topFactorsCard : Claim7 := { stood := { row := topFactorsRow, standIns := [], harness := (true, "361a9e0961ddece2a32cf960fe085fb8237f928e875a27f959e8a21f9e023e7b"), looks := true }, kinds := [], alts := [], laidByText := true, laidKinds := [.data, .data, .data, .data], laidTests := true, laidLooks := .later }
def TopFactorsCardSaid : Prop := Claim7.holds Tryz.pinned (.plain (OpenSpec.ofChange topFactorsSpec)) topFactorsCard

/-- THE TIED CARD OF 'webstertop.TopPlaced'. -/
def topPlacedCard : Claim7 := { stood := { row := topPlacedRow, standIns := [], harness := (true, "361a9e0961ddece2a32cf960fe085fb8237f928e875a27f959e8a21f9e023e7b"), looks := true }, kinds := [], alts := [], laidByText := true, laidKinds := [.data, .data, .data, .data], laidTests := true, laidLooks := .later }
def TopPlacedCardSaid : Prop := Claim7.holds Tryz.pinned (.plain (OpenSpec.ofChange topPlacedSpec)) topPlacedCard

/-- THE TIED CARD OF 'webstertop.TopSpeaks'. -/
def topSpeaksCard : Claim7 := { stood := { row := topSpeaksRow, standIns := [], harness := (true, "361a9e0961ddece2a32cf960fe085fb8237f928e875a27f959e8a21f9e023e7b"), looks := true }, kinds := [], alts := [], laidByText := true, laidKinds := [.data, .data, .data, .data], laidTests := true, laidLooks := .later }
def TopSpeaksCardSaid : Prop := Claim7.holds Tryz.pinned (.plain (OpenSpec.ofChange topSpeaksSpec)) topSpeaksCard

/-- THE TIED CARD OF 'webstertop.TopAsked'. -/
def topAskedCard : Claim7 := { stood := { row := topAskedRow, standIns := [], harness := (true, "361a9e0961ddece2a32cf960fe085fb8237f928e875a27f959e8a21f9e023e7b"), looks := true }, kinds := [], alts := [], laidByText := true, laidKinds := [.data, .data, .data, .data], laidTests := true, laidLooks := .later }
def TopAskedCardSaid : Prop := Claim7.holds Tryz.pinned (.plain (OpenSpec.ofChange topAskedSpec)) topAskedCard

/-- THE SECOND FORM's CARD OF 'webstertop.TopTurns'. -/
def topTurnsUptoCard : Claim7 := { stood := { row := topTurnsUptoRow, standIns := [], harness := (true, "361a9e0961ddece2a32cf960fe085fb8237f928e875a27f959e8a21f9e023e7b"), looks := true }, kinds := [], alts := [], laidByText := true, laidKinds := [.data, .data], laidTests := true, laidLooks := .later }
def TopTurnsUptoCardSaid : Prop := Claim7.holds Tryz.pinned (.plain (OpenSpec.upto topTurnsSpec)) topTurnsUptoCard

/-- THE SECOND FORM's CARD OF 'webstertop.TopPriors'. -/
def topPriorsUptoCard : Claim7 := { stood := { row := topPriorsUptoRow, standIns := [], harness := (true, "361a9e0961ddece2a32cf960fe085fb8237f928e875a27f959e8a21f9e023e7b"), looks := true }, kinds := [], alts := [], laidByText := true, laidKinds := [.data, .data], laidTests := true, laidLooks := .later }
def TopPriorsUptoCardSaid : Prop := Claim7.holds Tryz.pinned (.plain (OpenSpec.upto topPriorsSpec)) topPriorsUptoCard

/-- THE SECOND FORM's CARD OF 'webstertop.TopSemaphores'. -/
def topSemaphoresUptoCard : Claim7 := { stood := { row := topSemaphoresUptoRow, standIns := [], harness := (true, "361a9e0961ddece2a32cf960fe085fb8237f928e875a27f959e8a21f9e023e7b"), looks := true }, kinds := [], alts := [], laidByText := true, laidKinds := [.data, .data], laidTests := true, laidLooks := .later }
def TopSemaphoresUptoCardSaid : Prop := Claim7.holds Tryz.pinned (.plain (OpenSpec.upto topSemaphoresSpec)) topSemaphoresUptoCard

/-- THE SECOND FORM's CARD OF 'webstertop.TopReckons'. -/
def topReckonsUptoCard : Claim7 := { stood := { row := topReckonsUptoRow, standIns := [], harness := (true, "361a9e0961ddece2a32cf960fe085fb8237f928e875a27f959e8a21f9e023e7b"), looks := true }, kinds := [], alts := [], laidByText := true, laidKinds := [.data, .data, .data, .data], laidTests := true, laidLooks := .later }
def TopReckonsUptoCardSaid : Prop := Claim7.holds Tryz.pinned (.plain (OpenSpec.upto topReckonsSpec)) topReckonsUptoCard

/-- THE SECOND FORM's CARD OF 'webstertop.TopLoops'. -/
def topLoopsUptoCard : Claim7 := { stood := { row := topLoopsUptoRow, standIns := [], harness := (true, "361a9e0961ddece2a32cf960fe085fb8237f928e875a27f959e8a21f9e023e7b"), looks := true }, kinds := [], alts := [], laidByText := true, laidKinds := [.data, .data, .data, .data], laidTests := true, laidLooks := .later }
def TopLoopsUptoCardSaid : Prop := Claim7.holds Tryz.pinned (.plain (OpenSpec.upto topLoopsSpec)) topLoopsUptoCard

/-- THE SECOND FORM's CARD OF 'webstertop.TopCalls'. -/
def topCallsUptoCard : Claim7 := { stood := { row := topCallsUptoRow, standIns := [], harness := (true, "361a9e0961ddece2a32cf960fe085fb8237f928e875a27f959e8a21f9e023e7b"), looks := true }, kinds := [], alts := [], laidByText := true, laidKinds := [.data, .data, .data, .data], laidTests := true, laidLooks := .later }
def TopCallsUptoCardSaid : Prop := Claim7.holds Tryz.pinned (.plain (OpenSpec.upto topCallsSpec)) topCallsUptoCard

/-- THE SECOND FORM's CARD OF 'webstertop.TopBlocks'. -/
def topBlocksUptoCard : Claim7 := { stood := { row := topBlocksUptoRow, standIns := [], harness := (true, "361a9e0961ddece2a32cf960fe085fb8237f928e875a27f959e8a21f9e023e7b"), looks := true }, kinds := [], alts := [], laidByText := true, laidKinds := [.data, .data, .data, .data], laidTests := true, laidLooks := .later }
def TopBlocksUptoCardSaid : Prop := Claim7.holds Tryz.pinned (.plain (OpenSpec.upto topBlocksSpec)) topBlocksUptoCard

/-- THE SECOND FORM's CARD OF 'webstertop.TopSorts'. -/
def topSortsUptoCard : Claim7 := { stood := { row := topSortsUptoRow, standIns := [], harness := (true, "361a9e0961ddece2a32cf960fe085fb8237f928e875a27f959e8a21f9e023e7b"), looks := true }, kinds := [], alts := [], laidByText := true, laidKinds := [.data, .data, .data, .data], laidTests := true, laidLooks := .later }
def TopSortsUptoCardSaid : Prop := Claim7.holds Tryz.pinned (.plain (OpenSpec.upto topSortsSpec)) topSortsUptoCard

/-- THE SECOND FORM's CARD OF 'webstertop.TopFactors'. -/
def topFactorsUptoCard : Claim7 := { stood := { row := topFactorsUptoRow, standIns := [], harness := (true, "361a9e0961ddece2a32cf960fe085fb8237f928e875a27f959e8a21f9e023e7b"), looks := true }, kinds := [], alts := [], laidByText := true, laidKinds := [.data, .data, .data, .data], laidTests := true, laidLooks := .later }
def TopFactorsUptoCardSaid : Prop := Claim7.holds Tryz.pinned (.plain (OpenSpec.upto topFactorsSpec)) topFactorsUptoCard

/-- THE SECOND FORM's CARD OF 'webstertop.TopPlaced'. -/
def topPlacedUptoCard : Claim7 := { stood := { row := topPlacedUptoRow, standIns := [], harness := (true, "361a9e0961ddece2a32cf960fe085fb8237f928e875a27f959e8a21f9e023e7b"), looks := true }, kinds := [], alts := [], laidByText := true, laidKinds := [.data, .data, .data, .data], laidTests := true, laidLooks := .later }
def TopPlacedUptoCardSaid : Prop := Claim7.holds Tryz.pinned (.plain (OpenSpec.upto topPlacedSpec)) topPlacedUptoCard

/-- THE SECOND FORM's CARD OF 'webstertop.TopSpeaks'. -/
def topSpeaksUptoCard : Claim7 := { stood := { row := topSpeaksUptoRow, standIns := [], harness := (true, "361a9e0961ddece2a32cf960fe085fb8237f928e875a27f959e8a21f9e023e7b"), looks := true }, kinds := [], alts := [], laidByText := true, laidKinds := [.data, .data, .data, .data], laidTests := true, laidLooks := .later }
def TopSpeaksUptoCardSaid : Prop := Claim7.holds Tryz.pinned (.plain (OpenSpec.upto topSpeaksSpec)) topSpeaksUptoCard

/-- THE SECOND FORM's CARD OF 'webstertop.TopAsked'. -/
def topAskedUptoCard : Claim7 := { stood := { row := topAskedUptoRow, standIns := [], harness := (true, "361a9e0961ddece2a32cf960fe085fb8237f928e875a27f959e8a21f9e023e7b"), looks := true }, kinds := [], alts := [], laidByText := true, laidKinds := [.data, .data, .data, .data], laidTests := true, laidLooks := .later }
def TopAskedUptoCardSaid : Prop := Claim7.holds Tryz.pinned (.plain (OpenSpec.upto topAskedSpec)) topAskedUptoCard
end Rows
end Go.Proofs.YtlfbommppenlcaaGreatDoor
