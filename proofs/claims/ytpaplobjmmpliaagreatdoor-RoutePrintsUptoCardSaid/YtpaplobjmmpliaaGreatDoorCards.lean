/-
  DERIVED. GIVEN WITH THE SEED: THE CARDS: each row of YtpaplobjmmpliaaGreatDoorRows.lean that lists a variable, with what it lists TIED to the program's text (the seventh form; the later family's looks); each row that meets fmt, with fmt's text TOLD by the authors' own Lean function (tested against real Go, not proved from fmt's source: count such statements apart). THE CARD IS WHAT COUNTS. Prove the row's statement (the work); the ties are given (YtpaplobjmmpliaaGreatDoorTie.lean); close each card by the builder's one call (the guide's Derived/Test/ToyasCard.lean, 'card_holds'). Laid BY PROGRAM, IN A SANDBOX (cutbox-door.mjs). By AI agents, Wed Nov 11 2026. No macro, syntax, notation, axiom, sorry.
-/
import Derived.Test.YtpaplobjmmpliaaGreatDoorRows
import GoSem.ClaimSeven
namespace Go.Proofs.YtpaplobjmmpliaaGreatDoor
namespace Rows

/-- THE TIED CARD OF 'mosaiclaw21.RoutePrints'. -/
def routePrintsCard : Claim7 := { stood := { row := routePrintsRow, standIns := [], harness := (true, "19b6a98ab4c2e1be3000d1b67f9abfa5defd9ba1421ae9036e40ca00d37b67d6"), looks := false }, kinds := [], alts := [], laidByText := true, laidKinds := [.data, .data, .data, .data, .pinned], laidTests := true, laidLooks := .later }
def RoutePrintsCardSaid : Prop := Claim7.holds Tryz.pinned (.plain (OpenSpec.ofChange routePrintsSpec)) routePrintsCard

/-- THE SECOND FORM's CARD OF 'mosaiclaw21.RoutePrints'. -/
def routePrintsUptoCard : Claim7 := { stood := { row := routePrintsUptoRow, standIns := [], harness := (true, "19b6a98ab4c2e1be3000d1b67f9abfa5defd9ba1421ae9036e40ca00d37b67d6"), looks := false }, kinds := [], alts := [], laidByText := true, laidKinds := [.data, .data, .data, .data, .pinned], laidTests := true, laidLooks := .later }
def RoutePrintsUptoCardSaid : Prop := Claim7.holds Tryz.pinned (.plain (OpenSpec.upto routePrintsSpec)) routePrintsUptoCard
end Rows
end Go.Proofs.YtpaplobjmmpliaaGreatDoor
