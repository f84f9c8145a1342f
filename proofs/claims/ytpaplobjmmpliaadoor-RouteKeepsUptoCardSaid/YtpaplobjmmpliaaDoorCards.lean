/-
  DERIVED. GIVEN WITH THE SEED: THE CARDS: each row of YtpaplobjmmpliaaDoorRows.lean that lists a variable, with what it lists TIED to the program's text (the seventh form; the later family's looks); each row that meets fmt, with fmt's text TOLD by the authors' own Lean function (tested against real Go, not proved from fmt's source: count such statements apart). THE CARD IS WHAT COUNTS. Prove the row's statement (the work); the ties are given (YtpaplobjmmpliaaDoorTie.lean); close each card by the builder's one call (the guide's Derived/Test/ToyasCard.lean, 'card_holds'). Laid BY PROGRAM, IN A SANDBOX (cutbox-door.mjs). By AI agents, Wed Nov 11 2026. No macro, syntax, notation, axiom, sorry.
-/
import Derived.Test.YtpaplobjmmpliaaDoorRows
import GoSem.ClaimSeven
namespace Go.Proofs.YtpaplobjmmpliaaDoor
namespace Rows

/-- THE TIED CARD OF 'mosaiclaw21.RouteFinds'. -/
def routeFindsCard : Claim7 := { stood := { row := routeFindsRow, standIns := [], harness := (true, "77a08061ae1689d547a4e75840df7c72ad89df615e00a13e82aca4b146ef09bb"), looks := false }, kinds := [], alts := [], laidByText := true, laidKinds := [.data, .pinned], laidTests := true, laidLooks := .later }
def RouteFindsCardSaid : Prop := Claim7.holds Tryd.pinned (.plain (OpenSpec.ofChange routeFindsSpec)) routeFindsCard

/-- THE TIED CARD OF 'mosaiclaw21.RouteParses'. -/
def routeParsesCard : Claim7 := { stood := { row := routeParsesRow, standIns := [], harness := (true, "77a08061ae1689d547a4e75840df7c72ad89df615e00a13e82aca4b146ef09bb"), looks := false }, kinds := [], alts := [], laidByText := true, laidKinds := [.data, .pinned], laidTests := true, laidLooks := .later }
def RouteParsesCardSaid : Prop := Claim7.holds Tryd.pinned (.plain (OpenSpec.ofChange routeParsesSpec)) routeParsesCard

/-- THE TIED CARD OF 'mosaiclaw21.RouteNets'. -/
def routeNetsCard : Claim7 := { stood := { row := routeNetsRow, standIns := [], harness := (true, "77a08061ae1689d547a4e75840df7c72ad89df615e00a13e82aca4b146ef09bb"), looks := false }, kinds := [], alts := [], laidByText := true, laidKinds := [.data, .pinned], laidTests := true, laidLooks := .later }
def RouteNetsCardSaid : Prop := Claim7.holds Tryd.pinned (.plain (OpenSpec.ofChange routeNetsSpec)) routeNetsCard

/-- THE TIED CARD OF 'mosaiclaw21.RouteMore'. -/
def routeMoreCard : Claim7 := { stood := { row := routeMoreRow, standIns := [], harness := (true, "77a08061ae1689d547a4e75840df7c72ad89df615e00a13e82aca4b146ef09bb"), looks := false }, kinds := [], alts := [], laidByText := true, laidKinds := [.data, .pinned], laidTests := true, laidLooks := .later }
def RouteMoreCardSaid : Prop := Claim7.holds Tryd.pinned (.plain (OpenSpec.ofChange routeMoreSpec)) routeMoreCard

/-- THE TIED CARD OF 'mosaiclaw21.RouteTexts'. -/
def routeTextsCard : Claim7 := { stood := { row := routeTextsRow, standIns := [], harness := (true, "77a08061ae1689d547a4e75840df7c72ad89df615e00a13e82aca4b146ef09bb"), looks := false }, kinds := [], alts := [], laidByText := true, laidKinds := [.data, .data, .data, .data, .pinned], laidTests := true, laidLooks := .later }
def RouteTextsCardSaid : Prop := Claim7.holds Tryd.pinned (.plain (OpenSpec.ofChange routeTextsSpec)) routeTextsCard

/-- THE TIED CARD OF 'mosaiclaw21.RouteKeeps'. -/
def routeKeepsCard : Claim7 := { stood := { row := routeKeepsRow, standIns := [], harness := (true, "77a08061ae1689d547a4e75840df7c72ad89df615e00a13e82aca4b146ef09bb"), looks := false }, kinds := [], alts := [], laidByText := true, laidKinds := [.data, .data, .data, .data, .pinned], laidTests := true, laidLooks := .later }
def RouteKeepsCardSaid : Prop := Claim7.holds Tryd.pinned (.plain (OpenSpec.ofChange routeKeepsSpec)) routeKeepsCard

/-- THE SECOND FORM's CARD OF 'mosaiclaw21.RouteFinds'. -/
def routeFindsUptoCard : Claim7 := { stood := { row := routeFindsUptoRow, standIns := [], harness := (true, "77a08061ae1689d547a4e75840df7c72ad89df615e00a13e82aca4b146ef09bb"), looks := false }, kinds := [], alts := [], laidByText := true, laidKinds := [.data, .pinned], laidTests := true, laidLooks := .later }
def RouteFindsUptoCardSaid : Prop := Claim7.holds Tryd.pinned (.plain (OpenSpec.upto routeFindsSpec)) routeFindsUptoCard

/-- THE SECOND FORM's CARD OF 'mosaiclaw21.RouteParses'. -/
def routeParsesUptoCard : Claim7 := { stood := { row := routeParsesUptoRow, standIns := [], harness := (true, "77a08061ae1689d547a4e75840df7c72ad89df615e00a13e82aca4b146ef09bb"), looks := false }, kinds := [], alts := [], laidByText := true, laidKinds := [.data, .pinned], laidTests := true, laidLooks := .later }
def RouteParsesUptoCardSaid : Prop := Claim7.holds Tryd.pinned (.plain (OpenSpec.upto routeParsesSpec)) routeParsesUptoCard

/-- THE SECOND FORM's CARD OF 'mosaiclaw21.RouteNets'. -/
def routeNetsUptoCard : Claim7 := { stood := { row := routeNetsUptoRow, standIns := [], harness := (true, "77a08061ae1689d547a4e75840df7c72ad89df615e00a13e82aca4b146ef09bb"), looks := false }, kinds := [], alts := [], laidByText := true, laidKinds := [.data, .pinned], laidTests := true, laidLooks := .later }
def RouteNetsUptoCardSaid : Prop := Claim7.holds Tryd.pinned (.plain (OpenSpec.upto routeNetsSpec)) routeNetsUptoCard

/-- THE SECOND FORM's CARD OF 'mosaiclaw21.RouteMore'. -/
def routeMoreUptoCard : Claim7 := { stood := { row := routeMoreUptoRow, standIns := [], harness := (true, "77a08061ae1689d547a4e75840df7c72ad89df615e00a13e82aca4b146ef09bb"), looks := false }, kinds := [], alts := [], laidByText := true, laidKinds := [.data, .pinned], laidTests := true, laidLooks := .later }
def RouteMoreUptoCardSaid : Prop := Claim7.holds Tryd.pinned (.plain (OpenSpec.upto routeMoreSpec)) routeMoreUptoCard

/-- THE SECOND FORM's CARD OF 'mosaiclaw21.RouteTexts'. -/
def routeTextsUptoCard : Claim7 := { stood := { row := routeTextsUptoRow, standIns := [], harness := (true, "77a08061ae1689d547a4e75840df7c72ad89df615e00a13e82aca4b146ef09bb"), looks := false }, kinds := [], alts := [], laidByText := true, laidKinds := [.data, .data, .data, .data, .pinned], laidTests := true, laidLooks := .later }
def RouteTextsUptoCardSaid : Prop := Claim7.holds Tryd.pinned (.plain (OpenSpec.upto routeTextsSpec)) routeTextsUptoCard

/-- THE SECOND FORM's CARD OF 'mosaiclaw21.RouteKeeps'. -/
def routeKeepsUptoCard : Claim7 := { stood := { row := routeKeepsUptoRow, standIns := [], harness := (true, "77a08061ae1689d547a4e75840df7c72ad89df615e00a13e82aca4b146ef09bb"), looks := false }, kinds := [], alts := [], laidByText := true, laidKinds := [.data, .data, .data, .data, .pinned], laidTests := true, laidLooks := .later }
def RouteKeepsUptoCardSaid : Prop := Claim7.holds Tryd.pinned (.plain (OpenSpec.upto routeKeepsSpec)) routeKeepsUptoCard
end Rows
end Go.Proofs.YtpaplobjmmpliaaDoor
