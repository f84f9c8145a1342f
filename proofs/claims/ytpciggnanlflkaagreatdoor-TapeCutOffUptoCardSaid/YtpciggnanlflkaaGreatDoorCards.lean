/-
  DERIVED. GIVEN WITH THE SEED: THE CARDS: each row of YtpciggnanlflkaaGreatDoorRows.lean that lists a variable, with what it lists TIED to the program's text (the seventh form; the later family's looks); each row that meets fmt, with fmt's text TOLD by the authors' own Lean function (tested against real Go, not proved from fmt's source: count such statements apart). THE CARD IS WHAT COUNTS. Prove the row's statement (the work); the ties are given (YtpciggnanlflkaaGreatDoorTie.lean); close each card by the builder's one call (the guide's Derived/Test/ToyasCard.lean, 'card_holds'). Laid BY PROGRAM, IN A SANDBOX (cutbox-door.mjs). By AI agents, Wed Nov 11 2026. No macro, syntax, notation, axiom, sorry.
-/
import Derived.Test.YtpciggnanlflkaaGreatDoorRows
import GoSem.ClaimSeven
namespace Go.Proofs.YtpciggnanlflkaaGreatDoor
namespace Rows

/-- THE TIED CARD OF 'mosaiclaw32.TapeLays'. -/
def tapeLaysCard : Claim7 := { stood := { row := tapeLaysRow, standIns := [], harness := (true, "216985a5a7d682ced2d091501869f5c22336f03f2a6cd0e0075ca2395b304cdf"), looks := false }, kinds := [], alts := [], laidByText := true, laidKinds := [.data, .data, .data, .data, .data, .pinned], laidTests := true, laidLooks := .later }
def TapeLaysCardSaid : Prop := Claim7.holds Tryz.pinned (.plain (OpenSpec.ofChange tapeLaysSpec)) tapeLaysCard

/-- THE TIED CARD OF 'mosaiclaw32.TapeReads'. -/
def tapeReadsCard : Claim7 := { stood := { row := tapeReadsRow, standIns := [], harness := (true, "216985a5a7d682ced2d091501869f5c22336f03f2a6cd0e0075ca2395b304cdf"), looks := false }, kinds := [], alts := [], laidByText := true, laidKinds := [.data, .data, .data, .data, .data, .pinned], laidTests := true, laidLooks := .later }
def TapeReadsCardSaid : Prop := Claim7.holds Tryz.pinned (.plain (OpenSpec.ofChange tapeReadsSpec)) tapeReadsCard

/-- THE TIED CARD OF 'mosaiclaw32.TapeBack'. -/
def tapeBackCard : Claim7 := { stood := { row := tapeBackRow, standIns := [], harness := (true, "216985a5a7d682ced2d091501869f5c22336f03f2a6cd0e0075ca2395b304cdf"), looks := false }, kinds := [], alts := [], laidByText := true, laidKinds := [.data, .data, .data, .data, .data, .pinned], laidTests := true, laidLooks := .later }
def TapeBackCardSaid : Prop := Claim7.holds Tryz.pinned (.plain (OpenSpec.ofChange tapeBackSpec)) tapeBackCard

/-- THE TIED CARD OF 'mosaiclaw32.TapeCutOff'. -/
def tapeCutOffCard : Claim7 := { stood := { row := tapeCutOffRow, standIns := [], harness := (true, "216985a5a7d682ced2d091501869f5c22336f03f2a6cd0e0075ca2395b304cdf"), looks := false }, kinds := [], alts := [], laidByText := true, laidKinds := [.data, .data, .data, .data, .data, .pinned], laidTests := true, laidLooks := .later }
def TapeCutOffCardSaid : Prop := Claim7.holds Tryz.pinned (.plain (OpenSpec.ofChange tapeCutOffSpec)) tapeCutOffCard

/-- THE TIED CARD OF 'mosaiclaw32.TapeMerges'. -/
def tapeMergesCard : Claim7 := { stood := { row := tapeMergesRow, standIns := [], harness := (true, "216985a5a7d682ced2d091501869f5c22336f03f2a6cd0e0075ca2395b304cdf"), looks := false }, kinds := [], alts := [], laidByText := true, laidKinds := [.data, .data, .data, .data, .data, .pinned], laidTests := true, laidLooks := .later }
def TapeMergesCardSaid : Prop := Claim7.holds Tryz.pinned (.plain (OpenSpec.ofChange tapeMergesSpec)) tapeMergesCard

/-- THE TIED CARD OF 'mosaiclaw32.TapeMemory'. -/
def tapeMemoryCard : Claim7 := { stood := { row := tapeMemoryRow, standIns := [], harness := (true, "216985a5a7d682ced2d091501869f5c22336f03f2a6cd0e0075ca2395b304cdf"), looks := false }, kinds := [], alts := [], laidByText := true, laidKinds := [.data, .data, .data, .data, .data, .pinned], laidTests := true, laidLooks := .later }
def TapeMemoryCardSaid : Prop := Claim7.holds Tryz.pinned (.plain (OpenSpec.ofChange tapeMemorySpec)) tapeMemoryCard

/-- THE SECOND FORM's CARD OF 'mosaiclaw32.TapeLays'. -/
def tapeLaysUptoCard : Claim7 := { stood := { row := tapeLaysUptoRow, standIns := [], harness := (true, "216985a5a7d682ced2d091501869f5c22336f03f2a6cd0e0075ca2395b304cdf"), looks := false }, kinds := [], alts := [], laidByText := true, laidKinds := [.data, .data, .data, .data, .data, .pinned], laidTests := true, laidLooks := .later }
def TapeLaysUptoCardSaid : Prop := Claim7.holds Tryz.pinned (.plain (OpenSpec.upto tapeLaysSpec)) tapeLaysUptoCard

/-- THE SECOND FORM's CARD OF 'mosaiclaw32.TapeReads'. -/
def tapeReadsUptoCard : Claim7 := { stood := { row := tapeReadsUptoRow, standIns := [], harness := (true, "216985a5a7d682ced2d091501869f5c22336f03f2a6cd0e0075ca2395b304cdf"), looks := false }, kinds := [], alts := [], laidByText := true, laidKinds := [.data, .data, .data, .data, .data, .pinned], laidTests := true, laidLooks := .later }
def TapeReadsUptoCardSaid : Prop := Claim7.holds Tryz.pinned (.plain (OpenSpec.upto tapeReadsSpec)) tapeReadsUptoCard

/-- THE SECOND FORM's CARD OF 'mosaiclaw32.TapeBack'. -/
def tapeBackUptoCard : Claim7 := { stood := { row := tapeBackUptoRow, standIns := [], harness := (true, "216985a5a7d682ced2d091501869f5c22336f03f2a6cd0e0075ca2395b304cdf"), looks := false }, kinds := [], alts := [], laidByText := true, laidKinds := [.data, .data, .data, .data, .data, .pinned], laidTests := true, laidLooks := .later }
def TapeBackUptoCardSaid : Prop := Claim7.holds Tryz.pinned (.plain (OpenSpec.upto tapeBackSpec)) tapeBackUptoCard

/-- THE SECOND FORM's CARD OF 'mosaiclaw32.TapeCutOff'. -/
def tapeCutOffUptoCard : Claim7 := { stood := { row := tapeCutOffUptoRow, standIns := [], harness := (true, "216985a5a7d682ced2d091501869f5c22336f03f2a6cd0e0075ca2395b304cdf"), looks := false }, kinds := [], alts := [], laidByText := true, laidKinds := [.data, .data, .data, .data, .data, .pinned], laidTests := true, laidLooks := .later }
def TapeCutOffUptoCardSaid : Prop := Claim7.holds Tryz.pinned (.plain (OpenSpec.upto tapeCutOffSpec)) tapeCutOffUptoCard

/-- THE SECOND FORM's CARD OF 'mosaiclaw32.TapeMerges'. -/
def tapeMergesUptoCard : Claim7 := { stood := { row := tapeMergesUptoRow, standIns := [], harness := (true, "216985a5a7d682ced2d091501869f5c22336f03f2a6cd0e0075ca2395b304cdf"), looks := false }, kinds := [], alts := [], laidByText := true, laidKinds := [.data, .data, .data, .data, .data, .pinned], laidTests := true, laidLooks := .later }
def TapeMergesUptoCardSaid : Prop := Claim7.holds Tryz.pinned (.plain (OpenSpec.upto tapeMergesSpec)) tapeMergesUptoCard

/-- THE SECOND FORM's CARD OF 'mosaiclaw32.TapeMemory'. -/
def tapeMemoryUptoCard : Claim7 := { stood := { row := tapeMemoryUptoRow, standIns := [], harness := (true, "216985a5a7d682ced2d091501869f5c22336f03f2a6cd0e0075ca2395b304cdf"), looks := false }, kinds := [], alts := [], laidByText := true, laidKinds := [.data, .data, .data, .data, .data, .pinned], laidTests := true, laidLooks := .later }
def TapeMemoryUptoCardSaid : Prop := Claim7.holds Tryz.pinned (.plain (OpenSpec.upto tapeMemorySpec)) tapeMemoryUptoCard
end Rows
end Go.Proofs.YtpciggnanlflkaaGreatDoor
