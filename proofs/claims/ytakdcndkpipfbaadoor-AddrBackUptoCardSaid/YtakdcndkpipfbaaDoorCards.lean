/-
  DERIVED. GIVEN WITH THE SEED: THE CARDS: each row of YtakdcndkpipfbaaDoorRows.lean that lists a variable, with what it lists TIED to the program's text (the seventh form; the later family's looks); each row that meets fmt, with fmt's text TOLD by the authors' own Lean function (tested against real Go, not proved from fmt's source: count such statements apart). THE CARD IS WHAT COUNTS. Prove the row's statement (the work); the ties are given (YtakdcndkpipfbaaDoorTie.lean); close each card by the builder's one call (the guide's Derived/Test/ToyasCard.lean, 'card_holds'). Laid BY PROGRAM, IN A SANDBOX (cutbox-door.mjs). By AI agents, Wed Nov 11 2026. No macro, syntax, notation, axiom, sorry.
-/
import Derived.Test.YtakdcndkpipfbaaDoorRows
import GoSem.ClaimSeven
namespace Go.Proofs.YtakdcndkpipfbaaDoor
namespace Rows

/-- THE TIED CARD OF 'mosaiclaw03.AddrAsks'. -/
def addrAsksCard : Claim7 := { stood := { row := addrAsksRow, standIns := [], harness := (true, "8a64299ddf445cfed5cdaa959fca81eacd4c23143392e9aad84a78afc8ca3213"), looks := false }, kinds := [], alts := [], laidByText := true, laidKinds := [.data, .data, .data, .data, .pinned], laidTests := true, laidLooks := .later }
def AddrAsksCardSaid : Prop := Claim7.holds Tryd.pinned (.plain (OpenSpec.ofChange addrAsksSpec)) addrAsksCard

/-- THE TIED CARD OF 'mosaiclaw03.AddrParses'. -/
def addrParsesCard : Claim7 := { stood := { row := addrParsesRow, standIns := [], harness := (true, "8a64299ddf445cfed5cdaa959fca81eacd4c23143392e9aad84a78afc8ca3213"), looks := false }, kinds := [], alts := [], laidByText := true, laidKinds := [.data, .data, .data, .data, .pinned], laidTests := true, laidLooks := .later }
def AddrParsesCardSaid : Prop := Claim7.holds Tryd.pinned (.plain (OpenSpec.ofChange addrParsesSpec)) addrParsesCard

/-- THE TIED CARD OF 'mosaiclaw03.AddrBack'. -/
def addrBackCard : Claim7 := { stood := { row := addrBackRow, standIns := [], harness := (true, "8a64299ddf445cfed5cdaa959fca81eacd4c23143392e9aad84a78afc8ca3213"), looks := false }, kinds := [], alts := [], laidByText := true, laidKinds := [.data, .data, .data, .data, .pinned], laidTests := true, laidLooks := .later }
def AddrBackCardSaid : Prop := Claim7.holds Tryd.pinned (.plain (OpenSpec.ofChange addrBackSpec)) addrBackCard

/-- THE TIED CARD OF 'mosaiclaw03.AddrOrder'. -/
def addrOrderCard : Claim7 := { stood := { row := addrOrderRow, standIns := [], harness := (true, "8a64299ddf445cfed5cdaa959fca81eacd4c23143392e9aad84a78afc8ca3213"), looks := false }, kinds := [], alts := [], laidByText := true, laidKinds := [.data, .data, .data, .data, .pinned], laidTests := true, laidLooks := .later }
def AddrOrderCardSaid : Prop := Claim7.holds Tryd.pinned (.plain (OpenSpec.ofChange addrOrderSpec)) addrOrderCard

/-- THE TIED CARD OF 'mosaiclaw03.AddrNets'. -/
def addrNetsCard : Claim7 := { stood := { row := addrNetsRow, standIns := [], harness := (true, "8a64299ddf445cfed5cdaa959fca81eacd4c23143392e9aad84a78afc8ca3213"), looks := false }, kinds := [], alts := [], laidByText := true, laidKinds := [.data, .data, .data, .data, .pinned], laidTests := true, laidLooks := .later }
def AddrNetsCardSaid : Prop := Claim7.holds Tryd.pinned (.plain (OpenSpec.ofChange addrNetsSpec)) addrNetsCard

/-- THE TIED CARD OF 'mosaiclaw03.AddrKinds'. -/
def addrKindsCard : Claim7 := { stood := { row := addrKindsRow, standIns := [], harness := (true, "8a64299ddf445cfed5cdaa959fca81eacd4c23143392e9aad84a78afc8ca3213"), looks := false }, kinds := [], alts := [], laidByText := true, laidKinds := [.data, .data, .data, .data, .pinned], laidTests := true, laidLooks := .later }
def AddrKindsCardSaid : Prop := Claim7.holds Tryd.pinned (.plain (OpenSpec.ofChange addrKindsSpec)) addrKindsCard

/-- THE SECOND FORM's CARD OF 'mosaiclaw03.AddrAsks'. -/
def addrAsksUptoCard : Claim7 := { stood := { row := addrAsksUptoRow, standIns := [], harness := (true, "8a64299ddf445cfed5cdaa959fca81eacd4c23143392e9aad84a78afc8ca3213"), looks := false }, kinds := [], alts := [], laidByText := true, laidKinds := [.data, .data, .data, .data, .pinned], laidTests := true, laidLooks := .later }
def AddrAsksUptoCardSaid : Prop := Claim7.holds Tryd.pinned (.plain (OpenSpec.upto addrAsksSpec)) addrAsksUptoCard

/-- THE SECOND FORM's CARD OF 'mosaiclaw03.AddrParses'. -/
def addrParsesUptoCard : Claim7 := { stood := { row := addrParsesUptoRow, standIns := [], harness := (true, "8a64299ddf445cfed5cdaa959fca81eacd4c23143392e9aad84a78afc8ca3213"), looks := false }, kinds := [], alts := [], laidByText := true, laidKinds := [.data, .data, .data, .data, .pinned], laidTests := true, laidLooks := .later }
def AddrParsesUptoCardSaid : Prop := Claim7.holds Tryd.pinned (.plain (OpenSpec.upto addrParsesSpec)) addrParsesUptoCard

/-- THE SECOND FORM's CARD OF 'mosaiclaw03.AddrBack'. -/
def addrBackUptoCard : Claim7 := { stood := { row := addrBackUptoRow, standIns := [], harness := (true, "8a64299ddf445cfed5cdaa959fca81eacd4c23143392e9aad84a78afc8ca3213"), looks := false }, kinds := [], alts := [], laidByText := true, laidKinds := [.data, .data, .data, .data, .pinned], laidTests := true, laidLooks := .later }
def AddrBackUptoCardSaid : Prop := Claim7.holds Tryd.pinned (.plain (OpenSpec.upto addrBackSpec)) addrBackUptoCard

/-- THE SECOND FORM's CARD OF 'mosaiclaw03.AddrOrder'. -/
def addrOrderUptoCard : Claim7 := { stood := { row := addrOrderUptoRow, standIns := [], harness := (true, "8a64299ddf445cfed5cdaa959fca81eacd4c23143392e9aad84a78afc8ca3213"), looks := false }, kinds := [], alts := [], laidByText := true, laidKinds := [.data, .data, .data, .data, .pinned], laidTests := true, laidLooks := .later }
def AddrOrderUptoCardSaid : Prop := Claim7.holds Tryd.pinned (.plain (OpenSpec.upto addrOrderSpec)) addrOrderUptoCard

/-- THE SECOND FORM's CARD OF 'mosaiclaw03.AddrNets'. -/
def addrNetsUptoCard : Claim7 := { stood := { row := addrNetsUptoRow, standIns := [], harness := (true, "8a64299ddf445cfed5cdaa959fca81eacd4c23143392e9aad84a78afc8ca3213"), looks := false }, kinds := [], alts := [], laidByText := true, laidKinds := [.data, .data, .data, .data, .pinned], laidTests := true, laidLooks := .later }
def AddrNetsUptoCardSaid : Prop := Claim7.holds Tryd.pinned (.plain (OpenSpec.upto addrNetsSpec)) addrNetsUptoCard

/-- THE SECOND FORM's CARD OF 'mosaiclaw03.AddrKinds'. -/
def addrKindsUptoCard : Claim7 := { stood := { row := addrKindsUptoRow, standIns := [], harness := (true, "8a64299ddf445cfed5cdaa959fca81eacd4c23143392e9aad84a78afc8ca3213"), looks := false }, kinds := [], alts := [], laidByText := true, laidKinds := [.data, .data, .data, .data, .pinned], laidTests := true, laidLooks := .later }
def AddrKindsUptoCardSaid : Prop := Claim7.holds Tryd.pinned (.plain (OpenSpec.upto addrKindsSpec)) addrKindsUptoCard
end Rows
end Go.Proofs.YtakdcndkpipfbaaDoor
