/-
  DERIVED. GIVEN WITH THE SEED: THE CARDS: each row of YtmobicccdmfnaaaDoorRows.lean that lists a variable, with what it lists TIED to the program's text (the seventh form; the later family's looks); each row that meets fmt, with fmt's text TOLD by the authors' own Lean function (tested against real Go, not proved from fmt's source: count such statements apart). THE CARD IS WHAT COUNTS. Prove the row's statement (the work); the ties are given (YtmobicccdmfnaaaDoorTie.lean); close each card by the builder's one call (the guide's Derived/Test/ToyasCard.lean, 'card_holds'). Laid BY PROGRAM, IN A SANDBOX (cutbox-door.mjs). By AI agents, Wed Nov 11 2026. No macro, syntax, notation, axiom, sorry.
-/
import Derived.Test.YtmobicccdmfnaaaDoorRows
import GoSem.ClaimSeven
namespace Go.Proofs.YtmobicccdmfnaaaDoor
namespace Rows

/-- THE TIED CARD OF 'alembiclaw3.NttBack'. -/
def nttBackCard : Claim7 := { stood := { row := nttBackRow, standIns := [], harness := (true, "a6b04118e74ccd1a7b3c98c8db7065abed2279cb92cc22a57139b44bc3788136"), looks := true }, kinds := [], alts := [], laidByText := true, laidKinds := [.sentinel, .sentinel], laidTests := true, laidLooks := .later }
def NttBackCardSaid : Prop := Claim7.holds Tryd.pinned (.plain (OpenSpec.ofChange nttBackSpec)) nttBackCard

/-- THE TIED CARD OF 'alembiclaw9.DrawSmall'. -/
def drawSmallCard : Claim7 := { stood := { row := drawSmallRow, standIns := [], harness := (true, "a6b04118e74ccd1a7b3c98c8db7065abed2279cb92cc22a57139b44bc3788136"), looks := true }, kinds := [], alts := [], laidByText := true, laidKinds := [.sentinel, .sentinel, .sentinel, .sentinel, .sentinel, .sentinel, .sentinel, .sentinel, .sentinel, .sentinel, .sentinel, .sentinel, .sentinel, .sentinel], laidTests := true, laidLooks := .later }
def DrawSmallCardSaid : Prop := Claim7.holds Tryd.pinned (.plain (OpenSpec.ofChange drawSmallSpec)) drawSmallCard

/-- THE TIED CARD OF 'alembiclaw11.WireSigs'. -/
def wireSigsCard : Claim7 := { stood := { row := wireSigsRow, standIns := [], harness := (true, "a6b04118e74ccd1a7b3c98c8db7065abed2279cb92cc22a57139b44bc3788136"), looks := true }, kinds := [], alts := [], laidByText := true, laidKinds := [.sentinel, .sentinel, .sentinel, .sentinel, .sentinel, .sentinel, .sentinel, .sentinel, .sentinel, .sentinel, .sentinel, .sentinel, .sentinel, .sentinel], laidTests := true, laidLooks := .later }
def WireSigsCardSaid : Prop := Claim7.holds Tryd.pinned (.plain (OpenSpec.ofChange wireSigsSpec)) wireSigsCard

/-- THE TIED CARD OF 'alembiclaw9.DrawBounds'. -/
def drawBoundsCard : Claim7 := { stood := { row := drawBoundsRow, standIns := [], harness := (true, "a6b04118e74ccd1a7b3c98c8db7065abed2279cb92cc22a57139b44bc3788136"), looks := true }, kinds := [], alts := [], laidByText := true, laidKinds := [.sentinel, .sentinel, .sentinel], laidTests := true, laidLooks := .later }
def DrawBoundsCardSaid : Prop := Claim7.holds Tryd.pinned (.plain (OpenSpec.ofChange drawBoundsSpec)) drawBoundsCard

/-- THE TIED CARD OF 'alembiclaw11.WireKeys'. -/
def wireKeysCard : Claim7 := { stood := { row := wireKeysRow, standIns := [], harness := (true, "a6b04118e74ccd1a7b3c98c8db7065abed2279cb92cc22a57139b44bc3788136"), looks := true }, kinds := [], alts := [], laidByText := true, laidKinds := [.sentinel, .sentinel, .sentinel, .sentinel, .sentinel, .sentinel, .sentinel, .sentinel, .sentinel, .sentinel, .sentinel, .sentinel, .sentinel, .sentinel], laidTests := true, laidLooks := .later }
def WireKeysCardSaid : Prop := Claim7.holds Tryd.pinned (.plain (OpenSpec.ofChange wireKeysSpec)) wireKeysCard

/-- THE TIED CARD OF 'alembiclaw11.WireBack'. -/
def wireBackCard : Claim7 := { stood := { row := wireBackRow, standIns := [], harness := (true, "a6b04118e74ccd1a7b3c98c8db7065abed2279cb92cc22a57139b44bc3788136"), looks := true }, kinds := [], alts := [], laidByText := true, laidKinds := [.sentinel, .sentinel, .sentinel, .sentinel], laidTests := true, laidLooks := .later }
def WireBackCardSaid : Prop := Claim7.holds Tryd.pinned (.plain (OpenSpec.ofChange wireBackSpec)) wireBackCard

/-- THE SECOND FORM's CARD OF 'alembiclaw3.NttBack'. -/
def nttBackUptoCard : Claim7 := { stood := { row := nttBackUptoRow, standIns := [], harness := (true, "a6b04118e74ccd1a7b3c98c8db7065abed2279cb92cc22a57139b44bc3788136"), looks := true }, kinds := [], alts := [], laidByText := true, laidKinds := [.sentinel, .sentinel], laidTests := true, laidLooks := .later }
def NttBackUptoCardSaid : Prop := Claim7.holds Tryd.pinned (.plain (OpenSpec.upto nttBackSpec)) nttBackUptoCard

/-- THE SECOND FORM's CARD OF 'alembiclaw9.DrawSmall'. -/
def drawSmallUptoCard : Claim7 := { stood := { row := drawSmallUptoRow, standIns := [], harness := (true, "a6b04118e74ccd1a7b3c98c8db7065abed2279cb92cc22a57139b44bc3788136"), looks := true }, kinds := [], alts := [], laidByText := true, laidKinds := [.sentinel, .sentinel, .sentinel, .sentinel, .sentinel, .sentinel, .sentinel, .sentinel, .sentinel, .sentinel, .sentinel, .sentinel, .sentinel, .sentinel], laidTests := true, laidLooks := .later }
def DrawSmallUptoCardSaid : Prop := Claim7.holds Tryd.pinned (.plain (OpenSpec.upto drawSmallSpec)) drawSmallUptoCard

/-- THE SECOND FORM's CARD OF 'alembiclaw11.WireSigs'. -/
def wireSigsUptoCard : Claim7 := { stood := { row := wireSigsUptoRow, standIns := [], harness := (true, "a6b04118e74ccd1a7b3c98c8db7065abed2279cb92cc22a57139b44bc3788136"), looks := true }, kinds := [], alts := [], laidByText := true, laidKinds := [.sentinel, .sentinel, .sentinel, .sentinel, .sentinel, .sentinel, .sentinel, .sentinel, .sentinel, .sentinel, .sentinel, .sentinel, .sentinel, .sentinel], laidTests := true, laidLooks := .later }
def WireSigsUptoCardSaid : Prop := Claim7.holds Tryd.pinned (.plain (OpenSpec.upto wireSigsSpec)) wireSigsUptoCard

/-- THE SECOND FORM's CARD OF 'alembiclaw9.DrawBounds'. -/
def drawBoundsUptoCard : Claim7 := { stood := { row := drawBoundsUptoRow, standIns := [], harness := (true, "a6b04118e74ccd1a7b3c98c8db7065abed2279cb92cc22a57139b44bc3788136"), looks := true }, kinds := [], alts := [], laidByText := true, laidKinds := [.sentinel, .sentinel, .sentinel], laidTests := true, laidLooks := .later }
def DrawBoundsUptoCardSaid : Prop := Claim7.holds Tryd.pinned (.plain (OpenSpec.upto drawBoundsSpec)) drawBoundsUptoCard

/-- THE SECOND FORM's CARD OF 'alembiclaw11.WireKeys'. -/
def wireKeysUptoCard : Claim7 := { stood := { row := wireKeysUptoRow, standIns := [], harness := (true, "a6b04118e74ccd1a7b3c98c8db7065abed2279cb92cc22a57139b44bc3788136"), looks := true }, kinds := [], alts := [], laidByText := true, laidKinds := [.sentinel, .sentinel, .sentinel, .sentinel, .sentinel, .sentinel, .sentinel, .sentinel, .sentinel, .sentinel, .sentinel, .sentinel, .sentinel, .sentinel], laidTests := true, laidLooks := .later }
def WireKeysUptoCardSaid : Prop := Claim7.holds Tryd.pinned (.plain (OpenSpec.upto wireKeysSpec)) wireKeysUptoCard

/-- THE SECOND FORM's CARD OF 'alembiclaw11.WireBack'. -/
def wireBackUptoCard : Claim7 := { stood := { row := wireBackUptoRow, standIns := [], harness := (true, "a6b04118e74ccd1a7b3c98c8db7065abed2279cb92cc22a57139b44bc3788136"), looks := true }, kinds := [], alts := [], laidByText := true, laidKinds := [.sentinel, .sentinel, .sentinel, .sentinel], laidTests := true, laidLooks := .later }
def WireBackUptoCardSaid : Prop := Claim7.holds Tryd.pinned (.plain (OpenSpec.upto wireBackSpec)) wireBackUptoCard
end Rows
end Go.Proofs.YtmobicccdmfnaaaDoor
