/-
  DERIVED. GIVEN WITH THE SEED: THE CARDS: each row of YtmipnicdlldjnaaGreatDoorRows.lean that lists a variable, with what it lists TIED to the program's text (the seventh form; the later family's looks); each row that meets fmt, with fmt's text TOLD by the authors' own Lean function (tested against real Go, not proved from fmt's source: count such statements apart). THE CARD IS WHAT COUNTS. Prove the row's statement (the work); the ties are given (YtmipnicdlldjnaaGreatDoorTie.lean); close each card by the builder's one call (the guide's Derived/Test/ToyasCard.lean, 'card_holds'). Laid BY PROGRAM, IN A SANDBOX (cutbox-door.mjs). By AI agents, Wed Nov 11 2026. No macro, syntax, notation, axiom, sorry.
-/
import Derived.Test.YtmipnicdlldjnaaGreatDoorRows
import GoSem.ClaimSeven
namespace Go.Proofs.YtmipnicdlldjnaaGreatDoor
namespace Rows

/-- THE TIED CARD OF 'carfaxlaw10.TripMakes'. -/
def tripMakesCard : Claim7 := { stood := { row := tripMakesRow, standIns := [], harness := (true, "1a4e2c15039e26fc216950bf5dcef3131f6dbf9bad7c741d251cb34f1691eb2a"), looks := false }, kinds := [], alts := [], laidByText := true, laidKinds := [.data, .pinned], laidTests := true, laidLooks := .later }
def TripMakesCardSaid : Prop := Claim7.holds Tryz.pinned (.plain (OpenSpec.ofChange tripMakesSpec)) tripMakesCard

/-- THE TIED CARD OF 'carfaxlaw10.TripRights'. -/
def tripRightsCard : Claim7 := { stood := { row := tripRightsRow, standIns := [], harness := (true, "1a4e2c15039e26fc216950bf5dcef3131f6dbf9bad7c741d251cb34f1691eb2a"), looks := false }, kinds := [], alts := [], laidByText := true, laidKinds := [.data, .pinned], laidTests := true, laidLooks := .later }
def TripRightsCardSaid : Prop := Claim7.holds Tryz.pinned (.plain (OpenSpec.ofChange tripRightsSpec)) tripRightsCard

/-- THE SECOND FORM's CARD OF 'carfaxlaw10.TripMakes'. -/
def tripMakesUptoCard : Claim7 := { stood := { row := tripMakesUptoRow, standIns := [], harness := (true, "1a4e2c15039e26fc216950bf5dcef3131f6dbf9bad7c741d251cb34f1691eb2a"), looks := false }, kinds := [], alts := [], laidByText := true, laidKinds := [.data, .pinned], laidTests := true, laidLooks := .later }
def TripMakesUptoCardSaid : Prop := Claim7.holds Tryz.pinned (.plain (OpenSpec.upto tripMakesSpec)) tripMakesUptoCard

/-- THE SECOND FORM's CARD OF 'carfaxlaw10.TripRights'. -/
def tripRightsUptoCard : Claim7 := { stood := { row := tripRightsUptoRow, standIns := [], harness := (true, "1a4e2c15039e26fc216950bf5dcef3131f6dbf9bad7c741d251cb34f1691eb2a"), looks := false }, kinds := [], alts := [], laidByText := true, laidKinds := [.data, .pinned], laidTests := true, laidLooks := .later }
def TripRightsUptoCardSaid : Prop := Claim7.holds Tryz.pinned (.plain (OpenSpec.upto tripRightsSpec)) tripRightsUptoCard
end Rows
end Go.Proofs.YtmipnicdlldjnaaGreatDoor
