/-
  DERIVED. GIVEN WITH THE SEED: THE CARDS: each row of YtolkkinophklcaaDoorRows.lean that lists a variable, with what it lists TIED to the program's text (the seventh form; the later family's looks); each row that meets fmt, with fmt's text TOLD by the authors' own Lean function (tested against real Go, not proved from fmt's source: count such statements apart). THE CARD IS WHAT COUNTS. Prove the row's statement (the work); the ties are given (YtolkkinophklcaaDoorTie.lean); close each card by the builder's one call (the guide's Derived/Test/ToyasCard.lean, 'card_holds'). Laid BY PROGRAM, IN A SANDBOX (cutbox-door.mjs). By AI agents, Wed Nov 11 2026. No macro, syntax, notation, axiom, sorry.
-/
import Derived.Test.YtolkkinophklcaaDoorRows
import GoSem.ClaimSeven
namespace Go.Proofs.YtolkkinophklcaaDoor
namespace Rows

/-- THE TIED CARD OF 'carfaxlaw03.FloorParses'. -/
def floorParsesCard : Claim7 := { stood := { row := floorParsesRow, standIns := [], harness := (true, "c2b86ddb55a5a884b34ffa451deaee961981f7f009c2cb75f2b9ed42657cd549"), looks := false }, kinds := [], alts := [], laidByText := true, laidKinds := [.data, .pinned], laidTests := true, laidLooks := .later }
def FloorParsesCardSaid : Prop := Claim7.holds Tryd.pinned (.plain (OpenSpec.ofChange floorParsesSpec)) floorParsesCard

/-- THE TIED CARD OF 'carfaxlaw03.FloorNear'. -/
def floorNearCard : Claim7 := { stood := { row := floorNearRow, standIns := [], harness := (true, "c2b86ddb55a5a884b34ffa451deaee961981f7f009c2cb75f2b9ed42657cd549"), looks := false }, kinds := [], alts := [], laidByText := true, laidKinds := [.data, .pinned], laidTests := true, laidLooks := .later }
def FloorNearCardSaid : Prop := Claim7.holds Tryd.pinned (.plain (OpenSpec.ofChange floorNearSpec)) floorNearCard

/-- THE TIED CARD OF 'carfaxlaw03.FloorAsks'. -/
def floorAsksCard : Claim7 := { stood := { row := floorAsksRow, standIns := [], harness := (true, "c2b86ddb55a5a884b34ffa451deaee961981f7f009c2cb75f2b9ed42657cd549"), looks := false }, kinds := [], alts := [], laidByText := true, laidKinds := [.data, .pinned], laidTests := true, laidLooks := .later }
def FloorAsksCardSaid : Prop := Claim7.holds Tryd.pinned (.plain (OpenSpec.ofChange floorAsksSpec)) floorAsksCard

/-- THE TIED CARD OF 'carfaxlaw03.FloorReached'. -/
def floorReachedCard : Claim7 := { stood := { row := floorReachedRow, standIns := [], harness := (true, "c2b86ddb55a5a884b34ffa451deaee961981f7f009c2cb75f2b9ed42657cd549"), looks := false }, kinds := [], alts := [], laidByText := true, laidKinds := [.data, .pinned], laidTests := true, laidLooks := .later }
def FloorReachedCardSaid : Prop := Claim7.holds Tryd.pinned (.plain (OpenSpec.ofChange floorReachedSpec)) floorReachedCard

/-- THE TIED CARD OF 'carfaxlaw03.FloorCounts'. -/
def floorCountsCard : Claim7 := { stood := { row := floorCountsRow, standIns := [], harness := (true, "c2b86ddb55a5a884b34ffa451deaee961981f7f009c2cb75f2b9ed42657cd549"), looks := false }, kinds := [], alts := [], laidByText := true, laidKinds := [.data, .pinned], laidTests := true, laidLooks := .later }
def FloorCountsCardSaid : Prop := Claim7.holds Tryd.pinned (.plain (OpenSpec.ofChange floorCountsSpec)) floorCountsCard

/-- THE TIED CARD OF 'carfaxlaw03.FloorRights'. -/
def floorRightsCard : Claim7 := { stood := { row := floorRightsRow, standIns := [], harness := (true, "c2b86ddb55a5a884b34ffa451deaee961981f7f009c2cb75f2b9ed42657cd549"), looks := false }, kinds := [], alts := [], laidByText := true, laidKinds := [.data, .sentinel, .pinned], laidTests := true, laidLooks := .later }
def FloorRightsCardSaid : Prop := Claim7.holds Tryd.pinned (.plain (OpenSpec.ofChange floorRightsSpec)) floorRightsCard

/-- THE TIED CARD OF 'carfaxlaw03.FloorBack'. -/
def floorBackCard : Claim7 := { stood := { row := floorBackRow, standIns := [], harness := (true, "c2b86ddb55a5a884b34ffa451deaee961981f7f009c2cb75f2b9ed42657cd549"), looks := false }, kinds := [], alts := [], laidByText := true, laidKinds := [.data, .sentinel, .pinned], laidTests := true, laidLooks := .later }
def FloorBackCardSaid : Prop := Claim7.holds Tryd.pinned (.plain (OpenSpec.ofChange floorBackSpec)) floorBackCard

/-- THE SECOND FORM's CARD OF 'carfaxlaw03.FloorParses'. -/
def floorParsesUptoCard : Claim7 := { stood := { row := floorParsesUptoRow, standIns := [], harness := (true, "c2b86ddb55a5a884b34ffa451deaee961981f7f009c2cb75f2b9ed42657cd549"), looks := false }, kinds := [], alts := [], laidByText := true, laidKinds := [.data, .pinned], laidTests := true, laidLooks := .later }
def FloorParsesUptoCardSaid : Prop := Claim7.holds Tryd.pinned (.plain (OpenSpec.upto floorParsesSpec)) floorParsesUptoCard

/-- THE SECOND FORM's CARD OF 'carfaxlaw03.FloorNear'. -/
def floorNearUptoCard : Claim7 := { stood := { row := floorNearUptoRow, standIns := [], harness := (true, "c2b86ddb55a5a884b34ffa451deaee961981f7f009c2cb75f2b9ed42657cd549"), looks := false }, kinds := [], alts := [], laidByText := true, laidKinds := [.data, .pinned], laidTests := true, laidLooks := .later }
def FloorNearUptoCardSaid : Prop := Claim7.holds Tryd.pinned (.plain (OpenSpec.upto floorNearSpec)) floorNearUptoCard

/-- THE SECOND FORM's CARD OF 'carfaxlaw03.FloorAsks'. -/
def floorAsksUptoCard : Claim7 := { stood := { row := floorAsksUptoRow, standIns := [], harness := (true, "c2b86ddb55a5a884b34ffa451deaee961981f7f009c2cb75f2b9ed42657cd549"), looks := false }, kinds := [], alts := [], laidByText := true, laidKinds := [.data, .pinned], laidTests := true, laidLooks := .later }
def FloorAsksUptoCardSaid : Prop := Claim7.holds Tryd.pinned (.plain (OpenSpec.upto floorAsksSpec)) floorAsksUptoCard

/-- THE SECOND FORM's CARD OF 'carfaxlaw03.FloorReached'. -/
def floorReachedUptoCard : Claim7 := { stood := { row := floorReachedUptoRow, standIns := [], harness := (true, "c2b86ddb55a5a884b34ffa451deaee961981f7f009c2cb75f2b9ed42657cd549"), looks := false }, kinds := [], alts := [], laidByText := true, laidKinds := [.data, .pinned], laidTests := true, laidLooks := .later }
def FloorReachedUptoCardSaid : Prop := Claim7.holds Tryd.pinned (.plain (OpenSpec.upto floorReachedSpec)) floorReachedUptoCard

/-- THE SECOND FORM's CARD OF 'carfaxlaw03.FloorCounts'. -/
def floorCountsUptoCard : Claim7 := { stood := { row := floorCountsUptoRow, standIns := [], harness := (true, "c2b86ddb55a5a884b34ffa451deaee961981f7f009c2cb75f2b9ed42657cd549"), looks := false }, kinds := [], alts := [], laidByText := true, laidKinds := [.data, .pinned], laidTests := true, laidLooks := .later }
def FloorCountsUptoCardSaid : Prop := Claim7.holds Tryd.pinned (.plain (OpenSpec.upto floorCountsSpec)) floorCountsUptoCard

/-- THE SECOND FORM's CARD OF 'carfaxlaw03.FloorRights'. -/
def floorRightsUptoCard : Claim7 := { stood := { row := floorRightsUptoRow, standIns := [], harness := (true, "c2b86ddb55a5a884b34ffa451deaee961981f7f009c2cb75f2b9ed42657cd549"), looks := false }, kinds := [], alts := [], laidByText := true, laidKinds := [.data, .sentinel, .pinned], laidTests := true, laidLooks := .later }
def FloorRightsUptoCardSaid : Prop := Claim7.holds Tryd.pinned (.plain (OpenSpec.upto floorRightsSpec)) floorRightsUptoCard

/-- THE SECOND FORM's CARD OF 'carfaxlaw03.FloorBack'. -/
def floorBackUptoCard : Claim7 := { stood := { row := floorBackUptoRow, standIns := [], harness := (true, "c2b86ddb55a5a884b34ffa451deaee961981f7f009c2cb75f2b9ed42657cd549"), looks := false }, kinds := [], alts := [], laidByText := true, laidKinds := [.data, .sentinel, .pinned], laidTests := true, laidLooks := .later }
def FloorBackUptoCardSaid : Prop := Claim7.holds Tryd.pinned (.plain (OpenSpec.upto floorBackSpec)) floorBackUptoCard
end Rows
end Go.Proofs.YtolkkinophklcaaDoor
