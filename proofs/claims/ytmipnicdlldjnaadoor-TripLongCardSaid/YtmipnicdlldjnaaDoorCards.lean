/-
  DERIVED. GIVEN WITH THE SEED: THE CARDS: each row of YtmipnicdlldjnaaDoorRows.lean that lists a variable, with what it lists TIED to the program's text (the seventh form; the later family's looks); each row that meets fmt, with fmt's text TOLD by the authors' own Lean function (tested against real Go, not proved from fmt's source: count such statements apart). THE CARD IS WHAT COUNTS. Prove the row's statement (the work); the ties are given (YtmipnicdlldjnaaDoorTie.lean); close each card by the builder's one call (the guide's Derived/Test/ToyasCard.lean, 'card_holds'). Laid BY PROGRAM, IN A SANDBOX (cutbox-door.mjs). By AI agents, Wed Nov 11 2026. No macro, syntax, notation, axiom, sorry.
-/
import Derived.Test.YtmipnicdlldjnaaDoorRows
import GoSem.ClaimSeven
namespace Go.Proofs.YtmipnicdlldjnaaDoor
namespace Rows

/-- THE TIED CARD OF 'carfaxlaw10.TripGoes'. -/
def tripGoesCard : Claim7 := { stood := { row := tripGoesRow, standIns := [], harness := (true, "701139704bd1a411005478e5b4c25fdcddcc265b4974bd51a6fc91a981aed8f6"), looks := false }, kinds := [], alts := [], laidByText := true, laidKinds := [.data, .pinned], laidTests := true, laidLooks := .later }
def TripGoesCardSaid : Prop := Claim7.holds Tryd.pinned (.plain (OpenSpec.ofChange tripGoesSpec)) tripGoesCard

/-- THE TIED CARD OF 'carfaxlaw10.TripLong'. -/
def tripLongCard : Claim7 := { stood := { row := tripLongRow, standIns := [], harness := (true, "701139704bd1a411005478e5b4c25fdcddcc265b4974bd51a6fc91a981aed8f6"), looks := false }, kinds := [], alts := [], laidByText := true, laidKinds := [.data, .pinned], laidTests := true, laidLooks := .later }
def TripLongCardSaid : Prop := Claim7.holds Tryd.pinned (.plain (OpenSpec.ofChange tripLongSpec)) tripLongCard

/-- THE TIED CARD OF 'carfaxlaw10.TripRight'. -/
def tripRightCard : Claim7 := { stood := { row := tripRightRow, standIns := [], harness := (true, "701139704bd1a411005478e5b4c25fdcddcc265b4974bd51a6fc91a981aed8f6"), looks := false }, kinds := [], alts := [], laidByText := true, laidKinds := [.data, .pinned], laidTests := true, laidLooks := .later }
def TripRightCardSaid : Prop := Claim7.holds Tryd.pinned (.plain (OpenSpec.ofChange tripRightSpec)) tripRightCard

/-- THE TIED CARD OF 'carfaxlaw10.TripLeft'. -/
def tripLeftCard : Claim7 := { stood := { row := tripLeftRow, standIns := [], harness := (true, "701139704bd1a411005478e5b4c25fdcddcc265b4974bd51a6fc91a981aed8f6"), looks := false }, kinds := [], alts := [], laidByText := true, laidKinds := [.data, .pinned], laidTests := true, laidLooks := .later }
def TripLeftCardSaid : Prop := Claim7.holds Tryd.pinned (.plain (OpenSpec.ofChange tripLeftSpec)) tripLeftCard

/-- THE SECOND FORM's CARD OF 'carfaxlaw10.TripGoes'. -/
def tripGoesUptoCard : Claim7 := { stood := { row := tripGoesUptoRow, standIns := [], harness := (true, "701139704bd1a411005478e5b4c25fdcddcc265b4974bd51a6fc91a981aed8f6"), looks := false }, kinds := [], alts := [], laidByText := true, laidKinds := [.data, .pinned], laidTests := true, laidLooks := .later }
def TripGoesUptoCardSaid : Prop := Claim7.holds Tryd.pinned (.plain (OpenSpec.upto tripGoesSpec)) tripGoesUptoCard

/-- THE SECOND FORM's CARD OF 'carfaxlaw10.TripLong'. -/
def tripLongUptoCard : Claim7 := { stood := { row := tripLongUptoRow, standIns := [], harness := (true, "701139704bd1a411005478e5b4c25fdcddcc265b4974bd51a6fc91a981aed8f6"), looks := false }, kinds := [], alts := [], laidByText := true, laidKinds := [.data, .pinned], laidTests := true, laidLooks := .later }
def TripLongUptoCardSaid : Prop := Claim7.holds Tryd.pinned (.plain (OpenSpec.upto tripLongSpec)) tripLongUptoCard

/-- THE SECOND FORM's CARD OF 'carfaxlaw10.TripRight'. -/
def tripRightUptoCard : Claim7 := { stood := { row := tripRightUptoRow, standIns := [], harness := (true, "701139704bd1a411005478e5b4c25fdcddcc265b4974bd51a6fc91a981aed8f6"), looks := false }, kinds := [], alts := [], laidByText := true, laidKinds := [.data, .pinned], laidTests := true, laidLooks := .later }
def TripRightUptoCardSaid : Prop := Claim7.holds Tryd.pinned (.plain (OpenSpec.upto tripRightSpec)) tripRightUptoCard

/-- THE SECOND FORM's CARD OF 'carfaxlaw10.TripLeft'. -/
def tripLeftUptoCard : Claim7 := { stood := { row := tripLeftUptoRow, standIns := [], harness := (true, "701139704bd1a411005478e5b4c25fdcddcc265b4974bd51a6fc91a981aed8f6"), looks := false }, kinds := [], alts := [], laidByText := true, laidKinds := [.data, .pinned], laidTests := true, laidLooks := .later }
def TripLeftUptoCardSaid : Prop := Claim7.holds Tryd.pinned (.plain (OpenSpec.upto tripLeftSpec)) tripLeftUptoCard
end Rows
end Go.Proofs.YtmipnicdlldjnaaDoor
