/-
  DERIVED. GIVEN WITH THE SEED: THE CARDS: each row of YtfpikgkbccgchaaGreatDoorRows.lean that lists a variable, with what it lists TIED to the program's text (the seventh form; the later family's looks); each row that meets fmt, with fmt's text TOLD by the authors' own Lean function (tested against real Go, not proved from fmt's source: count such statements apart). THE CARD IS WHAT COUNTS. Prove the row's statement (the work); the ties are given (YtfpikgkbccgchaaGreatDoorTie.lean); close each card by the builder's one call (the guide's Derived/Test/ToyasCard.lean, 'card_holds'). Laid BY PROGRAM, IN A SANDBOX (cutbox-door.mjs). By AI agents, Wed Nov 11 2026. No macro, syntax, notation, axiom, sorry.
-/
import Derived.Test.YtfpikgkbccgchaaGreatDoorRows
import GoSem.ClaimSeven
namespace Go.Proofs.YtfpikgkbccgchaaGreatDoor
namespace Rows

/-- THE TIED CARD OF 'carfaxlaw19.WorldMakes'. -/
def worldMakesCard : Claim7 := { stood := { row := worldMakesRow, standIns := [], harness := (true, "4e20bcb99c196db2a987d5e84136eb180e11d5d65591dab4a96f3b3f7412824b"), looks := false }, kinds := [], alts := [], laidByText := true, laidKinds := [.data, .pinned], laidTests := true, laidLooks := .later }
def WorldMakesCardSaid : Prop := Claim7.holds Tryz.pinned (.plain (OpenSpec.ofChange worldMakesSpec)) worldMakesCard

/-- THE TIED CARD OF 'carfaxlaw19.WorldPods'. -/
def worldPodsCard : Claim7 := { stood := { row := worldPodsRow, standIns := [], harness := (true, "4e20bcb99c196db2a987d5e84136eb180e11d5d65591dab4a96f3b3f7412824b"), looks := false }, kinds := [], alts := [], laidByText := true, laidKinds := [.data, .pinned], laidTests := true, laidLooks := .later }
def WorldPodsCardSaid : Prop := Claim7.holds Tryz.pinned (.plain (OpenSpec.ofChange worldPodsSpec)) worldPodsCard

/-- THE TIED CARD OF 'carfaxlaw19.WorldPlays'. -/
def worldPlaysCard : Claim7 := { stood := { row := worldPlaysRow, standIns := [], harness := (true, "4e20bcb99c196db2a987d5e84136eb180e11d5d65591dab4a96f3b3f7412824b"), looks := false }, kinds := [], alts := [], laidByText := true, laidKinds := [.data, .pinned], laidTests := true, laidLooks := .later }
def WorldPlaysCardSaid : Prop := Claim7.holds Tryz.pinned (.plain (OpenSpec.ofChange worldPlaysSpec)) worldPlaysCard

/-- THE TIED CARD OF 'carfaxlaw19.WorldNil'. -/
def worldNilCard : Claim7 := { stood := { row := worldNilRow, standIns := [], harness := (true, "4e20bcb99c196db2a987d5e84136eb180e11d5d65591dab4a96f3b3f7412824b"), looks := false }, kinds := [], alts := [], laidByText := true, laidKinds := [.data, .pinned], laidTests := true, laidLooks := .later }
def WorldNilCardSaid : Prop := Claim7.holds Tryz.pinned (.plain (OpenSpec.ofChange worldNilSpec)) worldNilCard

/-- THE TIED CARD OF 'carfaxlaw19.WorldApart'. -/
def worldApartCard : Claim7 := { stood := { row := worldApartRow, standIns := [], harness := (true, "4e20bcb99c196db2a987d5e84136eb180e11d5d65591dab4a96f3b3f7412824b"), looks := false }, kinds := [], alts := [], laidByText := true, laidKinds := [.data, .pinned], laidTests := true, laidLooks := .later }
def WorldApartCardSaid : Prop := Claim7.holds Tryz.pinned (.plain (OpenSpec.ofChange worldApartSpec)) worldApartCard

/-- THE SECOND FORM's CARD OF 'carfaxlaw19.WorldMakes'. -/
def worldMakesUptoCard : Claim7 := { stood := { row := worldMakesUptoRow, standIns := [], harness := (true, "4e20bcb99c196db2a987d5e84136eb180e11d5d65591dab4a96f3b3f7412824b"), looks := false }, kinds := [], alts := [], laidByText := true, laidKinds := [.data, .pinned], laidTests := true, laidLooks := .later }
def WorldMakesUptoCardSaid : Prop := Claim7.holds Tryz.pinned (.plain (OpenSpec.upto worldMakesSpec)) worldMakesUptoCard

/-- THE SECOND FORM's CARD OF 'carfaxlaw19.WorldPods'. -/
def worldPodsUptoCard : Claim7 := { stood := { row := worldPodsUptoRow, standIns := [], harness := (true, "4e20bcb99c196db2a987d5e84136eb180e11d5d65591dab4a96f3b3f7412824b"), looks := false }, kinds := [], alts := [], laidByText := true, laidKinds := [.data, .pinned], laidTests := true, laidLooks := .later }
def WorldPodsUptoCardSaid : Prop := Claim7.holds Tryz.pinned (.plain (OpenSpec.upto worldPodsSpec)) worldPodsUptoCard

/-- THE SECOND FORM's CARD OF 'carfaxlaw19.WorldPlays'. -/
def worldPlaysUptoCard : Claim7 := { stood := { row := worldPlaysUptoRow, standIns := [], harness := (true, "4e20bcb99c196db2a987d5e84136eb180e11d5d65591dab4a96f3b3f7412824b"), looks := false }, kinds := [], alts := [], laidByText := true, laidKinds := [.data, .pinned], laidTests := true, laidLooks := .later }
def WorldPlaysUptoCardSaid : Prop := Claim7.holds Tryz.pinned (.plain (OpenSpec.upto worldPlaysSpec)) worldPlaysUptoCard

/-- THE SECOND FORM's CARD OF 'carfaxlaw19.WorldNil'. -/
def worldNilUptoCard : Claim7 := { stood := { row := worldNilUptoRow, standIns := [], harness := (true, "4e20bcb99c196db2a987d5e84136eb180e11d5d65591dab4a96f3b3f7412824b"), looks := false }, kinds := [], alts := [], laidByText := true, laidKinds := [.data, .pinned], laidTests := true, laidLooks := .later }
def WorldNilUptoCardSaid : Prop := Claim7.holds Tryz.pinned (.plain (OpenSpec.upto worldNilSpec)) worldNilUptoCard

/-- THE SECOND FORM's CARD OF 'carfaxlaw19.WorldApart'. -/
def worldApartUptoCard : Claim7 := { stood := { row := worldApartUptoRow, standIns := [], harness := (true, "4e20bcb99c196db2a987d5e84136eb180e11d5d65591dab4a96f3b3f7412824b"), looks := false }, kinds := [], alts := [], laidByText := true, laidKinds := [.data, .pinned], laidTests := true, laidLooks := .later }
def WorldApartUptoCardSaid : Prop := Claim7.holds Tryz.pinned (.plain (OpenSpec.upto worldApartSpec)) worldApartUptoCard
end Rows
end Go.Proofs.YtfpikgkbccgchaaGreatDoor
