/-
  DERIVED. GIVEN WITH THE SEED: THE CARDS: each row of YthchoknhkhfdnaaDoorRows.lean that lists a variable, with what it lists TIED to the program's text (the seventh form; the later family's looks); each row that meets fmt, with fmt's text TOLD by the authors' own Lean function (tested against real Go, not proved from fmt's source: count such statements apart). THE CARD IS WHAT COUNTS. Prove the row's statement (the work); the ties are given (YthchoknhkhfdnaaDoorTie.lean); close each card by the builder's one call (the guide's Derived/Test/ToyasCard.lean, 'card_holds'). Laid BY PROGRAM, IN A SANDBOX (cutbox-door.mjs). By AI agents, Wed Nov 11 2026. No macro, syntax, notation, axiom, sorry.
-/
import Derived.Test.YthchoknhkhfdnaaDoorRows
import GoSem.ClaimSeven
namespace Go.Proofs.YthchoknhkhfdnaaDoor
namespace Rows

/-- THE TIED CARD OF 'carfaxlaw05.PathDists'. -/
def pathDistsCard : Claim7 := { stood := { row := pathDistsRow, standIns := [], harness := (true, "1b86a9b5e08d227ff063a66bfeb3b39c614a969bc65e6bd4e02415abcb25bb9e"), looks := false }, kinds := [], alts := [], laidByText := true, laidKinds := [.data, .pinned], laidTests := true, laidLooks := .later }
def PathDistsCardSaid : Prop := Claim7.holds Tryd.pinned (.plain (OpenSpec.ofChange pathDistsSpec)) pathDistsCard

/-- THE TIED CARD OF 'carfaxlaw05.PathFinds'. -/
def pathFindsCard : Claim7 := { stood := { row := pathFindsRow, standIns := [], harness := (true, "1b86a9b5e08d227ff063a66bfeb3b39c614a969bc65e6bd4e02415abcb25bb9e"), looks := false }, kinds := [], alts := [], laidByText := true, laidKinds := [.data, .pinned], laidTests := true, laidLooks := .later }
def PathFindsCardSaid : Prop := Claim7.holds Tryd.pinned (.plain (OpenSpec.ofChange pathFindsSpec)) pathFindsCard

/-- THE TIED CARD OF 'carfaxlaw05.PathBlocked'. -/
def pathBlockedCard : Claim7 := { stood := { row := pathBlockedRow, standIns := [], harness := (true, "1b86a9b5e08d227ff063a66bfeb3b39c614a969bc65e6bd4e02415abcb25bb9e"), looks := false }, kinds := [], alts := [], laidByText := true, laidKinds := [.data, .pinned], laidTests := true, laidLooks := .later }
def PathBlockedCardSaid : Prop := Claim7.holds Tryd.pinned (.plain (OpenSpec.ofChange pathBlockedSpec)) pathBlockedCard

/-- THE TIED CARD OF 'carfaxlaw05.PathSteps'. -/
def pathStepsCard : Claim7 := { stood := { row := pathStepsRow, standIns := [], harness := (true, "1b86a9b5e08d227ff063a66bfeb3b39c614a969bc65e6bd4e02415abcb25bb9e"), looks := false }, kinds := [], alts := [], laidByText := true, laidKinds := [.data, .pinned], laidTests := true, laidLooks := .later }
def PathStepsCardSaid : Prop := Claim7.holds Tryd.pinned (.plain (OpenSpec.ofChange pathStepsSpec)) pathStepsCard

/-- THE TIED CARD OF 'carfaxlaw05.PathBack'. -/
def pathBackCard : Claim7 := { stood := { row := pathBackRow, standIns := [], harness := (true, "1b86a9b5e08d227ff063a66bfeb3b39c614a969bc65e6bd4e02415abcb25bb9e"), looks := false }, kinds := [], alts := [], laidByText := true, laidKinds := [.data, .pinned], laidTests := true, laidLooks := .later }
def PathBackCardSaid : Prop := Claim7.holds Tryd.pinned (.plain (OpenSpec.ofChange pathBackSpec)) pathBackCard

/-- THE TIED CARD OF 'carfaxlaw05.PathIs'. -/
def pathIsCard : Claim7 := { stood := { row := pathIsRow, standIns := [], harness := (true, "1b86a9b5e08d227ff063a66bfeb3b39c614a969bc65e6bd4e02415abcb25bb9e"), looks := false }, kinds := [], alts := [], laidByText := true, laidKinds := [.data, .pinned], laidTests := true, laidLooks := .later }
def PathIsCardSaid : Prop := Claim7.holds Tryd.pinned (.plain (OpenSpec.ofChange pathIsSpec)) pathIsCard

/-- THE TIED CARD OF 'carfaxlaw05.PathShort'. -/
def pathShortCard : Claim7 := { stood := { row := pathShortRow, standIns := [], harness := (true, "1b86a9b5e08d227ff063a66bfeb3b39c614a969bc65e6bd4e02415abcb25bb9e"), looks := false }, kinds := [], alts := [], laidByText := true, laidKinds := [.data, .pinned], laidTests := true, laidLooks := .later }
def PathShortCardSaid : Prop := Claim7.holds Tryd.pinned (.plain (OpenSpec.ofChange pathShortSpec)) pathShortCard

/-- THE SECOND FORM's CARD OF 'carfaxlaw05.PathDists'. -/
def pathDistsUptoCard : Claim7 := { stood := { row := pathDistsUptoRow, standIns := [], harness := (true, "1b86a9b5e08d227ff063a66bfeb3b39c614a969bc65e6bd4e02415abcb25bb9e"), looks := false }, kinds := [], alts := [], laidByText := true, laidKinds := [.data, .pinned], laidTests := true, laidLooks := .later }
def PathDistsUptoCardSaid : Prop := Claim7.holds Tryd.pinned (.plain (OpenSpec.upto pathDistsSpec)) pathDistsUptoCard

/-- THE SECOND FORM's CARD OF 'carfaxlaw05.PathFinds'. -/
def pathFindsUptoCard : Claim7 := { stood := { row := pathFindsUptoRow, standIns := [], harness := (true, "1b86a9b5e08d227ff063a66bfeb3b39c614a969bc65e6bd4e02415abcb25bb9e"), looks := false }, kinds := [], alts := [], laidByText := true, laidKinds := [.data, .pinned], laidTests := true, laidLooks := .later }
def PathFindsUptoCardSaid : Prop := Claim7.holds Tryd.pinned (.plain (OpenSpec.upto pathFindsSpec)) pathFindsUptoCard

/-- THE SECOND FORM's CARD OF 'carfaxlaw05.PathBlocked'. -/
def pathBlockedUptoCard : Claim7 := { stood := { row := pathBlockedUptoRow, standIns := [], harness := (true, "1b86a9b5e08d227ff063a66bfeb3b39c614a969bc65e6bd4e02415abcb25bb9e"), looks := false }, kinds := [], alts := [], laidByText := true, laidKinds := [.data, .pinned], laidTests := true, laidLooks := .later }
def PathBlockedUptoCardSaid : Prop := Claim7.holds Tryd.pinned (.plain (OpenSpec.upto pathBlockedSpec)) pathBlockedUptoCard

/-- THE SECOND FORM's CARD OF 'carfaxlaw05.PathSteps'. -/
def pathStepsUptoCard : Claim7 := { stood := { row := pathStepsUptoRow, standIns := [], harness := (true, "1b86a9b5e08d227ff063a66bfeb3b39c614a969bc65e6bd4e02415abcb25bb9e"), looks := false }, kinds := [], alts := [], laidByText := true, laidKinds := [.data, .pinned], laidTests := true, laidLooks := .later }
def PathStepsUptoCardSaid : Prop := Claim7.holds Tryd.pinned (.plain (OpenSpec.upto pathStepsSpec)) pathStepsUptoCard

/-- THE SECOND FORM's CARD OF 'carfaxlaw05.PathBack'. -/
def pathBackUptoCard : Claim7 := { stood := { row := pathBackUptoRow, standIns := [], harness := (true, "1b86a9b5e08d227ff063a66bfeb3b39c614a969bc65e6bd4e02415abcb25bb9e"), looks := false }, kinds := [], alts := [], laidByText := true, laidKinds := [.data, .pinned], laidTests := true, laidLooks := .later }
def PathBackUptoCardSaid : Prop := Claim7.holds Tryd.pinned (.plain (OpenSpec.upto pathBackSpec)) pathBackUptoCard

/-- THE SECOND FORM's CARD OF 'carfaxlaw05.PathIs'. -/
def pathIsUptoCard : Claim7 := { stood := { row := pathIsUptoRow, standIns := [], harness := (true, "1b86a9b5e08d227ff063a66bfeb3b39c614a969bc65e6bd4e02415abcb25bb9e"), looks := false }, kinds := [], alts := [], laidByText := true, laidKinds := [.data, .pinned], laidTests := true, laidLooks := .later }
def PathIsUptoCardSaid : Prop := Claim7.holds Tryd.pinned (.plain (OpenSpec.upto pathIsSpec)) pathIsUptoCard

/-- THE SECOND FORM's CARD OF 'carfaxlaw05.PathShort'. -/
def pathShortUptoCard : Claim7 := { stood := { row := pathShortUptoRow, standIns := [], harness := (true, "1b86a9b5e08d227ff063a66bfeb3b39c614a969bc65e6bd4e02415abcb25bb9e"), looks := false }, kinds := [], alts := [], laidByText := true, laidKinds := [.data, .pinned], laidTests := true, laidLooks := .later }
def PathShortUptoCardSaid : Prop := Claim7.holds Tryd.pinned (.plain (OpenSpec.upto pathShortSpec)) pathShortUptoCard
end Rows
end Go.Proofs.YthchoknhkhfdnaaDoor
