/-
  DERIVED. GIVEN WITH THE SEED: THE CARDS: each row of YtgdokpfepfmbmaaDoorRows.lean that lists a variable, with what it lists TIED to the program's text (the seventh form; the later family's looks); each row that meets fmt, with fmt's text TOLD by the authors' own Lean function (tested against real Go, not proved from fmt's source: count such statements apart). THE CARD IS WHAT COUNTS. Prove the row's statement (the work); the ties are given (YtgdokpfepfmbmaaDoorTie.lean); close each card by the builder's one call (the guide's Derived/Test/ToyasCard.lean, 'card_holds'). Laid BY PROGRAM, IN A SANDBOX (cutbox-door.mjs). By AI agents, Wed Nov 11 2026. No macro, syntax, notation, axiom, sorry.
-/
import Derived.Test.YtgdokpfepfmbmaaDoorRows
import GoSem.ClaimSeven
namespace Go.Proofs.YtgdokpfepfmbmaaDoor
namespace Rows

/-- THE TIED CARD OF 'carfaxlaw07.SippSoons'. -/
def sippSoonsCard : Claim7 := { stood := { row := sippSoonsRow, standIns := [], harness := (true, "506f765fc8df272b9e67fa0d1ed9fbe20d3cc5a06c09c4458f892e684dd53ca7"), looks := false }, kinds := [], alts := [], laidByText := true, laidKinds := [.data, .pinned], laidTests := true, laidLooks := .later }
def SippSoonsCardSaid : Prop := Claim7.holds Tryd.pinned (.plain (OpenSpec.ofChange sippSoonsSpec)) sippSoonsCard

/-- THE TIED CARD OF 'carfaxlaw07.SippMore'. -/
def sippMoreCard : Claim7 := { stood := { row := sippMoreRow, standIns := [], harness := (true, "506f765fc8df272b9e67fa0d1ed9fbe20d3cc5a06c09c4458f892e684dd53ca7"), looks := false }, kinds := [], alts := [], laidByText := true, laidKinds := [.data, .pinned], laidTests := true, laidLooks := .later }
def SippMoreCardSaid : Prop := Claim7.holds Tryd.pinned (.plain (OpenSpec.ofChange sippMoreSpec)) sippMoreCard

/-- THE TIED CARD OF 'carfaxlaw07.SippPlans'. -/
def sippPlansCard : Claim7 := { stood := { row := sippPlansRow, standIns := [], harness := (true, "506f765fc8df272b9e67fa0d1ed9fbe20d3cc5a06c09c4458f892e684dd53ca7"), looks := false }, kinds := [], alts := [], laidByText := true, laidKinds := [.data, .pinned], laidTests := true, laidLooks := .later }
def SippPlansCardSaid : Prop := Claim7.holds Tryd.pinned (.plain (OpenSpec.ofChange sippPlansSpec)) sippPlansCard

/-- THE TIED CARD OF 'carfaxlaw07.SippIs'. -/
def sippIsCard : Claim7 := { stood := { row := sippIsRow, standIns := [], harness := (true, "506f765fc8df272b9e67fa0d1ed9fbe20d3cc5a06c09c4458f892e684dd53ca7"), looks := false }, kinds := [], alts := [], laidByText := true, laidKinds := [.data, .pinned], laidTests := true, laidLooks := .later }
def SippIsCardSaid : Prop := Claim7.holds Tryd.pinned (.plain (OpenSpec.ofChange sippIsSpec)) sippIsCard

/-- THE TIED CARD OF 'carfaxlaw07.SippParts'. -/
def sippPartsCard : Claim7 := { stood := { row := sippPartsRow, standIns := [], harness := (true, "506f765fc8df272b9e67fa0d1ed9fbe20d3cc5a06c09c4458f892e684dd53ca7"), looks := false }, kinds := [], alts := [], laidByText := true, laidKinds := [.data, .pinned], laidTests := true, laidLooks := .later }
def SippPartsCardSaid : Prop := Claim7.holds Tryd.pinned (.plain (OpenSpec.ofChange sippPartsSpec)) sippPartsCard

/-- THE TIED CARD OF 'carfaxlaw07.SippNil'. -/
def sippNilCard : Claim7 := { stood := { row := sippNilRow, standIns := [], harness := (true, "506f765fc8df272b9e67fa0d1ed9fbe20d3cc5a06c09c4458f892e684dd53ca7"), looks := false }, kinds := [], alts := [], laidByText := true, laidKinds := [.data, .pinned], laidTests := true, laidLooks := .later }
def SippNilCardSaid : Prop := Claim7.holds Tryd.pinned (.plain (OpenSpec.ofChange sippNilSpec)) sippNilCard

/-- THE TIED CARD OF 'carfaxlaw07.SippFree'. -/
def sippFreeCard : Claim7 := { stood := { row := sippFreeRow, standIns := [], harness := (true, "506f765fc8df272b9e67fa0d1ed9fbe20d3cc5a06c09c4458f892e684dd53ca7"), looks := false }, kinds := [], alts := [], laidByText := true, laidKinds := [.data, .pinned], laidTests := true, laidLooks := .later }
def SippFreeCardSaid : Prop := Claim7.holds Tryd.pinned (.plain (OpenSpec.ofChange sippFreeSpec)) sippFreeCard

/-- THE TIED CARD OF 'carfaxlaw07.SippWays'. -/
def sippWaysCard : Claim7 := { stood := { row := sippWaysRow, standIns := [], harness := (true, "506f765fc8df272b9e67fa0d1ed9fbe20d3cc5a06c09c4458f892e684dd53ca7"), looks := false }, kinds := [], alts := [], laidByText := true, laidKinds := [.data, .pinned], laidTests := true, laidLooks := .later }
def SippWaysCardSaid : Prop := Claim7.holds Tryd.pinned (.plain (OpenSpec.ofChange sippWaysSpec)) sippWaysCard

/-- THE TIED CARD OF 'carfaxtop.TopPlans'. -/
def topPlansCard : Claim7 := { stood := { row := topPlansRow, standIns := [], harness := (true, "506f765fc8df272b9e67fa0d1ed9fbe20d3cc5a06c09c4458f892e684dd53ca7"), looks := false }, kinds := [], alts := [], laidByText := true, laidKinds := [.data, .pinned], laidTests := true, laidLooks := .later }
def TopPlansCardSaid : Prop := Claim7.holds Tryd.pinned (.plain (OpenSpec.ofChange topPlansSpec)) topPlansCard

/-- THE SECOND FORM's CARD OF 'carfaxlaw07.SippSoons'. -/
def sippSoonsUptoCard : Claim7 := { stood := { row := sippSoonsUptoRow, standIns := [], harness := (true, "506f765fc8df272b9e67fa0d1ed9fbe20d3cc5a06c09c4458f892e684dd53ca7"), looks := false }, kinds := [], alts := [], laidByText := true, laidKinds := [.data, .pinned], laidTests := true, laidLooks := .later }
def SippSoonsUptoCardSaid : Prop := Claim7.holds Tryd.pinned (.plain (OpenSpec.upto sippSoonsSpec)) sippSoonsUptoCard

/-- THE SECOND FORM's CARD OF 'carfaxlaw07.SippMore'. -/
def sippMoreUptoCard : Claim7 := { stood := { row := sippMoreUptoRow, standIns := [], harness := (true, "506f765fc8df272b9e67fa0d1ed9fbe20d3cc5a06c09c4458f892e684dd53ca7"), looks := false }, kinds := [], alts := [], laidByText := true, laidKinds := [.data, .pinned], laidTests := true, laidLooks := .later }
def SippMoreUptoCardSaid : Prop := Claim7.holds Tryd.pinned (.plain (OpenSpec.upto sippMoreSpec)) sippMoreUptoCard

/-- THE SECOND FORM's CARD OF 'carfaxlaw07.SippPlans'. -/
def sippPlansUptoCard : Claim7 := { stood := { row := sippPlansUptoRow, standIns := [], harness := (true, "506f765fc8df272b9e67fa0d1ed9fbe20d3cc5a06c09c4458f892e684dd53ca7"), looks := false }, kinds := [], alts := [], laidByText := true, laidKinds := [.data, .pinned], laidTests := true, laidLooks := .later }
def SippPlansUptoCardSaid : Prop := Claim7.holds Tryd.pinned (.plain (OpenSpec.upto sippPlansSpec)) sippPlansUptoCard

/-- THE SECOND FORM's CARD OF 'carfaxlaw07.SippIs'. -/
def sippIsUptoCard : Claim7 := { stood := { row := sippIsUptoRow, standIns := [], harness := (true, "506f765fc8df272b9e67fa0d1ed9fbe20d3cc5a06c09c4458f892e684dd53ca7"), looks := false }, kinds := [], alts := [], laidByText := true, laidKinds := [.data, .pinned], laidTests := true, laidLooks := .later }
def SippIsUptoCardSaid : Prop := Claim7.holds Tryd.pinned (.plain (OpenSpec.upto sippIsSpec)) sippIsUptoCard

/-- THE SECOND FORM's CARD OF 'carfaxlaw07.SippParts'. -/
def sippPartsUptoCard : Claim7 := { stood := { row := sippPartsUptoRow, standIns := [], harness := (true, "506f765fc8df272b9e67fa0d1ed9fbe20d3cc5a06c09c4458f892e684dd53ca7"), looks := false }, kinds := [], alts := [], laidByText := true, laidKinds := [.data, .pinned], laidTests := true, laidLooks := .later }
def SippPartsUptoCardSaid : Prop := Claim7.holds Tryd.pinned (.plain (OpenSpec.upto sippPartsSpec)) sippPartsUptoCard

/-- THE SECOND FORM's CARD OF 'carfaxlaw07.SippNil'. -/
def sippNilUptoCard : Claim7 := { stood := { row := sippNilUptoRow, standIns := [], harness := (true, "506f765fc8df272b9e67fa0d1ed9fbe20d3cc5a06c09c4458f892e684dd53ca7"), looks := false }, kinds := [], alts := [], laidByText := true, laidKinds := [.data, .pinned], laidTests := true, laidLooks := .later }
def SippNilUptoCardSaid : Prop := Claim7.holds Tryd.pinned (.plain (OpenSpec.upto sippNilSpec)) sippNilUptoCard

/-- THE SECOND FORM's CARD OF 'carfaxlaw07.SippFree'. -/
def sippFreeUptoCard : Claim7 := { stood := { row := sippFreeUptoRow, standIns := [], harness := (true, "506f765fc8df272b9e67fa0d1ed9fbe20d3cc5a06c09c4458f892e684dd53ca7"), looks := false }, kinds := [], alts := [], laidByText := true, laidKinds := [.data, .pinned], laidTests := true, laidLooks := .later }
def SippFreeUptoCardSaid : Prop := Claim7.holds Tryd.pinned (.plain (OpenSpec.upto sippFreeSpec)) sippFreeUptoCard

/-- THE SECOND FORM's CARD OF 'carfaxlaw07.SippWays'. -/
def sippWaysUptoCard : Claim7 := { stood := { row := sippWaysUptoRow, standIns := [], harness := (true, "506f765fc8df272b9e67fa0d1ed9fbe20d3cc5a06c09c4458f892e684dd53ca7"), looks := false }, kinds := [], alts := [], laidByText := true, laidKinds := [.data, .pinned], laidTests := true, laidLooks := .later }
def SippWaysUptoCardSaid : Prop := Claim7.holds Tryd.pinned (.plain (OpenSpec.upto sippWaysSpec)) sippWaysUptoCard

/-- THE SECOND FORM's CARD OF 'carfaxtop.TopPlans'. -/
def topPlansUptoCard : Claim7 := { stood := { row := topPlansUptoRow, standIns := [], harness := (true, "506f765fc8df272b9e67fa0d1ed9fbe20d3cc5a06c09c4458f892e684dd53ca7"), looks := false }, kinds := [], alts := [], laidByText := true, laidKinds := [.data, .pinned], laidTests := true, laidLooks := .later }
def TopPlansUptoCardSaid : Prop := Claim7.holds Tryd.pinned (.plain (OpenSpec.upto topPlansSpec)) topPlansUptoCard
end Rows
end Go.Proofs.YtgdokpfepfmbmaaDoor
