/-
  NARROWER THAN 'FOR EVERY INPUT', by the rows' own cells (each row's printed sentence says how): SippSoons: laid · SippMore: laid · SippPlans: laid · SippIs: laid · SippParts: laid · SippNil: laid · SippFree: laid · SippWays: laid · TopPlans: laid.
  DERIVED. THE GIVEN ROWS OF THIS SEAT. 9 by the template 'for every input the law returns true; each argument reads behind the call as it read before'; 0 by the template 'total and deterministic' (their statements: YtgdokpfepfmbmaaDoorTotals.lean).
  GIVEN WITH THE SEED: the statements are not yours to turn. If you find one false, say at which input.
  Laid BY PROGRAM, IN A SANDBOX (cutbox-rows.mjs): the forced cells as the released guide's own fill.sh prints them over the translation dc98a97a056cd217… (all of the seat's roots in one cut). By AI agents, Wed Nov 11 2026. No macro, syntax, notation, axiom, sorry.
-/
import Derived.Test.YtgdokpfepfmbmaaDoorChecked
import GoSem.PinnedTables
import GoSem.Claim
import GoSem.ClaimJoined
import GoSem.ClaimMapViews
import Derived.JoinedTies
import Derived.KernelRfl
namespace Go.Proofs.YtgdokpfepfmbmaaDoor
/- THE CELL 'sum', in the pinned program and in every row, IS THE sha256 OF THE DUMP (.gsa) THAT YtgdokpfepfmbmaaDoorProg.lean LOADS. Nothing in Lean hashes anything: it is a label: what it is worth is what the hold of that sum in a sandbox is worth. -/
noncomputable def Tryd.pinned : Pinned := { name := "ytgdokpfepfmbmaadoor", sum := "dc98a97a056cd217398638baf2f50a4a3f0b272cc90f7009854ff8b246fde1cd", checked := Tryd.checked }
namespace Rows
def none {H : Type} : Left H := { results := [], args := [] }

/- WHAT THE LISTED PACKAGE-LEVEL VARIABLES READ AS WHEN THE CALL BEGINS. Each datum BY PROGRAM (the guide's laid-datum.mjs) off the statement by which the dump's own 'gosem.cut.vars' lays the variable. In a bare row this is a premise. The card (YtgdokpfepfmbmaaDoorCards.lean) ties it to the program's text. -/
def laid_unicode_utf8_acceptRanges {H : Type} : DataW H := .agg [.agg [.lit (.int .u8 128), .lit (.int .u8 191)], .agg [.lit (.int .u8 160), .lit (.int .u8 191)], .agg [.lit (.int .u8 128), .lit (.int .u8 159)], .agg [.lit (.int .u8 144), .lit (.int .u8 191)], .agg [.lit (.int .u8 128), .lit (.int .u8 143)], .agg [.lit (.int .u8 0), .lit (.int .u8 0)], .agg [.lit (.int .u8 0), .lit (.int .u8 0)], .agg [.lit (.int .u8 0), .lit (.int .u8 0)], .agg [.lit (.int .u8 0), .lit (.int .u8 0)], .agg [.lit (.int .u8 0), .lit (.int .u8 0)], .agg [.lit (.int .u8 0), .lit (.int .u8 0)], .agg [.lit (.int .u8 0), .lit (.int .u8 0)], .agg [.lit (.int .u8 0), .lit (.int .u8 0)], .agg [.lit (.int .u8 0), .lit (.int .u8 0)], .agg [.lit (.int .u8 0), .lit (.int .u8 0)], .agg [.lit (.int .u8 0), .lit (.int .u8 0)]]
/-- One of Go's own tables, pinned by name: the form's constant. -/
def laid_unicode_utf8_first : DataW Unit := Go.Pinned.utf8First

/-- 'carfaxlaw07.SippSoons': WHATEVER THE INPUT: true; the input reads as it did. -/
def sippSoonsSpec : ChangeSpec := { name := "sippSoons", fn := fun _ => fun
  | [d] => { results := [.lit (.bool true)], args := [d] }
  | _ => none }
def sippSoonsRow : OpenClaim := { program := "ytgdokpfepfmbmaadoor", sum := "dc98a97a056cd217398638baf2f50a4a3f0b272cc90f7009854ff8b246fde1cd", func := "carfax/carfaxlaw07.SippSoons", spec := "sippSoons", inPlace := ["internal/bytealg.CountString", "internal/bytealg.IndexByteString", "internal/bytealg.IndexString", "internal/abi.NoEscape", "internal/bytealg.MakeNoZero", "slices.overlaps[carfax/api.Window]"], unfollowed := true, recurses := true, named := ["unicode/utf8.first", "unicode/utf8.acceptRanges", "internal/bytealg.MaxLen"], plainKeys := false, apart := false, laid := [("unicode/utf8.acceptRanges", laid_unicode_utf8_acceptRanges), ("unicode/utf8.first", laid_unicode_utf8_first)] }
def SippSoonsSaid : Prop := sippSoonsRow.holds Tryd.pinned (OpenSpec.ofChange sippSoonsSpec)

/-- ITS FALSE NEIGHBOUR: 'it returns false'. Refute it at one input. -/
def sippSoonsWrong : ChangeSpec := { name := "sippSoons", fn := fun _ => fun
  | [d] => { results := [.lit (.bool false)], args := [d] }
  | _ => none }
def SippSoonsWrongFalsely : Prop := sippSoonsRow.holds Tryd.pinned (OpenSpec.ofChange sippSoonsWrong)

/-- 'carfaxlaw07.SippMore': WHATEVER THE INPUT: true; the input reads as it did. -/
def sippMoreSpec : ChangeSpec := { name := "sippMore", fn := fun _ => fun
  | [d1, d2] => { results := [.lit (.bool true)], args := [d1, d2] }
  | _ => none }
def sippMoreRow : OpenClaim := { program := "ytgdokpfepfmbmaadoor", sum := "dc98a97a056cd217398638baf2f50a4a3f0b272cc90f7009854ff8b246fde1cd", func := "carfax/carfaxlaw07.SippMore", spec := "sippMore", inPlace := ["internal/bytealg.CountString", "internal/bytealg.IndexByteString", "internal/bytealg.IndexString", "internal/abi.NoEscape", "internal/bytealg.MakeNoZero", "slices.overlaps[carfax/api.Window]"], unfollowed := true, recurses := true, named := ["unicode/utf8.first", "unicode/utf8.acceptRanges", "internal/bytealg.MaxLen"], plainKeys := false, apart := false, laid := [("unicode/utf8.acceptRanges", laid_unicode_utf8_acceptRanges), ("unicode/utf8.first", laid_unicode_utf8_first)] }
def SippMoreSaid : Prop := sippMoreRow.holds Tryd.pinned (OpenSpec.ofChange sippMoreSpec)

/-- ITS FALSE NEIGHBOUR: 'it returns false'. Refute it at one input. -/
def sippMoreWrong : ChangeSpec := { name := "sippMore", fn := fun _ => fun
  | [d1, d2] => { results := [.lit (.bool false)], args := [d1, d2] }
  | _ => none }
def SippMoreWrongFalsely : Prop := sippMoreRow.holds Tryd.pinned (OpenSpec.ofChange sippMoreWrong)

/-- 'carfaxlaw07.SippPlans': WHATEVER THE INPUT: true; the input reads as it did. -/
def sippPlansSpec : ChangeSpec := { name := "sippPlans", fn := fun _ => fun
  | [d] => { results := [.lit (.bool true)], args := [d] }
  | _ => none }
def sippPlansRow : OpenClaim := { program := "ytgdokpfepfmbmaadoor", sum := "dc98a97a056cd217398638baf2f50a4a3f0b272cc90f7009854ff8b246fde1cd", func := "carfax/carfaxlaw07.SippPlans", spec := "sippPlans", inPlace := ["internal/bytealg.CountString", "internal/bytealg.IndexByteString", "internal/bytealg.IndexString", "internal/abi.NoEscape", "internal/bytealg.MakeNoZero", "slices.overlaps[carfax/api.Window]"], unfollowed := true, recurses := true, named := ["unicode/utf8.first", "unicode/utf8.acceptRanges", "internal/bytealg.MaxLen"], plainKeys := false, apart := false, laid := [("unicode/utf8.acceptRanges", laid_unicode_utf8_acceptRanges), ("unicode/utf8.first", laid_unicode_utf8_first)] }
def SippPlansSaid : Prop := sippPlansRow.holds Tryd.pinned (OpenSpec.ofChange sippPlansSpec)

/-- ITS FALSE NEIGHBOUR: 'it returns false'. Refute it at one input. -/
def sippPlansWrong : ChangeSpec := { name := "sippPlans", fn := fun _ => fun
  | [d] => { results := [.lit (.bool false)], args := [d] }
  | _ => none }
def SippPlansWrongFalsely : Prop := sippPlansRow.holds Tryd.pinned (OpenSpec.ofChange sippPlansWrong)

/-- 'carfaxlaw07.SippIs': WHATEVER THE INPUT: true; the input reads as it did. -/
def sippIsSpec : ChangeSpec := { name := "sippIs", fn := fun _ => fun
  | [d1, d2] => { results := [.lit (.bool true)], args := [d1, d2] }
  | _ => none }
def sippIsRow : OpenClaim := { program := "ytgdokpfepfmbmaadoor", sum := "dc98a97a056cd217398638baf2f50a4a3f0b272cc90f7009854ff8b246fde1cd", func := "carfax/carfaxlaw07.SippIs", spec := "sippIs", inPlace := ["internal/bytealg.CountString", "internal/bytealg.IndexByteString", "internal/bytealg.IndexString", "internal/abi.NoEscape", "internal/bytealg.MakeNoZero", "slices.overlaps[carfax/api.Window]"], unfollowed := true, recurses := true, named := ["unicode/utf8.first", "unicode/utf8.acceptRanges", "internal/bytealg.MaxLen"], plainKeys := false, apart := false, laid := [("unicode/utf8.acceptRanges", laid_unicode_utf8_acceptRanges), ("unicode/utf8.first", laid_unicode_utf8_first)] }
def SippIsSaid : Prop := sippIsRow.holds Tryd.pinned (OpenSpec.ofChange sippIsSpec)

/-- ITS FALSE NEIGHBOUR: 'it returns false'. Refute it at one input. -/
def sippIsWrong : ChangeSpec := { name := "sippIs", fn := fun _ => fun
  | [d1, d2] => { results := [.lit (.bool false)], args := [d1, d2] }
  | _ => none }
def SippIsWrongFalsely : Prop := sippIsRow.holds Tryd.pinned (OpenSpec.ofChange sippIsWrong)

/-- 'carfaxlaw07.SippParts': WHATEVER THE INPUT: true; the input reads as it did. -/
def sippPartsSpec : ChangeSpec := { name := "sippParts", fn := fun _ => fun
  | [d] => { results := [.lit (.bool true)], args := [d] }
  | _ => none }
def sippPartsRow : OpenClaim := { program := "ytgdokpfepfmbmaadoor", sum := "dc98a97a056cd217398638baf2f50a4a3f0b272cc90f7009854ff8b246fde1cd", func := "carfax/carfaxlaw07.SippParts", spec := "sippParts", inPlace := ["internal/bytealg.CountString", "internal/bytealg.IndexByteString", "internal/bytealg.IndexString", "internal/abi.NoEscape", "internal/bytealg.MakeNoZero", "slices.overlaps[carfax/api.Window]"], unfollowed := true, recurses := true, named := ["unicode/utf8.first", "unicode/utf8.acceptRanges", "internal/bytealg.MaxLen"], plainKeys := false, apart := false, laid := [("unicode/utf8.acceptRanges", laid_unicode_utf8_acceptRanges), ("unicode/utf8.first", laid_unicode_utf8_first)] }
def SippPartsSaid : Prop := sippPartsRow.holds Tryd.pinned (OpenSpec.ofChange sippPartsSpec)

/-- ITS FALSE NEIGHBOUR: 'it returns false'. Refute it at one input. -/
def sippPartsWrong : ChangeSpec := { name := "sippParts", fn := fun _ => fun
  | [d] => { results := [.lit (.bool false)], args := [d] }
  | _ => none }
def SippPartsWrongFalsely : Prop := sippPartsRow.holds Tryd.pinned (OpenSpec.ofChange sippPartsWrong)

/-- 'carfaxlaw07.SippNil': WHATEVER THE INPUT: true; the input reads as it did. -/
def sippNilSpec : ChangeSpec := { name := "sippNil", fn := fun _ => fun
  | [d] => { results := [.lit (.bool true)], args := [d] }
  | _ => none }
def sippNilRow : OpenClaim := { program := "ytgdokpfepfmbmaadoor", sum := "dc98a97a056cd217398638baf2f50a4a3f0b272cc90f7009854ff8b246fde1cd", func := "carfax/carfaxlaw07.SippNil", spec := "sippNil", inPlace := ["internal/bytealg.CountString", "internal/bytealg.IndexByteString", "internal/bytealg.IndexString", "internal/abi.NoEscape", "internal/bytealg.MakeNoZero", "slices.overlaps[carfax/api.Window]"], unfollowed := true, recurses := true, named := ["unicode/utf8.first", "unicode/utf8.acceptRanges", "internal/bytealg.MaxLen"], plainKeys := false, apart := false, laid := [("unicode/utf8.acceptRanges", laid_unicode_utf8_acceptRanges), ("unicode/utf8.first", laid_unicode_utf8_first)] }
def SippNilSaid : Prop := sippNilRow.holds Tryd.pinned (OpenSpec.ofChange sippNilSpec)

/-- ITS FALSE NEIGHBOUR: 'it returns false'. Refute it at one input. -/
def sippNilWrong : ChangeSpec := { name := "sippNil", fn := fun _ => fun
  | [d] => { results := [.lit (.bool false)], args := [d] }
  | _ => none }
def SippNilWrongFalsely : Prop := sippNilRow.holds Tryd.pinned (OpenSpec.ofChange sippNilWrong)

/-- 'carfaxlaw07.SippFree': WHATEVER THE INPUT: true; the input reads as it did. -/
def sippFreeSpec : ChangeSpec := { name := "sippFree", fn := fun _ => fun
  | [d] => { results := [.lit (.bool true)], args := [d] }
  | _ => none }
def sippFreeRow : OpenClaim := { program := "ytgdokpfepfmbmaadoor", sum := "dc98a97a056cd217398638baf2f50a4a3f0b272cc90f7009854ff8b246fde1cd", func := "carfax/carfaxlaw07.SippFree", spec := "sippFree", inPlace := ["internal/bytealg.CountString", "internal/bytealg.IndexByteString", "internal/bytealg.IndexString", "internal/abi.NoEscape", "internal/bytealg.MakeNoZero", "slices.overlaps[carfax/api.Window]"], unfollowed := true, recurses := true, named := ["unicode/utf8.first", "unicode/utf8.acceptRanges", "internal/bytealg.MaxLen"], plainKeys := false, apart := false, laid := [("unicode/utf8.acceptRanges", laid_unicode_utf8_acceptRanges), ("unicode/utf8.first", laid_unicode_utf8_first)] }
def SippFreeSaid : Prop := sippFreeRow.holds Tryd.pinned (OpenSpec.ofChange sippFreeSpec)

/-- ITS FALSE NEIGHBOUR: 'it returns false'. Refute it at one input. -/
def sippFreeWrong : ChangeSpec := { name := "sippFree", fn := fun _ => fun
  | [d] => { results := [.lit (.bool false)], args := [d] }
  | _ => none }
def SippFreeWrongFalsely : Prop := sippFreeRow.holds Tryd.pinned (OpenSpec.ofChange sippFreeWrong)

/-- 'carfaxlaw07.SippWays': WHATEVER THE INPUT: true; the input reads as it did. -/
def sippWaysSpec : ChangeSpec := { name := "sippWays", fn := fun _ => fun
  | [d] => { results := [.lit (.bool true)], args := [d] }
  | _ => none }
def sippWaysRow : OpenClaim := { program := "ytgdokpfepfmbmaadoor", sum := "dc98a97a056cd217398638baf2f50a4a3f0b272cc90f7009854ff8b246fde1cd", func := "carfax/carfaxlaw07.SippWays", spec := "sippWays", inPlace := ["internal/bytealg.CountString", "internal/bytealg.IndexByteString", "internal/bytealg.IndexString", "internal/abi.NoEscape", "internal/bytealg.MakeNoZero", "slices.overlaps[carfax/api.Window]"], unfollowed := true, recurses := true, named := ["unicode/utf8.first", "unicode/utf8.acceptRanges", "internal/bytealg.MaxLen"], plainKeys := false, apart := false, laid := [("unicode/utf8.acceptRanges", laid_unicode_utf8_acceptRanges), ("unicode/utf8.first", laid_unicode_utf8_first)] }
def SippWaysSaid : Prop := sippWaysRow.holds Tryd.pinned (OpenSpec.ofChange sippWaysSpec)

/-- ITS FALSE NEIGHBOUR: 'it returns false'. Refute it at one input. -/
def sippWaysWrong : ChangeSpec := { name := "sippWays", fn := fun _ => fun
  | [d] => { results := [.lit (.bool false)], args := [d] }
  | _ => none }
def SippWaysWrongFalsely : Prop := sippWaysRow.holds Tryd.pinned (OpenSpec.ofChange sippWaysWrong)

/-- 'carfaxtop.TopPlans': WHATEVER THE INPUT: true; the input reads as it did. -/
def topPlansSpec : ChangeSpec := { name := "topPlans", fn := fun _ => fun
  | [d1, d2] => { results := [.lit (.bool true)], args := [d1, d2] }
  | _ => none }
def topPlansRow : OpenClaim := { program := "ytgdokpfepfmbmaadoor", sum := "dc98a97a056cd217398638baf2f50a4a3f0b272cc90f7009854ff8b246fde1cd", func := "carfax/carfaxtop.TopPlans", spec := "topPlans", inPlace := ["internal/bytealg.CountString", "internal/bytealg.IndexByteString", "internal/bytealg.IndexString", "internal/abi.NoEscape", "internal/bytealg.MakeNoZero", "slices.overlaps[carfax/api.Window]"], unfollowed := true, recurses := true, named := ["unicode/utf8.first", "unicode/utf8.acceptRanges", "internal/bytealg.MaxLen"], plainKeys := false, apart := false, laid := [("unicode/utf8.acceptRanges", laid_unicode_utf8_acceptRanges), ("unicode/utf8.first", laid_unicode_utf8_first)] }
def TopPlansSaid : Prop := topPlansRow.holds Tryd.pinned (OpenSpec.ofChange topPlansSpec)

/-- ITS FALSE NEIGHBOUR: 'it returns false'. Refute it at one input. -/
def topPlansWrong : ChangeSpec := { name := "topPlans", fn := fun _ => fun
  | [d1, d2] => { results := [.lit (.bool false)], args := [d1, d2] }
  | _ => none }
def TopPlansWrongFalsely : Prop := topPlansRow.holds Tryd.pinned (OpenSpec.ofChange topPlansWrong)

/- THE SECOND FORM. 'bulk': how many values and letters a reading holds, each counted each time it is reached (what is shared counts as often as it is met; a slice's spare places count too). A statement '..UptoSaid' is the law's where the arguments, and the package variables that the reading takes, are together of bulk at most 1048576: NARROWER than '..Said'. Prove '..Said' where nothing that the law and all that it calls make is longer than what came in: it says more and counts as full. Else prove '..UptoSaid'. A law counts once. -/
mutual
def uptoBulk {H : Type} : DataW H → Nat
  | .lit (.string bytes) => bytes.length + 1
  | .lit _ => 1
  | .nil => 1
  | .ptr d => uptoBulk d + 1
  | .slice elems spare => uptoBulkAll elems + uptoBulkAll spare + 1
  | .agg parts => uptoBulkAll parts + 1
  | .iface _ d => uptoBulk d + 1
  | .map entries => uptoBulkEntries entries + 1
  | .held _ => 1
def uptoBulkAll {H : Type} : List (DataW H) → Nat
  | [] => 0
  | d :: r => uptoBulk d + uptoBulkAll r
def uptoBulkEntries {H : Type} : List (Lit × DataW H) → Nat
  | [] => 0
  | x :: r => uptoBulkEntry x + uptoBulkEntries r
def uptoBulkEntry {H : Type} : Lit × DataW H → Nat
  | (.string bytes, d) => bytes.length + uptoBulk d + 1
  | (_, d) => uptoBulk d + 1
 end
def uptoSmall : (H : Type) → List (DataW H) → Bool := fun _ ds => decide (uptoBulkAll ds ≤ 1048576)
def OpenSpec.upto (s : _root_.Go.ChangeSpec) : _root_.Go.OpenSpec := { _root_.Go.OpenSpec.ofChange s with cond := some uptoSmall }

/-- 'carfaxlaw07.SippSoons', WHERE WHAT IT READS IS OF BULK AT MOST 1048576: true; the input reads as it did. -/
def sippSoonsUptoRow : OpenClaim := { program := "ytgdokpfepfmbmaadoor", sum := "dc98a97a056cd217398638baf2f50a4a3f0b272cc90f7009854ff8b246fde1cd", func := "carfax/carfaxlaw07.SippSoons", spec := "sippSoons", inPlace := ["internal/bytealg.CountString", "internal/bytealg.IndexByteString", "internal/bytealg.IndexString", "internal/abi.NoEscape", "internal/bytealg.MakeNoZero", "slices.overlaps[carfax/api.Window]"], unfollowed := true, recurses := true, named := ["unicode/utf8.first", "unicode/utf8.acceptRanges", "internal/bytealg.MaxLen"], plainKeys := false, apart := false, laid := [("unicode/utf8.acceptRanges", laid_unicode_utf8_acceptRanges), ("unicode/utf8.first", laid_unicode_utf8_first)], narrowed := true }
def SippSoonsUptoSaid : Prop := sippSoonsUptoRow.holds Tryd.pinned (OpenSpec.upto sippSoonsSpec)

/-- 'carfaxlaw07.SippMore', WHERE WHAT IT READS IS OF BULK AT MOST 1048576: true; the input reads as it did. -/
def sippMoreUptoRow : OpenClaim := { program := "ytgdokpfepfmbmaadoor", sum := "dc98a97a056cd217398638baf2f50a4a3f0b272cc90f7009854ff8b246fde1cd", func := "carfax/carfaxlaw07.SippMore", spec := "sippMore", inPlace := ["internal/bytealg.CountString", "internal/bytealg.IndexByteString", "internal/bytealg.IndexString", "internal/abi.NoEscape", "internal/bytealg.MakeNoZero", "slices.overlaps[carfax/api.Window]"], unfollowed := true, recurses := true, named := ["unicode/utf8.first", "unicode/utf8.acceptRanges", "internal/bytealg.MaxLen"], plainKeys := false, apart := false, laid := [("unicode/utf8.acceptRanges", laid_unicode_utf8_acceptRanges), ("unicode/utf8.first", laid_unicode_utf8_first)], narrowed := true }
def SippMoreUptoSaid : Prop := sippMoreUptoRow.holds Tryd.pinned (OpenSpec.upto sippMoreSpec)

/-- 'carfaxlaw07.SippPlans', WHERE WHAT IT READS IS OF BULK AT MOST 1048576: true; the input reads as it did. -/
def sippPlansUptoRow : OpenClaim := { program := "ytgdokpfepfmbmaadoor", sum := "dc98a97a056cd217398638baf2f50a4a3f0b272cc90f7009854ff8b246fde1cd", func := "carfax/carfaxlaw07.SippPlans", spec := "sippPlans", inPlace := ["internal/bytealg.CountString", "internal/bytealg.IndexByteString", "internal/bytealg.IndexString", "internal/abi.NoEscape", "internal/bytealg.MakeNoZero", "slices.overlaps[carfax/api.Window]"], unfollowed := true, recurses := true, named := ["unicode/utf8.first", "unicode/utf8.acceptRanges", "internal/bytealg.MaxLen"], plainKeys := false, apart := false, laid := [("unicode/utf8.acceptRanges", laid_unicode_utf8_acceptRanges), ("unicode/utf8.first", laid_unicode_utf8_first)], narrowed := true }
def SippPlansUptoSaid : Prop := sippPlansUptoRow.holds Tryd.pinned (OpenSpec.upto sippPlansSpec)

/-- 'carfaxlaw07.SippIs', WHERE WHAT IT READS IS OF BULK AT MOST 1048576: true; the input reads as it did. -/
def sippIsUptoRow : OpenClaim := { program := "ytgdokpfepfmbmaadoor", sum := "dc98a97a056cd217398638baf2f50a4a3f0b272cc90f7009854ff8b246fde1cd", func := "carfax/carfaxlaw07.SippIs", spec := "sippIs", inPlace := ["internal/bytealg.CountString", "internal/bytealg.IndexByteString", "internal/bytealg.IndexString", "internal/abi.NoEscape", "internal/bytealg.MakeNoZero", "slices.overlaps[carfax/api.Window]"], unfollowed := true, recurses := true, named := ["unicode/utf8.first", "unicode/utf8.acceptRanges", "internal/bytealg.MaxLen"], plainKeys := false, apart := false, laid := [("unicode/utf8.acceptRanges", laid_unicode_utf8_acceptRanges), ("unicode/utf8.first", laid_unicode_utf8_first)], narrowed := true }
def SippIsUptoSaid : Prop := sippIsUptoRow.holds Tryd.pinned (OpenSpec.upto sippIsSpec)

/-- 'carfaxlaw07.SippParts', WHERE WHAT IT READS IS OF BULK AT MOST 1048576: true; the input reads as it did. -/
def sippPartsUptoRow : OpenClaim := { program := "ytgdokpfepfmbmaadoor", sum := "dc98a97a056cd217398638baf2f50a4a3f0b272cc90f7009854ff8b246fde1cd", func := "carfax/carfaxlaw07.SippParts", spec := "sippParts", inPlace := ["internal/bytealg.CountString", "internal/bytealg.IndexByteString", "internal/bytealg.IndexString", "internal/abi.NoEscape", "internal/bytealg.MakeNoZero", "slices.overlaps[carfax/api.Window]"], unfollowed := true, recurses := true, named := ["unicode/utf8.first", "unicode/utf8.acceptRanges", "internal/bytealg.MaxLen"], plainKeys := false, apart := false, laid := [("unicode/utf8.acceptRanges", laid_unicode_utf8_acceptRanges), ("unicode/utf8.first", laid_unicode_utf8_first)], narrowed := true }
def SippPartsUptoSaid : Prop := sippPartsUptoRow.holds Tryd.pinned (OpenSpec.upto sippPartsSpec)

/-- 'carfaxlaw07.SippNil', WHERE WHAT IT READS IS OF BULK AT MOST 1048576: true; the input reads as it did. -/
def sippNilUptoRow : OpenClaim := { program := "ytgdokpfepfmbmaadoor", sum := "dc98a97a056cd217398638baf2f50a4a3f0b272cc90f7009854ff8b246fde1cd", func := "carfax/carfaxlaw07.SippNil", spec := "sippNil", inPlace := ["internal/bytealg.CountString", "internal/bytealg.IndexByteString", "internal/bytealg.IndexString", "internal/abi.NoEscape", "internal/bytealg.MakeNoZero", "slices.overlaps[carfax/api.Window]"], unfollowed := true, recurses := true, named := ["unicode/utf8.first", "unicode/utf8.acceptRanges", "internal/bytealg.MaxLen"], plainKeys := false, apart := false, laid := [("unicode/utf8.acceptRanges", laid_unicode_utf8_acceptRanges), ("unicode/utf8.first", laid_unicode_utf8_first)], narrowed := true }
def SippNilUptoSaid : Prop := sippNilUptoRow.holds Tryd.pinned (OpenSpec.upto sippNilSpec)

/-- 'carfaxlaw07.SippFree', WHERE WHAT IT READS IS OF BULK AT MOST 1048576: true; the input reads as it did. -/
def sippFreeUptoRow : OpenClaim := { program := "ytgdokpfepfmbmaadoor", sum := "dc98a97a056cd217398638baf2f50a4a3f0b272cc90f7009854ff8b246fde1cd", func := "carfax/carfaxlaw07.SippFree", spec := "sippFree", inPlace := ["internal/bytealg.CountString", "internal/bytealg.IndexByteString", "internal/bytealg.IndexString", "internal/abi.NoEscape", "internal/bytealg.MakeNoZero", "slices.overlaps[carfax/api.Window]"], unfollowed := true, recurses := true, named := ["unicode/utf8.first", "unicode/utf8.acceptRanges", "internal/bytealg.MaxLen"], plainKeys := false, apart := false, laid := [("unicode/utf8.acceptRanges", laid_unicode_utf8_acceptRanges), ("unicode/utf8.first", laid_unicode_utf8_first)], narrowed := true }
def SippFreeUptoSaid : Prop := sippFreeUptoRow.holds Tryd.pinned (OpenSpec.upto sippFreeSpec)

/-- 'carfaxlaw07.SippWays', WHERE WHAT IT READS IS OF BULK AT MOST 1048576: true; the input reads as it did. -/
def sippWaysUptoRow : OpenClaim := { program := "ytgdokpfepfmbmaadoor", sum := "dc98a97a056cd217398638baf2f50a4a3f0b272cc90f7009854ff8b246fde1cd", func := "carfax/carfaxlaw07.SippWays", spec := "sippWays", inPlace := ["internal/bytealg.CountString", "internal/bytealg.IndexByteString", "internal/bytealg.IndexString", "internal/abi.NoEscape", "internal/bytealg.MakeNoZero", "slices.overlaps[carfax/api.Window]"], unfollowed := true, recurses := true, named := ["unicode/utf8.first", "unicode/utf8.acceptRanges", "internal/bytealg.MaxLen"], plainKeys := false, apart := false, laid := [("unicode/utf8.acceptRanges", laid_unicode_utf8_acceptRanges), ("unicode/utf8.first", laid_unicode_utf8_first)], narrowed := true }
def SippWaysUptoSaid : Prop := sippWaysUptoRow.holds Tryd.pinned (OpenSpec.upto sippWaysSpec)

/-- 'carfaxtop.TopPlans', WHERE WHAT IT READS IS OF BULK AT MOST 1048576: true; the input reads as it did. -/
def topPlansUptoRow : OpenClaim := { program := "ytgdokpfepfmbmaadoor", sum := "dc98a97a056cd217398638baf2f50a4a3f0b272cc90f7009854ff8b246fde1cd", func := "carfax/carfaxtop.TopPlans", spec := "topPlans", inPlace := ["internal/bytealg.CountString", "internal/bytealg.IndexByteString", "internal/bytealg.IndexString", "internal/abi.NoEscape", "internal/bytealg.MakeNoZero", "slices.overlaps[carfax/api.Window]"], unfollowed := true, recurses := true, named := ["unicode/utf8.first", "unicode/utf8.acceptRanges", "internal/bytealg.MaxLen"], plainKeys := false, apart := false, laid := [("unicode/utf8.acceptRanges", laid_unicode_utf8_acceptRanges), ("unicode/utf8.first", laid_unicode_utf8_first)], narrowed := true }
def TopPlansUptoSaid : Prop := topPlansUptoRow.holds Tryd.pinned (OpenSpec.upto topPlansSpec)

end Rows
end Go.Proofs.YtgdokpfepfmbmaaDoor
