/-
  NARROWER THAN 'FOR EVERY INPUT', by the rows' own cells (each row's printed sentence says how): FloorParses: laid · FloorNear: laid · FloorAsks: laid · FloorReached: laid · FloorCounts: laid · FloorRights: laid · FloorBack: laid.
  DERIVED. THE GIVEN ROWS OF THIS SEAT. 7 by the template 'for every input the law returns true; each argument reads behind the call as it read before'; 0 by the template 'total and deterministic' (their statements: YtolkkinophklcaaDoorTotals.lean).
  GIVEN WITH THE SEED: the statements are not yours to turn. If you find one false, say at which input.
  Laid BY PROGRAM, IN A SANDBOX (cutbox-rows.mjs): the forced cells as the released guide's own fill.sh prints them over the translation eec05ad3c601e885… (all of the seat's roots in one cut). By AI agents, Wed Nov 11 2026. No macro, syntax, notation, axiom, sorry.
-/
import Derived.Test.YtolkkinophklcaaDoorChecked
import GoSem.PinnedTables
import GoSem.Claim
import GoSem.ClaimJoined
import GoSem.ClaimMapViews
import Derived.JoinedTies
import Derived.KernelRfl
namespace Go.Proofs.YtolkkinophklcaaDoor
/- THE CELL 'sum', in the pinned program and in every row, IS THE sha256 OF THE DUMP (.gsa) THAT YtolkkinophklcaaDoorProg.lean LOADS. Nothing in Lean hashes anything: it is a label: what it is worth is what the hold of that sum in a sandbox is worth. -/
noncomputable def Tryd.pinned : Pinned := { name := "ytolkkinophklcaadoor", sum := "eec05ad3c601e885e62d8ba355067ad051af0351756e766b4393cd47cdb0a41f", checked := Tryd.checked }
namespace Rows
def none {H : Type} : Left H := { results := [], args := [] }

/- WHAT THE LISTED PACKAGE-LEVEL VARIABLES READ AS WHEN THE CALL BEGINS. Each datum BY PROGRAM (the guide's laid-datum.mjs) off the statement by which the dump's own 'gosem.cut.vars' lays the variable. In a bare row this is a premise. The card (YtolkkinophklcaaDoorCards.lean) ties it to the program's text. -/
def laid_unicode_utf8_acceptRanges {H : Type} : DataW H := .agg [.agg [.lit (.int .u8 128), .lit (.int .u8 191)], .agg [.lit (.int .u8 160), .lit (.int .u8 191)], .agg [.lit (.int .u8 128), .lit (.int .u8 159)], .agg [.lit (.int .u8 144), .lit (.int .u8 191)], .agg [.lit (.int .u8 128), .lit (.int .u8 143)], .agg [.lit (.int .u8 0), .lit (.int .u8 0)], .agg [.lit (.int .u8 0), .lit (.int .u8 0)], .agg [.lit (.int .u8 0), .lit (.int .u8 0)], .agg [.lit (.int .u8 0), .lit (.int .u8 0)], .agg [.lit (.int .u8 0), .lit (.int .u8 0)], .agg [.lit (.int .u8 0), .lit (.int .u8 0)], .agg [.lit (.int .u8 0), .lit (.int .u8 0)], .agg [.lit (.int .u8 0), .lit (.int .u8 0)], .agg [.lit (.int .u8 0), .lit (.int .u8 0)], .agg [.lit (.int .u8 0), .lit (.int .u8 0)], .agg [.lit (.int .u8 0), .lit (.int .u8 0)]]
/-- One of Go's own tables, pinned by name: the form's constant. -/
def laid_unicode_utf8_first : DataW Unit := Go.Pinned.utf8First
def laid_bytes_ErrTooLarge {H : Type} : DataW H := .iface "*errors.errorString" (.ptr (.agg [.lit (.string [98, 121, 116, 101, 115, 46, 66, 117, 102, 102, 101, 114, 58, 32, 116, 111, 111, 32, 108, 97, 114, 103, 101])]))

/-- 'carfaxlaw03.FloorParses': WHATEVER THE INPUT: true; the input reads as it did. -/
def floorParsesSpec : ChangeSpec := { name := "floorParses", fn := fun _ => fun
  | [d] => { results := [.lit (.bool true)], args := [d] }
  | _ => none }
def floorParsesRow : OpenClaim := { program := "ytolkkinophklcaadoor", sum := "eec05ad3c601e885e62d8ba355067ad051af0351756e766b4393cd47cdb0a41f", func := "carfax/carfaxlaw03.FloorParses", spec := "floorParses", inPlace := ["internal/bytealg.CountString", "internal/bytealg.IndexByteString", "internal/bytealg.IndexString", "internal/abi.NoEscape", "internal/bytealg.MakeNoZero"], named := ["unicode/utf8.first", "unicode/utf8.acceptRanges", "internal/bytealg.MaxLen"], apart := false, laid := [("unicode/utf8.acceptRanges", laid_unicode_utf8_acceptRanges), ("unicode/utf8.first", laid_unicode_utf8_first)] }
def FloorParsesSaid : Prop := floorParsesRow.holds Tryd.pinned (OpenSpec.ofChange floorParsesSpec)

/-- ITS FALSE NEIGHBOUR: 'it returns false'. Refute it at one input. -/
def floorParsesWrong : ChangeSpec := { name := "floorParses", fn := fun _ => fun
  | [d] => { results := [.lit (.bool false)], args := [d] }
  | _ => none }
def FloorParsesWrongFalsely : Prop := floorParsesRow.holds Tryd.pinned (OpenSpec.ofChange floorParsesWrong)

/-- 'carfaxlaw03.FloorNear': WHATEVER THE INPUT: true; the input reads as it did. -/
def floorNearSpec : ChangeSpec := { name := "floorNear", fn := fun _ => fun
  | [d1, d2, d3] => { results := [.lit (.bool true)], args := [d1, d2, d3] }
  | _ => none }
def floorNearRow : OpenClaim := { program := "ytolkkinophklcaadoor", sum := "eec05ad3c601e885e62d8ba355067ad051af0351756e766b4393cd47cdb0a41f", func := "carfax/carfaxlaw03.FloorNear", spec := "floorNear", inPlace := ["internal/bytealg.CountString", "internal/bytealg.IndexByteString", "internal/bytealg.IndexString", "internal/abi.NoEscape", "internal/bytealg.MakeNoZero"], named := ["unicode/utf8.first", "unicode/utf8.acceptRanges", "internal/bytealg.MaxLen"], apart := false, laid := [("unicode/utf8.acceptRanges", laid_unicode_utf8_acceptRanges), ("unicode/utf8.first", laid_unicode_utf8_first)] }
def FloorNearSaid : Prop := floorNearRow.holds Tryd.pinned (OpenSpec.ofChange floorNearSpec)

/-- ITS FALSE NEIGHBOUR: 'it returns false'. Refute it at one input. -/
def floorNearWrong : ChangeSpec := { name := "floorNear", fn := fun _ => fun
  | [d1, d2, d3] => { results := [.lit (.bool false)], args := [d1, d2, d3] }
  | _ => none }
def FloorNearWrongFalsely : Prop := floorNearRow.holds Tryd.pinned (OpenSpec.ofChange floorNearWrong)

/-- 'carfaxlaw03.FloorAsks': WHATEVER THE INPUT: true; the input reads as it did. -/
def floorAsksSpec : ChangeSpec := { name := "floorAsks", fn := fun _ => fun
  | [d1, d2] => { results := [.lit (.bool true)], args := [d1, d2] }
  | _ => none }
def floorAsksRow : OpenClaim := { program := "ytolkkinophklcaadoor", sum := "eec05ad3c601e885e62d8ba355067ad051af0351756e766b4393cd47cdb0a41f", func := "carfax/carfaxlaw03.FloorAsks", spec := "floorAsks", inPlace := ["internal/bytealg.CountString", "internal/bytealg.IndexByteString", "internal/bytealg.IndexString", "internal/abi.NoEscape", "internal/bytealg.MakeNoZero"], named := ["unicode/utf8.first", "unicode/utf8.acceptRanges", "internal/bytealg.MaxLen"], apart := false, laid := [("unicode/utf8.acceptRanges", laid_unicode_utf8_acceptRanges), ("unicode/utf8.first", laid_unicode_utf8_first)] }
def FloorAsksSaid : Prop := floorAsksRow.holds Tryd.pinned (OpenSpec.ofChange floorAsksSpec)

/-- ITS FALSE NEIGHBOUR: 'it returns false'. Refute it at one input. -/
def floorAsksWrong : ChangeSpec := { name := "floorAsks", fn := fun _ => fun
  | [d1, d2] => { results := [.lit (.bool false)], args := [d1, d2] }
  | _ => none }
def FloorAsksWrongFalsely : Prop := floorAsksRow.holds Tryd.pinned (OpenSpec.ofChange floorAsksWrong)

/-- 'carfaxlaw03.FloorReached': WHATEVER THE INPUT: true; the input reads as it did. -/
def floorReachedSpec : ChangeSpec := { name := "floorReached", fn := fun _ => fun
  | [d] => { results := [.lit (.bool true)], args := [d] }
  | _ => none }
def floorReachedRow : OpenClaim := { program := "ytolkkinophklcaadoor", sum := "eec05ad3c601e885e62d8ba355067ad051af0351756e766b4393cd47cdb0a41f", func := "carfax/carfaxlaw03.FloorReached", spec := "floorReached", inPlace := ["internal/bytealg.CountString", "internal/bytealg.IndexByteString", "internal/bytealg.IndexString", "internal/abi.NoEscape", "internal/bytealg.MakeNoZero"], named := ["unicode/utf8.first", "unicode/utf8.acceptRanges", "internal/bytealg.MaxLen"], apart := false, laid := [("unicode/utf8.acceptRanges", laid_unicode_utf8_acceptRanges), ("unicode/utf8.first", laid_unicode_utf8_first)] }
def FloorReachedSaid : Prop := floorReachedRow.holds Tryd.pinned (OpenSpec.ofChange floorReachedSpec)

/-- ITS FALSE NEIGHBOUR: 'it returns false'. Refute it at one input. -/
def floorReachedWrong : ChangeSpec := { name := "floorReached", fn := fun _ => fun
  | [d] => { results := [.lit (.bool false)], args := [d] }
  | _ => none }
def FloorReachedWrongFalsely : Prop := floorReachedRow.holds Tryd.pinned (OpenSpec.ofChange floorReachedWrong)

/-- 'carfaxlaw03.FloorCounts': WHATEVER THE INPUT: true; the input reads as it did. -/
def floorCountsSpec : ChangeSpec := { name := "floorCounts", fn := fun _ => fun
  | [d] => { results := [.lit (.bool true)], args := [d] }
  | _ => none }
def floorCountsRow : OpenClaim := { program := "ytolkkinophklcaadoor", sum := "eec05ad3c601e885e62d8ba355067ad051af0351756e766b4393cd47cdb0a41f", func := "carfax/carfaxlaw03.FloorCounts", spec := "floorCounts", inPlace := ["internal/bytealg.CountString", "internal/bytealg.IndexByteString", "internal/bytealg.IndexString", "internal/abi.NoEscape", "internal/bytealg.MakeNoZero"], named := ["unicode/utf8.first", "unicode/utf8.acceptRanges", "internal/bytealg.MaxLen"], apart := false, laid := [("unicode/utf8.acceptRanges", laid_unicode_utf8_acceptRanges), ("unicode/utf8.first", laid_unicode_utf8_first)] }
def FloorCountsSaid : Prop := floorCountsRow.holds Tryd.pinned (OpenSpec.ofChange floorCountsSpec)

/-- ITS FALSE NEIGHBOUR: 'it returns false'. Refute it at one input. -/
def floorCountsWrong : ChangeSpec := { name := "floorCounts", fn := fun _ => fun
  | [d] => { results := [.lit (.bool false)], args := [d] }
  | _ => none }
def FloorCountsWrongFalsely : Prop := floorCountsRow.holds Tryd.pinned (OpenSpec.ofChange floorCountsWrong)

/-- 'carfaxlaw03.FloorRights': WHATEVER THE INPUT: true; the input reads as it did. -/
def floorRightsSpec : ChangeSpec := { name := "floorRights", fn := fun _ => fun
  | [d] => { results := [.lit (.bool true)], args := [d] }
  | _ => none }
def floorRightsRow : OpenClaim := { program := "ytolkkinophklcaadoor", sum := "eec05ad3c601e885e62d8ba355067ad051af0351756e766b4393cd47cdb0a41f", func := "carfax/carfaxlaw03.FloorRights", spec := "floorRights", inPlace := ["internal/bytealg.CountString", "internal/bytealg.IndexByteString", "internal/bytealg.IndexString", "internal/abi.NoEscape", "internal/bytealg.MakeNoZero"], named := ["unicode/utf8.first", "unicode/utf8.acceptRanges", "internal/bytealg.MaxLen", "bytes.ErrTooLarge"], apart := false, laid := [("unicode/utf8.acceptRanges", laid_unicode_utf8_acceptRanges), ("bytes.ErrTooLarge", laid_bytes_ErrTooLarge), ("unicode/utf8.first", laid_unicode_utf8_first)] }
def FloorRightsSaid : Prop := floorRightsRow.holds Tryd.pinned (OpenSpec.ofChange floorRightsSpec)

/-- ITS FALSE NEIGHBOUR: 'it returns false'. Refute it at one input. -/
def floorRightsWrong : ChangeSpec := { name := "floorRights", fn := fun _ => fun
  | [d] => { results := [.lit (.bool false)], args := [d] }
  | _ => none }
def FloorRightsWrongFalsely : Prop := floorRightsRow.holds Tryd.pinned (OpenSpec.ofChange floorRightsWrong)

/-- 'carfaxlaw03.FloorBack': WHATEVER THE INPUT: true; the input reads as it did. -/
def floorBackSpec : ChangeSpec := { name := "floorBack", fn := fun _ => fun
  | [d1, d2] => { results := [.lit (.bool true)], args := [d1, d2] }
  | _ => none }
def floorBackRow : OpenClaim := { program := "ytolkkinophklcaadoor", sum := "eec05ad3c601e885e62d8ba355067ad051af0351756e766b4393cd47cdb0a41f", func := "carfax/carfaxlaw03.FloorBack", spec := "floorBack", inPlace := ["internal/bytealg.CountString", "internal/bytealg.IndexByteString", "internal/bytealg.IndexString", "internal/abi.NoEscape", "internal/bytealg.MakeNoZero"], named := ["unicode/utf8.first", "unicode/utf8.acceptRanges", "internal/bytealg.MaxLen", "bytes.ErrTooLarge"], apart := false, laid := [("unicode/utf8.acceptRanges", laid_unicode_utf8_acceptRanges), ("bytes.ErrTooLarge", laid_bytes_ErrTooLarge), ("unicode/utf8.first", laid_unicode_utf8_first)] }
def FloorBackSaid : Prop := floorBackRow.holds Tryd.pinned (OpenSpec.ofChange floorBackSpec)

/-- ITS FALSE NEIGHBOUR: 'it returns false'. Refute it at one input. -/
def floorBackWrong : ChangeSpec := { name := "floorBack", fn := fun _ => fun
  | [d1, d2] => { results := [.lit (.bool false)], args := [d1, d2] }
  | _ => none }
def FloorBackWrongFalsely : Prop := floorBackRow.holds Tryd.pinned (OpenSpec.ofChange floorBackWrong)

/- THE SECOND FORM. 'bulk': how many values and letters a reading holds, each counted each time it is reached (what is shared counts as often as it is met; a slice's spare places count too). A statement '..UptoSaid' is the law's where the arguments, and the package variables that the reading takes, are together of bulk at most 1048576: NARROWER than '..Said'. Prove '..Said' where nothing that the law and all that it calls make is longer than what came in: it says more and counts as full. Else prove '..UptoSaid'. A law counts once. -/
mutual
def uptoBulk {H : Type} : DataW H → Nat
  | .lit (.string bytes) => bytes.length + 1
  | .lit _ => 1
  | .nil => 1
  | .ptr d => uptoBulk d + 1
  | .slice elems spare => uptoBulkAll elems + uptoBulkAll spare + 1
  | .agg parts => uptoBulkAll parts + 1
  | .iface _ d => uptoBulk d + 1
  | .map entries => uptoBulkEntries entries + 1
  | .held _ => 1
def uptoBulkAll {H : Type} : List (DataW H) → Nat
  | [] => 0
  | d :: r => uptoBulk d + uptoBulkAll r
def uptoBulkEntries {H : Type} : List (Lit × DataW H) → Nat
  | [] => 0
  | x :: r => uptoBulkEntry x + uptoBulkEntries r
def uptoBulkEntry {H : Type} : Lit × DataW H → Nat
  | (.string bytes, d) => bytes.length + uptoBulk d + 1
  | (_, d) => uptoBulk d + 1
 end
def uptoSmall : (H : Type) → List (DataW H) → Bool := fun _ ds => decide (uptoBulkAll ds ≤ 1048576)
def OpenSpec.upto (s : _root_.Go.ChangeSpec) : _root_.Go.OpenSpec := { _root_.Go.OpenSpec.ofChange s with cond := some uptoSmall }

/-- 'carfaxlaw03.FloorParses', WHERE WHAT IT READS IS OF BULK AT MOST 1048576: true; the input reads as it did. -/
def floorParsesUptoRow : OpenClaim := { program := "ytolkkinophklcaadoor", sum := "eec05ad3c601e885e62d8ba355067ad051af0351756e766b4393cd47cdb0a41f", func := "carfax/carfaxlaw03.FloorParses", spec := "floorParses", inPlace := ["internal/bytealg.CountString", "internal/bytealg.IndexByteString", "internal/bytealg.IndexString", "internal/abi.NoEscape", "internal/bytealg.MakeNoZero"], named := ["unicode/utf8.first", "unicode/utf8.acceptRanges", "internal/bytealg.MaxLen"], apart := false, laid := [("unicode/utf8.acceptRanges", laid_unicode_utf8_acceptRanges), ("unicode/utf8.first", laid_unicode_utf8_first)], narrowed := true }
def FloorParsesUptoSaid : Prop := floorParsesUptoRow.holds Tryd.pinned (OpenSpec.upto floorParsesSpec)

/-- 'carfaxlaw03.FloorNear', WHERE WHAT IT READS IS OF BULK AT MOST 1048576: true; the input reads as it did. -/
def floorNearUptoRow : OpenClaim := { program := "ytolkkinophklcaadoor", sum := "eec05ad3c601e885e62d8ba355067ad051af0351756e766b4393cd47cdb0a41f", func := "carfax/carfaxlaw03.FloorNear", spec := "floorNear", inPlace := ["internal/bytealg.CountString", "internal/bytealg.IndexByteString", "internal/bytealg.IndexString", "internal/abi.NoEscape", "internal/bytealg.MakeNoZero"], named := ["unicode/utf8.first", "unicode/utf8.acceptRanges", "internal/bytealg.MaxLen"], apart := false, laid := [("unicode/utf8.acceptRanges", laid_unicode_utf8_acceptRanges), ("unicode/utf8.first", laid_unicode_utf8_first)], narrowed := true }
def FloorNearUptoSaid : Prop := floorNearUptoRow.holds Tryd.pinned (OpenSpec.upto floorNearSpec)

/-- 'carfaxlaw03.FloorAsks', WHERE WHAT IT READS IS OF BULK AT MOST 1048576: true; the input reads as it did. -/
def floorAsksUptoRow : OpenClaim := { program := "ytolkkinophklcaadoor", sum := "eec05ad3c601e885e62d8ba355067ad051af0351756e766b4393cd47cdb0a41f", func := "carfax/carfaxlaw03.FloorAsks", spec := "floorAsks", inPlace := ["internal/bytealg.CountString", "internal/bytealg.IndexByteString", "internal/bytealg.IndexString", "internal/abi.NoEscape", "internal/bytealg.MakeNoZero"], named := ["unicode/utf8.first", "unicode/utf8.acceptRanges", "internal/bytealg.MaxLen"], apart := false, laid := [("unicode/utf8.acceptRanges", laid_unicode_utf8_acceptRanges), ("unicode/utf8.first", laid_unicode_utf8_first)], narrowed := true }
def FloorAsksUptoSaid : Prop := floorAsksUptoRow.holds Tryd.pinned (OpenSpec.upto floorAsksSpec)

/-- 'carfaxlaw03.FloorReached', WHERE WHAT IT READS IS OF BULK AT MOST 1048576: true; the input reads as it did. -/
def floorReachedUptoRow : OpenClaim := { program := "ytolkkinophklcaadoor", sum := "eec05ad3c601e885e62d8ba355067ad051af0351756e766b4393cd47cdb0a41f", func := "carfax/carfaxlaw03.FloorReached", spec := "floorReached", inPlace := ["internal/bytealg.CountString", "internal/bytealg.IndexByteString", "internal/bytealg.IndexString", "internal/abi.NoEscape", "internal/bytealg.MakeNoZero"], named := ["unicode/utf8.first", "unicode/utf8.acceptRanges", "internal/bytealg.MaxLen"], apart := false, laid := [("unicode/utf8.acceptRanges", laid_unicode_utf8_acceptRanges), ("unicode/utf8.first", laid_unicode_utf8_first)], narrowed := true }
def FloorReachedUptoSaid : Prop := floorReachedUptoRow.holds Tryd.pinned (OpenSpec.upto floorReachedSpec)

/-- 'carfaxlaw03.FloorCounts', WHERE WHAT IT READS IS OF BULK AT MOST 1048576: true; the input reads as it did. -/
def floorCountsUptoRow : OpenClaim := { program := "ytolkkinophklcaadoor", sum := "eec05ad3c601e885e62d8ba355067ad051af0351756e766b4393cd47cdb0a41f", func := "carfax/carfaxlaw03.FloorCounts", spec := "floorCounts", inPlace := ["internal/bytealg.CountString", "internal/bytealg.IndexByteString", "internal/bytealg.IndexString", "internal/abi.NoEscape", "internal/bytealg.MakeNoZero"], named := ["unicode/utf8.first", "unicode/utf8.acceptRanges", "internal/bytealg.MaxLen"], apart := false, laid := [("unicode/utf8.acceptRanges", laid_unicode_utf8_acceptRanges), ("unicode/utf8.first", laid_unicode_utf8_first)], narrowed := true }
def FloorCountsUptoSaid : Prop := floorCountsUptoRow.holds Tryd.pinned (OpenSpec.upto floorCountsSpec)

/-- 'carfaxlaw03.FloorRights', WHERE WHAT IT READS IS OF BULK AT MOST 1048576: true; the input reads as it did. -/
def floorRightsUptoRow : OpenClaim := { program := "ytolkkinophklcaadoor", sum := "eec05ad3c601e885e62d8ba355067ad051af0351756e766b4393cd47cdb0a41f", func := "carfax/carfaxlaw03.FloorRights", spec := "floorRights", inPlace := ["internal/bytealg.CountString", "internal/bytealg.IndexByteString", "internal/bytealg.IndexString", "internal/abi.NoEscape", "internal/bytealg.MakeNoZero"], named := ["unicode/utf8.first", "unicode/utf8.acceptRanges", "internal/bytealg.MaxLen", "bytes.ErrTooLarge"], apart := false, laid := [("unicode/utf8.acceptRanges", laid_unicode_utf8_acceptRanges), ("bytes.ErrTooLarge", laid_bytes_ErrTooLarge), ("unicode/utf8.first", laid_unicode_utf8_first)], narrowed := true }
def FloorRightsUptoSaid : Prop := floorRightsUptoRow.holds Tryd.pinned (OpenSpec.upto floorRightsSpec)

/-- 'carfaxlaw03.FloorBack', WHERE WHAT IT READS IS OF BULK AT MOST 1048576: true; the input reads as it did. -/
def floorBackUptoRow : OpenClaim := { program := "ytolkkinophklcaadoor", sum := "eec05ad3c601e885e62d8ba355067ad051af0351756e766b4393cd47cdb0a41f", func := "carfax/carfaxlaw03.FloorBack", spec := "floorBack", inPlace := ["internal/bytealg.CountString", "internal/bytealg.IndexByteString", "internal/bytealg.IndexString", "internal/abi.NoEscape", "internal/bytealg.MakeNoZero"], named := ["unicode/utf8.first", "unicode/utf8.acceptRanges", "internal/bytealg.MaxLen", "bytes.ErrTooLarge"], apart := false, laid := [("unicode/utf8.acceptRanges", laid_unicode_utf8_acceptRanges), ("bytes.ErrTooLarge", laid_bytes_ErrTooLarge), ("unicode/utf8.first", laid_unicode_utf8_first)], narrowed := true }
def FloorBackUptoSaid : Prop := floorBackUptoRow.holds Tryd.pinned (OpenSpec.upto floorBackSpec)

end Rows
end Go.Proofs.YtolkkinophklcaaDoor
