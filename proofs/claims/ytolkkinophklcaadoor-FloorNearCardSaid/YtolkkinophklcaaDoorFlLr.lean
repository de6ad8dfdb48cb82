/- What the laws on floors are asked. -/
import Derived.Test.YtolkkinophklcaaDoorFlLa
import Derived.Test.YtolkkinophklcaaDoorFlLn
import Derived.Test.YtolkkinophklcaaDoorArgF
namespace Go.Proofs.YtolkkinophklcaaDoor
set_option linter.unusedVariables false
set_option linter.unusedSimpArgs false
open Go.RowKit
theorem near_row' (s : ByteArray) (hs : s.size ≤ maxLen) (p q : Int) (hp : (Lit.int .u8 p).wf = true) (hq : (Lit.int .u8 q).wf = true) (w : World) : Calls Tryd.prog 4 #[.string s, .int .u8 p, .int .u8 q] w (LawR w) := by
  have b1 := bounds_u8 hp
  have b2 := bounds_u8 hq
  exact near_row s hs p q b1.1 b1.2 b2.1 b2.2 w
theorem asks_row' (f : Flr) (hs : f.s.size ≤ 9223372036854775807) (c : Int) (hc : (Lit.int .i64 c).wf = true) (w : World) : Calls Tryd.prog 5 #[f.val, .int .i64 c] w (LawR w) := asks_row f hs c (bounds_i64 hc).2 w
end Go.Proofs.YtolkkinophklcaaDoor
