/- What all laws here answer; two facts on the program. -/
import Derived.Test.YtolkkinophklcaaDoorGen
namespace Go.Proofs.YtolkkinophklcaaDoor
set_option linter.unusedVariables false
set_option linter.unusedSimpArgs false
open Go.RowKit
theorem own : ownKnob Tryd.prog.godebug = none := by kernel_rfl
theorem laid : laidOutB Tryd.prog = true := by kernel_rfl
def LawR (w : World) (e : Ending) (w' : World) : Prop := e = .returned (.bool true) ∧ Kp No w w'
end Go.Proofs.YtolkkinophklcaaDoor
