/- LinkPlays: the row's walk. -/
import Derived.Test.YtnejjjoedmefkaaLwP
namespace Go.Proofs.Ytnejjjoedmefkaa
set_option linter.unusedVariables false
set_option linter.unusedSimpArgs false
open Go.ChangeShapes Go.WideShapes Go.ChangeAt Go.RowKit Go.Joins
theorem plays14_row {w : World} {v : Value} {l : List A14} (hv : Rd AK14 w v l) (hg : ∀ x ∈ l, x.ok w) (x y : Int) (hx : (Lit.int .u64 x).wf = true) (hy : (Lit.int .u64 y).wf = true) : Calls Try.prog 6 #[.int .u64 x, .int .u64 y, v] w (LawR w) := by
  have hb := bounds_u64 hx
  have hc := bounds_u64 hy
  obtain ⟨n, rfl⟩ := Int.eq_ofNat_of_zero_le hb.1
  obtain ⟨m, rfl⟩ := Int.eq_ofNat_of_zero_le hc.1
  exact plays14_any hv hg n m (by omega) (by omega)
end Go.Proofs.Ytnejjjoedmefkaa
