/- Contracts of the small functions of package window. -/
import Derived.Test.YtihnbgokkhbjnaaGen



namespace Go.Proofs.Ytihnbgokkhbjnaa
set_option linter.unusedVariables false
set_option linter.unusedSimpArgs false
open Go.RowKit

theorem right_any (a b : Int) (w : World) :
    Calls Try.prog 25 #[.agg #[.int .i64 a, .int .i64 b]] w fun e w' => e = .returned (.bool (decide (0 ≤ a ∧ a < b ∧ b ≤ 1048576))) ∧ w' = w.alloc (.cells #[.int .i64 a, .int .i64 b] 23) := by
  by_cases h1 : 0 ≤ a
  · by_cases h2 : a < b
    · go_enter Try.func25, Try.ntmps25
      go_wp2
      go_ret
      exact ⟨by simp [*] <;> omega, rfl⟩
    · go_enter Try.func25, Try.ntmps25
      go_wp2
      go_ret
      exact ⟨by simp [*] <;> omega, rfl⟩
  · go_enter Try.func25, Try.ntmps25
    go_wp2
    go_ret
    exact ⟨by simp [*] <;> omega, rfl⟩

theorem lit_any (a b m : Int) (w : World) :
    Calls Try.prog 35 #[.agg #[.int .i64 a, .int .i64 b], .int .i64 m] w fun e w' => e = .returned (.int .i64 (if b ≤ m then -1 else 1)) ∧ w' = w.alloc (.cells #[.int .i64 a, .int .i64 b] 23) := by
  by_cases h1 : b ≤ m
  · go_enter Try.func35, Try.ntmps35
    go_wp2
    go_ret
    exact ⟨by simp [*] <;> omega, rfl⟩
  · go_enter Try.func35, Try.ntmps35
    go_wp2
    go_ret
    exact ⟨by simp [*] <;> omega, rfl⟩
end Go.Proofs.Ytihnbgokkhbjnaa
