/- floor.kind, floor.beside. -/
import Derived.Test.YtolkkinophklcaaDoorFlP
import Derived.Test.YtolkkinophklcaaDoorInt
import Derived.Test.YtolkkinophklcaaDoorLaw
namespace Go.Proofs.YtolkkinophklcaaDoor
set_option linter.unusedVariables false
set_option linter.unusedSimpArgs false
open Go.RowKit

set_option maxRecDepth 100000 in
theorem kind_any (c : Nat) (w : World) : Calls Tryd.prog 39 #[.int .u8 (c : Int)] w fun e w' => e = .returned (.int .i64 (kindB c : Int)) ∧ w' = w := by
  obtain ⟨K, hK⟩ : ∃ K, K = kindB c := ⟨_, rfl⟩
  have HK := Lib.hid hK
  rw [← hK]
  clear hK
  by_cases h1 : c = 35
  · have e : K = 1 := by rw [HK.out]; unfold kindB; rw [if_pos h1]
    subst h1 e
    go_enter Tryd.func39, Tryd.ntmps39
    go_wp2
    go_ret
    exact ⟨rfl, rfl⟩
  · have h1b : ((c : Int) == 35) = false := by simp; omega
    by_cases h2 : 97 ≤ c
    · have h2I : (97 : Int) ≤ (c : Int) := by omega
      by_cases h3 : c ≤ 122
      · have h3I : (c : Int) ≤ 122 := by omega
        have e : K = 2 := by rw [HK.out]; unfold kindB; rw [if_neg h1, if_pos ⟨h2, h3⟩]
        subst e
        clear h1 h2 h3
        go_enter Tryd.func39, Tryd.ntmps39
        go_wp2
        go_ret
        exact ⟨rfl, rfl⟩
      · have h3I : ¬ (c : Int) ≤ 122 := by omega
        have h4I : (48 : Int) ≤ (c : Int) := by omega
        have h5I : ¬ (c : Int) < 56 := by omega
        have e : K = 0 := by rw [HK.out]; unfold kindB; rw [if_neg h1, if_neg (by omega), if_neg (by omega)]
        subst e
        clear h1 h2 h3
        go_enter Tryd.func39, Tryd.ntmps39
        go_wp2
        go_ret
        exact ⟨rfl, rfl⟩
    · have h2I : ¬ (97 : Int) ≤ (c : Int) := by omega
      by_cases h4 : 48 ≤ c
      · have h4I : (48 : Int) ≤ (c : Int) := by omega
        by_cases h5 : c < 56
        · have h5I : (c : Int) < 56 := by omega
          have e : K = 3 := by rw [HK.out]; unfold kindB; rw [if_neg h1, if_neg (by omega), if_pos ⟨h4, h5⟩]
          subst e
          clear h1 h2 h4 h5
          go_enter Tryd.func39, Tryd.ntmps39
          go_wp2
          go_ret
          exact ⟨rfl, rfl⟩
        · have h5I : ¬ (c : Int) < 56 := by omega
          have e : K = 0 := by rw [HK.out]; unfold kindB; rw [if_neg h1, if_neg (by omega), if_neg (by omega)]
          subst e
          clear h1 h2 h4 h5
          go_enter Tryd.func39, Tryd.ntmps39
          go_wp2
          go_ret
          exact ⟨rfl, rfl⟩
      · have h4I : ¬ (48 : Int) ≤ (c : Int) := by omega
        have e : K = 0 := by rw [HK.out]; unfold kindB; rw [if_neg h1, if_neg (by omega), if_neg (by omega)]
        subst e
        clear h1 h2 h4
        go_enter Tryd.func39, Tryd.ntmps39
        go_wp2
        go_ret
        exact ⟨rfl, rfl⟩
end Go.Proofs.YtolkkinophklcaaDoor
