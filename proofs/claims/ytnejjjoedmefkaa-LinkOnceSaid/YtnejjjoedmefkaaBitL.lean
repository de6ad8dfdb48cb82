/- math/bits.Len64. -/
import Derived.Test.YtnejjjoedmefkaaBitX
namespace Go.Proofs.Ytnejjjoedmefkaa
set_option linter.unusedVariables false
set_option linter.unusedSimpArgs false
open Go.RowKit

/-- How many bits a number needs. -/
def blen (n : Nat) : Nat := if h : n = 0 then 0 else blen (n / 2) + 1
termination_by n
decreasing_by omega
theorem blen_zero : blen 0 = 0 := by rw [blen]; simp
theorem blen_pos {n : Nat} (h : n ≠ 0) : blen n = blen (n / 2) + 1 := by rw [blen]; simp [h]
theorem blen_div (j : Nat) : ∀ n, 2 ^ j ≤ n → blen n = j + blen (n / 2 ^ j) := by
  induction j with
  | zero => intro n _; simp
  | succ j ih =>
    intro n h
    rw [Nat.pow_succ] at h
    have h0 : n ≠ 0 := by have := Nat.two_pow_pos j; omega
    rw [blen_pos h0, ih (n / 2) (by omega), Nat.div_div_eq_div_mul, Nat.pow_succ, Nat.mul_comm 2]
    omega
theorem blen_bound (n : Nat) : n < 2 ^ blen n ∧ (n ≠ 0 → 2 ^ (blen n - 1) ≤ n) := by
  induction n using Nat.strongRecOn with
  | _ n ih =>
    by_cases h : n = 0
    · subst h; rw [blen_zero]; simp
    · obtain ⟨h1, h2⟩ := ih (n / 2) (by omega)
      rw [blen_pos h, Nat.pow_succ]
      refine ⟨by omega, fun _ => ?_⟩
      by_cases h3 : n / 2 = 0
      · rw [h3, blen_zero]; simp; omega
      · have h4 := h2 h3
        have h5 : blen (n / 2) ≠ 0 := by rw [blen_pos h3]; omega
        obtain ⟨b, hb⟩ : ∃ b, blen (n / 2) = b + 1 := ⟨blen (n / 2) - 1, by omega⟩
        rw [hb] at h4 ⊢
        simp only [Nat.add_sub_cancel] at h4 ⊢
        rw [Nat.pow_succ]; omega

theorem blen_log (n : Nat) : blen n = if n = 0 then 0 else n.log2 + 1 := by
  induction n using Nat.strongRecOn with
  | _ n ih =>
    by_cases h : n = 0
    · subst h; rw [blen_zero]; rfl
    · rw [blen_pos h, ih (n / 2) (by omega), if_neg h, Nat.log2_def n]
      by_cases h2 : 2 ≤ n
      · rw [if_pos h2, if_neg (by omega)]
      · rw [if_neg h2, if_pos (by omega)]
set_option maxRecDepth 100000 in
theorem tab_log : ∀ x, (h : x < 256) → ((({ data := #[0, 1, 2, 2, 3, 3, 3, 3, 4, 4, 4, 4, 4, 4, 4, 4, 5, 5, 5, 5, 5, 5, 5, 5, 5, 5, 5, 5, 5, 5, 5, 5, 6, 6, 6, 6, 6, 6, 6, 6, 6, 6, 6, 6, 6, 6, 6, 6, 6, 6, 6, 6, 6, 6, 6, 6, 6, 6, 6, 6, 6, 6, 6, 6, 7, 7, 7, 7, 7, 7, 7, 7, 7, 7, 7, 7, 7, 7, 7, 7, 7, 7, 7, 7, 7, 7, 7, 7, 7, 7, 7, 7, 7, 7, 7, 7, 7, 7, 7, 7, 7, 7, 7, 7, 7, 7, 7, 7, 7, 7, 7, 7, 7, 7, 7, 7, 7, 7, 7, 7, 7, 7, 7, 7, 7, 7, 7, 7, 8, 8, 8, 8, 8, 8, 8, 8, 8, 8, 8, 8, 8, 8, 8, 8, 8, 8, 8, 8, 8, 8, 8, 8, 8, 8, 8, 8, 8, 8, 8, 8, 8, 8, 8, 8, 8, 8, 8, 8, 8, 8, 8, 8, 8, 8, 8, 8, 8, 8, 8, 8, 8, 8, 8, 8, 8, 8, 8, 8, 8, 8, 8, 8, 8, 8, 8, 8, 8, 8, 8, 8, 8, 8, 8, 8, 8, 8, 8, 8, 8, 8, 8, 8, 8, 8, 8, 8, 8, 8, 8, 8, 8, 8, 8, 8, 8, 8, 8, 8, 8, 8, 8, 8, 8, 8, 8, 8, 8, 8, 8, 8, 8, 8, 8, 8, 8, 8, 8, 8, 8, 8, 8, 8, 8, 8, 8, 8] } : ByteArray)[x]'h).toNat) = if x = 0 then 0 else x.log2 + 1 := by decide +kernel
set_option maxRecDepth 100000 in
theorem tab_ok (x : Nat) (h : x < 256) : ((({ data := #[0, 1, 2, 2, 3, 3, 3, 3, 4, 4, 4, 4, 4, 4, 4, 4, 5, 5, 5, 5, 5, 5, 5, 5, 5, 5, 5, 5, 5, 5, 5, 5, 6, 6, 6, 6, 6, 6, 6, 6, 6, 6, 6, 6, 6, 6, 6, 6, 6, 6, 6, 6, 6, 6, 6, 6, 6, 6, 6, 6, 6, 6, 6, 6, 7, 7, 7, 7, 7, 7, 7, 7, 7, 7, 7, 7, 7, 7, 7, 7, 7, 7, 7, 7, 7, 7, 7, 7, 7, 7, 7, 7, 7, 7, 7, 7, 7, 7, 7, 7, 7, 7, 7, 7, 7, 7, 7, 7, 7, 7, 7, 7, 7, 7, 7, 7, 7, 7, 7, 7, 7, 7, 7, 7, 7, 7, 7, 7, 8, 8, 8, 8, 8, 8, 8, 8, 8, 8, 8, 8, 8, 8, 8, 8, 8, 8, 8, 8, 8, 8, 8, 8, 8, 8, 8, 8, 8, 8, 8, 8, 8, 8, 8, 8, 8, 8, 8, 8, 8, 8, 8, 8, 8, 8, 8, 8, 8, 8, 8, 8, 8, 8, 8, 8, 8, 8, 8, 8, 8, 8, 8, 8, 8, 8, 8, 8, 8, 8, 8, 8, 8, 8, 8, 8, 8, 8, 8, 8, 8, 8, 8, 8, 8, 8, 8, 8, 8, 8, 8, 8, 8, 8, 8, 8, 8, 8, 8, 8, 8, 8, 8, 8, 8, 8, 8, 8, 8, 8, 8, 8, 8, 8, 8, 8, 8, 8, 8, 8, 8, 8, 8, 8, 8, 8, 8, 8] } : ByteArray)[x]'h).toNat) = blen x := by rw [tab_log x h, blen_log]
theorem blen_le {n k : Nat} (h : n < 2 ^ k) : blen n ≤ k := by
  by_cases h0 : n = 0
  · subst h0; rw [blen_zero]; omega
  · have := (blen_bound n).2 h0
    by_cases hk : blen n ≤ k
    · exact hk
    · have : 2 ^ k ≤ 2 ^ (blen n - 1) := Nat.pow_le_pow_right (by decide) (by omega)
      omega

theorem fin64 (x : Int) (t : Nat) (h : x = (t : Int)) (ht : t ≤ 64) : wrap64 x = (t : Int) := by
  subst h
  exact IntWalk.wrap64_in _ (by omega)

set_option maxRecDepth 100000 in
theorem len64_any (w : World) (n : Nat) (hn : n < 18446744073709551616) (r : Nat) (hr : r = blen n) : Calls Try.prog 59 #[.int .u64 (n : Int)] w fun e w' => e = .returned (.int .i64 (r : Int)) ∧ w' = w := by
  by_cases c0 : 4294967296 ≤ n
  · have c0I : (4294967296 : Int) ≤ (n : Int) := by omega
    have d0 := blen_div 32 n c0
    obtain ⟨q0, hq0⟩ : ∃ q0, q0 = n / 2 ^ 32 := ⟨_, rfl⟩
    rw [← hq0] at d0
    have lq0 : q0 < 4294967296 := by rw [hq0]; omega
    have iq0 : (n : Int) / 4294967296 = (q0 : Int) := by rw [hq0]; omega
    clear hq0
    by_cases c1 : 65536 ≤ q0
    · have c1I : (65536 : Int) ≤ (q0 : Int) := by omega
      have d1 := blen_div 16 q0 c1
      obtain ⟨q1, hq1⟩ : ∃ q1, q1 = q0 / 2 ^ 16 := ⟨_, rfl⟩
      rw [← hq1] at d1
      have lq1 : q1 < 65536 := by rw [hq1]; omega
      have iq1 : (q0 : Int) / 65536 = (q1 : Int) := by rw [hq1]; omega
      clear hq1
      by_cases c2 : 256 ≤ q1
      · have c2I : (256 : Int) ≤ (q1 : Int) := by omega
        have d2 := blen_div 8 q1 c2
        obtain ⟨q2, hq2⟩ : ∃ q2, q2 = q1 / 2 ^ 8 := ⟨_, rfl⟩
        rw [← hq2] at d2
        have lq2 : q2 < 256 := by rw [hq2]; omega
        have iq2 : (q1 : Int) / 256 = (q2 : Int) := by rw [hq2]; omega
        clear hq2
        have hb := blen_le (n := q2) (k := 8) (by omega)
        have hrr : r = 56 + blen q2 := by rw [hr, d0, d1, d2]; omega
        have hq8 : q2 < 256 := by omega
        have hq8I : (q2 : Int) < 256 := by omega
        have hq8J : ¬ (256 : Int) ≤ (q2 : Int) := by omega
        have HR := Lib.hid hrr
        clear hr hrr
        go_enter Try.func59, Try.ntmps59
        go_wp2
        simp only [tab_ok]
        go_ret
        refine ⟨?_, rfl⟩
        rw [HR.out]
        show Ending.returned (.int .i64 (wrap64 _)) = _
        rw [fin64 _ (56 + blen q2) ?_ (by omega)]
        rw [fin64 _ (blen q2) rfl (by omega)]
        omega
      · have c2I : ¬ (256 : Int) ≤ (q1 : Int) := by omega
        have hb := blen_le (n := q1) (k := 8) (by omega)
        have hrr : r = 48 + blen q1 := by rw [hr, d0, d1]; omega
        have hq8 : q1 < 256 := by omega
        have hq8I : (q1 : Int) < 256 := by omega
        have hq8J : ¬ (256 : Int) ≤ (q1 : Int) := by omega
        have HR := Lib.hid hrr
        clear hr hrr
        go_enter Try.func59, Try.ntmps59
        go_wp2
        simp only [tab_ok]
        go_ret
        refine ⟨?_, rfl⟩
        rw [HR.out]
        show Ending.returned (.int .i64 (wrap64 _)) = _
        rw [fin64 _ (48 + blen q1) ?_ (by omega)]
        rw [fin64 _ (blen q1) rfl (by omega)]
        omega
    · have c1I : ¬ (65536 : Int) ≤ (q0 : Int) := by omega
      by_cases c2 : 256 ≤ q0
      · have c2I : (256 : Int) ≤ (q0 : Int) := by omega
        have d2 := blen_div 8 q0 c2
        obtain ⟨q2, hq2⟩ : ∃ q2, q2 = q0 / 2 ^ 8 := ⟨_, rfl⟩
        rw [← hq2] at d2
        have lq2 : q2 < 256 := by rw [hq2]; omega
        have iq2 : (q0 : Int) / 256 = (q2 : Int) := by rw [hq2]; omega
        clear hq2
        have hb := blen_le (n := q2) (k := 8) (by omega)
        have hrr : r = 40 + blen q2 := by rw [hr, d0, d2]; omega
        have hq8 : q2 < 256 := by omega
        have hq8I : (q2 : Int) < 256 := by omega
        have hq8J : ¬ (256 : Int) ≤ (q2 : Int) := by omega
        have HR := Lib.hid hrr
        clear hr hrr
        go_enter Try.func59, Try.ntmps59
        go_wp2
        simp only [tab_ok]
        go_ret
        refine ⟨?_, rfl⟩
        rw [HR.out]
        show Ending.returned (.int .i64 (wrap64 _)) = _
        rw [fin64 _ (40 + blen q2) ?_ (by omega)]
        rw [fin64 _ (blen q2) rfl (by omega)]
        omega
      · have c2I : ¬ (256 : Int) ≤ (q0 : Int) := by omega
        have hb := blen_le (n := q0) (k := 8) (by omega)
        have hrr : r = 32 + blen q0 := by rw [hr, d0]
        have hq8 : q0 < 256 := by omega
        have hq8I : (q0 : Int) < 256 := by omega
        have hq8J : ¬ (256 : Int) ≤ (q0 : Int) := by omega
        have HR := Lib.hid hrr
        clear hr hrr
        go_enter Try.func59, Try.ntmps59
        go_wp2
        simp only [tab_ok]
        go_ret
        refine ⟨?_, rfl⟩
        rw [HR.out]
        show Ending.returned (.int .i64 (wrap64 _)) = _
        rw [fin64 _ (32 + blen q0) ?_ (by omega)]
        rw [fin64 _ (blen q0) rfl (by omega)]
        omega
  · have c0I : ¬ (4294967296 : Int) ≤ (n : Int) := by omega
    by_cases c1 : 65536 ≤ n
    · have c1I : (65536 : Int) ≤ (n : Int) := by omega
      have d1 := blen_div 16 n c1
      obtain ⟨q1, hq1⟩ : ∃ q1, q1 = n / 2 ^ 16 := ⟨_, rfl⟩
      rw [← hq1] at d1
      have lq1 : q1 < 65536 := by rw [hq1]; omega
      have iq1 : (n : Int) / 65536 = (q1 : Int) := by rw [hq1]; omega
      clear hq1
      by_cases c2 : 256 ≤ q1
      · have c2I : (256 : Int) ≤ (q1 : Int) := by omega
        have d2 := blen_div 8 q1 c2
        obtain ⟨q2, hq2⟩ : ∃ q2, q2 = q1 / 2 ^ 8 := ⟨_, rfl⟩
        rw [← hq2] at d2
        have lq2 : q2 < 256 := by rw [hq2]; omega
        have iq2 : (q1 : Int) / 256 = (q2 : Int) := by rw [hq2]; omega
        clear hq2
        have hb := blen_le (n := q2) (k := 8) (by omega)
        have hrr : r = 24 + blen q2 := by rw [hr, d1, d2]; omega
        have hq8 : q2 < 256 := by omega
        have hq8I : (q2 : Int) < 256 := by omega
        have hq8J : ¬ (256 : Int) ≤ (q2 : Int) := by omega
        have HR := Lib.hid hrr
        clear hr hrr
        go_enter Try.func59, Try.ntmps59
        go_wp2
        simp only [tab_ok]
        go_ret
        refine ⟨?_, rfl⟩
        rw [HR.out]
        show Ending.returned (.int .i64 (wrap64 _)) = _
        rw [fin64 _ (24 + blen q2) ?_ (by omega)]
        rw [fin64 _ (blen q2) rfl (by omega)]
        omega
      · have c2I : ¬ (256 : Int) ≤ (q1 : Int) := by omega
        have hb := blen_le (n := q1) (k := 8) (by omega)
        have hrr : r = 16 + blen q1 := by rw [hr, d1]
        have hq8 : q1 < 256 := by omega
        have hq8I : (q1 : Int) < 256 := by omega
        have hq8J : ¬ (256 : Int) ≤ (q1 : Int) := by omega
        have HR := Lib.hid hrr
        clear hr hrr
        go_enter Try.func59, Try.ntmps59
        go_wp2
        simp only [tab_ok]
        go_ret
        refine ⟨?_, rfl⟩
        rw [HR.out]
        show Ending.returned (.int .i64 (wrap64 _)) = _
        rw [fin64 _ (16 + blen q1) ?_ (by omega)]
        rw [fin64 _ (blen q1) rfl (by omega)]
        omega
    · have c1I : ¬ (65536 : Int) ≤ (n : Int) := by omega
      by_cases c2 : 256 ≤ n
      · have c2I : (256 : Int) ≤ (n : Int) := by omega
        have d2 := blen_div 8 n c2
        obtain ⟨q2, hq2⟩ : ∃ q2, q2 = n / 2 ^ 8 := ⟨_, rfl⟩
        rw [← hq2] at d2
        have lq2 : q2 < 256 := by rw [hq2]; omega
        have iq2 : (n : Int) / 256 = (q2 : Int) := by rw [hq2]; omega
        clear hq2
        have hb := blen_le (n := q2) (k := 8) (by omega)
        have hrr : r = 8 + blen q2 := by rw [hr, d2]
        have hq8 : q2 < 256 := by omega
        have hq8I : (q2 : Int) < 256 := by omega
        have hq8J : ¬ (256 : Int) ≤ (q2 : Int) := by omega
        have HR := Lib.hid hrr
        clear hr hrr
        go_enter Try.func59, Try.ntmps59
        go_wp2
        simp only [tab_ok]
        go_ret
        refine ⟨?_, rfl⟩
        rw [HR.out]
        show Ending.returned (.int .i64 (wrap64 _)) = _
        rw [fin64 _ (8 + blen q2) ?_ (by omega)]
        rw [fin64 _ (blen q2) rfl (by omega)]
        omega
      · have c2I : ¬ (256 : Int) ≤ (n : Int) := by omega
        have hb := blen_le (n := n) (k := 8) (by omega)
        have hrr : r = 0 + blen n := by rw [hr]; omega
        have hq8 : n < 256 := by omega
        have hq8I : (n : Int) < 256 := by omega
        have hq8J : ¬ (256 : Int) ≤ (n : Int) := by omega
        have HR := Lib.hid hrr
        clear hr hrr
        go_enter Try.func59, Try.ntmps59
        go_wp2
        simp only [tab_ok]
        go_ret
        refine ⟨?_, rfl⟩
        rw [HR.out]
        show Ending.returned (.int .i64 (wrap64 _)) = _
        rw [fin64 _ (0 + blen n) ?_ (by omega)]
        rw [fin64 _ (blen n) rfl (by omega)]
        omega
end Go.Proofs.Ytnejjjoedmefkaa
