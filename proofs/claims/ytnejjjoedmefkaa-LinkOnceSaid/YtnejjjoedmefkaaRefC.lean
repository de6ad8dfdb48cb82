/- carfaxref01: Count. -/
import Derived.Test.YtnejjjoedmefkaaRefB
namespace Go.Proofs.Ytnejjjoedmefkaa
set_option linter.unusedVariables false
set_option linter.unusedSimpArgs false
open Go.RowKit

theorem blen_step (m k : Nat) (h : 1 < m / 2 ^ k) : blen (m / 2 ^ k) = blen (m / 2 ^ (k + 1)) + 1 := by
  rw [blen_pos (by omega), Nat.div_div_eq_div_mul, ← Nat.pow_succ]

set_option maxRecDepth 100000 in
theorem rcountb_any (w : World) (n : Nat) (hn : n < 18446744073709551615) :
    Calls Try.prog 40 #[.int .u64 (n : Int)] w fun e w' => ∃ v, e = .returned v ∧ NewS QK 4 w w' v (cbits n) := by
  obtain ⟨m, hm⟩ : ∃ m, m = n + 1 := ⟨_, rfl⟩
  have hmI : (n : Int) + 1 = (m : Int) := by omega
  have hmw : IntKind.u64.wrap (m : Int) = (m : Int) := IntWalk.u64_in _ (by omega)
  have HM := Lib.hid hm
  have hm64 : m < 18446744073709551616 := by omega
  have hm1 : 1 ≤ m := by omega
  clear hm hn
  go_enter Try.func40, Try.ntmps40
  go_wp2
  go_loopw [3, 4] (fun i a wr => ∃ k : Nat, i = .int .i64 k ∧ k ≤ 64 ∧ a = .int .u64 ((m / 2 ^ k : Nat) : Int) ∧ 1 ≤ m / 2 ^ k ∧ blen m = k + blen (m / 2 ^ k) ∧ wr = w) (fun _ a _ => (intOf a).toNat)
  case atStart => exact ⟨0, rfl, by omega, by simp, by simpa using hm1, by simp, rfl⟩
  case round =>
    obtain ⟨k, rfl, hk, rfl, hq1, hbl, rfl⟩ := hrel
    have hk63 : k ≤ 63 := by
      rcases Nat.lt_or_ge 63 k with h | h
      · exfalso
        have : 2 ^ 64 ≤ 2 ^ k := Nat.pow_le_pow_right (by decide) h
        rw [Nat.div_eq_of_lt (by omega)] at hq1
        omega
      · exact h
    by_cases hgt : 1 < m / 2 ^ k
    · have hst := blen_step m k hgt
      have hd : m / 2 ^ (k + 1) = m / 2 ^ k / 2 := by rw [Nat.pow_succ, Nat.div_div_eq_div_mul]
      obtain ⟨q, hq⟩ : ∃ q, q = m / 2 ^ k := ⟨_, rfl⟩
      obtain ⟨q2, hq2⟩ : ∃ q2, q2 = m / 2 ^ (k + 1) := ⟨_, rfl⟩
      rw [← hq] at hq1 hbl hgt hst hd ⊢
      rw [← hq2] at hst hd
      have hgtI : (1 : Int) < (q : Int) := by omega
      have e2 : (q : Int) / 2 = (q2 : Int) := by omega
      have hqm : q < 18446744073709551616 := by rw [hq]; exact Nat.lt_of_le_of_lt (Nat.div_le_self _ _) hm64
      have e3 : IntKind.u64.wrap (q2 : Int) = (q2 : Int) := IntWalk.u64_in _ (by omega)
      have hwk : IntKind.i64.wrap ((k : Int) + 1) = (k : Int) + 1 := IntWalk.i64_in _ (by omega)
      have F1 := Lib.hid (show 1 ≤ q2 by omega)
      have F2 := Lib.hid (show blen m = k + 1 + blen q2 by omega)
      have F3 := Lib.hid hq2
      have F4 := Lib.hid (show q2 < q by omega)
      clear hq1 hbl hgt hst hd hq hq2 hqm hm64 hm1
      go_wp2
      go_roundw
      case rel => exact ⟨k + 1, by go_num, by omega, by rw [F3.out], by rw [← F3.out]; exact F1.out, by rw [← F3.out]; exact F2.out, by first | rfl | trivial⟩
      case measure => have := F4.out; simp [intOf]; omega
    · have hq : m / 2 ^ k = 1 := by omega
      rw [hq] at hbl ⊢
      rw [show ((1 : Nat) : Int) = 1 from rfl]
      have h1 : blen 1 = 1 := by rw [blen_pos (by omega), show 1 / 2 = 0 from rfl, blen_zero]
      rw [h1] at hbl
      have HBL := Lib.hid hbl
      clear hq1 hgt hq hbl h1
      go_wp2
      go_loopw [5, 6] (fun v i wr' => ∃ j : Nat, i = .int .i64 j ∧ j ≤ k ∧ NewS QK 4 wr wr' v (List.replicate j false)) (fun _ i _ => k - (intOf i).toNat)
      case atStart => exact ⟨0, rfl, by omega, NewS.nil _ _ _⟩
      case round =>
        obtain ⟨j, rfl, hj, hv⟩ := hrel
        obtain ⟨A, cap, rfl⟩ := hv.own.rd.shape
        have HV := Lib.hid hv
        clear hv
        have hlr : (List.replicate j false).length ≤ 64 := by simp; omega
        by_cases hlt : j < k
        · have hltI : (j : Int) < (k : Int) := by omega
          have hwk : IntKind.i64.wrap ((j : Int) + 1) = (j : Int) + 1 := IntWalk.i64_in _ (by omega)
          have HSN := Lib.hid (List.replicate_succ' (n := j) (a := false))
          generalize List.replicate j false = sl at *
          clear hlt
          go_wp2_with (at_builtin; refine wpl_append elQ rfl (.tmp 20) (.tmp 21) rfl rfl rfl (l := sl) (m := [false]) ?c1 ?c2 ?c3 ?c4 ?c5)
          case c1 => exact (HV.out.alloc _).own
          case c2 => exact Rd.litAt QK 4 _ _ [false] rfl (by unfold maxLen; simp) _ _ rfl rfl
          case c3 => show sl.length + 1 ≤ maxLen; unfold maxLen; omega
          case c4 => show (sl.length + 1) * 1 ≤ _; omega
          case c5 =>
            intro v' w' k1 k2 k3
            have Q := Lib.hid (HV.out.app ((Kp.refl _ _).alloc _) k1 k2 k3 (by omega))
            clear k1 k2 k3
            go_wp2
            go_roundw
            case rel => exact ⟨j + 1, by go_num, by omega, by rw [HSN.out]; exact Q.out⟩
            case measure => simp [intOf]; omega
        · obtain rfl : j = k := by omega
          have hd0 : ¬ (j : Int) < (j : Int) := by omega
          have hwk : IntKind.i64.wrap ((j : Int) + 1) = (j : Int) + 1 := IntWalk.i64_in _ (by omega)
          have hm64' := Lib.hid hm64
          have HCB : Hid (cbits n = List.replicate j false ++ nbits m (j + 1)) := by
            show cbits n = _
            unfold cbits
            rw [← HM.out, HBL.out, Nat.add_sub_cancel]
          generalize List.replicate j false = sl at *
          clear hlt hm64 hm1
          go_wp2_with fail
          refine (rbits_any _ m (j + 1) hm64'.out (by omega) _ _ (by first | rfl | omega) (by first | rfl | omega)).mono ?_
          rintro e w5 ⟨v5, rfl, hv5⟩
          obtain ⟨A5, cap5, rfl⟩ := hv5.own.rd.shape
          have hl5 : (nbits m (j + 1)).length ≤ 64 := by rw [nbits_len]; omega
          have HV5 := Lib.hid hv5
          clear hv5
          generalize nbits m (j + 1) = s5 at *
          go_wp2_with (at_builtin; refine wpl_append elQ rfl (.tmp 23) (.tmp 28) rfl rfl rfl (l := sl) (m := s5) ?d1 ?d2 ?d3 ?d4 ?d5)
          case d1 => exact HV.out.own.kpNo HV5.out.kp
          case d2 => exact HV5.out.own.rd
          case d3 => show sl.length + s5.length ≤ maxLen; unfold maxLen; omega
          case d4 => show (sl.length + s5.length) * 1 ≤ _; omega
          case d5 =>
            intro v' w' k1 k2 k3
            have Q := Lib.hid (HV.out.app HV5.out.kp k1 k2 k3 HV5.out.kp.size)
            clear k1 k2 k3
            go_wp2
            go_ret
            exact ⟨_, rfl, by rw [HCB.out]; exact Q.out⟩
end Go.Proofs.Ytnejjjoedmefkaa
