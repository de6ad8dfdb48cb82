/- carfaxref01: Bits. -/
import Derived.Test.YtnejjjoedmefkaaBitE
import Derived.Test.YtnejjjoedmefkaaNew
namespace Go.Proofs.Ytnejjjoedmefkaa
set_option linter.unusedVariables false
set_option linter.unusedSimpArgs false
open Go.RowKit

/-- A bit's cell. -/
def QK : Kd Bool := { sz := 1, enc := fun x => [.bool x], len := fun _ => rfl, one := by intro a v hv; simp at hv; subst hv; rfl, pos := by decide }
theorem elQ : ElT Try.prog 79 4 QK 1 := ElT.of (z := .bool false) (by kernel_rfl) (by kernel_rfl) rfl

set_option maxRecDepth 100000 in
theorem rbits_any (w : World) (n many : Nat) (hn : n < 18446744073709551616) (hm : many ≤ 64) (x y : Int) (hx : x = n) (hy : y = many) :
    Calls Try.prog 41 #[.int .u64 x, .int .i64 y] w fun e w' => ∃ v, e = .returned v ∧ NewS QK 4 w w' v (nbits n many) := by
  subst hx hy
  go_enter Try.func41, Try.ntmps41
  go_wp2
  go_loopw [0, 5, 6] (fun a v i wr => ∃ k : Nat, i = .int .i64 k ∧ k ≤ many ∧ a = .int .u64 ((n / 2 ^ k : Nat) : Int) ∧ NewS QK 4 w wr v (nbits n k)) (fun _ _ i _ => many - (intOf i).toNat)
  case atStart => exact ⟨0, rfl, by omega, by simp, NewS.nil _ _ _⟩
  case round =>
    obtain ⟨k, rfl, hk, rfl, hv⟩ := hrel
    obtain ⟨A, cap, rfl⟩ := hv.own.rd.shape
    have HV := Lib.hid hv
    clear hv
    have hnl := nbits_len n k
    by_cases hlt : k < many
    · obtain ⟨q, hq⟩ : ∃ q, q = n / 2 ^ k := ⟨_, rfl⟩
      obtain ⟨b, hb⟩ : ∃ b, b = decide (q % 2 = 1) := ⟨_, rfl⟩
      have e1 : ((q : Int) % 2 == 1) = b := by
        rw [hb]
        by_cases c : q % 2 = 1
        · simp [c]; omega
        · simp [c]; omega
      have hq2 : n / 2 ^ (k + 1) = q / 2 := by rw [hq, Nat.pow_succ, Nat.div_div_eq_div_mul]
      obtain ⟨q2, hqq⟩ : ∃ q2, q2 = q / 2 := ⟨_, rfl⟩
      have e2 : (q : Int) / 2 = (q2 : Int) := by omega
      have hltI : (k : Int) < (many : Int) := by omega
      have hwk : IntKind.i64.wrap ((k : Int) + 1) = (k : Int) + 1 := IntWalk.i64_in _ (by omega)
      have hq64 : q < 18446744073709551616 := by rw [hq]; exact Nat.lt_of_le_of_lt (Nat.div_le_self _ _) hn
      have e3 : IntKind.u64.wrap (q2 : Int) = (q2 : Int) := IntWalk.u64_in _ (by omega)
      have hnb : nbits n (k + 1) = [b] ++ nbits n k := by rw [hb, hq]; rfl
      have HNB := Lib.hid hnb; have HQ2 := Lib.hid (hq2.trans hqq.symm)
      have hlb : (nbits n k).length ≤ 64 := by omega
      rw [← hq]
      generalize nbits n k = sl at *
      clear hnb hq2 hqq hb hq hlt hnl hn
      go_wp2_with (at_builtin; refine wpl_append elQ rfl (.tmp 15) (.tmp 16) rfl rfl rfl (l := [b]) (m := sl) ?c1 ?c2 ?c3 ?c4 ?c5)
      case c1 => exact Own.lit QK 4 _ [.bool b] [b] rfl (by unfold maxLen; simp)
      case c2 => exact HV.out.own.rd.alloc _
      case c3 => show 1 + sl.length ≤ maxLen; unfold maxLen; omega
      case c4 => show (1 + sl.length) * 1 ≤ _; omega
      case c5 =>
        intro v' w' k1 k2 k3
        have K1 := Lib.hid k1; have K2 := Lib.hid k2; have K3 := Lib.hid k3
        clear k1 k2 k3
        go_wp2
        go_roundw
        case rel =>
          have hsz := HV.out.kp.size
          refine ⟨k + 1, by go_num, by omega, by rw [HQ2.out], by rw [HNB.out]; exact K1.out, fun g hg => ?_, (HV.out.kp.alloc _).trans' K2.out fun j hj e => ?_⟩
          · rcases K3.out g hg with h | h
            · simp [Value.ownBlock] at h; omega
            · first | omega | (simp at h; omega)
          · simp [Value.ownBlock] at e; omega
        case measure => simp [intOf]; omega
    · obtain rfl : k = many := by omega
      have hd0 : ¬ (k : Int) < (k : Int) := by omega
      clear hnl
      go_wp2
      go_ret
      exact ⟨_, rfl, by have := HV.out; rwa [nbits_len] at this⟩
end Go.Proofs.Ytnejjjoedmefkaa
