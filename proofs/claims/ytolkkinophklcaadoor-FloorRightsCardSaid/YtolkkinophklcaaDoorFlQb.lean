/- carfaxref03.dock, lane, beside. -/
import Derived.Test.YtolkkinophklcaaDoorFlN
import Derived.Deep.CutBlock
import Derived.Deep.DeepCutAuto
import Derived.Deep.Cut
import Derived.Deep.CutRange
namespace Go.Proofs.YtolkkinophklcaaDoor
set_option linter.unusedVariables false
set_option linter.unusedSimpArgs false
open Go.RowKit

set_option maxRecDepth 100000 in
theorem qdock_any (c : Nat) (b : Bool) (hb : b = (kindB c == 3)) (w : World) : Calls Tryd.prog 36 #[.int .u8 (c : Int)] w fun e w' => e = .returned (.bool b) ∧ w' = w := by
  have HB := Lib.hid hb
  clear hb
  by_cases h1 : 48 ≤ c
  · have h1I : (48 : Int) ≤ (c : Int) := by omega
    by_cases h2 : c ≤ 55
    · have h2I : (c : Int) ≤ 55 := by omega
      have e : b = true := by rw [HB.out]; unfold kindB; rw [if_neg (by omega), if_neg (by omega), if_pos (by omega)]; rfl
      subst e
      clear h1 h2
      go_enter Tryd.func36, Tryd.ntmps36
      go_wp2
      go_ret
      exact ⟨rfl, rfl⟩
    · have h2I : ¬ (c : Int) ≤ 55 := by omega
      have e : b = false := by rw [HB.out]; unfold kindB; rw [if_neg (by omega)]; split; rfl; rw [if_neg (by omega)]; rfl
      subst e
      clear h1 h2
      go_enter Tryd.func36, Tryd.ntmps36
      go_wp2
      go_ret
      exact ⟨rfl, rfl⟩
  · have h1I : ¬ (48 : Int) ≤ (c : Int) := by omega
    have e : b = false := by rw [HB.out]; unfold kindB; split; rfl; rw [if_neg (by omega), if_neg (by omega)]; rfl
    subst e
    clear h1
    go_enter Tryd.func36, Tryd.ntmps36
    go_wp2
    go_ret
    exact ⟨rfl, rfl⟩
set_option maxRecDepth 100000 in
theorem qlane_any (c : Nat) (b : Bool) (hb : b = (kindB c == 2)) (w : World) : Calls Tryd.prog 37 #[.int .u8 (c : Int)] w fun e w' => e = .returned (.bool b) ∧ w' = w := by
  have HB := Lib.hid hb
  clear hb
  by_cases h1 : 97 ≤ c
  · have h1I : (97 : Int) ≤ (c : Int) := by omega
    by_cases h2 : c ≤ 122
    · have h2I : (c : Int) ≤ 122 := by omega
      have e : b = true := by rw [HB.out]; unfold kindB; rw [if_neg (by omega), if_pos (by omega)]; rfl
      subst e
      clear h1 h2
      go_enter Tryd.func37, Tryd.ntmps37
      go_wp2
      go_ret
      exact ⟨rfl, rfl⟩
    · have h2I : ¬ (c : Int) ≤ 122 := by omega
      have e : b = false := by rw [HB.out]; unfold kindB; rw [if_neg (by omega), if_neg (by omega), if_neg (by omega)]; rfl
      subst e
      clear h1 h2
      go_enter Tryd.func37, Tryd.ntmps37
      go_wp2
      go_ret
      exact ⟨rfl, rfl⟩
  · have h1I : ¬ (97 : Int) ≤ (c : Int) := by omega
    have e : b = false := by rw [HB.out]; unfold kindB; split; rfl; rw [if_neg (by omega)]; split <;> rfl
    subst e
    clear h1
    go_enter Tryd.func37, Tryd.ntmps37
    go_wp2
    go_ret
    exact ⟨rfl, rfl⟩

set_option maxHeartbeats 1000000 in
set_option maxRecDepth 100000 in
theorem qbeside_any (W H c : Nat) (s : ByteArray) (hW1 : 1 ≤ W) (hW : W ≤ 16) (hH1 : 1 ≤ H) (hH : H ≤ 16) (hc : c < W * H) (w : World) :
    Calls Tryd.prog 38 #[(Flr.mk W H s).val, .int .i64 (c : Int)] w fun e w' => ∃ v, e = .returned v ∧ NewS IK 3 w w' v (ints (besideP W H c)) := by
  have HBX := Lib.hid (BxW.new (Flr.mk W H s) w)
  unfold Flr.val
  obtain ⟨x, hx⟩ : ∃ x, x = c % W := ⟨_, rfl⟩
  obtain ⟨y, hy⟩ : ∃ y, y = c / W := ⟨_, rfl⟩
  have hxW : x < W := by rw [hx]; exact Nat.mod_lt _ hW1
  have hyH : y < H := by rw [hy]; exact Nat.div_lt_of_lt_mul hc
  have hcy : W * y + x = c := by rw [hx, hy]; exact Nat.div_add_mod c W
  have hc256 : c < 256 := Nat.lt_of_lt_of_le hc (Nat.mul_le_mul hW hH)
  have hxI : (c : Int).tmod (W : Int) = (x : Int) := by rw [Int.tmod_eq_emod_of_nonneg (by omega), hx]; rfl
  have hyI : (c : Int).tdiv (W : Int) = (y : Int) := by rw [Int.tdiv_eq_ediv_of_nonneg (by omega), hy]; rfl
  have hxJ : (c : Int) % (W : Int) = (x : Int) := by rw [hx]; rfl
  have hyJ : (c : Int) / (W : Int) = (y : Int) := by rw [hy]; rfl
  have hyW : IntKind.i64.wrap (y : Int) = (y : Int) := IntWalk.i64_in _ (by omega)
  have hW0 : (W : Int) ≠ 0 := by omega
  have hW0b : ((W : Int) == 0) = false := by simp; omega
  have hxc : x ≤ c := by omega
  have hyc : 0 < y → W ≤ c := fun h => by
    have : W * 1 ≤ W * y := Nat.mul_le_mul_left W h
    omega
  have HX := Lib.hid hx; have HY := Lib.hid hy; have HYC := Lib.hid hyc
  clear hx hy hcy hc hyc
  go_enter Tryd.func38, Tryd.ntmps38
  obtain ⟨w3, hw3⟩ : ∃ w3, w3 = w.alloc (.cells #[.int .i64 (W : Int), .int .i64 (H : Int), .string s] 24) := ⟨_, rfl⟩
  have B3 := Lib.hid (show BxW (Flr.mk W H s) w.heap.size w w3 by rw [hw3]; exact HBX.out)
  have NS := Lib.hid (show NewS IK 3 w3 w3 (.slice none 0 0) (ints (bsA W H c 0)) from NewS.nil _ _ _)
  go_upto_region 3 with fail
  go_cut [5, 7, 12, 13, 14, 15] (fun v y' _ _ _ _ wx => ∃ A m q, v = .slice A m q ∧ m = (bsA W H c 0).length ∧ NewS IK 3 w3 wx v (ints (bsA W H c 0)) ∧ y' = .int .i64 (y : Int))
  case first =>
    go_wp2_with fail
    go_meet
    exact ⟨none, 0, 0, rfl, rfl, by rw [← hw3]; exact NS.out, rfl⟩
  case rest =>
    clear NS hw3 hxI hyI hxJ hyJ hyW hW0 hW0b
    obtain ⟨A, m, q, rfl, hm, ns, rfl⟩ := hcut
    have NS := Lib.hid ns; have HM := Lib.hid hm
    have hm4 : m ≤ 4 := by rw [hm]; exact Nat.le_trans (bsA_len W H c 0) (by omega)
    have hb0 := (B3.out.no ns.kp).c0; have hb1 := (B3.out.no ns.kp).c1
    simp only at hb0 hb1
    clear hm ns
    go_upto_if 17 with fail
    go_cut [5, 18, 19, 20, 21, 22, 23, 24] (fun v _ _ _ _ _ _ _ wx => ∃ A m q, v = .slice A m q ∧ m = (bsA W H c 1).length ∧ NewS IK 3 w3 wx v (ints (bsA W H c 1)))
    case first =>
      have HA := Lib.hid (bsA_succ W H c 0)
      by_cases hd : 0 < y
      · have HP := Lib.hid (show bsA W H c 1 = bsA W H c 0 ++ [c - W] by rw [HA.out]; congr 1; show (if _ then _ else _) = _; rw [if_pos (by first | (rw [← HX.out]; exact hd) | (rw [← HY.out]; exact hd))])
        have hWc := HYC.out hd
        have hv : (0 : Int) ≤ ((c : Int) - (W : Int)) ∧ ((c : Int) - (W : Int)) ≤ 512 := by omega
        have hvw : IntKind.i64.wrap ((c : Int) - (W : Int)) = ((c : Int) - (W : Int)) := IntWalk.i64_in _ (by omega)
        have hdI : (0 : Int) < (y : Int) := by omega
        go_wp2_with (at_builtin; refine wpl_snocZ (n := c - W) rfl (.tmp 18) (.tmp 23) rfl rfl rfl rfl (by omega) NS.out HM.out (by have := bsA_len W H c 0; have := HM.out; omega) ?_; intro A2 q2 w4 n4 _ _; have N4 := Lib.hid n4; clear n4)
        go_meet
        exact ⟨A2, _, q2, rfl, by rw [HP.out, List.length_append, ← HM.out]; rfl, by rw [HP.out]; exact N4.out⟩
      · have HP := Lib.hid (show bsA W H c 1 = bsA W H c 0 by rw [HA.out]; show _ ++ (if _ then _ else _) = _; rw [if_neg (by first | (rw [← HX.out]; exact hd) | (rw [← HY.out]; exact hd)), List.append_nil])
        have hdI : ¬ (0 : Int) < (y : Int) := by omega
        go_wp2_with fail
        go_meet
        exact ⟨_, _, _, rfl, by rw [HP.out]; exact HM.out, by rw [HP.out]; exact NS.out⟩
    case rest =>
      clear NS HM hb0 hb1
      obtain ⟨A, m, q, rfl, hm, ns⟩ := hcut
      have NS := Lib.hid ns; have HM := Lib.hid hm
      have hm4 : m ≤ 4 := by rw [hm]; exact Nat.le_trans (bsA_len W H c 1) (by omega)
      have hb0 := (B3.out.no ns.kp).c0; have hb1 := (B3.out.no ns.kp).c1
      simp only at hb0 hb1
      clear hm ns
      go_upto_if 29 with fail
      go_cut [5, 30, 31, 32, 33, 34] (fun v _ _ _ _ _ wx => ∃ A m q, v = .slice A m q ∧ m = (bsA W H c 2).length ∧ NewS IK 3 w3 wx v (ints (bsA W H c 2)))
      case first =>
        have HA := Lib.hid (bsA_succ W H c 1)
        by_cases hd : x + 1 < W
        · have HP := Lib.hid (show bsA W H c 2 = bsA W H c 1 ++ [c + 1] by rw [HA.out]; congr 1; show (if _ then _ else _) = _; rw [if_pos (by first | (rw [← HX.out]; exact hd) | (rw [← HY.out]; exact hd))])
          have hv : (0 : Int) ≤ ((c : Int) + 1) ∧ ((c : Int) + 1) ≤ 512 := by omega
          have hvw : IntKind.i64.wrap ((c : Int) + 1) = ((c : Int) + 1) := IntWalk.i64_in _ (by omega)
          have hdI : (x : Int) < (W : Int) - 1 := by omega
          go_wp2_with (at_builtin; refine wpl_snocZ (n := c + 1) rfl (.tmp 30) (.tmp 33) rfl rfl rfl rfl (by omega) NS.out HM.out (by have := bsA_len W H c 1; have := HM.out; omega) ?_; intro A2 q2 w4 n4 _ _; have N4 := Lib.hid n4; clear n4)
          go_meet
          exact ⟨A2, _, q2, rfl, by rw [HP.out, List.length_append, ← HM.out]; rfl, by rw [HP.out]; exact N4.out⟩
        · have HP := Lib.hid (show bsA W H c 2 = bsA W H c 1 by rw [HA.out]; show _ ++ (if _ then _ else _) = _; rw [if_neg (by first | (rw [← HX.out]; exact hd) | (rw [← HY.out]; exact hd)), List.append_nil])
          have hdI : ¬ (x : Int) < (W : Int) - 1 := by omega
          go_wp2_with fail
          go_meet
          exact ⟨_, _, _, rfl, by rw [HP.out]; exact HM.out, by rw [HP.out]; exact NS.out⟩
      case rest =>
        clear NS HM hb0 hb1
        obtain ⟨A, m, q, rfl, hm, ns⟩ := hcut
        have NS := Lib.hid ns; have HM := Lib.hid hm
        have hm4 : m ≤ 4 := by rw [hm]; exact Nat.le_trans (bsA_len W H c 2) (by omega)
        have hb0 := (B3.out.no ns.kp).c0; have hb1 := (B3.out.no ns.kp).c1
        simp only at hb0 hb1
        clear hm ns
        go_upto_if 39 with fail
        go_cut [5, 40, 41, 42, 43, 44, 45, 46] (fun v _ _ _ _ _ _ _ wx => ∃ A m q, v = .slice A m q ∧ m = (bsA W H c 3).length ∧ NewS IK 3 w3 wx v (ints (bsA W H c 3)))
        case first =>
          have HA := Lib.hid (bsA_succ W H c 2)
          by_cases hd : y + 1 < H
          · have HP := Lib.hid (show bsA W H c 3 = bsA W H c 2 ++ [c + W] by rw [HA.out]; congr 1; show (if _ then _ else _) = _; rw [if_pos (by first | (rw [← HX.out]; exact hd) | (rw [← HY.out]; exact hd))])
            have hv : (0 : Int) ≤ ((c : Int) + (W : Int)) ∧ ((c : Int) + (W : Int)) ≤ 512 := by omega
            have hvw : IntKind.i64.wrap ((c : Int) + (W : Int)) = ((c : Int) + (W : Int)) := IntWalk.i64_in _ (by omega)
            have hdI : (y : Int) < (H : Int) - 1 := by omega
            go_wp2_with (at_builtin; refine wpl_snocZ (n := c + W) rfl (.tmp 40) (.tmp 45) rfl rfl rfl rfl (by omega) NS.out HM.out (by have := bsA_len W H c 2; have := HM.out; omega) ?_; intro A2 q2 w4 n4 _ _; have N4 := Lib.hid n4; clear n4)
            go_meet
            exact ⟨A2, _, q2, rfl, by rw [HP.out, List.length_append, ← HM.out]; rfl, by rw [HP.out]; exact N4.out⟩
          · have HP := Lib.hid (show bsA W H c 3 = bsA W H c 2 by rw [HA.out]; show _ ++ (if _ then _ else _) = _; rw [if_neg (by first | (rw [← HX.out]; exact hd) | (rw [← HY.out]; exact hd)), List.append_nil])
            have hdI : ¬ (y : Int) < (H : Int) - 1 := by omega
            go_wp2_with fail
            go_meet
            exact ⟨_, _, _, rfl, by rw [HP.out]; exact HM.out, by rw [HP.out]; exact NS.out⟩
        case rest =>
          clear NS HM hb0 hb1
          obtain ⟨A, m, q, rfl, hm, ns⟩ := hcut
          have NS := Lib.hid ns; have HM := Lib.hid hm
          have hm4 : m ≤ 4 := by rw [hm]; exact Nat.le_trans (bsA_len W H c 3) (by omega)
          have hb0 := (B3.out.no ns.kp).c0; have hb1 := (B3.out.no ns.kp).c1
          simp only at hb0 hb1
          clear hm ns
          go_upto_if 48 with fail
          go_cut [5, 49, 50, 51, 52, 53] (fun v _ _ _ _ _ wx => ∃ A m q, v = .slice A m q ∧ m = (bsA W H c 4).length ∧ NewS IK 3 w3 wx v (ints (bsA W H c 4)))
          case first =>
            have HA := Lib.hid (bsA_succ W H c 3)
            by_cases hd : 0 < x
            · have HP := Lib.hid (show bsA W H c 4 = bsA W H c 3 ++ [c - 1] by rw [HA.out]; congr 1; show (if _ then _ else _) = _; rw [if_pos (by first | (rw [← HX.out]; exact hd) | (rw [← HY.out]; exact hd))])
              have hv : (0 : Int) ≤ ((c : Int) - 1) ∧ ((c : Int) - 1) ≤ 512 := by omega
              have hvw : IntKind.i64.wrap ((c : Int) - 1) = ((c : Int) - 1) := IntWalk.i64_in _ (by omega)
              have hdI : (0 : Int) < (x : Int) := by omega
              go_wp2_with (at_builtin; refine wpl_snocZ (n := c - 1) rfl (.tmp 49) (.tmp 52) rfl rfl rfl rfl (by omega) NS.out HM.out (by have := bsA_len W H c 3; have := HM.out; omega) ?_; intro A2 q2 w4 n4 _ _; have N4 := Lib.hid n4; clear n4)
              go_meet
              exact ⟨A2, _, q2, rfl, by rw [HP.out, List.length_append, ← HM.out]; rfl, by rw [HP.out]; exact N4.out⟩
            · have HP := Lib.hid (show bsA W H c 4 = bsA W H c 3 by rw [HA.out]; show _ ++ (if _ then _ else _) = _; rw [if_neg (by first | (rw [← HX.out]; exact hd) | (rw [← HY.out]; exact hd)), List.append_nil])
              have hdI : ¬ (0 : Int) < (x : Int) := by omega
              go_wp2_with fail
              go_meet
              exact ⟨_, _, _, rfl, by rw [HP.out]; exact HM.out, by rw [HP.out]; exact NS.out⟩
          case rest =>
            clear NS HM hb0 hb1
            obtain ⟨A, m, q, rfl, hm, ns⟩ := hcut
            have NS := Lib.hid ns; have HM := Lib.hid hm
            have hm4 : m ≤ 4 := by rw [hm]; exact Nat.le_trans (bsA_len W H c 4) (by omega)
            have hb0 := (B3.out.no ns.kp).c0; have hb1 := (B3.out.no ns.kp).c1
            simp only at hb0 hb1
            clear hm ns
            go_wp2_with fail
            go_ret
            exact ⟨_, rfl, by rw [← bsA_four]; exact NS.out.from_ B3.out.kp⟩
end Go.Proofs.YtolkkinophklcaaDoor
