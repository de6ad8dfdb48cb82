/- carfaxref03.dock, lane, beside; Floors, plain: which lanes can be reached, by rounds. No function of the program; carfaxref03.reached; Floors, plain: docks, counted. No function of the program; carfaxref03.Right; carfaxref03.Robots, Dock, Zone, Near, Lanes; carfaxref03.Dock; carfaxref10.Zones; trip, plain: a way exists where there is a walk; what is made is one thing. No function of the program. No condition. -/
import Derived.Test.YtmipnicdlldjnaaGreatDoorM3
import Derived.Deep.CutBlock
import Derived.Deep.DeepCutAuto
import Derived.Deep.Cut
import Derived.Deep.CutRange
import Derived.Test.YtmipnicdlldjnaaGreatDoorM1
import Derived.Test.YtmipnicdlldjnaaGreatDoorM2
import Derived.Test.YtmipnicdlldjnaaGreatDoorM7
import Derived.Deep.RegionHeld3

namespace Go.Proofs.YtmipnicdlldjnaaGreatDoor
set_option linter.unusedVariables false
set_option linter.unusedSimpArgs false
open Go.RowKit

set_option maxRecDepth 100000 in
theorem qdock_any (c : Nat) (b : Bool) (hb : b = (kindB c == 3)) (w : World) : Calls Tryz.prog 40 #[.int .u8 (c : Int)] w fun e w' => e = .returned (.bool b) ∧ w' = w := by
  have HB := Lib.hid hb
  clear hb
  by_cases h1 : 48 ≤ c
  · have h1I : (48 : Int) ≤ (c : Int) := by omega
    by_cases h2 : c ≤ 55
    · have h2I : (c : Int) ≤ 55 := by omega
      have e : b = true := by rw [HB.out]; unfold kindB; rw [if_neg (by omega), if_neg (by omega), if_pos (by omega)]; rfl
      subst e
      clear h1 h2
      go_enter Tryz.func40, Tryz.ntmps40
      go_wp2
      go_ret
      exact ⟨rfl, rfl⟩
    · have h2I : ¬ (c : Int) ≤ 55 := by omega
      have e : b = false := by rw [HB.out]; unfold kindB; rw [if_neg (by omega)]; split; rfl; rw [if_neg (by omega)]; rfl
      subst e
      clear h1 h2
      go_enter Tryz.func40, Tryz.ntmps40
      go_wp2
      go_ret
      exact ⟨rfl, rfl⟩
  · have h1I : ¬ (48 : Int) ≤ (c : Int) := by omega
    have e : b = false := by rw [HB.out]; unfold kindB; split; rfl; rw [if_neg (by omega), if_neg (by omega)]; rfl
    subst e
    clear h1
    go_enter Tryz.func40, Tryz.ntmps40
    go_wp2
    go_ret
    exact ⟨rfl, rfl⟩
set_option maxRecDepth 100000 in
theorem qlane_any (c : Nat) (b : Bool) (hb : b = (kindB c == 2)) (w : World) : Calls Tryz.prog 41 #[.int .u8 (c : Int)] w fun e w' => e = .returned (.bool b) ∧ w' = w := by
  have HB := Lib.hid hb
  clear hb
  by_cases h1 : 97 ≤ c
  · have h1I : (97 : Int) ≤ (c : Int) := by omega
    by_cases h2 : c ≤ 122
    · have h2I : (c : Int) ≤ 122 := by omega
      have e : b = true := by rw [HB.out]; unfold kindB; rw [if_neg (by omega), if_pos (by omega)]; rfl
      subst e
      clear h1 h2
      go_enter Tryz.func41, Tryz.ntmps41
      go_wp2
      go_ret
      exact ⟨rfl, rfl⟩
    · have h2I : ¬ (c : Int) ≤ 122 := by omega
      have e : b = false := by rw [HB.out]; unfold kindB; rw [if_neg (by omega), if_neg (by omega), if_neg (by omega)]; rfl
      subst e
      clear h1 h2
      go_enter Tryz.func41, Tryz.ntmps41
      go_wp2
      go_ret
      exact ⟨rfl, rfl⟩
  · have h1I : ¬ (97 : Int) ≤ (c : Int) := by omega
    have e : b = false := by rw [HB.out]; unfold kindB; split; rfl; rw [if_neg (by omega)]; split <;> rfl
    subst e
    clear h1
    go_enter Tryz.func41, Tryz.ntmps41
    go_wp2
    go_ret
    exact ⟨rfl, rfl⟩

set_option maxHeartbeats 1000000 in
set_option maxRecDepth 100000 in
theorem qbeside_any (W H c : Nat) (s : ByteArray) (hW1 : 1 ≤ W) (hW : W ≤ 16) (hH1 : 1 ≤ H) (hH : H ≤ 16) (hc : c < W * H) (w : World) :
    Calls Tryz.prog 63 #[(Flr.mk W H s).val, .int .i64 (c : Int)] w fun e w' => ∃ v, e = .returned v ∧ NewS IK 3 w w' v (ints (besideP W H c)) := by
  have HBX := Lib.hid (BxW.new (Flr.mk W H s) w)
  unfold Flr.val
  obtain ⟨x, hx⟩ : ∃ x, x = c % W := ⟨_, rfl⟩
  obtain ⟨y, hy⟩ : ∃ y, y = c / W := ⟨_, rfl⟩
  have hxW : x < W := by rw [hx]; exact Nat.mod_lt _ hW1
  have hyH : y < H := by rw [hy]; exact Nat.div_lt_of_lt_mul hc
  have hcy : W * y + x = c := by rw [hx, hy]; exact Nat.div_add_mod c W
  have hc256 : c < 256 := Nat.lt_of_lt_of_le hc (Nat.mul_le_mul hW hH)
  have hxI : (c : Int).tmod (W : Int) = (x : Int) := by rw [Int.tmod_eq_emod_of_nonneg (by omega), hx]; rfl
  have hyI : (c : Int).tdiv (W : Int) = (y : Int) := by rw [Int.tdiv_eq_ediv_of_nonneg (by omega), hy]; rfl
  have hxJ : (c : Int) % (W : Int) = (x : Int) := by rw [hx]; rfl
  have hyJ : (c : Int) / (W : Int) = (y : Int) := by rw [hy]; rfl
  have hyW : IntKind.i64.wrap (y : Int) = (y : Int) := IntWalk.i64_in _ (by omega)
  have hW0 : (W : Int) ≠ 0 := by omega
  have hW0b : ((W : Int) == 0) = false := by simp; omega
  have hxc : x ≤ c := by omega
  have hyc : 0 < y → W ≤ c := fun h => by
    have : W * 1 ≤ W * y := Nat.mul_le_mul_left W h
    omega
  have HX := Lib.hid hx; have HY := Lib.hid hy; have HYC := Lib.hid hyc
  clear hx hy hcy hc hyc
  go_enter Tryz.func63, Tryz.ntmps63
  obtain ⟨w3, hw3⟩ : ∃ w3, w3 = w.alloc (.cells #[.int .i64 (W : Int), .int .i64 (H : Int), .string s] 23) := ⟨_, rfl⟩
  have B3 := Lib.hid (show BxW (Flr.mk W H s) w.heap.size w w3 by rw [hw3]; exact HBX.out)
  have NS := Lib.hid (show NewS IK 3 w3 w3 (.slice none 0 0) (ints (bsA W H c 0)) from NewS.nil _ _ _)
  go_upto_region 3 with fail
  go_cut [5, 7, 12, 13, 14, 15] (fun v y' _ _ _ _ wx => ∃ A m q, v = .slice A m q ∧ m = (bsA W H c 0).length ∧ NewS IK 3 w3 wx v (ints (bsA W H c 0)) ∧ y' = .int .i64 (y : Int))
  case first =>
    go_wp2_with fail
    go_meet
    exact ⟨none, 0, 0, rfl, rfl, by rw [← hw3]; exact NS.out, rfl⟩
  case rest =>
    clear NS hw3 hxI hyI hxJ hyJ hyW hW0 hW0b
    obtain ⟨A, m, q, rfl, hm, ns, rfl⟩ := hcut
    have NS := Lib.hid ns; have HM := Lib.hid hm
    have hm4 : m ≤ 4 := by rw [hm]; exact Nat.le_trans (bsA_len W H c 0) (by omega)
    have hb0 := (B3.out.no ns.kp).c0; have hb1 := (B3.out.no ns.kp).c1
    simp only at hb0 hb1
    clear hm ns
    go_upto_if 17 with fail
    go_cut [5, 18, 19, 20, 21, 22, 23, 24] (fun v _ _ _ _ _ _ _ wx => ∃ A m q, v = .slice A m q ∧ m = (bsA W H c 1).length ∧ NewS IK 3 w3 wx v (ints (bsA W H c 1)))
    case first =>
      have HA := Lib.hid (bsA_succ W H c 0)
      by_cases hd : 0 < y
      · have HP := Lib.hid (show bsA W H c 1 = bsA W H c 0 ++ [c - W] by rw [HA.out]; congr 1; show (if _ then _ else _) = _; rw [if_pos (by first | (rw [← HX.out]; exact hd) | (rw [← HY.out]; exact hd))])
        have hWc := HYC.out hd
        have hv : (0 : Int) ≤ ((c : Int) - (W : Int)) ∧ ((c : Int) - (W : Int)) ≤ 512 := by omega
        have hvw : IntKind.i64.wrap ((c : Int) - (W : Int)) = ((c : Int) - (W : Int)) := IntWalk.i64_in _ (by omega)
        have hdI : (0 : Int) < (y : Int) := by omega
        go_wp2_with (at_builtin; refine wpl_snocZ (n := c - W) rfl (.tmp 18) (.tmp 23) rfl rfl rfl rfl (by omega) NS.out HM.out (by have := bsA_len W H c 0; have := HM.out; omega) ?_; intro A2 q2 w4 n4 _ _; have N4 := Lib.hid n4; clear n4)
        go_meet
        exact ⟨A2, _, q2, rfl, by rw [HP.out, List.length_append, ← HM.out]; rfl, by rw [HP.out]; exact N4.out⟩
      · have HP := Lib.hid (show bsA W H c 1 = bsA W H c 0 by rw [HA.out]; show _ ++ (if _ then _ else _) = _; rw [if_neg (by first | (rw [← HX.out]; exact hd) | (rw [← HY.out]; exact hd)), List.append_nil])
        have hdI : ¬ (0 : Int) < (y : Int) := by omega
        go_wp2_with fail
        go_meet
        exact ⟨_, _, _, rfl, by rw [HP.out]; exact HM.out, by rw [HP.out]; exact NS.out⟩
    case rest =>
      clear NS HM hb0 hb1
      obtain ⟨A, m, q, rfl, hm, ns⟩ := hcut
      have NS := Lib.hid ns; have HM := Lib.hid hm
      have hm4 : m ≤ 4 := by rw [hm]; exact Nat.le_trans (bsA_len W H c 1) (by omega)
      have hb0 := (B3.out.no ns.kp).c0; have hb1 := (B3.out.no ns.kp).c1
      simp only at hb0 hb1
      clear hm ns
      go_upto_if 29 with fail
      go_cut [5, 30, 31, 32, 33, 34] (fun v _ _ _ _ _ wx => ∃ A m q, v = .slice A m q ∧ m = (bsA W H c 2).length ∧ NewS IK 3 w3 wx v (ints (bsA W H c 2)))
      case first =>
        have HA := Lib.hid (bsA_succ W H c 1)
        by_cases hd : x + 1 < W
        · have HP := Lib.hid (show bsA W H c 2 = bsA W H c 1 ++ [c + 1] by rw [HA.out]; congr 1; show (if _ then _ else _) = _; rw [if_pos (by first | (rw [← HX.out]; exact hd) | (rw [← HY.out]; exact hd))])
          have hv : (0 : Int) ≤ ((c : Int) + 1) ∧ ((c : Int) + 1) ≤ 512 := by omega
          have hvw : IntKind.i64.wrap ((c : Int) + 1) = ((c : Int) + 1) := IntWalk.i64_in _ (by omega)
          have hdI : (x : Int) < (W : Int) - 1 := by omega
          go_wp2_with (at_builtin; refine wpl_snocZ (n := c + 1) rfl (.tmp 30) (.tmp 33) rfl rfl rfl rfl (by omega) NS.out HM.out (by have := bsA_len W H c 1; have := HM.out; omega) ?_; intro A2 q2 w4 n4 _ _; have N4 := Lib.hid n4; clear n4)
          go_meet
          exact ⟨A2, _, q2, rfl, by rw [HP.out, List.length_append, ← HM.out]; rfl, by rw [HP.out]; exact N4.out⟩
        · have HP := Lib.hid (show bsA W H c 2 = bsA W H c 1 by rw [HA.out]; show _ ++ (if _ then _ else _) = _; rw [if_neg (by first | (rw [← HX.out]; exact hd) | (rw [← HY.out]; exact hd)), List.append_nil])
          have hdI : ¬ (x : Int) < (W : Int) - 1 := by omega
          go_wp2_with fail
          go_meet
          exact ⟨_, _, _, rfl, by rw [HP.out]; exact HM.out, by rw [HP.out]; exact NS.out⟩
      case rest =>
        clear NS HM hb0 hb1
        obtain ⟨A, m, q, rfl, hm, ns⟩ := hcut
        have NS := Lib.hid ns; have HM := Lib.hid hm
        have hm4 : m ≤ 4 := by rw [hm]; exact Nat.le_trans (bsA_len W H c 2) (by omega)
        have hb0 := (B3.out.no ns.kp).c0; have hb1 := (B3.out.no ns.kp).c1
        simp only at hb0 hb1
        clear hm ns
        go_upto_if 39 with fail
        go_cut [5, 40, 41, 42, 43, 44, 45, 46] (fun v _ _ _ _ _ _ _ wx => ∃ A m q, v = .slice A m q ∧ m = (bsA W H c 3).length ∧ NewS IK 3 w3 wx v (ints (bsA W H c 3)))
        case first =>
          have HA := Lib.hid (bsA_succ W H c 2)
          by_cases hd : y + 1 < H
          · have HP := Lib.hid (show bsA W H c 3 = bsA W H c 2 ++ [c + W] by rw [HA.out]; congr 1; show (if _ then _ else _) = _; rw [if_pos (by first | (rw [← HX.out]; exact hd) | (rw [← HY.out]; exact hd))])
            have hv : (0 : Int) ≤ ((c : Int) + (W : Int)) ∧ ((c : Int) + (W : Int)) ≤ 512 := by omega
            have hvw : IntKind.i64.wrap ((c : Int) + (W : Int)) = ((c : Int) + (W : Int)) := IntWalk.i64_in _ (by omega)
            have hdI : (y : Int) < (H : Int) - 1 := by omega
            go_wp2_with (at_builtin; refine wpl_snocZ (n := c + W) rfl (.tmp 40) (.tmp 45) rfl rfl rfl rfl (by omega) NS.out HM.out (by have := bsA_len W H c 2; have := HM.out; omega) ?_; intro A2 q2 w4 n4 _ _; have N4 := Lib.hid n4; clear n4)
            go_meet
            exact ⟨A2, _, q2, rfl, by rw [HP.out, List.length_append, ← HM.out]; rfl, by rw [HP.out]; exact N4.out⟩
          · have HP := Lib.hid (show bsA W H c 3 = bsA W H c 2 by rw [HA.out]; show _ ++ (if _ then _ else _) = _; rw [if_neg (by first | (rw [← HX.out]; exact hd) | (rw [← HY.out]; exact hd)), List.append_nil])
            have hdI : ¬ (y : Int) < (H : Int) - 1 := by omega
            go_wp2_with fail
            go_meet
            exact ⟨_, _, _, rfl, by rw [HP.out]; exact HM.out, by rw [HP.out]; exact NS.out⟩
        case rest =>
          clear NS HM hb0 hb1
          obtain ⟨A, m, q, rfl, hm, ns⟩ := hcut
          have NS := Lib.hid ns; have HM := Lib.hid hm
          have hm4 : m ≤ 4 := by rw [hm]; exact Nat.le_trans (bsA_len W H c 3) (by omega)
          have hb0 := (B3.out.no ns.kp).c0; have hb1 := (B3.out.no ns.kp).c1
          simp only at hb0 hb1
          clear hm ns
          go_upto_if 48 with fail
          go_cut [5, 49, 50, 51, 52, 53] (fun v _ _ _ _ _ wx => ∃ A m q, v = .slice A m q ∧ m = (bsA W H c 4).length ∧ NewS IK 3 w3 wx v (ints (bsA W H c 4)))
          case first =>
            have HA := Lib.hid (bsA_succ W H c 3)
            by_cases hd : 0 < x
            · have HP := Lib.hid (show bsA W H c 4 = bsA W H c 3 ++ [c - 1] by rw [HA.out]; congr 1; show (if _ then _ else _) = _; rw [if_pos (by first | (rw [← HX.out]; exact hd) | (rw [← HY.out]; exact hd))])
              have hv : (0 : Int) ≤ ((c : Int) - 1) ∧ ((c : Int) - 1) ≤ 512 := by omega
              have hvw : IntKind.i64.wrap ((c : Int) - 1) = ((c : Int) - 1) := IntWalk.i64_in _ (by omega)
              have hdI : (0 : Int) < (x : Int) := by omega
              go_wp2_with (at_builtin; refine wpl_snocZ (n := c - 1) rfl (.tmp 49) (.tmp 52) rfl rfl rfl rfl (by omega) NS.out HM.out (by have := bsA_len W H c 3; have := HM.out; omega) ?_; intro A2 q2 w4 n4 _ _; have N4 := Lib.hid n4; clear n4)
              go_meet
              exact ⟨A2, _, q2, rfl, by rw [HP.out, List.length_append, ← HM.out]; rfl, by rw [HP.out]; exact N4.out⟩
            · have HP := Lib.hid (show bsA W H c 4 = bsA W H c 3 by rw [HA.out]; show _ ++ (if _ then _ else _) = _; rw [if_neg (by first | (rw [← HX.out]; exact hd) | (rw [← HY.out]; exact hd)), List.append_nil])
              have hdI : ¬ (0 : Int) < (x : Int) := by omega
              go_wp2_with fail
              go_meet
              exact ⟨_, _, _, rfl, by rw [HP.out]; exact HM.out, by rw [HP.out]; exact NS.out⟩
          case rest =>
            clear NS HM hb0 hb1
            obtain ⟨A, m, q, rfl, hm, ns⟩ := hcut
            have NS := Lib.hid ns; have HM := Lib.hid hm
            have hm4 : m ≤ 4 := by rw [hm]; exact Nat.le_trans (bsA_len W H c 4) (by omega)
            have hb0 := (B3.out.no ns.kp).c0; have hb1 := (B3.out.no ns.kp).c1
            simp only at hb0 hb1
            clear hm ns
            go_wp2_with fail
            go_ret
            exact ⟨_, rfl, by rw [← bsA_four]; exact NS.out.from_ B3.out.kp⟩
end Go.Proofs.YtmipnicdlldjnaaGreatDoor

namespace Go.Proofs.YtmipnicdlldjnaaGreatDoor
set_option linter.unusedVariables false
set_option linter.unusedSimpArgs false
open Go.RowKit

def offs (on : List Bool) : Nat := (on.filter fun x => !x).length
theorem offs_cons (y : Bool) (ys : List Bool) : offs (y :: ys) = (if y = true then 0 else 1) + offs ys := by
  unfold offs; cases y
  · simp; omega
  · simp
theorem offs_set : ∀ (on : List Bool) (i : Nat), on[i]? = some false → offs (on.set i true) + 1 = offs on := by
  intro on
  induction on with
  | nil => intro i h; simp at h
  | cons y ys ih =>
    intro i h
    rcases i with _ | i
    · simp at h; subst h; rw [List.set_cons_zero, offs_cons, offs_cons]; simp; omega
    · rw [List.getElem?_cons_succ] at h
      have := ih i h
      rw [List.set_cons_succ, offs_cons, offs_cons]; omega
structure RchI (W H : Nat) (s : ByteArray) (fr : Nat) (on : List Bool) : Prop where
  len : on.length = s.size
  at_ : on[fr]? = some true
  snd : ∀ i : Nat, on[i]? = some true → Conn W H s fr i
def RchC (W H : Nat) (s : ByteArray) (on : List Bool) (i : Nat) : Prop := ∀ a : Nat, a < i → on[a]? = some true → ∀ k ∈ besideP W H a, laneI s k → on[k]? = some true
def RchD (W H : Nat) (s : ByteArray) (on : List Bool) (i j : Nat) : Prop := ∀ k ∈ (besideP W H i).take j, laneI s k → on[k]? = some true
section
variable {W H fr i j b : Nat} {s : ByteArray} {on : List Bool}
theorem RchI.start (hf : fr < s.size) : RchI W H s fr ((List.replicate s.size false).set fr true) := by
  refine ⟨by simp, by rw [List.getElem?_set_self (by simpa using hf)], fun i hi => ?_⟩
  rw [List.getElem?_set] at hi
  split at hi
  · rename_i h; subst h; exact .refl
  · rw [List.getElem?_replicate] at hi; split at hi <;> simp at hi
theorem RchI.put (h : RchI W H s fr on) (hi : on[i]? = some true) (hb : (besideP W H i)[j]? = some b) (hl : laneI s b) (hn : on[b]? = some false) : RchI W H s fr (on.set b true) := by
  have hbl : b < on.length := (List.getElem?_eq_some_iff.1 hn).1
  refine ⟨by rw [List.length_set]; exact h.len, ?_, fun k hk => ?_⟩
  · rw [List.getElem?_set]
    split
    · rfl
    · exact h.at_
  · rw [List.getElem?_set] at hk
    split at hk
    · rename_i e; subst e; exact .step (h.snd i hi) (List.mem_of_getElem? hb) hl
    · exact h.snd k hk
theorem RchD.zero : RchD W H s on i 0 := fun k hk => by simp at hk
theorem RchD.step (h : RchD W H s on i j) (hb : (besideP W H i)[j]? = some b) (hl : laneI s b → on[b]? = some true) : RchD W H s on i (j + 1) := by
  intro k hk
  rw [List.take_add_one, hb] at hk
  rcases List.mem_append.1 hk with hk | hk
  · exact h k hk
  · simp at hk; subst hk; exact hl
theorem RchC.zero : RchC W H s on 0 := fun a ha => by omega
theorem RchC.off (h : RchC W H s on i) (hi : on[i]? = some false) : RchC W H s on (i + 1) := by
  intro a ha h2
  rcases Nat.lt_or_ge a i with h3 | h3
  · exact h a h3 h2
  · obtain rfl : a = i := by omega
    rw [hi] at h2; simp at h2
theorem RchC.onn (h : RchC W H s on i) (hd : RchD W H s on i (besideP W H i).length) : RchC W H s on (i + 1) := by
  intro a ha h2
  rcases Nat.lt_or_ge a i with h3 | h3
  · exact h a h3 h2
  · obtain rfl : a = i := by omega
    intro k hk; exact hd k (by rw [List.take_length]; exact hk)
theorem RchI.done (h : RchI W H s fr on) (hc : RchC W H s on s.size) (i : Nat) : laneI s i → (on[i]? = some true ↔ Conn W H s fr i) := fun _ =>
  ⟨h.snd i, fun hq => hq.closed (p := fun i => on[i]? = some true) h.at_ fun a k ha hk hl => hc a (by rw [← h.len]; exact (List.getElem?_eq_some_iff.1 ha).1) ha k hk hl⟩
end
end Go.Proofs.YtmipnicdlldjnaaGreatDoor

namespace Go.Proofs.YtmipnicdlldjnaaGreatDoor
set_option linter.unusedVariables false
set_option linter.unusedSimpArgs false
open Go.RowKit

structure RcW (f : Flr) (bf g : Nat) (w : World) (on : List Bool) (wx : World) : Prop where
  bx : BxW f bf w wx
  bl : Blk Value.bool 4 wx g on
  lt : bf < g ∧ w.heap.size ≤ g
section
variable {f : Flr} {bf g : Nat} {w wx w' : World} {on : List Bool}
theorem RcW.no (h : RcW f bf g w on wx) (hk : Kp No wx w') : RcW f bf g w on w' := ⟨h.bx.no hk, h.bl.kpNo hk, h.lt⟩
theorem RcW.set (h : RcW f bf g w on wx) (i : Nat) (b : Bool) : RcW f bf g w (on.set i b) (wx.setCell ⟨g, i, none⟩ (.bool b)) :=
  ⟨⟨blk_far h.bx.box (by have := h.lt; show bf ≠ g; omega) _, h.bx.kp.setCell (fun e => by have e : g < w.heap.size := e; have := h.lt; omega) _⟩, h.bl.set i b, h.lt⟩
end
def RchR (W H : Nat) (s : ByteArray) (fr : Nat) (w : World) (e : Ending) (w' : World) : Prop :=
  ∃ g on, e = .returned (.slice (some ⟨g, 0, none⟩) s.size s.size) ∧ Blk Value.bool 4 w' g on ∧ w.heap.size ≤ g ∧ Kp No w w' ∧ on.length = s.size ∧ ∀ i : Nat, laneI s i → (on[i]? = some true ↔ Conn W H s fr i)

set_option maxHeartbeats 2000000 in
set_option maxRecDepth 100000 in
theorem reached_any (W H : Nat) (s : ByteArray) (fr : Nat) (hW1 : 1 ≤ W) (hW : W ≤ 16) (hH1 : 1 ≤ H) (hH : H ≤ 16) (hs : s.size = W * H) (hfr : fr < s.size) (w : World) :
    Calls Tryz.prog 62 #[(Flr.mk W H s).val, .int .i64 (fr : Int)] w (RchR W H s fr w) := by
  have HBX := Lib.hid (BxW.new (Flr.mk W H s) w)
  unfold Flr.val
  have hs256 : s.size ≤ 256 := by rw [hs]; exact Nat.mul_le_mul hW hH
  have HS := Lib.hid hs
  obtain ⟨n, hn⟩ : ∃ n, n = s.size := ⟨_, rfl⟩
  have hnI : ((s.size : Nat) : Int) = (n : Int) := by omega
  have HN := Lib.hid hn
  have hn256 : n ≤ 256 := by omega
  have hmk := run_mkBo n (by omega)
  have hfn : (fr : Int) < (n : Int) := by omega
  have ST := Lib.hid (RchI.start (W := W) (H := H) hfr)
  clear hs hn hs256 hfr
  go_enter Tryz.func62, Tryz.ntmps62
  obtain ⟨bf, hbf⟩ : ∃ bf, bf = w.heap.size := ⟨_, rfl⟩
  obtain ⟨w1, hw1⟩ : ∃ w1, w1 = w.alloc (.cells #[.int .i64 (W : Int), .int .i64 (H : Int), .string s] 23) := ⟨_, rfl⟩
  obtain ⟨w2, hw2⟩ : ∃ w2, w2 = w1.alloc (.cells ((List.replicate n false).map Value.bool).toArray 4) := ⟨_, rfl⟩
  obtain ⟨g, hg⟩ : ∃ g, g = w1.heap.size := ⟨_, rfl⟩
  have R0 := Lib.hid (show RcW (Flr.mk W H s) bf g w (List.replicate n false) w2 by
    rw [hw2, hg, hbf]
    refine ⟨BxW.no (w := w1) (by rw [hw1]; exact HBX.out) ((Kp.refl _ _).alloc _), blk_new w1 _, ?_⟩
    rw [hw1]; simp)
  have hcf : w2.frozen? ⟨g, fr, none⟩ = false := R0.out.bl.free fr
  have hc0 : w2.cell? ⟨g, fr, none⟩ = some (.bool false) := R0.out.bl.get (x := false) (by rw [List.getElem?_replicate, if_pos (by omega)])
  have R1 := Lib.hid (R0.out.set fr true)
  go_upto_region 1 with fail
  go_cut [5, 10, 11, 12, 13] (fun v _ _ _ _ wx => v = .slice (some ⟨g, 0, none⟩) n n ∧ wx = w2)
  case first =>
    clear hcf hc0
    go_wp2_with fail
    go_meet
    subst hg hw1 hw2
    exact ⟨by simp, by simp⟩
  case rest =>
    rw [← hbf]
    obtain ⟨rfl, rfl⟩ := hcut
    clear hmk hw1 hw2 hg hbf
    go_wp2_with fail
    go_loopg [6] (2 * n + 1) (fun gg mv wx => ∃ (mb : Bool) (on : List Bool), 2 * offs on + (if mb then 1 else 0) ≤ gg ∧ mv = .bool mb ∧ RchI W H s fr on ∧ (mb = false → RchC W H s on n) ∧ RcW (Flr.mk W H s) bf g w on wx)
    case atStart =>
      refine ⟨true, (List.replicate n false).set fr true, ?_, rfl, by have := ST.out; rwa [← HN.out] at this, by simp, R1.out⟩
      have := List.length_filter_le (fun x => !x) ((List.replicate n false).set fr true)
      unfold offs; simp at this ⊢; omega
    case round =>
      obtain ⟨mb, on, hgk, rfl, ri, rc, rw_⟩ := hrel
      have RI := Lib.hid ri; have RC := Lib.hid rc; have RW := Lib.hid rw_
      clear ri rc rw_
      cases mb with
      | false =>
        have HD := Lib.hid (RI.out.done (by have := RC.out rfl; rwa [HN.out] at this))
        have HL := Lib.hid RI.out.len
        have hnE := HN.out
        have HE := Lib.hid hnE
        clear hnE
        go_wp2_with fail
        go_ret
        exact ⟨g, on, by rw [← HE.out]; rfl, RW.out.bl, RW.out.lt.2, RW.out.bx.kp, HL.out, HD.out⟩
      | true =>
        have hgk2 : 2 * offs on < gk := by simp at hgk; omega
        obtain ⟨G, rfl⟩ : ∃ G : Nat, G = gk := ⟨_, rfl⟩
        have HG := Lib.hid hgk2
        clear hgk hgk2
        go_wp2_with fail
        obtain ⟨wo, rfl⟩ : ∃ wo : World, wo = wr := ⟨_, rfl⟩
        go_loopg [6, 7] (n + 1) (fun g2 mv iv wx => ∃ (i : Nat) (mb : Bool) (on : List Bool), g2 = n + 1 - i ∧ iv = .int .i64 i ∧ i ≤ n ∧ mv = .bool mb ∧ 2 * offs on + (if mb then 1 else 0) < G ∧ RchI W H s fr on ∧ (mb = false → RchC W H s on i) ∧ RcW (Flr.mk W H s) bf g w on wx)
        case atStart => exact ⟨0, false, on, rfl, rfl, by omega, rfl, by have := HG.out; simp; omega, RI.out, fun _ => RchC.zero, RW.out⟩
        case round =>
          clear HG RI RC RW
          obtain ⟨i, mb, on, hg2, rfl, hi, rfl, hG, ri, rc, rw_⟩ := hrel
          have RI := Lib.hid ri; have RC := Lib.hid rc; have RW := Lib.hid rw_; have HG := Lib.hid hG
          clear ri rc rw_ hG
          by_cases hlt : i < n
          · have hltI : (i : Int) < (n : Int) := by omega
            have hwi : IntKind.i64.wrap ((i : Int) + 1) = (i : Int) + 1 := IntWalk.i64_in _ (by omega)
            obtain ⟨b, hb⟩ : ∃ b, on[i]? = some b := ⟨_, List.getElem?_eq_getElem (by rw [RI.out.len, ← HN.out]; exact hlt)⟩
            have hcb : wr.cell? ⟨g, i, none⟩ = some (.bool b) := RW.out.bl.get hb
            have HB := Lib.hid hb
            cases b with
            | false =>
              have RC2 := Lib.hid (fun h => (RC.out h).off HB.out)
              clear hb hlt
              go_wp2_with fail
              go_roundg (n + 1 - (i + 1))
              case measure => omega
              case rel => exact ⟨i + 1, mb, on, rfl, by go_num, by omega, rfl, HG.out, RI.out, RC2.out, RW.out⟩
            | true =>
              have hiW : i < W * H := by have := HS.out; have := HN.out; omega
              have HIW := Lib.hid hiW
              have hb0 : wr.cell? ⟨bf, 0, none⟩ = some (.int .i64 (W : Int)) := RW.out.bx.c0
              have hb1 : wr.cell? ⟨bf, 1, none⟩ = some (.int .i64 (H : Int)) := RW.out.bx.c1
              have hb2 : wr.cell? ⟨bf, 2, none⟩ = some (.string s) := RW.out.bx.c2
              clear hb hlt hiW
              go_wp2_with fail
              refine (qbeside_any W H i s hW1 hW hH1 hH HIW.out wr).mono ?_
              rintro e w3 ⟨vB, rfl, nb⟩
              obtain ⟨AB, qB, rfl⟩ := nb.own.rd.shape
              rw [ints_len] at nb ⊢
              obtain ⟨nB, hnB⟩ : ∃ nB, nB = (besideP W H i).length := ⟨_, rfl⟩
              have hB4 : nB ≤ 4 := by rw [hnB]; exact besideP_len W H i
              rw [← hnB] at nb ⊢
              have HNB := Lib.hid hnB
              have R3 := Lib.hid (RW.out.no nb.kp); have OB := Lib.hid nb.own
              have NG := Lib.hid (show ∀ g', (Value.slice AB nB qB).ownBlock = some g' → g' ≠ g by
                intro g' hg'
                have := nb.ge g' hg'; have := RW.out.bl.lt; omega)
              clear nb hnB hb0 hb1 hb2 hcb
              go_wp2_with fail
              obtain ⟨wc, rfl⟩ : ∃ wc : World, wc = wr := ⟨_, rfl⟩
              go_loopg [6, 9] (nB + 1) (fun g3 mv jv wx => ∃ (j : Nat) (mb : Bool) (on : List Bool), g3 = nB + 1 - j ∧ jv = .int .i64 j ∧ j ≤ nB ∧ mv = .bool mb ∧ 2 * offs on + (if mb then 1 else 0) < G ∧ RchI W H s fr on ∧ on[i]? = some true ∧ (mb = false → RchC W H s on i ∧ RchD W H s on i j) ∧ RcW (Flr.mk W H s) bf g w on wx ∧ Own IK 3 wx (.slice AB nB qB) (ints (besideP W H i)))
              case atStart => exact ⟨0, mb, on, rfl, rfl, by omega, rfl, HG.out, RI.out, HB.out, fun h => ⟨RC.out h, RchD.zero⟩, R3.out, OB.out⟩
              case round =>
                clear RI RC RW HG HB R3 OB
                obtain ⟨j, mb, on, hg3, rfl, hj, rfl, hG, ri, hoi, rc, rw_, ob⟩ := hrel
                have RI := Lib.hid ri; have RC := Lib.hid rc; have RW := Lib.hid rw_; have HG := Lib.hid hG; have HOI := Lib.hid hoi; have OB := Lib.hid ob
                clear ri rc rw_ hG hoi ob
                by_cases hlt : j < nB
                · have hltI : (j : Int) < (nB : Int) := by omega
                  have hwj : IntKind.i64.wrap ((j : Int) + 1) = (j : Int) + 1 := IntWalk.i64_in _ (by omega)
                  obtain ⟨x, hx⟩ : ∃ x, (besideP W H i)[j]? = some x := ⟨_, List.getElem?_eq_getElem (by rw [← HNB.out]; exact hlt)⟩
                  have hxs : x < s.size := by rw [HS.out]; exact beside_lt hW1 HIW.out (List.mem_of_getElem? hx)
                  have hxsI : (x : Int) < ((s.size : Nat) : Int) := by omega
                  have hxn : (x : Int) < (n : Int) := by have := HN.out; omega
                  rcases OB.out.b with ⟨hv, _⟩ | ⟨gB, capB, hv, _, _, _⟩
                  · simp only [Value.slice.injEq] at hv; omega
                  simp only [Value.slice.injEq] at hv
                  obtain ⟨rfl, hzz, rfl⟩ := hv
                  clear hzz
                  have hgg : gB ≠ g := NG.out gB rfl
                  have hcb : wr.cell? ⟨gB, j, none⟩ = some (.int .i64 (x : Int)) := by have := OB.out.rd.intAt (ints_get hx); simpa using this
                  have hb2 : wr.cell? ⟨bf, 2, none⟩ = some (.string s) := RW.out.bx.c2
                  have hbt := bt_at s x
                  obtain ⟨B, hB⟩ : ∃ B, B = bt s x := ⟨_, rfl⟩
                  rw [← hB] at hbt
                  obtain ⟨t, ht⟩ : ∃ t, t = (kindB B == 2) := ⟨_, rfl⟩
                  have QL := Lib.hid (fun w => qlane_any B t ht w)
                  have HX := Lib.hid hx
                  have HT := Lib.hid (show t = true ↔ laneI s x by
                    rw [ht, hB]; simp; exact ⟨fun h => ⟨hxs, h⟩, fun h => h.2⟩)
                  obtain ⟨c, hc⟩ : ∃ c, on[x]? = some c := ⟨_, List.getElem?_eq_getElem (by rw [RI.out.len]; exact hxs)⟩
                  have hcx : wr.cell? ⟨g, x, none⟩ = some (.bool c) := RW.out.bl.get hc
                  have hcf : wr.frozen? ⟨g, x, none⟩ = false := RW.out.bl.free x
                  have HC := Lib.hid hc
                  have HGG := Lib.hid hgg
                  clear hx hB hlt hxs ht hc hgg
                  cases t with
                  | false =>
                    have RC2 := Lib.hid (fun h => And.intro (RC.out h).1 ((RC.out h).2.step HX.out (fun hl => absurd (HT.out.2 hl) (by simp))))
                    clear hcx hcf
                    go_wp2_with fail
                    go_quiet ((go_at_call 41; exact Calls.quiet_of_same (QL.out _)))
                    go_wp2_with fail
                    go_roundg (nB + 1 - (j + 1))
                    case measure => omega
                    case rel => exact ⟨j + 1, mb, on, rfl, by go_num, by omega, rfl, HG.out, RI.out, HOI.out, RC2.out, RW.out.no ((Kp.refl _ _).drewN _), OB.out.drewN _⟩
                  | true =>
                    cases c with
                    | true =>
                      have RC2 := Lib.hid (fun h => And.intro (RC.out h).1 ((RC.out h).2.step HX.out (fun _ => HC.out)))
                      go_wp2_with fail
                      go_quiet ((go_at_call 41; exact Calls.quiet_of_same (QL.out _)))
                      go_wp2_with fail
                      go_roundg (nB + 1 - (j + 1))
                      case measure => omega
                      case rel => exact ⟨j + 1, mb, on, rfl, by go_num, by omega, rfl, HG.out, RI.out, HOI.out, RC2.out, RW.out.no ((Kp.refl _ _).drewN _), OB.out.drewN _⟩
                    | false =>
                      have RI2 := Lib.hid (RI.out.put HOI.out HX.out (HT.out.1 rfl) HC.out)
                      have HO := Lib.hid (offs_set on x HC.out)
                      have HOI2 := Lib.hid (show (on.set x true)[i]? = some true by
                        rw [List.getElem?_set]; split
                        · rename_i e; subst e; have := HC.out; rw [HOI.out] at this; simp at this
                        · exact HOI.out)
                      have R2 := Lib.hid (fun k => (RW.out.no ((Kp.refl _ wr).drewN k)).set x true)
                      have O2 := Lib.hid (fun k => (OB.out.drewN k).kp ((Kp.refl (fun b => b = g) (wr.drewN k)).setCell (p := ⟨g, x, none⟩) (fun _ => rfl) (.bool true)) (fun g' hg' e => NG.out g' hg' e))
                      go_wp2_with fail
                      go_quiet ((go_at_call 41; exact Calls.quiet_of_same (QL.out _)))
                      go_wp2_with fail
                      go_roundg (nB + 1 - (j + 1))
                      case measure => omega
                      case rel => exact ⟨j + 1, true, _, rfl, by go_num, by omega, rfl, by have := HG.out; have := HO.out; split at * <;> simp <;> omega, RI2.out, HOI2.out, fun h => by simp at h, R2.out _, O2.out _⟩
                · obtain rfl : j = nB := by omega
                  have hd0 : ¬ (j : Int) < (j : Int) := by omega
                  have RC2 := Lib.hid (fun h => (RC.out h).1.onn (by rw [← HNB.out]; exact (RC.out h).2))
                  clear hlt
                  go_wp2_with fail
                  go_roundg (n + 1 - (i + 1))
                  case measure => omega
                  case rel => exact ⟨i + 1, mb, on, rfl, by go_num, by omega, rfl, HG.out, RI.out, RC2.out, RW.out⟩
          · obtain rfl : i = n := by omega
            have hd0 : ¬ (i : Int) < (i : Int) := by omega
            clear hlt
            go_wp2_with fail
            go_roundg (2 * offs on + (if mb then 1 else 0))
            case measure => exact HG.out
            case rel => exact ⟨mb, on, Nat.le_refl _, rfl, RI.out, RC.out, RW.out⟩
end Go.Proofs.YtmipnicdlldjnaaGreatDoor

namespace Go.Proofs.YtmipnicdlldjnaaGreatDoor
set_option linter.unusedVariables false
set_option linter.unusedSimpArgs false
open Go.RowKit

def cntR (s : ByteArray) (k r : Nat) : Nat := ((List.range k).filter fun i => kdS s i == 3 && bt s i == 48 + r).length
theorem cntR_succ (s : ByteArray) (k r : Nat) : cntR s (k + 1) r = cntR s k r + if kdS s k = 3 ∧ bt s k = 48 + r then 1 else 0 := by
  unfold cntR; rw [List.range_succ, List.filter_append, List.length_append]
  congr 1
  by_cases h : kdS s k = 3 ∧ bt s k = 48 + r
  · rw [if_pos h]; simp [h.1, h.2]
  · rw [if_neg h]; simp; intro h1 h2; exact h ⟨h1, h2⟩
theorem sum_set : ∀ (a : List Nat) (r x : Nat), a[r]? = some x → (a.set r (x + 1)).sum = a.sum + 1 := by
  intro a
  induction a with
  | nil => intro r x h; simp at h
  | cons y ys ih =>
    intro r x h
    rcases r with _ | r
    · simp at h; subst h; simp; omega
    · rw [List.getElem?_cons_succ] at h
      rw [List.set_cons_succ, List.sum_cons, List.sum_cons, ih r x h]; omega
theorem sum_ones : ∀ (a : List Nat) (d : Nat), d ≤ a.length → (∀ r : Nat, r < d → a[r]? = some 1) → a.sum = d → ∀ r x : Nat, d ≤ r → a[r]? = some x → x = 0 := by
  intro a
  induction a with
  | nil => intro d _ _ _ r x _ h; simp at h
  | cons y ys ih =>
    intro d hd h1 hs r x hr hx
    rw [List.sum_cons] at hs
    rcases d with _ | d
    · rcases r with _ | r
      · simp at hx; omega
      · rw [List.getElem?_cons_succ] at hx
        exact ih 0 (by omega) (fun r hr => by omega) (by omega) r x (by omega) hx
    · have hy := h1 0 (by omega)
      simp at hy; subst hy
      rcases r with _ | r
      · omega
      · rw [List.getElem?_cons_succ] at hx
        exact ih d (by simp at hd; omega) (fun r hr => by have := h1 (r + 1) (by omega); rwa [List.getElem?_cons_succ] at this) (by omega) r x (by omega) hx
structure MnI (s : ByteArray) (k : Nat) (a : List Nat) (d : Nat) : Prop where
  len : a.length = 8
  at_ : ∀ r x : Nat, a[r]? = some x → x = cntR s k r
  sum : d = a.sum
section
variable {s : ByteArray} {k d : Nat} {a : List Nat}
theorem MnI.start (s : ByteArray) : MnI s 0 (List.replicate 8 0) 0 := ⟨rfl, fun r x h => by
    rw [List.getElem?_replicate] at h
    split at h
    · simp at h; rw [← h]; rfl
    · simp at h, rfl⟩
theorem MnI.skip (h : MnI s k a d) (hk : kdS s k ≠ 3) : MnI s (k + 1) a d := ⟨h.len, fun r x e => by rw [cntR_succ, if_neg (fun h => hk h.1)]; exact h.at_ r x e, h.sum⟩
theorem MnI.take (h : MnI s k a d) {r x : Nat} (hk : kdS s k = 3) (hr : bt s k = 48 + r) (h0 : a[r]? = some x) : MnI s (k + 1) (a.set r (x + 1)) (d + 1) := by
  have hrl : r < a.length := (List.getElem?_eq_some_iff.1 h0).1
  refine ⟨by rw [List.length_set]; exact h.len, fun r' y e => ?_, by rw [sum_set a r x h0, ← h.sum]⟩
  rw [cntR_succ]
  by_cases hrr : r = r'
  · subst hrr
    rw [List.getElem?_set_self hrl] at e
    simp at e; subst e
    rw [if_pos ⟨hk, hr⟩, ← h.at_ r x h0]
  · rw [List.getElem?_set_ne hrr] at e
    rw [if_neg (by omega)]; exact h.at_ r' y e
theorem cnt_one {s : ByteArray} {n r i j : Nat} (h : cntR s n r = 1) (hi : i < n ∧ kdS s i = 3 ∧ bt s i = 48 + r) (hj : j < n ∧ kdS s j = 3 ∧ bt s j = 48 + r) : i = j := by
  unfold cntR at h
  obtain ⟨y, hy⟩ := List.length_eq_one_iff.1 h
  have h1 : i ∈ (List.range n).filter fun i => kdS s i == 3 && bt s i == 48 + r := List.mem_filter.2 ⟨List.mem_range.2 hi.1, by simp [hi.2.1, hi.2.2]⟩
  have h2 : j ∈ (List.range n).filter fun i => kdS s i == 3 && bt s i == 48 + r := List.mem_filter.2 ⟨List.mem_range.2 hj.1, by simp [hj.2.1, hj.2.2]⟩
  rw [hy] at h1 h2
  simp at h1 h2
  rw [h1, h2]
theorem cnt_pos {s : ByteArray} {n r : Nat} (h : cntR s n r ≠ 0) : ∃ i, i < n ∧ kdS s i = 3 ∧ bt s i = 48 + r := by
  unfold cntR at h
  obtain ⟨y, hy⟩ := List.exists_mem_of_length_pos (Nat.pos_of_ne_zero h)
  obtain ⟨h1, h2⟩ := List.mem_filter.1 hy
  simp at h1 h2
  exact ⟨y, h1, h2.1, h2.2⟩
theorem cnt_ne {s : ByteArray} {n r i : Nat} (hi : i < n ∧ kdS s i = 3 ∧ bt s i = 48 + r) : cntR s n r ≠ 0 := by
  intro h
  unfold cntR at h
  have h1 : i ∈ (List.range n).filter fun i => kdS s i == 3 && bt s i == 48 + r := List.mem_filter.2 ⟨List.mem_range.2 hi.1, by simp [hi.2.1, hi.2.2]⟩
  rw [List.eq_nil_of_length_eq_zero h] at h1
  simp at h1
theorem dockAt_some {s : ByteArray} {r i : Nat} (h : dockAt s r = some i) : i < s.size ∧ kdS s i = 3 ∧ bt s i = 48 + r := by
  unfold dockAt at h
  have h1 := List.find?_some h
  have h2 := List.mem_of_find?_eq_some h
  simp at h1 h2
  exact ⟨h2, h1.1, h1.2⟩
theorem dockAt_ex {s : ByteArray} {r i : Nat} (hi : i < s.size ∧ kdS s i = 3 ∧ bt s i = 48 + r) : ∃ x, dockAt s r = some x := by
  cases h : dockAt s r with
  | some x => exact ⟨x, rfl⟩
  | none =>
    unfold dockAt at h
    rw [List.find?_eq_none] at h
    have := h i (by simpa using hi.1)
    simp [hi.2.1, hi.2.2] at this
theorem cntR_len (s : ByteArray) (k r : Nat) (h : ∀ i, i < k → ¬ (kdS s i = 3 ∧ bt s i = 48 + r)) : cntR s k r = 0 := by
  apply Classical.byContradiction
  intro hc
  obtain ⟨i, h1, h2, h3⟩ := cnt_pos hc
  exact h i h1 ⟨h2, h3⟩
theorem MnI.cnt (h : MnI s k a d) : d = (docksP s k).length ∨ True := .inr trivial
theorem MnI.iff (h : MnI s s.size a d) : (∃ ds, DocksL s ds) ↔ 1 ≤ d ∧ d ≤ 8 ∧ ∀ r : Nat, r < d → a[r]? = some 1 := by
  constructor
  · rintro ⟨ds, hd⟩
    have hl := hd.len
    have hne : 1 ≤ ds.length := by rcases hh : ds with _ | _; exact absurd hh hd.ne; simp
    have hcnt : ∀ r x : Nat, a[r]? = some x → x = if r < ds.length then 1 else 0 := by
      intro r x hx
      rw [h.at_ r x hx]
      split
      · rename_i hr
        obtain ⟨i1, i2, i3⟩ := hd.at_ r _ (List.getElem?_eq_getElem hr)
        have hne := cnt_ne ⟨i1, i2, i3⟩
        rcases Nat.lt_or_ge 1 (cntR s s.size r) with h2 | h2
        · exfalso
          unfold cntR at h2
          have hnd : ((List.range s.size).filter fun i => kdS s i == 3 && bt s i == 48 + r).Nodup := List.Nodup.sublist List.filter_sublist List.nodup_range
          have hall : ∀ y ∈ (List.range s.size).filter fun i => kdS s i == 3 && bt s i == 48 + r, y = ds[r] := by
            intro y hy
            obtain ⟨h3, h4⟩ := List.mem_filter.1 hy
            simp at h3 h4
            have := hd.all y h3 h4.1
            rw [h4.2, Nat.add_sub_cancel_left, List.getElem?_eq_getElem hr] at this
            simpa using this.symm
          generalize (List.range s.size).filter (fun i => kdS s i == 3 && bt s i == 48 + r) = L at h2 hnd hall
          rcases L with _ | ⟨p, _ | ⟨q, L⟩⟩
          · simp at h2
          · simp at h2
          · have e1 := hall p (by simp)
            have e2 := hall q (by simp)
            rw [List.nodup_cons] at hnd
            exact hnd.1 (by simp [e1, e2])
        · omega
      · rename_i hr
        apply Classical.byContradiction
        intro hc
        obtain ⟨i, h1, h2, h3⟩ := cnt_pos hc
        have := hd.all i h1 h2
        rw [h3, Nat.add_sub_cancel_left] at this
        exact hr (List.getElem?_eq_some_iff.1 this).1
    have ha : a = List.replicate ds.length 1 ++ List.replicate (8 - ds.length) 0 := by
      apply List.ext_getElem?
      intro r
      rcases Nat.lt_or_ge r 8 with h8 | h8
      · have hra : r < a.length := by rw [h.len]; exact h8
        rw [List.getElem?_eq_getElem hra, hcnt r _ (List.getElem?_eq_getElem hra)]
        split
        · rw [List.getElem?_append_left (by simpa), List.getElem?_replicate, if_pos (by assumption)]
        · rw [List.getElem?_append_right (by simpa using by omega), List.getElem?_replicate, if_pos (by simp; omega)]
      · rw [List.getElem?_eq_none (by rw [h.len]; exact h8), List.getElem?_eq_none (by simp; omega)]
    have hd2 : d = ds.length := by rw [h.sum, ha]; simp
    refine ⟨by omega, by omega, fun r hr => ?_⟩
    rw [ha, List.getElem?_append_left (by simp; omega), List.getElem?_replicate, if_pos (by omega)]
  · rintro ⟨h1, h8, hall⟩
    have h0 := sum_ones a d (by rw [h.len]; exact h8) hall h.sum.symm
    have hone : ∀ r, r < d → cntR s s.size r = 1 := fun r hr => (h.at_ r 1 (hall r hr)).symm
    refine ⟨(List.range d).map fun r => (dockAt s r).getD 0, fun e => ?_, fun r i e => ?_, fun i hi h3 => ?_⟩
    · have : ((List.range d).map fun r => (dockAt s r).getD 0).length = d := by simp
      rw [e] at this; simp at this; omega
    · rw [List.getElem?_map] at e
      rcases Nat.lt_or_ge r d with hr | hr
      · rw [List.getElem?_range hr] at e
        simp at e
        obtain ⟨x, hx⟩ := cnt_pos (s := s) (n := s.size) (r := r) (by rw [hone r hr]; decide)
        obtain ⟨y, hy⟩ := dockAt_ex hx
        rw [hy] at e
        simp at e; subst e
        exact dockAt_some hy
      · rw [List.getElem?_eq_none (by simpa using hr)] at e
        simp at e
    · have hd := kd_dock h3
      have hb : bt s i = 48 + (bt s i - 48) := by unfold kdS at h3; omega
      have hr : bt s i - 48 < d := by
        rcases Nat.lt_or_ge (bt s i - 48) d with hr | hr
        · exact hr
        · exfalso
          have hra : bt s i - 48 < a.length := by rw [h.len]; omega
          have e := h0 _ _ hr (List.getElem?_eq_getElem hra)
          have e2 := h.at_ _ _ (List.getElem?_eq_getElem hra)
          exact cnt_ne ⟨hi, h3, hb⟩ (by rw [← e2, e])
      rw [List.getElem?_map, List.getElem?_range hr]
      obtain ⟨y, hy⟩ := dockAt_ex ⟨hi, h3, hb⟩
      simp only [Option.map_some, hy, Option.getD_some, Option.some.injEq]
      exact cnt_one (hone _ hr) (dockAt_some hy) ⟨hi, h3, hb⟩
end
end Go.Proofs.YtmipnicdlldjnaaGreatDoor

namespace Go.Proofs.YtmipnicdlldjnaaGreatDoor
set_option linter.unusedVariables false
set_option linter.unusedSimpArgs false
open Go.RowKit

theorem qright_dims (f : Flr) (w : World) (h : f.W < 1 ∨ 16 < f.W ∨ f.H < 1 ∨ 16 < f.H ∨ ((f.s.size : Int) ≠ f.W * f.H)) (hsz : f.s.size ≤ 9223372036854775807) :
    Calls Tryz.prog 39 #[f.val] w (RightR f w) := by
  have hR : rightB f = false := rightB_f fun r => by
    rcases h with h | h | h | h | h
    · exact absurd r.w1 (by omega)
    · exact absurd r.w2 (by omega)
    · exact absurd r.h1 (by omega)
    · exact absurd r.h2 (by omega)
    · exact h r.len
  have HR := Lib.hid hR
  unfold Flr.val
  obtain ⟨X, Y, s⟩ := f
  simp only at h hsz
  clear hR
  have K0 := Lib.hid ((Kp.refl No w).alloc (.cells #[.int .i64 X, .int .i64 Y, .string s] 23))
  by_cases h1 : X < 1
  · clear h
    go_enter Tryz.func39, Tryz.ntmps39
    go_wp2
    go_ret
    exact ⟨by rw [HR.out]; rfl, K0.out⟩
  by_cases h2 : 16 < X
  · clear h
    go_enter Tryz.func39, Tryz.ntmps39
    go_wp2
    go_ret
    exact ⟨by rw [HR.out]; rfl, K0.out⟩
  by_cases h3 : Y < 1
  · clear h
    go_enter Tryz.func39, Tryz.ntmps39
    go_wp2
    go_ret
    exact ⟨by rw [HR.out]; rfl, K0.out⟩
  by_cases h4 : 16 < Y
  · clear h
    go_enter Tryz.func39, Tryz.ntmps39
    go_wp2
    go_ret
    exact ⟨by rw [HR.out]; rfl, K0.out⟩
  · have h5 : (s.size : Int) ≠ X * Y := by rcases h with h | h | h | h | h <;> first | omega | exact h
    obtain ⟨P, hP⟩ : ∃ P, P = X * Y := ⟨_, rfl⟩
    have hP1 : 0 ≤ P := by rw [hP]; exact Int.mul_nonneg (by omega) (by omega)
    have hP2 : P ≤ 256 := by
      rw [hP]; exact Int.le_trans (Int.mul_le_mul_of_nonneg_right (show X ≤ 16 by omega) (by omega)) (by omega)
    have hw : IntKind.i64.wrap P = P := IntWalk.i64_in _ (by omega)
    rw [← hP] at h5
    obtain ⟨n, hn⟩ : ∃ n, n = s.size := ⟨_, rfl⟩
    have hnI : ((s.size : Nat) : Int) = (n : Int) := by omega
    rw [hnI] at h5
    have hb : ((n : Int) != P) = true := by simpa using h5
    have hP' := hP.symm
    clear h hP h5 hn hsz
    go_enter Tryz.func39, Tryz.ntmps39
    go_wp2
    go_ret
    exact ⟨by rw [HR.out]; rfl, K0.out⟩

theorem orTC {t c : Bool} (h : ¬ (t = true ∧ c = false)) : t = false ∨ (t = true ∧ c = true) := by revert h; cases t <;> cases c <;> simp
def FsI (s : ByteArray) (k : Nat) (x : Int) : Prop := (x = -1 ∧ ∀ i, i < k → kdS s i ≠ 2) ∨ ∃ l : Nat, x = l ∧ l < k ∧ kdS s l = 2
theorem FsI.skip {s : ByteArray} {k : Nat} {x : Int} (h : FsI s k x) (hk : kdS s k ≠ 2) : FsI s (k + 1) x := by
  rcases h with ⟨h1, h2⟩ | ⟨l, h1, h2, h3⟩
  · refine .inl ⟨h1, fun i hi => ?_⟩
    rcases Nat.lt_or_ge i k with h | h
    · exact h2 i h
    · obtain rfl : i = k := by omega
      exact hk
  · exact .inr ⟨l, h1, by omega, h3⟩
theorem FsI.keep {s : ByteArray} {k : Nat} {x : Int} (h : FsI s k x) (hx : 0 ≤ x) : FsI s (k + 1) x := by
  rcases h with ⟨h1, h2⟩ | ⟨l, h1, h2, h3⟩
  · omega
  · exact .inr ⟨l, h1, by omega, h3⟩
set_option maxHeartbeats 2000000 in
set_option maxRecDepth 100000 in
theorem qright_in (W H : Nat) (s : ByteArray) (hW1 : 1 ≤ W) (hW : W ≤ 16) (hH1 : 1 ≤ H) (hH : H ≤ 16) (hs : s.size = W * H) (w : World) :
    Calls Tryz.prog 39 #[(Flr.mk W H s).val] w (RightR (Flr.mk W H s) w) := by
  unfold RightR
  obtain ⟨R, hR⟩ : ∃ R, R = rightB (Flr.mk W H s) := ⟨_, rfl⟩
  rw [← hR]
  have HR := Lib.hid hR
  clear hR
  unfold Flr.val
  have hs256 : s.size ≤ 256 := by rw [hs]; exact Nat.mul_le_mul hW hH
  have HS := Lib.hid hs
  obtain ⟨n, hn⟩ : ∃ n, n = s.size := ⟨_, rfl⟩
  have hnI : ((s.size : Nat) : Int) = (n : Int) := by omega
  have hWH : (W : Int) * (H : Int) = (n : Int) := by rw [hn, hs]; simp
  have HN := Lib.hid hn
  have hn256 : n ≤ 256 := by omega
  have a1 : ¬ (W : Int) < 1 := by omega
  have a2 : ¬ (16 : Int) < (W : Int) := by omega
  have a3 : ¬ (H : Int) < 1 := by omega
  have a4 : ¬ (16 : Int) < (H : Int) := by omega
  clear hs hn hs256
  go_enter Tryz.func39, Tryz.ntmps39
  go_wp2
  obtain ⟨bf, hbf⟩ : ∃ bf, bf = w.heap.size := ⟨_, rfl⟩
  obtain ⟨ba, hba⟩ : ∃ ba, ba = w.heap.size + 1 := ⟨_, rfl⟩
  obtain ⟨w0, hw0⟩ : ∃ w0, w0 = (w.alloc (.cells #[.int .i64 (W : Int), .int .i64 (H : Int), .string s] 23)).alloc (.cells #[.int .i64 0, .int .i64 0, .int .i64 0, .int .i64 0, .int .i64 0, .int .i64 0, .int .i64 0, .int .i64 0] 96) := ⟨_, rfl⟩
  have D0 : Hid (DkW (Flr.mk W H s) bf ba (List.replicate 8 0) w w0) := Lib.hid (by
    rw [hw0, hbf, hba]
    refine ⟨blk_alloc (blk_new w _) _, ?_, ((Kp.refl _ _).alloc _).alloc _, by omega, by omega, by omega⟩
    have := blk_new (w.alloc (.cells #[.int .i64 (W : Int), .int .i64 (H : Int), .string s] 23)) (.cells #[.int .i64 0, .int .i64 0, .int .i64 0, .int .i64 0, .int .i64 0, .int .i64 0, .int .i64 0, .int .i64 0] 96)
    show (_ : World).heap[_]? = some (Obj.cells #[.int .i64 0, .int .i64 0, .int .i64 0, .int .i64 0, .int .i64 0, .int .i64 0, .int .i64 0, .int .i64 0] 96 (0, 0))
    simpa using this)
  rw [← hba, ← hbf, ← hw0]
  clear hbf hba hw0 a1 a2 a3 a4 hWH
  go_loopg [4, 5, 6] (n + 1) (fun g2 dv fv kk wr => ∃ (k d : Nat) (fI : Int) (a : List Nat), g2 = n + 1 - k ∧ kk = .int .i64 k ∧ k ≤ n ∧ dv = .int .i64 d ∧ d ≤ k ∧ fv = .int .i64 fI ∧ FsI s k fI ∧ (∀ i, i < k → kdS s i ≠ 0) ∧ DkW (Flr.mk W H s) bf ba a w wr ∧ MnI s k a d)
  case atStart => exact ⟨0, 0, -1, _, rfl, rfl, by omega, rfl, by omega, rfl, .inl ⟨rfl, fun i hi => by omega⟩, fun i hi => by omega, D0.out, MnI.start _⟩
  case round =>
    obtain ⟨k, d, fI, a, hgk, rfl, hk, rfl, hdk, rfl, hfs, hz, dw, mi⟩ := hrel
    have HZ := Lib.hid hz; have DW := Lib.hid dw; have MI := Lib.hid mi; have FS := Lib.hid hfs
    have hb2 : wr.cell? ⟨bf, 2, none⟩ = some (.string s) := blk_cell DW.out.box 2
    clear hz dw mi hfs
    by_cases hlt : k < n
    · have hltI : (k : Int) < (n : Int) := by omega
      have hwk : IntKind.i64.wrap ((k : Int) + 1) = (k : Int) + 1 := IntWalk.i64_in _ (by omega)
      have hks : k < s.size := by have := HN.out; omega
      have hbt := bt_at s k
      have hbl := bt_lt s k
      obtain ⟨B, hB⟩ : ∃ B, B = bt s k := ⟨_, rfl⟩
      rw [← hB] at hbt hbl
      have hKB : kdS s k = kindB B := by rw [hB]; rfl
      obtain ⟨K, hK⟩ : ∃ K, K = kindB B := ⟨_, rfl⟩
      have hk3 := kindB_le B
      rw [← hK] at hKB hk3
      have HK := Lib.hid hKB
      have HB := Lib.hid hB
      clear hKB hB
      have hZ2 : K ≠ 0 → ∀ i, i < k + 1 → kdS s i ≠ 0 := fun h0 => by
        intro i hi
        rcases Nat.lt_or_ge i k with h | h
        · exact HZ.out i h
        · obtain rfl : i = k := by omega
          rw [HK.out]; exact h0
      have HZ2 := Lib.hid hZ2
      clear hZ2
      obtain rfl | rfl | rfl | rfl : K = 0 ∨ K = 1 ∨ K = 2 ∨ K = 3 := by omega
      · have QD := Lib.hid (fun w => qdock_any B false (by rw [← hK]; rfl) w)
        have QL := Lib.hid (fun w => qlane_any B false (by rw [← hK]; rfl) w)
        have h35 : ((B : Int) != 35) = true := by
          simp; intro e
          have e : B = 35 := by omega
          rw [e] at hK; simp [kindB] at hK
        have HNO := Lib.hid (show R = false by rw [HR.out]; exact rightB_f fun r => r.kinds k hks HK.out)
        clear hK hlt hks
        go_wp2_with (first | (go_at_call 40; refine (QD.out _).mono ?_; rintro e wz ⟨rfl, rfl⟩) | (go_at_call 41; refine (QL.out _).mono ?_; rintro e wz ⟨rfl, rfl⟩))
        go_ret
        exact ⟨by rw [HNO.out]; rfl, DW.out.kp⟩
      · have QD := Lib.hid (fun w => qdock_any B false (by rw [← hK]; rfl) w)
        have QL := Lib.hid (fun w => qlane_any B false (by rw [← hK]; rfl) w)
        have h35 : ((B : Int) != 35) = false := by
          have := kd_wall hK.symm
          simp [this]
        have M2 := Lib.hid (MI.out.skip (by rw [HK.out]; decide))
        have F2 := Lib.hid (FS.out.skip (by rw [HK.out]; decide))
        clear hK hlt hks
        go_wp2_with (first | (go_at_call 40; refine (QD.out _).mono ?_; rintro e wz ⟨rfl, rfl⟩) | (go_at_call 41; refine (QL.out _).mono ?_; rintro e wz ⟨rfl, rfl⟩))
        go_roundg (n + 1 - (k + 1))
        case measure => omega
        case rel => exact ⟨k + 1, d, fI, a, rfl, by go_num, by omega, rfl, by omega, rfl, F2.out, HZ2.out (by decide), DW.out, M2.out⟩
      · have QD := Lib.hid (fun w => qdock_any B false (by rw [← hK]; rfl) w)
        have QL := Lib.hid (fun w => qlane_any B true (by rw [← hK]; rfl) w)
        have M2 := Lib.hid (MI.out.skip (by rw [HK.out]; decide))
        clear hK hlt hks
        by_cases hf : fI < 0
        · have F2 := Lib.hid (show FsI s (k + 1) (k : Int) from .inr ⟨k, rfl, by omega, HK.out⟩)
          go_wp2_with (first | (go_at_call 40; refine (QD.out _).mono ?_; rintro e wz ⟨rfl, rfl⟩) | (go_at_call 41; refine (QL.out _).mono ?_; rintro e wz ⟨rfl, rfl⟩))
          go_roundg (n + 1 - (k + 1))
          case measure => omega
          case rel => exact ⟨k + 1, d, _, a, rfl, by go_num, by omega, rfl, by omega, rfl, F2.out, HZ2.out (by decide), DW.out, M2.out⟩
        · have F2 := Lib.hid (FS.out.keep (by omega))
          go_wp2_with (first | (go_at_call 40; refine (QD.out _).mono ?_; rintro e wz ⟨rfl, rfl⟩) | (go_at_call 41; refine (QL.out _).mono ?_; rintro e wz ⟨rfl, rfl⟩))
          go_roundg (n + 1 - (k + 1))
          case measure => omega
          case rel => exact ⟨k + 1, d, fI, a, rfl, by go_num, by omega, rfl, by omega, rfl, F2.out, HZ2.out (by decide), DW.out, M2.out⟩
      · have QD := Lib.hid (fun w => qdock_any B true (by rw [← hK]; rfl) w)
        have QL := Lib.hid (fun w => qlane_any B false (by rw [← hK]; rfl) w)
        have hdk := kd_dock hK.symm
        obtain ⟨r, hr⟩ : ∃ r, B = 48 + r := ⟨B - 48, by omega⟩
        have hsub : IntKind.u8.wrap ((B : Int) - 48) = (r : Int) := by rw [IntWalk.u8_in _ (by omega)]; omega
        have hr8 : (r : Int) < 8 := by omega
        have hra : r < a.length := by rw [MI.out.len]; omega
        obtain ⟨x, hx⟩ : ∃ x, a[r]? = some x := ⟨_, List.getElem?_eq_getElem hra⟩
        have hcx : wr.cell? ⟨ba, r, none⟩ = some (.int .i64 (x : Int)) := (blk_cell DW.out.arr r).trans (arr8_get hx)
        have hcf : wr.frozen? ⟨ba, r, none⟩ = false := blk_free DW.out.arr r
        have D2 := Lib.hid (DW.out.set r (x + 1))
        have M2 := Lib.hid (MI.out.take HK.out (by rw [← HB.out, hr]) hx)
        have F2 := Lib.hid (FS.out.skip (by rw [HK.out]; decide))
        have hx256 : x ≤ 256 := by
          have := MI.out.at_ r x hx
          have h2 : cntR s k r ≤ k := by unfold cntR; exact Nat.le_trans (List.length_filter_le _ _) (by simp)
          omega
        have hwx : IntKind.i64.wrap ((x : Int) + 1) = (x : Int) + 1 := IntWalk.i64_in _ (by omega)
        have hwd : IntKind.i64.wrap ((d : Int) + 1) = (d : Int) + 1 := IntWalk.i64_in _ (by omega)
        have hcast : ((x + 1 : Nat) : Int) = (x : Int) + 1 := by omega
        rw [hcast] at D2
        clear hK hlt hks hx hra hr hdk hcast
        go_wp2_with (first | (go_at_call 40; refine (QD.out _).mono ?_; rintro e wz ⟨rfl, rfl⟩) | (go_at_call 41; refine (QL.out _).mono ?_; rintro e wz ⟨rfl, rfl⟩))
        go_roundg (n + 1 - (k + 1))
        case measure => omega
        case rel => exact ⟨k + 1, d + 1, fI, _, rfl, by go_num, by omega, by go_num, by omega, rfl, F2.out, HZ2.out (by decide), D2.out, M2.out⟩
    · obtain rfl : k = n := by omega
      have hd0 : ¬ (k : Int) < (k : Int) := by omega
      have MS := Lib.hid (show MnI s s.size a d by rw [← HN.out]; exact MI.out)
      have KP := Lib.hid DW.out.kp
      clear hlt MI
      by_cases hbad : d < 1 ∨ 8 < d ∨ fI < 0
      · have HNO := Lib.hid (show R = false by
          rw [HR.out]
          refine rightB_f fun r => ?_
          rcases hbad with h | h | h
          · have := (MS.out.iff.1 r.docks).1; omega
          · have := (MS.out.iff.1 r.docks).2.1; omega
          · rcases FS.out with ⟨_, h2⟩ | ⟨l, h2, _⟩
            · obtain ⟨l, hl⟩ := r.join.1
              have hl1 : l < s.size := hl.1
              exact h2 l (by have := HN.out; omega) hl.2
            · omega)
        by_cases h1 : d < 1
        · have h1I : (d : Int) < 1 := by omega
          clear hbad h1
          go_wp2_with fail
          go_ret
          exact ⟨by rw [HNO.out]; rfl, KP.out⟩
        by_cases h2 : 8 < d
        · have h1I : ¬ (d : Int) < 1 := by omega
          have h2I : (8 : Int) < (d : Int) := by omega
          clear hbad h1 h2
          go_wp2_with fail
          go_ret
          exact ⟨by rw [HNO.out]; rfl, KP.out⟩
        · have h1I : ¬ (d : Int) < 1 := by omega
          have h2I : ¬ (8 : Int) < (d : Int) := by omega
          have h3I : fI < 0 := by omega
          clear hbad h1 h2
          go_wp2_with fail
          go_ret
          exact ⟨by rw [HNO.out]; rfl, KP.out⟩
      · have h1I : ¬ (d : Int) < 1 := by omega
        have h2I : ¬ (8 : Int) < (d : Int) := by omega
        have h3I : ¬ fI < 0 := by omega
        have hd8 : d ≤ 8 := by omega
        obtain ⟨l, rfl, hlk, hl2⟩ : ∃ l : Nat, fI = l ∧ l < k ∧ kdS s l = 2 := by
          rcases FS.out with ⟨h, _⟩ | h
          · omega
          · exact h
        have hls : l < s.size := by have := HN.out; omega
        have HL : Hid (laneI s l) := Lib.hid ⟨hls, hl2⟩
        have HLS := Lib.hid hls
        have HBD := Lib.hid (show 1 ≤ d ∧ d ≤ 8 by omega)
        clear hbad hlk hl2 FS hls
        go_wp2_with fail
        obtain ⟨wo, rfl⟩ : ∃ wo : World, wo = wr := ⟨_, rfl⟩
        go_loopg [8] (d + 1) (fun g2 jv wx => ∃ j : Nat, g2 = d + 1 - j ∧ jv = .int .i64 j ∧ j ≤ d ∧ (∀ r : Nat, r < j → a[r]? = some 1) ∧ DkW (Flr.mk W H s) bf ba a w wx)
        case atStart => exact ⟨0, rfl, rfl, by omega, fun r hr => by omega, DW.out⟩
        case round =>
          clear DW hb2
          obtain ⟨j, hg2, rfl, hj, ha1, dw⟩ := hrel
          have HA := Lib.hid ha1; have DW := Lib.hid dw
          clear ha1 dw
          by_cases hlt : j < d
          · have hltI : (j : Int) < (d : Int) := by omega
            have hwj : IntKind.i64.wrap ((j : Int) + 1) = (j : Int) + 1 := IntWalk.i64_in _ (by omega)
            obtain ⟨x, hx⟩ : ∃ x, a[j]? = some x := ⟨_, List.getElem?_eq_getElem (by rw [MS.out.len]; omega)⟩
            have hcx : wr.cell? ⟨ba, j, none⟩ = some (.int .i64 (x : Int)) := (blk_cell DW.out.arr j).trans (arr8_get hx)
            have hj8 : (j : Int) < 8 := by omega
            by_cases h1 : x = 1
            · have h1b : ((x : Int) != 1) = false := by simp [h1]
              have HA2 := Lib.hid (show ∀ r : Nat, r < j + 1 → a[r]? = some 1 by
                intro r hr
                rcases Nat.lt_or_ge r j with h | h
                · exact HA.out r h
                · obtain rfl : r = j := by omega
                  rw [hx, h1])
              clear hx h1 hlt
              go_wp2_with fail
              go_roundg (d + 1 - (j + 1))
              case measure => omega
              case rel => exact ⟨j + 1, rfl, by go_num, by omega, HA2.out, DW.out⟩
            · have h1b : ((x : Int) != 1) = true := by simp; omega
              have HNO := Lib.hid (show R = false by
                rw [HR.out]
                refine rightB_f fun r => ?_
                have := (MS.out.iff.1 r.docks).2.2 j hlt
                rw [hx] at this
                exact h1 (by simpa using this))
              clear hx h1 hlt
              go_wp2_with fail
              go_ret
              exact ⟨by rw [HNO.out]; rfl, DW.out.kp⟩
          · obtain rfl : j = d := by omega
            have hd0 : ¬ (j : Int) < (j : Int) := by omega
            have HDS := Lib.hid (MS.out.iff.2 ⟨HBD.out.1, HBD.out.2, HA.out⟩)
            have hb0 : wr.cell? ⟨bf, 0, none⟩ = some (.int .i64 (W : Int)) := blk_cell DW.out.box 0
            have hb1 : wr.cell? ⟨bf, 1, none⟩ = some (.int .i64 (H : Int)) := blk_cell DW.out.box 1
            have hb2 : wr.cell? ⟨bf, 2, none⟩ = some (.string s) := blk_cell DW.out.box 2
            clear hlt MS HA HBD h1I h2I h3I
            go_wp2_with fail
            refine (reached_any W H s l hW1 hW hH1 hH HS.out HLS.out wr).mono ?_
            rintro e w4 ⟨g, on, rfl, bl, hgw, kp4, hon, hcon⟩
            have B4 := Lib.hid (show BxW (Flr.mk W H s) bf w w4 from ⟨kp4.blk DW.out.box (no_no _), DW.out.kp.no kp4⟩)
            have BL := Lib.hid bl; have HON := Lib.hid hon; have HC := Lib.hid hcon
            clear bl hgw kp4 hon hcon hb0 hb1 hb2 DW
            go_wp2_with fail
            clear hnI
            have hnI : ((s.size : Nat) : Int) = (k : Int) := by have := HN.out; omega
            have hnN : s.size = k := HN.out.symm
            go_loopg [10] (k + 1) (fun g2 iv wx => ∃ i : Nat, g2 = k + 1 - i ∧ iv = .int .i64 i ∧ i ≤ k ∧ (∀ r : Nat, r < i → kdS s r = 2 → on[r]? = some true) ∧ (∀ r : Nat, r < i → kdS s r = 3 → ∃ x ∈ besideP W H r, laneI s x) ∧ Kp No w4 wx)
            case atStart => exact ⟨0, rfl, rfl, by omega, fun r hr => by omega, fun r hr => by omega, Kp.refl _ _⟩
            case round =>
              obtain ⟨i, hg2, rfl, hi, hp1, hp2, kp5⟩ := hrel
              have P1 := Lib.hid hp1; have P2 := Lib.hid hp2; have K5 := Lib.hid kp5
              have hb0 : wr.cell? ⟨bf, 0, none⟩ = some (.int .i64 (W : Int)) := (B4.out.no kp5).c0
              have hb1 : wr.cell? ⟨bf, 1, none⟩ = some (.int .i64 (H : Int)) := (B4.out.no kp5).c1
              have hb2 : wr.cell? ⟨bf, 2, none⟩ = some (.string s) := (B4.out.no kp5).c2
              clear hp1 hp2 kp5
              by_cases hlt : i < k
              · have hltI : (i : Int) < (k : Int) := by omega
                have hwi : IntKind.i64.wrap ((i : Int) + 1) = (i : Int) + 1 := IntWalk.i64_in _ (by omega)
                have hks : i < s.size := by have := HN.out; omega
                have hbt := bt_at s i
                obtain ⟨B, hB⟩ : ∃ B, B = bt s i := ⟨_, rfl⟩
                rw [← hB] at hbt
                have hKB : kdS s i = kindB B := by rw [hB]; rfl
                obtain ⟨tl, htl⟩ : ∃ tl, tl = (kindB B == 2) := ⟨_, rfl⟩
                obtain ⟨td, htd⟩ : ∃ td, td = (kindB B == 3) := ⟨_, rfl⟩
                have QL := Lib.hid (fun w => qlane_any B tl htl w)
                have QD := Lib.hid (fun w => qdock_any B td htd w)
                have HTL := Lib.hid (show tl = true ↔ kdS s i = 2 by rw [htl, hKB]; simp)
                have HTD := Lib.hid (show td = true ↔ kdS s i = 3 by rw [htd, hKB]; simp)
                obtain ⟨c, hc⟩ : ∃ c, on[i]? = some c := ⟨_, List.getElem?_eq_getElem (by rw [HON.out]; exact hks)⟩
                have hcx : wr.cell? ⟨g, i, none⟩ = some (.bool c) := (BL.out.kpNo K5.out).get hc
                have HCC := Lib.hid hc
                have HKS := Lib.hid hks
                have hiW : i < W * H := by have := HS.out; omega
                have HIW := Lib.hid hiW
                clear hc htl htd hKB hB hks hlt hiW
                by_cases hbad : tl = true ∧ c = false
                · obtain ⟨rfl, rfl⟩ := hbad
                  have HNO := Lib.hid (show R = false by
                    rw [HR.out]
                    refine rightB_f fun r => ?_
                    have hl : laneI s i := ⟨HKS.out, HTL.out.1 rfl⟩
                    have := (HC.out i hl).2 (by simpa using r.join.2 l i HL.out hl)
                    rw [HCC.out] at this; simp at this)
                  clear hnN
                  go_wp2_with (go_at_call 41; refine (QL.out _).mono ?_; rintro e wz ⟨rfl, rfl⟩)
                  go_ret
                  exact ⟨by rw [HNO.out]; rfl, B4.out.kp.no K5.out⟩
                · have hor : tl = false ∨ (tl = true ∧ c = true) := orTC hbad
                  have P12 := Lib.hid (show ∀ r : Nat, r < i + 1 → kdS s r = 2 → on[r]? = some true by
                    intro r hr h2
                    rcases Nat.lt_or_ge r i with h | h
                    · exact P1.out r h h2
                    · obtain rfl : r = i := by omega
                      have := HTL.out.2 h2
                      rcases hor with h | ⟨_, rfl⟩
                      · rw [h] at this; simp at this
                      · exact HCC.out)
                  clear hbad hnN HCC P1
                  rcases hor with rfl | ⟨rfl, rfl⟩
                  all_goals
                    go_wp2_with (go_at_call 41; refine (QL.out _).mono ?_; rintro e wz ⟨rfl, rfl⟩)
                    refine (qbeside_any W H i s hW1 hW hH1 hH HIW.out wz).mono ?_
                    rintro e w6 ⟨vB, rfl, nb⟩
                    obtain ⟨AB, qB, rfl⟩ := nb.own.rd.shape
                    rw [ints_len] at nb ⊢
                    obtain ⟨nB, hnB⟩ : ∃ nB, nB = (besideP W H i).length := ⟨_, rfl⟩
                    have hB4 : nB ≤ 4 := by rw [hnB]; exact besideP_len W H i
                    rw [← hnB] at nb ⊢
                    have HNB := Lib.hid hnB
                    have K6 := Lib.hid (K5.out.no nb.kp); have OB := Lib.hid nb.own
                    clear nb hnB hb0 hb1 hb2 hcx
                    go_wp2_with fail
                    go_loopg [12, 13] (nB + 1) (fun g3 by_ ii wy => ∃ (j : Nat) (b : Bool), g3 = nB + 1 - j ∧ ii = .int .i64 j ∧ j ≤ nB ∧ by_ = .bool b ∧ b = byTo W H s i j ∧ Kp No w6 wy)
                    case atStart => exact ⟨0, false, rfl, rfl, by omega, rfl, rfl, Kp.refl _ _⟩
                    case round =>
                      obtain ⟨j, b, hgj, rfl, hj, rfl, hb, kp7⟩ := hrel
                      have HBB := Lib.hid hb; have K7 := Lib.hid kp7
                      have hb2 : wr.cell? ⟨bf, 2, none⟩ = some (.string s) := (B4.out.no (K6.out.no kp7)).c2
                      clear hb kp7
                      by_cases hlt : j < nB
                      · have hltI : (j : Int) < (nB : Int) := by omega
                        have hwj : IntKind.i64.wrap ((j : Int) + 1) = (j : Int) + 1 := IntWalk.i64_in _ (by omega)
                        obtain ⟨x, hx⟩ : ∃ x, (besideP W H i)[j]? = some x := ⟨_, List.getElem?_eq_getElem (by rw [← HNB.out]; exact hlt)⟩
                        have hxs : x < s.size := by rw [HS.out]; exact beside_lt hW1 HIW.out (List.mem_of_getElem? hx)
                        rcases OB.out.b with ⟨hv, _⟩ | ⟨gC, capC, hv, _, _, _⟩
                        · simp only [Value.slice.injEq] at hv; omega
                        simp only [Value.slice.injEq] at hv
                        obtain ⟨rfl, hzz, rfl⟩ := hv
                        clear hzz
                        have hcb : wr.cell? ⟨gC, j, none⟩ = some (.int .i64 (x : Int)) := by have := (OB.out.kpNo K7.out).rd.intAt (ints_get hx); simpa using this
                        have hxsI : (x : Int) < ((s.size : Nat) : Int) := by omega
                        have hxn : (x : Int) < (k : Int) := by have := HN.out; omega
                        have hbt := bt_at s x
                        obtain ⟨X, hX⟩ : ∃ X, X = bt s x := ⟨_, rfl⟩
                        rw [← hX] at hbt
                        obtain ⟨t, ht⟩ : ∃ t, t = (kindB X == 2) := ⟨_, rfl⟩
                        have QX := Lib.hid (fun w => qlane_any X t ht w)
                        have HB2 := Lib.hid (show (b || t) = byTo W H s i (j + 1) by
                          rw [byTo_succ hx, ← HBB.out, ht, hX]; rfl)
                        clear hX ht hx hlt hxs
                        cases b with
                        | false =>
                          go_wp2_with fail
                          go_quiet ((go_at_call 41; exact Calls.quiet_of_same (QX.out _)))
                          go_wp2_with fail
                          go_roundg (nB + 1 - (j + 1))
                          case measure => omega
                          case rel => exact ⟨j + 1, t, rfl, by go_num, by omega, rfl, by rw [← HB2.out]; simp, K7.out.drewN _⟩
                        | true =>
                          go_wp2_with fail
                          go_quiet (fail)
                          go_wp2_with fail
                          go_roundg (nB + 1 - (j + 1))
                          case measure => omega
                          case rel => exact ⟨j + 1, true, rfl, by go_num, by omega, rfl, by rw [← HB2.out]; simp, K7.out.drewN _⟩
                      · obtain rfl : j = nB := by omega
                        have hd0 : ¬ (j : Int) < (j : Int) := by omega
                        have HBE := Lib.hid (show b = true ↔ ∃ j ∈ besideP W H i, laneI s j by rw [HBB.out, HNB.out]; exact byTo_all hW1 HS.out HIW.out)
                        have P22 : Hid (td = false ∨ b = true → ∀ r : Nat, r < i + 1 → kdS s r = 3 → ∃ x ∈ besideP W H r, laneI s x) := Lib.hid (by
                          intro hor r hr h3
                          rcases Nat.lt_or_ge r i with h | h
                          · exact P2.out r h h3
                          · obtain rfl : r = i := by omega
                            rcases hor with h | h
                            · have := HTD.out.2 h3; rw [h] at this; simp at this
                            · exact HBE.out.1 h)
                        clear hlt
                        cases td with
                        | false =>
                          have P23 := Lib.hid (P22.out (.inl rfl))
                          go_wp2_with (go_at_call 40; refine (QD.out _).mono ?_; rintro e wz ⟨rfl, rfl⟩)
                          go_roundg (k + 1 - (i + 1))
                          case measure => omega
                          case rel => exact ⟨i + 1, rfl, by go_num, by omega, P12.out, P23.out, K6.out.no K7.out⟩
                        | true =>
                          cases b with
                          | true =>
                            have P23 := Lib.hid (P22.out (.inr rfl))
                            go_wp2_with (go_at_call 40; refine (QD.out _).mono ?_; rintro e wz ⟨rfl, rfl⟩)
                            go_roundg (k + 1 - (i + 1))
                            case measure => omega
                            case rel => exact ⟨i + 1, rfl, by go_num, by omega, P12.out, P23.out, K6.out.no K7.out⟩
                          | false =>
                            have HNO := Lib.hid (show R = false by
                              rw [HR.out]
                              refine rightB_f fun r => ?_
                              have := HBE.out.2 (by simpa using r.by_ i HKS.out (HTD.out.1 rfl)); simp at this)
                            go_wp2_with (go_at_call 40; refine (QD.out _).mono ?_; rintro e wz ⟨rfl, rfl⟩)
                            go_ret
                            exact ⟨by rw [HNO.out]; rfl, B4.out.kp.no (K6.out.no K7.out)⟩
              · obtain rfl : i = k := by omega
                have hd0 : ¬ (i : Int) < (i : Int) := by omega
                have HYES := Lib.hid (show R = true by
                  rw [HR.out]
                  refine rightB_t ⟨by simp; omega, by simp; omega, by simp; omega, by simp; omega, by simp [HS.out], fun r hr => HZ.out r (by have hr : r < s.size := hr; omega), HDS.out, ?_, fun r hr h3 => by simpa using P2.out r (by have hr : r < s.size := hr; omega) h3⟩
                  refine (joined_one (by simpa using hW1) (by simpa using HS.out) HL.out).2 fun r hr => ?_
                  have := (HC.out r hr).1 (P1.out r (by have hr := hr.1; have hr : r < s.size := hr; omega) hr.2)
                  simpa using this)
                clear hlt hnN
                go_wp2_with fail
                go_ret
                exact ⟨by rw [HYES.out]; rfl, B4.out.kp.no K5.out⟩

theorem qright_any (f : Flr) (hsz : f.s.size ≤ 9223372036854775807) (w : World) : Calls Tryz.prog 39 #[f.val] w (RightR f w) := by
  by_cases h : f.W < 1 ∨ 16 < f.W ∨ f.H < 1 ∨ 16 < f.H ∨ ((f.s.size : Int) ≠ f.W * f.H)
  · exact qright_dims f w h hsz
  · obtain ⟨X, Y, s⟩ := f
    simp only at h
    obtain ⟨W, rfl⟩ : ∃ W : Nat, X = W := ⟨X.toNat, by omega⟩
    obtain ⟨H, rfl⟩ : ∃ H : Nat, Y = H := ⟨Y.toNat, by omega⟩
    refine qright_in W H s (by omega) (by omega) (by omega) (by omega) ?_ w
    have : (s.size : Int) = W * H := by
      by_cases hh : (s.size : Int) = W * H
      · exact hh
      · exact absurd (Or.inr (Or.inr (Or.inr (Or.inr hh)))) h
    exact_mod_cast this
end Go.Proofs.YtmipnicdlldjnaaGreatDoor

namespace Go.Proofs.YtmipnicdlldjnaaGreatDoor
set_option linter.unusedVariables false
set_option linter.unusedSimpArgs false
open Go.RowKit

theorem qright_at (f : Flr) (hsz : f.s.size ≤ 9223372036854775807) (b : Bool) (hb : rightB f = b) (w : World) : Calls Tryz.prog 39 #[f.val] w fun e w' => e = .returned (.bool b) ∧ Kp No w w' := by
  subst hb; exact qright_any f hsz w
theorem right_kd {f : Flr} (hb : rightB f = true) {i : Nat} (hi : i < f.s.size) : kdS f.s i = 1 ∨ kdS f.s i = 2 ∨ kdS f.s i = 3 := by
  have h1 := (rightB_iff.1 hb).kinds i hi
  have h2 : kdS f.s i ≤ 3 := kindB_le _
  omega
theorem nearP_eq {f : Flr} {j W H : Nat} (hb : rightB f = true) (hj : j < f.s.size) (hW : f.W = W) (hH : f.H = H) (hk : kdS f.s j ≠ 1) : nearP f j = nearTo f.s W H j (besideP W H j).length := by
  unfold nearP nearTo
  rw [List.take_length, hW, hH, if_pos]
  · simp
  · rcases right_kd hb hj with h | h | h
    · exact absurd h hk
    · exact .inl (isB_iff.2 ⟨by omega, by omega, by simp [h], rightB_iff.1 hb⟩)
    · exact .inr (isB_iff.2 ⟨by omega, by omega, by simp [h], rightB_iff.1 hb⟩)
theorem nearP_no {f : Flr} {c : Int} (h : ¬ (0 ≤ c ∧ c < f.s.size ∧ rightB f = true ∧ kdS f.s c.toNat ≠ 1)) : nearP f c = [] := by
  unfold nearP
  rw [if_neg]
  rintro (h1 | h1)
  all_goals
    obtain ⟨h2, h3, h4, h5⟩ := isB_iff.1 h1
    exact h ⟨h2, h3, rightB_iff.2 h5, by omega⟩

set_option maxHeartbeats 1000000 in
set_option maxRecDepth 100000 in
theorem qnear_any (f : Flr) (hsz : f.s.size ≤ 9223372036854775807) (c : Int) (hc : c ≤ 9223372036854775807) (w : World) :
    Calls Tryz.prog 42 #[f.val, .int .i64 c] w fun e w' => ∃ v, e = .returned v ∧ NewS IK 3 w w' v (ints (nearP f c)) := by
  have HBX := Lib.hid (BxW.new f w)
  obtain ⟨N, hN⟩ : ∃ N, N = nearP f c := ⟨_, rfl⟩
  rw [← hN]
  have NIL := fun (w' : World) (h : Kp No w w') => (⟨Own.nil _ _ _, by simp [Value.ownBlock], h⟩ : NewS IK 3 w w' (.slice none 0 0) (ints []))
  obtain ⟨n, hn⟩ : ∃ n, n = f.s.size := ⟨_, rfl⟩
  have hnI : ((f.s.size : Nat) : Int) = (n : Int) := by omega
  have HSN := Lib.hid hn
  obtain ⟨b, hb⟩ : ∃ b, rightB f = b := ⟨_, rfl⟩
  have HRT := Lib.hid (qright_at f hsz b hb)
  have HNIL := Lib.hid NIL
  clear NIL
  by_cases h0 : c < 0
  · have HE := Lib.hid (show N = [] by rw [hN]; exact nearP_no (by omega))
    unfold Flr.val
    clear hb hN hn hsz
    go_enter Tryz.func42, Tryz.ntmps42
    go_wp2_with fail
    go_ret
    exact ⟨_, rfl, by rw [HE.out]; exact HNIL.out _ HBX.out.kp⟩
  obtain ⟨j, rfl⟩ : ∃ j : Nat, c = j := ⟨c.toNat, by omega⟩
  have h0b : ¬ ((j : Int) < 0) := by omega
  by_cases h1 : n ≤ j
  · have HE := Lib.hid (show N = [] by rw [hN]; exact nearP_no (by omega))
    have h1I : (n : Int) ≤ (j : Int) := by omega
    unfold Flr.val
    clear hb hN hn hsz h0
    go_enter Tryz.func42, Tryz.ntmps42
    go_wp2_with fail
    go_ret
    exact ⟨_, rfl, by rw [HE.out]; exact HNIL.out _ HBX.out.kp⟩
  have h1I : ¬ (n : Int) ≤ (j : Int) := by omega
  have h1J : (j : Int) < (n : Int) := by omega
  have hjs : j < f.s.size := by omega
  cases b with
  | false =>
    have HE := Lib.hid (show N = [] by rw [hN]; exact nearP_no (by simp [hb]))
    unfold Flr.val at HRT ⊢
    clear hb hN hn hsz h0 h1
    go_enter Tryz.func42, Tryz.ntmps42
    go_wp2_with fail
    refine (HRT.out _).mono ?_
    rintro e w1 ⟨rfl, kp1⟩
    have KP := Lib.hid (HBX.out.kp.no kp1)
    clear kp1
    go_wp2_with fail
    go_ret
    exact ⟨_, rfl, by rw [HE.out]; exact HNIL.out _ KP.out⟩
  | true =>
    have hbt := bt_at f.s j
    obtain ⟨B, hB⟩ : ∃ B, B = bt f.s j := ⟨_, rfl⟩
    rw [← hB] at hbt
    by_cases h35 : B = 35
    · have h35b : ((B : Int) == 35) = true := by simp [h35]
      have HE := Lib.hid (show N = [] by
        rw [hN]; refine nearP_no ?_
        rintro ⟨_, _, _, h⟩
        exact h (show kindB (bt f.s j) = 1 by rw [← hB, h35]; rfl))
      unfold Flr.val at HRT ⊢
      clear hb hN hn hsz h0 h1 h35 hB
      go_enter Tryz.func42, Tryz.ntmps42
      go_wp2_with fail
      refine (HRT.out _).mono ?_
      rintro e w1 ⟨rfl, kp1⟩
      have B1 := Lib.hid (HBX.out.no kp1)
      have hb2 := B1.out.c2
      clear kp1
      go_wp2_with fail
      go_ret
      exact ⟨_, rfl, by rw [HE.out]; exact HNIL.out _ B1.out.kp⟩
    · have h35b : ((B : Int) == 35) = false := by simp; omega
      obtain ⟨W, H, j', ix⟩ : ∃ W H j' : Nat, NIdx f (j : Int) W H j' := by
        rcases right_kd hb hjs with h | h | h
        · exact absurd (kd_wall h) (by rw [← hB]; exact h35)
        · exact isB_idx (k := 2) (isB_iff.2 ⟨by omega, by omega, by simp [h], rightB_iff.1 hb⟩)
        · exact isB_idx (k := 3) (isB_iff.2 ⟨by omega, by omega, by simp [h], rightB_iff.1 hb⟩)
      obtain ⟨hW1, hW, hH1, hH, hfW, hfH, hs, hcj, hjl⟩ := ix
      obtain rfl : j = j' := by omega
      have hN' : N = nearTo f.s W H j (besideP W H j).length := by
        rw [hN]
        exact nearP_eq hb hjs hfW hfH (fun e => h35 (by rw [hB]; exact kd_wall e))
      obtain ⟨X, Y, s⟩ := f
      simp only at hfW hfH hs hN' hjs hn hnI hbt
      subst hfW hfH
      unfold Flr.val at HRT ⊢
      simp only at HRT ⊢
      have HS := Lib.hid hs
      have HN := Lib.hid hN'
      have HJL := Lib.hid hjl
      clear hN' hN hb hs hsz hjl hn h0 h1 h35 hB hcj
      go_enter Tryz.func42, Tryz.ntmps42
      go_wp2_with fail
      refine (HRT.out _).mono ?_
      rintro e w1 ⟨rfl, kp1⟩
      have B1 := Lib.hid (HBX.out.no kp1)
      have hb0 : w1.cell? ⟨w.heap.size, 0, none⟩ = some (.int .i64 (W : Int)) := B1.out.c0
      have hb1 : w1.cell? ⟨w.heap.size, 1, none⟩ = some (.int .i64 (H : Int)) := B1.out.c1
      have hb2 : w1.cell? ⟨w.heap.size, 2, none⟩ = some (.string s) := B1.out.c2
      clear kp1
      go_wp2_with fail
      refine (qbeside_any W H j s hW1 hW hH1 hH HJL.out _).mono ?_
      rintro e w3 ⟨vB, rfl, nb⟩
      obtain ⟨AB, qB, rfl⟩ := nb.own.rd.shape
      rw [ints_len] at nb ⊢
      obtain ⟨nB, hnB⟩ : ∃ nB, nB = (besideP W H j).length := ⟨_, rfl⟩
      have hB4 : nB ≤ 4 := by rw [hnB]; exact besideP_len W H j
      rw [← hnB] at nb ⊢
      have HNB := Lib.hid hnB
      have B3 := Lib.hid (B1.out.no nb.kp); have OB := Lib.hid nb.own
      clear nb hnB hb0 hb1 hb2 hbt hjs h1I h1J h35b
      go_wp2_with fail
      go_loopg [5, 7] (nB + 1) (fun g2 v ii wx => ∃ (i m : Nat) (A : Option Addr) (q : Nat), g2 = nB + 1 - i ∧ ii = .int .i64 i ∧ i ≤ nB ∧ v = .slice A m q ∧ m = (nearTo s W H j i).length ∧ NewS IK 3 w3 wx v (ints (nearTo s W H j i)))
      case atStart => exact ⟨0, 0, none, 0, rfl, rfl, by omega, rfl, rfl, NewS.nil _ _ _⟩
      case round =>
        obtain ⟨i, m, A, q, hgi, rfl, hi, rfl, hm, ns⟩ := hrel
        have hm4 : m ≤ 4 := by rw [hm]; exact nearTo_len s W H j i
        have HM := Lib.hid hm; have NS := Lib.hid ns
        clear hm ns
        by_cases hlt : i < nB
        · have hltI : (i : Int) < (nB : Int) := by omega
          have hwi : IntKind.i64.wrap ((i : Int) + 1) = (i : Int) + 1 := IntWalk.i64_in _ (by omega)
          obtain ⟨x, hx⟩ : ∃ x, (besideP W H j)[i]? = some x := ⟨_, List.getElem?_eq_getElem (by rw [← HNB.out]; exact hlt)⟩
          have hxs : x < s.size := by rw [HS.out]; exact beside_lt hW1 HJL.out (List.mem_of_getElem? hx)
          have hxsI : (x : Int) < ((s.size : Nat) : Int) := by omega
          have hxn : (x : Int) < (n : Int) := by omega
          rcases OB.out.b with ⟨hv, _⟩ | ⟨gB, capB, hv, _, _, _⟩
          · simp only [Value.slice.injEq] at hv; omega
          simp only [Value.slice.injEq] at hv
          obtain ⟨rfl, hzz, rfl⟩ := hv
          clear hzz
          have hcb : wr.cell? ⟨gB, i, none⟩ = some (.int .i64 (x : Int)) := by have := (OB.out.kpNo NS.out.kp).rd.intAt (ints_get hx); simpa using this
          have hcB : ∀ k, (wr.drewN k).cell? ⟨gB, i, none⟩ = some (.int .i64 (x : Int)) := fun k => hcb
          have hb2 : wr.cell? ⟨w.heap.size, 2, none⟩ = some (.string s) := (B3.out.no NS.out.kp).c2
          have hbt := bt_at s x
          obtain ⟨B2, hB⟩ : ∃ B, B = bt s x := ⟨_, rfl⟩
          rw [← hB] at hbt
          by_cases h35 : B2 = 35
          · have h35b : ((B2 : Int) != 35) = false := by simp [h35]
            have HL := Lib.hid (nearTo_out hx (s := s) (show kindB (bt s x) = 1 by rw [← hB, h35]; rfl))
            clear hx hB h35 hlt hxs
            go_wp2_with fail
            go_quiet (fail)
            go_wp2_with fail
            go_roundg (nB + 1 - (i + 1))
            case measure => omega
            case rel => exact ⟨i + 1, m, A, q, rfl, by go_num, by omega, rfl, by rw [HL.out]; exact HM.out, by rw [HL.out]; exact NS.out.kpNo ((Kp.refl _ _).drewN _)⟩
          · have h35b : ((B2 : Int) != 35) = true := by simp; omega
            have HL := Lib.hid (nearTo_in hx (s := s) (show kindB (bt s x) ≠ 1 from fun e => h35 (by rw [hB]; exact kd_wall e)))
            have NS2 := Lib.hid (fun k => NS.out.kpNo ((Kp.refl _ wr).drewN k))
            clear hx hB h35 hlt hxs
            go_wp2_with fail
            go_quiet (fail)
            go_wp2_with (at_builtin; refine wpl_snocI rfl (.tmp 46) (.tmp 51) rfl rfl rfl rfl (NS2.out _) HM.out (by omega) ?_; intro A2 q2 w4 n4 k4 _; have N4 := Lib.hid n4; clear n4 k4 hcb hb2 hcB)
            go_roundg (nB + 1 - (i + 1))
            case measure => omega
            case rel => exact ⟨i + 1, m + 1, A2, q2, rfl, by go_num, by omega, rfl, by rw [HL.out, List.length_append, ← HM.out]; rfl, by rw [HL.out]; exact N4.out⟩
        · obtain rfl : i = nB := by omega
          have hd0 : ¬ (i : Int) < (i : Int) := by omega
          have HL := Lib.hid (show N = nearTo s W H j i by rw [HN.out, ← HNB.out])
          clear hlt
          go_wp2_with fail
          go_ret
          exact ⟨_, rfl, by rw [HL.out]; exact NS.out.from_ B3.out.kp⟩

theorem qzone_any (f : Flr) (hsz : f.s.size ≤ 9223372036854775807) (c : Int) (hc : c ≤ 9223372036854775807) (w : World) :
    Calls Tryz.prog 22 #[f.val, .int .i64 c] w fun e w' => e = .returned (ZVal (zoneP f c)) ∧ Kp No w w' := by
  have HBX := Lib.hid (BxW.new f w)
  obtain ⟨Z, hZ⟩ : ∃ N, N = zoneP f c := ⟨_, rfl⟩
  rw [← hZ]
  unfold zoneP at hZ
  obtain ⟨n, hn⟩ : ∃ n, n = f.s.size := ⟨_, rfl⟩
  have hnI : ((f.s.size : Nat) : Int) = (n : Int) := by omega
  obtain ⟨b, hb⟩ : ∃ b, rightB f = b := ⟨_, rfl⟩
  have HRT := Lib.hid (qright_at f hsz b hb)
  by_cases h0 : c < 0
  · have HE := Lib.hid (show Z = none by rw [hZ, if_neg (fun h => by have := (isB_iff.1 h).1; omega)])
    unfold Flr.val
    clear hb hZ hn hsz
    go_enter Tryz.func22, Tryz.ntmps22
    go_wp2_with fail
    go_ret2
    exact ⟨by rw [HE.out]; rfl, HBX.out.kp⟩
  obtain ⟨j, rfl⟩ : ∃ j : Nat, c = j := ⟨c.toNat, by omega⟩
  have h0b : ¬ ((j : Int) < 0) := by omega
  by_cases h1 : n ≤ j
  · have HE := Lib.hid (show Z = none by rw [hZ, if_neg (fun h => by have := (isB_iff.1 h).2.1; omega)])
    have h1I : (n : Int) ≤ (j : Int) := by omega
    unfold Flr.val
    clear hb hZ hn hsz h0
    go_enter Tryz.func22, Tryz.ntmps22
    go_wp2_with fail
    go_ret2
    exact ⟨by rw [HE.out]; rfl, HBX.out.kp⟩
  have h1I : ¬ (n : Int) ≤ (j : Int) := by omega
  have h1J : (j : Int) < (n : Int) := by omega
  have hjs : j < f.s.size := by omega
  cases b with
  | false =>
    have HE := Lib.hid (show Z = none by rw [hZ, if_neg (fun h => by have := (isB_iff.1 h).2.2.2; rw [← rightB_iff, hb] at this; simp at this)])
    unfold Flr.val at HRT ⊢
    clear hb hZ hn hsz h0 h1
    go_enter Tryz.func22, Tryz.ntmps22
    go_wp2_with fail
    refine (HRT.out _).mono ?_
    rintro e w1 ⟨rfl, kp1⟩
    have KP := Lib.hid (HBX.out.kp.no kp1)
    clear kp1
    go_wp2_with fail
    go_ret2
    exact ⟨by rw [HE.out]; rfl, KP.out⟩
  | true =>
    have hbt := bt_at f.s j
    obtain ⟨B, hB⟩ : ∃ B, B = bt f.s j := ⟨_, rfl⟩
    rw [← hB] at hbt
    obtain ⟨t, ht⟩ : ∃ t, t = (kindB B == 2) := ⟨_, rfl⟩
    have QL := Lib.hid (fun w => qlane_any B t ht w)
    have hK : kdS f.s j = kindB B := by rw [hB]; rfl
    cases t with
    | false =>
      have HE := Lib.hid (show Z = none by
        rw [hZ, if_neg (fun h => by have := (isB_iff.1 h).2.2.1; simp [hK] at this; simp at ht; omega)])
      unfold Flr.val at HRT ⊢
      clear hb hZ hn hsz h0 h1 hB ht hK
      go_enter Tryz.func22, Tryz.ntmps22
      go_wp2_with fail
      refine (HRT.out _).mono ?_
      rintro e w1 ⟨rfl, kp1⟩
      have B1 := Lib.hid (HBX.out.no kp1)
      have hb2 := B1.out.c2
      clear kp1
      go_wp2_with (go_at_call 41; refine (QL.out _).mono ?_; rintro e wz ⟨rfl, rfl⟩)
      go_ret2
      exact ⟨by rw [HE.out]; rfl, B1.out.kp⟩
    | true =>
      have h2 : kindB B = 2 := by simpa using ht.symm
      have hl := kd_lane h2
      have HE := Lib.hid (show Z = some (B - 97) by
        rw [hZ, if_pos (isB_iff.2 ⟨by omega, by omega, by simp [hK, h2], rightB_iff.1 hb⟩), hB]; simp)
      have hsub : IntKind.u8.wrap ((B : Int) - 97) = ((B - 97 : Nat) : Int) := by rw [IntWalk.u8_in _ (by omega)]; omega
      obtain ⟨q, hq⟩ : ∃ q, q = B - 97 := ⟨_, rfl⟩
      rw [← hq] at hsub HE
      have hcv : IntKind.i64.wrap (q : Int) = (q : Int) := IntWalk.i64_in _ (by omega)
      have hq25 : q ≤ 25 := by omega
      unfold Flr.val at HRT ⊢
      clear hb hZ hn hsz h0 h1 hB ht hK hq hl h2
      go_enter Tryz.func22, Tryz.ntmps22
      go_wp2_with fail
      refine (HRT.out _).mono ?_
      rintro e w1 ⟨rfl, kp1⟩
      have B1 := Lib.hid (HBX.out.no kp1)
      have hb2 := B1.out.c2
      clear kp1
      go_wp2_with (go_at_call 41; refine (QL.out _).mono ?_; rintro e wz ⟨rfl, rfl⟩)
      go_ret2
      exact ⟨by rw [HE.out]; rfl, B1.out.kp⟩

/-- A loop over all cells, as long as the floor is right: of one that is not right no round. -/
theorem docksP_le (s : ByteArray) (k : Nat) : (docksP s k).length ≤ k := by unfold docksP; exact Nat.le_trans (List.length_filter_le _ _) (by simp)

end Go.Proofs.YtmipnicdlldjnaaGreatDoor

namespace Go.Proofs.YtmipnicdlldjnaaGreatDoor
set_option linter.unusedVariables false
set_option linter.unusedSimpArgs false
open Go.RowKit

theorem dockAt_first {s : ByteArray} {r k : Nat} (hk : k < s.size ∧ kdS s k = 3 ∧ bt s k = 48 + r) (h : ∀ i, i < k → ¬ (kdS s i = 3 ∧ bt s i = 48 + r)) : dockAt s r = some k := by
  unfold dockAt
  rw [List.find?_range_eq_some]
  refine ⟨by simp [hk.2.1, hk.2.2], by simpa using hk.1, fun j hj => ?_⟩
  have := h j hj
  simp; omega
theorem dockAt_never {s : ByteArray} {r : Nat} (h : ∀ i, i < s.size → ¬ (kdS s i = 3 ∧ bt s i = 48 + r)) : dockAt s r = none := by
  cases e : dockAt s r with
  | none => rfl
  | some x => obtain ⟨h1, h2⟩ := dockAt_some e; exact absurd h2 (h x h1)
theorem dockP_none {f : Flr} {c : Int} (h : ∀ i, i < f.s.size → kdS f.s i = 3 → (bt f.s i : Int) - 48 ≠ c) : dockP f c = none := by
  unfold dockP
  split
  · rename_i hh
    exact dockAt_never fun i hi h2 => h i hi h2.1 (by omega)
  · rfl
theorem dockP_some {f : Flr} {c : Int} {k : Nat} (hb : rightB f = true) (hk : k < f.s.size ∧ kdS f.s k = 3 ∧ (bt f.s k : Int) - 48 = c) (h : ∀ i, i < k → kdS f.s i = 3 → (bt f.s i : Int) - 48 ≠ c) : dockP f c = some k := by
  have hd := kd_dock hk.2.1
  have h48 : 48 ≤ bt f.s k := hd.1
  unfold dockP
  rw [if_pos ⟨hb, by omega⟩]
  exact dockAt_first ⟨hk.1, hk.2.1, by omega⟩ fun i hi h2 => h i hi h2.1 (by omega)

set_option maxHeartbeats 1000000 in
set_option maxRecDepth 100000 in
theorem qdockOf_any (f : Flr) (hsz : f.s.size ≤ 9223372036854775807) (c : Int) (w : World) :
    Calls Tryz.prog 21 #[f.val, .int .i64 c] w fun e w' => e = .returned (ZVal (dockP f c)) ∧ Kp No w w' := by
  have HBX := Lib.hid (BxW.new f w)
  obtain ⟨Z, hZ⟩ : ∃ Z, Z = dockP f c := ⟨_, rfl⟩
  rw [← hZ]
  have HZ := Lib.hid hZ
  obtain ⟨b, hb⟩ : ∃ b, rightB f = b := ⟨_, rfl⟩
  have HRT := Lib.hid (qright_at f hsz b hb)
  have HB0 := Lib.hid hb
  have HS := Lib.hid (show b = true → f.s.size ≤ 256 from fun h => (rightB_iff.1 (hb.trans h)).s256)
  obtain ⟨X, Y, s⟩ := f
  simp only at hsz
  obtain ⟨n, hn⟩ : ∃ n, n = s.size := ⟨_, rfl⟩
  have hnI : ((s.size : Nat) : Int) = (n : Int) := by omega
  have HN := Lib.hid hn
  unfold Flr.val at HRT ⊢
  simp only at HRT ⊢
  clear hb hZ hn
  go_enter Tryz.func21, Tryz.ntmps21
  have B0 := Lib.hid HBX.out
  go_wp2_with fail
  go_loopg [6] (n + 1) (fun g2 kk wx => ∃ k : Nat, g2 = n + 1 - k ∧ kk = .int .i64 k ∧ k ≤ n ∧ (∀ i, i < k → kdS s i = 3 → (bt s i : Int) - 48 ≠ c) ∧ BxW (Flr.mk X Y s) w.heap.size w wx ∧ (0 < k → b = true))
  case atStart => exact ⟨0, rfl, rfl, by omega, fun i hi => by omega, B0.out, fun h => by omega⟩
  case round =>
    obtain ⟨k, hgk, rfl, hk, hd, bx, hb⟩ := hrel
    have BX := Lib.hid bx; have HD := Lib.hid hd; have HB := Lib.hid hb
    have hb0 : wr.cell? ⟨w.heap.size, 0, none⟩ = some (.int .i64 X) := bx.c0
    have hb1 : wr.cell? ⟨w.heap.size, 1, none⟩ = some (.int .i64 Y) := bx.c1
    have hb2 : wr.cell? ⟨w.heap.size, 2, none⟩ = some (.string s) := bx.c2
    clear bx hd hb
    by_cases hlt : k < n
    · have hltI : (k : Int) < (n : Int) := by omega
      cases b with
      | false =>
        have HE := Lib.hid (show Z = none by rw [HZ.out]; unfold dockP; rw [if_neg (by rw [HB0.out]; simp)])
        clear hlt
        go_wp2_with fail
        refine (HRT.out _).mono ?_
        rintro e w1 ⟨rfl, kp1⟩
        have KP := Lib.hid (BX.out.kp.no kp1)
        clear kp1 hb0 hb1 hb2
        go_wp2_with fail
        go_ret2
        exact ⟨by rw [HE.out]; rfl, KP.out⟩
      | true =>
        have hn256 : n ≤ 256 := by have h1 : s.size ≤ 256 := HS.out rfl; have := HN.out; omega
        have hwk : IntKind.i64.wrap ((k : Int) + 1) = (k : Int) + 1 := IntWalk.i64_in _ (by omega)
        have hks : k < s.size := by have := HN.out; omega
        have hbt := bt_at s k
        obtain ⟨B, hB⟩ : ∃ B, B = bt s k := ⟨_, rfl⟩
        rw [← hB] at hbt
        obtain ⟨t, ht⟩ : ∃ t, t = (kindB B == 3) := ⟨_, rfl⟩
        have QD := Lib.hid (fun w => qdock_any B t ht w)
        have hK : kdS s k = kindB B := by rw [hB]; rfl
        go_wp2_with fail
        refine (HRT.out _).mono ?_
        rintro e w1 ⟨rfl, kp1⟩
        have B1 := Lib.hid (BX.out.no kp1)
        clear hb0 hb1 hb2
        have hb2 : w1.cell? ⟨w.heap.size, 2, none⟩ = some (.string s) := B1.out.c2
        clear kp1
        cases t with
        | false =>
          have HD2 := Lib.hid (show ∀ i, i < k + 1 → kdS s i = 3 → (bt s i : Int) - 48 ≠ c by
            intro i hi h3
            rcases Nat.lt_or_ge i k with h | h
            · exact HD.out i h h3
            · obtain rfl : i = k := by omega
              rw [hK] at h3; simp [h3] at ht)
          clear ht hB hK hlt hks
          go_wp2_with (go_at_call 40; refine (QD.out _).mono ?_; rintro e wz ⟨rfl, rfl⟩)
          go_roundg (n + 1 - (k + 1))
          case measure => omega
          case rel => exact ⟨k + 1, rfl, by go_num, by omega, HD2.out, B1.out, by simp⟩
        | true =>
          have h3 : kindB B = 3 := by simpa using ht.symm
          have hd := kd_dock h3
          obtain ⟨r, hr⟩ : ∃ r, B = 48 + r := ⟨B - 48, by omega⟩
          have hsub : IntKind.u8.wrap ((B : Int) - 48) = (r : Int) := by rw [IntWalk.u8_in _ (by omega)]; omega
          have hcv : IntKind.i64.wrap (r : Int) = (r : Int) := IntWalk.i64_in _ (by omega)
          have hr8 : r < 8 := by omega
          by_cases he : (r : Int) = c
          · have heb : ((r : Int) == c) = true := by simp [he]
            have HE := Lib.hid (show Z = some k by
              rw [HZ.out]
              exact dockP_some HB0.out ⟨hks, by rw [← h3, ← hK], by show (bt s k : Int) - 48 = c; rw [← hB, hr]; omega⟩ HD.out)
            clear ht hB hK hlt hks hr h3 hd he
            go_wp2_with (go_at_call 40; refine (QD.out _).mono ?_; rintro e wz ⟨rfl, rfl⟩)
            go_ret2
            exact ⟨by rw [HE.out]; rfl, B1.out.kp⟩
          · have heb : ((r : Int) == c) = false := by simpa using he
            have HD2 := Lib.hid (show ∀ i, i < k + 1 → kdS s i = 3 → (bt s i : Int) - 48 ≠ c by
              intro i hi h3
              rcases Nat.lt_or_ge i k with h | h
              · exact HD.out i h h3
              · obtain rfl : i = k := by omega
                rw [← hB, hr]; omega)
            clear ht hB hK hlt hks hr h3 hd he
            go_wp2_with (go_at_call 40; refine (QD.out _).mono ?_; rintro e wz ⟨rfl, rfl⟩)
            go_roundg (n + 1 - (k + 1))
            case measure => omega
            case rel => exact ⟨k + 1, rfl, by go_num, by omega, HD2.out, B1.out, by simp⟩
    · obtain rfl : k = n := by omega
      have hd0 : ¬ (k : Int) < (k : Int) := by omega
      have HE := Lib.hid (show Z = none by
        rw [HZ.out]
        exact dockP_none fun i hi h3 => HD.out i (by have := HN.out; have hi : i < s.size := hi; omega) h3)
      clear hlt
      go_wp2_with fail
      go_ret2
      exact ⟨by rw [HE.out]; rfl, BX.out.kp⟩
end Go.Proofs.YtmipnicdlldjnaaGreatDoor

namespace Go.Proofs.YtmipnicdlldjnaaGreatDoor
set_option linter.unusedVariables false
set_option linter.unusedSimpArgs false
open Go.RowKit

noncomputable def onZ (f : Flr) (l : List ActT) : List Bool := (List.range 26).map fun z => decide (z ∈ zonesN f l)
theorem onZ_nil (f : Flr) : onZ f [] = List.replicate 26 false := by unfold onZ zonesN; simp [List.range, List.range.loop, List.replicate]
theorem onZ_get {f : Flr} {l : List ActT} {z : Nat} (h : z < 26) : (onZ f l)[z]? = some (decide (z ∈ zonesN f l)) := by unfold onZ; rw [List.getElem?_map, List.getElem?_range h]; rfl
theorem onZ_put {f : Flr} {l m : List ActT} {z : Nat} (hm : zonesN f m = zonesN f l ++ [z]) : onZ f m = (onZ f l).set z true := by
  refine List.ext_getElem? fun j => ?_
  rw [List.getElem?_set]
  by_cases hj : j < 26
  · rw [onZ_get hj, onZ_get hj, hm]
    by_cases e : z = j
    · subst e; simp; unfold onZ; simp; exact hj
    · rw [if_neg e]; simp; omega
  · have h1 : (onZ f m)[j]? = none := List.getElem?_eq_none (by unfold onZ; simp; omega)
    have h2 : (onZ f l)[j]? = none := List.getElem?_eq_none (by unfold onZ; simp; omega)
    rw [h1, h2]
    have : (onZ f l).length = 26 := by unfold onZ; simp
    split
    · rw [if_neg (by omega)]
    · rfl
theorem onZ_same {f : Flr} {l m : List ActT} (hm : zonesN f m = zonesN f l) : onZ f m = onZ f l := by unfold onZ; rw [hm]
set_option maxHeartbeats 2000000 in
set_option maxRecDepth 100000 in
theorem q10Zones_any (f : Flr) (hsz : f.s.size ≤ 1000000) {w : World} {v : Value} {l : List ActT} (hl : Rd AcK w v l) (hlb : l.length ≤ 1000000) (hc : ∀ x ∈ l, x.c ≤ 9223372036854775807) :
    Calls Tryz.prog 16 #[f.val, v] w fun e w' => ∃ v', e = .returned v' ∧ NewS IK 3 w w' v' (ints (zonesQ f l 26)) := by
  obtain ⟨A, cap, rfl⟩ := hl.shape
  obtain ⟨n, hn⟩ : ∃ z, z = l.length := ⟨_, rfl⟩
  rw [← hn] at hl hlb ⊢
  have ZO := Lib.hid (fun (x : ActT) (hx : x ∈ l) w => qzone_any f (by omega) x.c (hc x hx) w)
  obtain ⟨F, hF⟩ : ∃ F, F = f := ⟨_, rfl⟩
  have HF := Lib.hid hF
  obtain ⟨w1, hw1⟩ : ∃ y : World, y = w.alloc (.cells #[.int .i64 f.W, .int .i64 f.H, .string f.s] 23) := ⟨_, rfl⟩
  obtain ⟨w2, hw2⟩ : ∃ y : World, y = w1.alloc (.cells #[.bool false, .bool false, .bool false, .bool false, .bool false, .bool false, .bool false, .bool false, .bool false, .bool false, .bool false, .bool false, .bool false, .bool false, .bool false, .bool false, .bool false, .bool false, .bool false, .bool false, .bool false, .bool false, .bool false, .bool false, .bool false, .bool false] 62) := ⟨_, rfl⟩
  have B1 := Lib.hid (show w1.heap[w.heap.size]? = some (.cells #[.int .i64 f.W, .int .i64 f.H, .string f.s] 23 (0, 0)) by rw [hw1]; exact blk_new w _)
  have B2 := Lib.hid (show w2.heap[w.heap.size]? = some (.cells #[.int .i64 f.W, .int .i64 f.H, .string f.s] 23 (0, 0)) by rw [hw2]; exact blk_alloc B1.out _)
  have K1 := Lib.hid (show Kp No w w1 by rw [hw1]; exact (Kp.refl _ _).alloc _)
  have K12 := Lib.hid (show Kp No w1 w2 by rw [hw2]; exact (Kp.refl _ _).alloc _)
  have hne := Lib.hid (show w.heap.size ≠ w1.heap.size by have := lt_of_block B1.out; omega)
  have O2 := Lib.hid (show Blk Value.bool 62 w2 w1.heap.size (onZ F []) by rw [onZ_nil]; rw [hw2]; exact blk_new w1 _)
  have HW1 := Lib.hid hw1; have HW2 := Lib.hid hw2
  have HL := Lib.hid (hl.kpNo K1.out); have HN := Lib.hid hn
  rw [← hF]
  rw [← hF] at ZO
  obtain ⟨X, Y, sb⟩ := f
  have HV := Lib.hid (show F.val = .agg #[.int .i64 X, .int .i64 Y, .string sb] by rw [hF]; rfl)
  rw [HV.out] at ZO ⊢
  simp only at HW1 B1 B2
  clear hsz hl hn hc hF hw1 hw2
  go_enter Tryz.func16, Tryz.ntmps16
  go_upto_region 1 with fail
  rw [← HW1.out]
  go_upto_region 3 with fail
  rw [← HW2.out]
  go_wp2_with fail
  go_loopg [7, 8, 9] (n + 1) (fun g_ iv zv bv wx => ∃ (i : Nat), g_ = n + 1 - i ∧ iv = .int .i64 (i : Int) ∧ i ≤ n ∧ Blk Value.bool 62 wx w1.heap.size (onZ F (l.take i)) ∧ Kp No w1 wx)
  case atStart => exact ⟨0, rfl, rfl, by omega, O2.out, K12.out⟩
  case round =>
    obtain ⟨i, hg, rfl, hi, bo, kp⟩ := hrel
    have BO := Lib.hid bo; have KP := Lib.hid kp
    clear bo kp
    by_cases hlt : i < n
    · have hltI : (i : Int) < (n : Int) := by omega
      have hwi : IntKind.i64.wrap ((i : Int) + 1) = (i : Int) + 1 := IntWalk.i64_in _ (by omega)
      obtain ⟨x, hx⟩ : ∃ x, l[i]? = some x := ⟨_, List.getElem?_eq_getElem (by rw [← HN.out]; exact hlt)⟩
      rcases (HL.out.kpNo KP.out) with ⟨_, he⟩ | ⟨g, o, cap', hv, _⟩
      · have := HN.out; rw [he, List.length_nil] at this; omega
      simp only [Value.slice.injEq] at hv
      obtain ⟨rfl, hzz, rfl⟩ := hv
      have LB := Lib.hid (fun wx (hk : Kp No wr wx) => show wx.cell? ⟨w.heap.size, 0, none⟩ = some (.int .i64 X) ∧ wx.cell? ⟨w.heap.size, 1, none⟩ = some (.int .i64 Y) ∧ wx.cell? ⟨w.heap.size, 2, none⟩ = some (.string sb) from by
        have b := (KP.out.no hk).blk B1.out (no_no _)
        exact ⟨blk_cell b 0, blk_cell b 1, blk_cell b 2⟩)
      have XC := Lib.hid (fun wx (hk : Kp No wr wx) => (HL.out.kpNo (KP.out.no hk)).actAt hx)
      obtain ⟨Z, hZ⟩ : ∃ Z, zoneP F x.c = Z := ⟨_, rfl⟩
      obtain ⟨zn, hzn⟩ : ∃ z : Nat, z = Z.getD 0 := ⟨_, rfl⟩
      obtain ⟨is, his⟩ : ∃ z : Bool, Z.isSome = z := ⟨_, rfl⟩
      have ZX := Lib.hid (show ∀ w, Calls Tryz.prog 22 #[.agg #[.int .i64 X, .int .i64 Y, .string sb], .int .i64 x.c] w fun e w' => e = .returned (.tuple #[.int .i64 (zn : Int), .bool is]) ∧ Kp No w w' from fun w => by
        have h1 := ZO.out x (List.mem_of_getElem? hx) w
        have e : ZVal (zoneP F x.c) = .tuple #[.int .i64 (zn : Int), .bool is] := by unfold ZVal; rw [hZ, ← hzn, his]
        rwa [e] at h1)
      obtain ⟨k1, hk1⟩ : ∃ z, ((x.k : Int) == 1) = z := ⟨_, rfl⟩
      have hzb : zn < 26 := by
        rw [hzn]
        cases Z with
        | none => decide
        | some z => exact zoneP_lt hZ
      have HS := Lib.hid (show zonesN F (l.take (i + 1)) = zonesN F (l.take i) ++ (if (is && k1) = true then [zn] else []) by
        rw [zonesN_snoc hx]
        rw [hZ, hzn, ← his, ← hk1]
        cases Z <;> by_cases h : x.k = 1 <;> simp [h] <;> omega)
      have HZB := Lib.hid hzb
      clear hx hzz hlt hZ hzn his
      obtain ⟨q0, q1, q2⟩ := LB.out wr.drew (Kp.refl _ _).drew
      obtain ⟨_, y1, _, _⟩ := XC.out wr.drew (Kp.refl _ _).drew
      go_upto_region 6 with fail
      go_region_held3 (fun w' => w'.cell? ⟨w.heap.size, 0, none⟩ = some (.int .i64 X) ∧ w'.cell? ⟨w.heap.size, 1, none⟩ = some (.int .i64 Y) ∧ w'.cell? ⟨w.heap.size, 2, none⟩ = some (.string sb) ∧ w'.cell? ⟨g, o + i * 3 + 1, none⟩ = some (.int .i64 x.c))
        (first | exact ⟨by assumption, by assumption, by assumption, by assumption⟩ | exact ⟨q0, q1, q2, y1⟩)
        (first
          | (go_at_call 22; refine (ZX.out _).mono ?_; rintro e w5 ⟨rfl, k5⟩; have K5 := Lib.hid ((Kp.refl No wr).drew.no k5); obtain ⟨t0, t1, t2⟩ := LB.out w5 K5.out; obtain ⟨_, z1, _, _⟩ := XC.out w5 K5.out; clear k5))
      have KA := Lib.hid (show Kp No wr w5 from K5.out)
      have BA := Lib.hid (show Blk Value.bool 62 w5 w1.heap.size (onZ F (l.take i)) from BO.out.kpNo KA.out)
      obtain ⟨x0, _, _, _⟩ := XC.out w5 KA.out
      clear q0 q1 q2 y1 t0 t1 t2 z1
      cases is <;> cases k1
      case true.true =>
        have hcell := BA.out.get (onZ_get (f := F) (l := l.take i) HZB.out)
        have hfree := BA.out.free zn
        have hzI : (zn : Int) < 26 := by have := HZB.out; omega
        have hz0 : ¬ (zn : Int) < 0 := by omega
        go_wp2_with fail
        go_roundg (n + 1 - (i + 1))
        case measure => omega
        case rel => exact ⟨i + 1, rfl, by go_num, by omega, by rw [onZ_put (show zonesN F (l.take (i + 1)) = zonesN F (l.take i) ++ [zn] by rw [HS.out]; rfl)]; exact BA.out.set zn true, (KP.out.no KA.out).setCell (fun h => absurd h (Nat.lt_irrefl _)) _⟩
      all_goals
        go_wp2_with fail
        go_roundg (n + 1 - (i + 1))
        case measure => omega
        case rel => exact ⟨i + 1, rfl, by go_num, by omega, by rw [onZ_same (show zonesN F (l.take (i + 1)) = zonesN F (l.take i) by rw [HS.out]; simp)]; exact BA.out, KP.out.no KA.out⟩
    · obtain rfl : n = i := by omega
      have hd0 : ¬ (n : Int) < (n : Int) := by omega
      obtain ⟨w3, hw3⟩ : ∃ y, y = wr := ⟨_, rfl⟩
      subst hw3
      have B3 := Lib.hid (show Blk Value.bool 62 w3 w1.heap.size (onZ F l) by have := BO.out; rwa [HN.out, List.take_length] at this)
      clear hlt
      go_wp2_with fail
      go_loopg [5, 10] 27 (fun g_ lv zv wx => ∃ (z m : Nat) (A : Option Addr) (q : Nat), g_ = 27 - z ∧ zv = .int .i64 (z : Int) ∧ z ≤ 26 ∧ lv = .slice A m q ∧ m = (zonesQ F l z).length ∧ NewS IK 3 w3 wx (.slice A m q) (ints (zonesQ F l z)))
      case atStart => exact ⟨0, 0, none, 0, rfl, rfl, by omega, rfl, rfl, NewS.nil _ _ _⟩
      case round =>
        obtain ⟨z, m, A3, q3, hg2, rfl, hz, rfl, hm, ns⟩ := hrel
        have hml : m ≤ 26 := by rw [hm]; exact Nat.le_trans (zonesQ_len _ _ _) hz
        have HM := Lib.hid hm; have NS := Lib.hid ns
        clear hm ns
        by_cases hlt : z < 26
        · have hltI : (z : Int) < 26 := by omega
          have hz0 : ¬ (z : Int) < 0 := by omega
          have hwz : IntKind.i64.wrap ((z : Int) + 1) = (z : Int) + 1 := IntWalk.i64_in _ (by omega)
          obtain ⟨on, hon⟩ : ∃ b, decide (z ∈ zonesN F l) = b := ⟨_, rfl⟩
          have hcell := (B3.out.kpNo NS.out.kp).get (onZ_get (f := F) (l := l) hlt)
          rw [hon] at hcell
          have HS := Lib.hid (show zonesQ F l (z + 1) = zonesQ F l z ++ (if on = true then [z] else []) by rw [zonesQ_succ, ← hon]; by_cases h : z ∈ zonesN F l <;> simp [h])
          clear hon
          cases on with
          | true =>
            clear hlt
            go_wp2_with (at_builtin; refine wpl_snocI rfl (.tmp 45) (.tmp 47) rfl rfl rfl rfl NS.out HM.out (by omega) ?_; intro A4 q4 w4 n4 k4 _; have N4 := Lib.hid n4; clear n4 k4)
            go_roundg (27 - (z + 1))
            case measure => omega
            case rel => exact ⟨z + 1, m + 1, A4, q4, rfl, by go_num, by omega, rfl, by rw [HS.out, List.length_append, ← HM.out]; rfl, by rw [HS.out]; exact N4.out⟩
          | false =>
            clear hlt
            go_wp2_with fail
            go_roundg (27 - (z + 1))
            case measure => omega
            case rel => exact ⟨z + 1, m, A3, q3, rfl, by go_num, by omega, rfl, by rw [HS.out, HM.out]; simp, by rw [HS.out]; simpa using NS.out⟩
        · obtain rfl : z = 26 := by omega
          have hd1 : ¬ ((26 : Nat) : Int) < 26 := by omega
          clear hlt
          go_wp2_with fail
          go_ret
          exact ⟨_, rfl, NS.out.from_ (K1.out.no KP.out)⟩
end Go.Proofs.YtmipnicdlldjnaaGreatDoor

namespace Go.Proofs.YtmipnicdlldjnaaGreatDoor
set_option linter.unusedVariables false
set_option linter.unusedSimpArgs false
open Go.RowKit

theorem wk_unfront {st : Nat → List Nat} {a : Nat} : ∀ {k c : Nat}, Wk st a (k + 1) c → ∃ b ∈ st a, Wk st b k c := by
  intro k
  induction k with
  | zero =>
    intro c h
    cases h with
    | step h1 h2 => cases h1; exact ⟨c, h2, .nil⟩
  | succ k ih =>
    intro c h
    cases h with
    | step h1 h2 =>
      obtain ⟨b, hb, hw⟩ := ih h1
      exact ⟨b, hb, .step hw h2⟩
theorem nd_cons {s b : Nat} {Q : List Nat} : ∀ k, nd s (b :: Q) (k + 1) = nd b Q k
  | 0 => rfl
  | k + 1 => by
    show (b :: Q).getD (k + 1) 0 = Q.getD k 0
    simp
theorem least_exT {P : Nat → Prop} : ∀ m, P m → ∃ k, P k ∧ ∀ j, j < k → ¬ P j := by
  classical
  intro m
  induction m using Nat.strongRecOn with
  | _ m ih =>
    intro h
    by_cases hx : ∃ j, j < m ∧ P j
    · obtain ⟨j, hj, hp⟩ := hx; exact ih j hj hp
    · exact ⟨m, h, fun j hj hp => hx ⟨j, hj, hp⟩⟩
theorem fst_ex {st : Nat → List Nat} {g : Nat} : ∀ (k s : Nat), Wk st s k g → ∃ Q, Q.length = k ∧ FstW st s g Q := by
  classical
  intro k
  induction k with
  | zero =>
    intro s h
    cases h
    exact ⟨[], rfl, rfl, fun k b hb => by simp at hb⟩
  | succ k ih =>
    intro s h
    obtain ⟨b0, hb0, hw0⟩ := wk_unfront h
    obtain ⟨m0, hm0⟩ := List.getElem?_of_mem hb0
    obtain ⟨mm, ⟨b, hb, hw⟩, hmin⟩ := least_exT (P := fun m => ∃ l, (st s)[m]? = some l ∧ Wk st l k g) m0 ⟨b0, hm0, hw0⟩
    obtain ⟨Q, hl, hf⟩ := ih b hw
    refine ⟨b :: Q, by simp [hl], ?_, fun j c hc => ?_⟩
    · rw [List.length_cons, nd_cons]; exact hf.en
    · cases j with
      | zero =>
        simp at hc
        subst hc
        refine ⟨by rw [List.length_cons, Nat.add_sub_cancel, Nat.sub_zero, hl]; exact hw, mm, hb, fun m' l hm hl' hk => ?_⟩
        rw [List.length_cons, Nat.add_sub_cancel, Nat.sub_zero, hl] at hk
        exact hmin m' hm ⟨l, hl', hk⟩
      | succ j =>
        rw [List.getElem?_cons_succ] at hc
        obtain ⟨h1, m, h2, h3⟩ := hf.at_ j c hc
        have e : (b :: Q).length - 1 - (j + 1) = Q.length - 1 - j := by rw [List.length_cons]; omega
        rw [e, nd_cons]
        exact ⟨h1, m, h2, h3⟩
/-- What a search finds. -/
def FndR (st : Nat → List Nat) (s g : Nat) (Q : List Nat) (er : Int) : Prop :=
  (er = 2 ∧ Q = [] ∧ dst st s g < 0) ∨ (er = 0 ∧ dst st s g = (Q.length : Int) ∧ FstW st s g Q)
theorem fnd_ex (st : Nat → List Nat) (s g : Nat) : ∃ Q er, FndR st s g Q er := by
  rcases dst_isD st s g with ⟨e, _⟩ | ⟨k, e, hw, _⟩
  · exact ⟨[], 2, .inl ⟨rfl, rfl, by omega⟩⟩
  · obtain ⟨Q, hl, hf⟩ := fst_ex k s hw
    exact ⟨Q, 0, .inr ⟨rfl, by omega, hf⟩⟩
theorem FndR.two {st : Nat → List Nat} {s g : Nat} {Q : List Nat} {er : Int} (h : FndR st s g Q er) : er = 0 ∨ er = 2 := by rcases h with ⟨h, _⟩ | ⟨h, _⟩ <;> omega
theorem FndR.bad {st : Nat → List Nat} {s g : Nat} {Q : List Nat} {er : Int} (h : FndR st s g Q er) (he : er = 2) : dst st s g < 0 := by
  rcases h with ⟨_, _, h⟩ | ⟨h, _⟩
  · exact h
  · omega
theorem FndR.good {st : Nat → List Nat} {s g : Nat} {Q : List Nat} {er : Int} (h : FndR st s g Q er) (he : er = 0) : dst st s g = (Q.length : Int) ∧ FstW st s g Q := by
  rcases h with ⟨h, _⟩ | ⟨_, h⟩
  · omega
  · exact h
theorem leg_uniqT {f : Flr} {B : List Int} {pod : Int} {g : Leg} {m m' : List ActT} (h : LegR f B pod g m) (h' : LegR f B pod g m') : m = m' := by
  obtain ⟨Q, d1, f1, rfl⟩ := h
  obtain ⟨R, d2, f2, rfl⟩ := h'
  obtain rfl := f1.uniq f2 (by omega)
  rfl
theorem leg_ok {f : Flr} {B : List Int} {pod : Int} {d a b : Nat} {m1 m2 m3 : List ActT} (h1 : LegR f B pod (d, a, 2) m1) (h2 : LegR f B pod (a, b, 3) m2) (h3 : LegR f B pod (b, d, 0) m3) {g : Leg} (hg : g ∈ legsT d a b) : 0 ≤ dst (stepsP f g.1 B) g.1 g.2.1 := by
  obtain ⟨Q1, e1, _⟩ := h1
  obtain ⟨Q2, e2, _⟩ := h2
  obtain ⟨Q3, e3, _⟩ := h3
  unfold legsT at hg
  simp only [List.mem_cons, List.not_mem_nil, or_false] at hg
  rcases hg with rfl | rfl | rfl
  · rw [e1]; omega
  · rw [e2]; omega
  · rw [e3]; omega
theorem made_uniq {f : Flr} {robot pod fr tg : Int} {B : List Int} {o1 o2 : List ActT} {e1 e2 : Int} (h1 : MadeR f robot pod fr tg B o1 e1) (h2 : MadeR f robot pod fr tg B o2 e2) : o1 = o2 ∧ e1 = e2 := by
  cases h1 with
  | arg hm =>
    cases h2 with
    | arg _ => exact ⟨rfl, rfl⟩
    | no d a b g hm2 _ _ _ _ _ => rw [hm] at hm2; cases hm2
    | ok d a b _ _ _ hm2 _ _ _ _ _ _ => rw [hm] at hm2; cases hm2
  | no d a b g hm hd ha hb hg hn =>
    cases h2 with
    | arg hm2 => rw [hm] at hm2; cases hm2
    | no _ _ _ _ _ _ _ _ _ _ => exact ⟨rfl, rfl⟩
    | ok d' a' b' _ _ _ hm2 hd' ha' hb' l1 l2 l3 =>
      rw [hd] at hd'
      obtain rfl := Option.some.inj hd'
      obtain rfl : a = a' := by omega
      obtain rfl : b = b' := by omega
      have := leg_ok l1 l2 l3 hg
      omega
  | ok d a b m1 m2 m3 hm hd ha hb k1 k2 k3 =>
    cases h2 with
    | arg hm2 => rw [hm] at hm2; cases hm2
    | no d' a' b' g hm2 hd' ha' hb' hg hn =>
      rw [hd] at hd'
      obtain rfl := Option.some.inj hd'
      obtain rfl : a = a' := by omega
      obtain rfl : b = b' := by omega
      have := leg_ok k1 k2 k3 hg
      omega
    | ok d' a' b' _ _ _ hm2 hd' ha' hb' l1 l2 l3 =>
      rw [hd] at hd'
      obtain rfl := Option.some.inj hd'
      obtain rfl : a = a' := by omega
      obtain rfl : b = b' := by omega
      rw [leg_uniqT k1 l1, leg_uniqT k2 l2, leg_uniqT k3 l3]
      exact ⟨rfl, rfl⟩
end Go.Proofs.YtmipnicdlldjnaaGreatDoor
