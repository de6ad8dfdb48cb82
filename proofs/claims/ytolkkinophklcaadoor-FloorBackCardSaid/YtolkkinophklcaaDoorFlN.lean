/- floor.Near, floor.Lanes. -/
import Derived.Test.YtolkkinophklcaaDoorFlA
import Derived.Test.YtolkkinophklcaaDoorSnI
namespace Go.Proofs.YtolkkinophklcaaDoor
set_option linter.unusedVariables false
set_option linter.unusedSimpArgs false
open Go.RowKit

def nearTo (s : ByteArray) (W H c j : Nat) : List Nat := ((besideP W H c).take j).filter fun x => kdS s x != 1
theorem nearTo_in {s : ByteArray} {W H c j b : Nat} (h : (besideP W H c)[j]? = some b) (hk : kdS s b ≠ 1) : nearTo s W H c (j + 1) = nearTo s W H c j ++ [b] := by
  unfold nearTo; rw [List.take_add_one, h, List.filter_append]; simp [hk]
theorem nearTo_out {s : ByteArray} {W H c j b : Nat} (h : (besideP W H c)[j]? = some b) (hk : kdS s b = 1) : nearTo s W H c (j + 1) = nearTo s W H c j := by
  unfold nearTo; rw [List.take_add_one, h, List.filter_append]; simp [hk]
theorem nearTo_len (s : ByteArray) (W H c j : Nat) : (nearTo s W H c j).length ≤ 4 := by
  refine Nat.le_trans (List.length_filter_le _ _) (Nat.le_trans (List.length_take_le' _ _) ?_)
  rw [← bsA_four]; exact bsA_len W H c 4
theorem kd_35 (c : Nat) (hk : kindB c ≠ 1) : c ≠ 35 := by rintro rfl; exact hk rfl
theorem kd_35' (c : Nat) (hk : kindB c = 1) : c = 35 := kd_wall hk
theorem besideP_len (W H c : Nat) : (besideP W H c).length ≤ 4 := by rw [← bsA_four]; exact bsA_len W H c 4

structure NIdx (f : Flr) (c : Int) (W H j : Nat) : Prop where
  W1 : 1 ≤ W
  W2 : W ≤ 16
  H1 : 1 ≤ H
  H2 : H ≤ 16
  fW : f.W = W
  fH : f.H = H
  s : f.s.size = W * H
  c : c = j
  jl : j < W * H
theorem isB_idx {f : Flr} {c k : Int} (h : isB f c k = true) : ∃ W H j : Nat, NIdx f c W H j := by
  obtain ⟨h1, h2, h3, h4⟩ := isB_iff.1 h
  refine ⟨f.W.toNat, f.H.toNat, c.toNat, ?_⟩
  have hW := Int.toNat_of_nonneg (show 0 ≤ f.W from by have := h4.w1; omega)
  have hH := Int.toNat_of_nonneg (show 0 ≤ f.H from by have := h4.h1; omega)
  have hs : f.s.size = f.W.toNat * f.H.toNat := by
    have := h4.len
    rw [← hW, ← hH] at this
    exact_mod_cast this
  exact ⟨by have := h4.w1; omega, by have := h4.w2; omega, by have := h4.h1; omega, by have := h4.h2; omega, hW.symm, hH.symm, hs, by omega, by rw [← hs]; omega⟩

set_option maxHeartbeats 1000000 in
set_option maxRecDepth 100000 in
theorem near_any (f : Flr) (hsz : f.s.size ≤ 9223372036854775807) (c : Int) (hc : c ≤ 9223372036854775807) (w : World) :
    Calls Tryd.prog 13 #[f.val, .int .i64 c] w fun e w' => ∃ v, e = .returned v ∧ NewS IK 3 w w' v (ints (nearP f c)) := by
  have HBX := Lib.hid (BxW.new f w)
  obtain ⟨N, hN⟩ : ∃ N, N = nearP f c := ⟨_, rfl⟩
  rw [← hN]
  by_cases hok : isB f c 2 = true ∨ isB f c 3 = true
  · obtain ⟨b, hb⟩ : ∃ b, isB f c 2 = b := ⟨_, rfl⟩
    have HIS := Lib.hid (is_at f hsz c 2 hc b hb)
    have hb3 : b = false → isB f c 3 = true := by rintro rfl; rcases hok with h | h; exact absurd h (by simp [hb]); exact h
    have HI3 := Lib.hid (fun h => is_at f hsz c 3 hc true (hb3 h))
    obtain ⟨W, H, j, ix⟩ : ∃ W H j : Nat, NIdx f c W H j := by rcases hok with h | h <;> exact isB_idx h
    have hN' : N = nearTo f.s W H j (besideP W H j).length := by
      rw [hN]; unfold nearP nearTo
      rw [if_pos hok, List.take_length, ix.fW, ix.fH, ix.c]; simp
    obtain ⟨X, Y, s⟩ := f
    obtain ⟨hW1, hW, hH1, hH, hfW, hfH, hs, hcj, hjl⟩ := ix
    simp only at hfW hfH hs hN'
    subst hfW hfH hcj
    unfold Flr.val at HIS HI3 ⊢
    simp only at HIS HI3 ⊢
    have HS := Lib.hid hs
    have HN := Lib.hid hN'
    have HJL := Lib.hid hjl
    clear hok hN' hN hb hb3 hs hsz hjl
    cases b
    all_goals
      go_enter Tryd.func13, Tryd.ntmps13
      go_wp2_with fail
      refine (HIS.out _).mono ?_
      rintro e w1 ⟨rfl, kp1⟩
      have B1 := Lib.hid (HBX.out.no kp1)
      have hb0 : w1.cell? ⟨w.heap.size, 0, none⟩ = some (.int .i64 (W : Int)) := B1.out.c0
      have hb1 : w1.cell? ⟨w.heap.size, 1, none⟩ = some (.int .i64 (H : Int)) := B1.out.c1
      have hb2 : w1.cell? ⟨w.heap.size, 2, none⟩ = some (.string s) := B1.out.c2
      clear kp1
      go_wp2_with fail
      try (
        refine (HI3.out (by simp) _).mono ?_
        rintro e w2 ⟨rfl, kp2⟩
        have B2 := Lib.hid (B1.out.no kp2)
        clear hb0 hb1 hb2 B1
        have B1 := B2
        have hb0 : w2.cell? ⟨w.heap.size, 0, none⟩ = some (.int .i64 (W : Int)) := B1.out.c0
        have hb1 : w2.cell? ⟨w.heap.size, 1, none⟩ = some (.int .i64 (H : Int)) := B1.out.c1
        have hb2 : w2.cell? ⟨w.heap.size, 2, none⟩ = some (.string s) := B1.out.c2
        clear kp2 B2
        go_wp2_with fail)
      refine (beside_any W H j s hW1 hW hH1 hH HJL.out _).mono ?_
      rintro e w3 ⟨vB, rfl, nb⟩
      obtain ⟨AB, qB, rfl⟩ := nb.own.rd.shape
      rw [ints_len] at nb ⊢
      obtain ⟨nB, hnB⟩ : ∃ nB, nB = (besideP W H j).length := ⟨_, rfl⟩
      have hB4 : nB ≤ 4 := by rw [hnB]; exact besideP_len W H j
      rw [← hnB] at nb ⊢
      have HNB := Lib.hid hnB
      have B3 := Lib.hid (B1.out.no nb.kp); have OB := Lib.hid nb.own
      clear nb hnB hb0 hb1 hb2
      go_wp2_with fail
      go_loopg [5, 22] (nB + 1) (fun g2 v ii wx => ∃ (i m : Nat) (A : Option Addr) (q : Nat), g2 = nB + 1 - i ∧ ii = .int .i64 i ∧ i ≤ nB ∧ v = .slice A m q ∧ m = (nearTo s W H j i).length ∧ NewS IK 3 w3 wx v (ints (nearTo s W H j i)))
      case atStart => exact ⟨0, 0, none, 0, rfl, rfl, by omega, rfl, rfl, NewS.nil _ _ _⟩
      case round =>
        obtain ⟨i, m, A, q, hgi, rfl, hi, rfl, hm, ns⟩ := hrel
        have hm4 : m ≤ 4 := by rw [hm]; exact nearTo_len s W H j i
        have HM := Lib.hid hm; have NS := Lib.hid ns
        clear hm ns
        by_cases hlt : i < nB
        · have hltI : (i : Int) < (nB : Int) := by omega
          have hwi : IntKind.i64.wrap ((i : Int) + 1) = (i : Int) + 1 := IntWalk.i64_in _ (by omega)
          obtain ⟨x, hx⟩ : ∃ x, (besideP W H j)[i]? = some x := ⟨_, List.getElem?_eq_getElem (by rw [← HNB.out]; exact hlt)⟩
          have hxs : x < s.size := by rw [HS.out]; exact beside_lt hW1 HJL.out (List.mem_of_getElem? hx)
          have hxsI : (x : Int) < ((s.size : Nat) : Int) := by omega
          rcases OB.out.b with ⟨hv, _⟩ | ⟨gB, capB, hv, _, _, _⟩
          · simp only [Value.slice.injEq] at hv; omega
          simp only [Value.slice.injEq] at hv
          obtain ⟨rfl, hzz, rfl⟩ := hv
          clear hzz
          have hcb : wr.cell? ⟨gB, i, none⟩ = some (.int .i64 (x : Int)) := by have := (OB.out.kpNo NS.out.kp).rd.intAt (ints_get hx); simpa using this
          have hb2 : wr.cell? ⟨w.heap.size, 2, none⟩ = some (.string s) := (B3.out.no NS.out.kp).c2
          have hbt := bt_at s x
          have hbl := bt_lt s x
          obtain ⟨B, hB⟩ : ∃ B, B = bt s x := ⟨_, rfl⟩
          rw [← hB] at hbt hbl
          by_cases h35 : B = 35
          · have h35b : ((B : Int) != 35) = false := by simp [h35]
            have HL := Lib.hid (nearTo_out hx (s := s) (show kindB (bt s x) = 1 by rw [← hB, h35]; rfl))
            clear hx hB h35 hlt hxs
            go_wp2_with fail
            go_roundg (nB + 1 - (i + 1))
            case measure => omega
            case rel => exact ⟨i + 1, m, A, q, rfl, by go_num, by omega, rfl, by rw [HL.out]; exact HM.out, by rw [HL.out]; exact NS.out⟩
          · have h35b : ((B : Int) != 35) = true := by simp; omega
            have HL := Lib.hid (nearTo_in hx (s := s) (show kindB (bt s x) ≠ 1 from fun e => h35 (by rw [hB]; exact kd_wall e)))
            clear hx hB h35 hlt hxs
            go_wp2_with (at_builtin; refine wpl_snocI rfl (.tmp 31) (.tmp 33) rfl rfl rfl rfl NS.out HM.out (by omega) ?_; intro A2 q2 w4 n4 k4 _; have N4 := Lib.hid n4; clear n4 k4 hcb hb2)
            go_roundg (nB + 1 - (i + 1))
            case measure => omega
            case rel => exact ⟨i + 1, m + 1, A2, q2, rfl, by go_num, by omega, rfl, by rw [HL.out, List.length_append, ← HM.out]; rfl, by rw [HL.out]; exact N4.out⟩
        · obtain rfl : i = nB := by omega
          have hd0 : ¬ (i : Int) < (i : Int) := by omega
          have HL := Lib.hid (show N = nearTo s W H j i by rw [HN.out, ← HNB.out])
          clear hlt
          go_wp2_with fail
          go_ret
          exact ⟨_, rfl, by rw [HL.out]; exact NS.out.from_ B3.out.kp⟩
  · have h2 : isB f c 2 = false := by simpa using fun h => hok (.inl h)
    have h3 : isB f c 3 = false := by simpa using fun h => hok (.inr h)
    have HIS := Lib.hid (is_at f hsz c 2 hc false h2)
    have HI3 := Lib.hid (is_at f hsz c 3 hc false h3)
    have HN := Lib.hid (show N = [] by rw [hN]; unfold nearP; rw [if_neg hok])
    unfold Flr.val at HIS HI3 ⊢
    clear hok h2 h3 hN
    go_enter Tryd.func13, Tryd.ntmps13
    go_wp2_with fail
    refine (HIS.out _).mono ?_
    rintro e w1 ⟨rfl, kp1⟩
    have B1 := Lib.hid (HBX.out.no kp1)
    have hb0 := B1.out.c0; have hb1 := B1.out.c1; have hb2 := B1.out.c2
    clear kp1
    go_wp2_with fail
    refine (HI3.out _).mono ?_
    rintro e w2 ⟨rfl, kp2⟩
    have B2 := Lib.hid (B1.out.no kp2)
    clear kp2 hb0 hb1 hb2
    go_wp2_with fail
    go_ret
    exact ⟨_, rfl, by rw [HN.out]; exact ⟨Own.nil _ _ _, by simp [Value.ownBlock], B2.out.kp⟩⟩

set_option maxHeartbeats 1000000 in
set_option maxRecDepth 100000 in
theorem lanes_any (f : Flr) (hsz : f.s.size ≤ 9223372036854775807) (w : World) :
    Calls Tryd.prog 22 #[f.val] w fun e w' => ∃ v, e = .returned v ∧ NewS IK 3 w w' v (ints (lanesP f)) := by
  have HBX := Lib.hid (BxW.new f w)
  obtain ⟨N, hN⟩ : ∃ N, N = lanesP f := ⟨_, rfl⟩
  rw [← hN]
  unfold lanesP at hN
  cases hb : rightB f with
  | true =>
    rw [if_pos hb] at hN
    have HRT := Lib.hid (right_at f hsz true hb)
    have hs256 := (rightB_iff.1 hb).s256
    obtain ⟨X, Y, s⟩ := f
    simp only at hs256 hN
    obtain ⟨n, hn⟩ : ∃ n, n = s.size := ⟨_, rfl⟩
    have hnI : ((s.size : Nat) : Int) = (n : Int) := by omega
    have HS := Lib.hid hn
    rw [← hn] at hN hs256
    have HN := Lib.hid hN
    unfold Flr.val at HRT ⊢
    simp only at HRT ⊢
    clear hb hN hn hsz
    go_enter Tryd.func22, Tryd.ntmps22
    go_wp2_with fail
    refine (HRT.out _).mono ?_
    rintro e w3 ⟨rfl, kp1⟩
    have B3 := Lib.hid (HBX.out.no kp1)
    have hb2 : w3.cell? ⟨w.heap.size, 2, none⟩ = some (.string s) := B3.out.c2
    clear kp1
    go_wp2_with fail
    go_loopg [3, 11] (n + 1) (fun g2 v ii wx => ∃ (i m : Nat) (A : Option Addr) (q : Nat), g2 = n + 1 - i ∧ ii = .int .i64 i ∧ i ≤ n ∧ v = .slice A m q ∧ m = (lanesTo s i).length ∧ NewS IK 3 w3 wx v (ints (lanesTo s i)))
    case atStart => exact ⟨0, 0, none, 0, rfl, rfl, by omega, rfl, rfl, NewS.nil _ _ _⟩
    case round =>
      obtain ⟨i, m, A, q, hgi, rfl, hi, rfl, hm, ns⟩ := hrel
      have hm4 : m ≤ 256 := by rw [hm]; exact Nat.le_trans (lanesTo_len s i) (by omega)
      have HM := Lib.hid hm; have NS := Lib.hid ns
      have hb2 : wr.cell? ⟨w.heap.size, 2, none⟩ = some (.string s) := (B3.out.no NS.out.kp).c2
      clear hm ns
      by_cases hlt : i < n
      · have hltI : (i : Int) < (n : Int) := by omega
        have hwi : IntKind.i64.wrap ((i : Int) + 1) = (i : Int) + 1 := IntWalk.i64_in _ (by omega)
        have hxs : i < s.size := by have := HS.out; omega
        have hbt := bt_at s i
        obtain ⟨K, hK⟩ : ∃ K, K = kindB (bt s i) := ⟨_, rfl⟩
        have hkd := fun w => kind_any (bt s i) w
        rw [← hK] at hkd
        have HKD := Lib.hid hkd
        by_cases h2 : K = 2
        · have h2b : ((K : Int) == 2) = true := by simp [h2]
          have HL := Lib.hid (lanesTo_in (s := s) (k := i) (show kindB (bt s i) = 2 by rw [← hK, h2]))
          clear hkd hK h2 hlt
          go_wp2_with (first | (go_at_call 39; refine (HKD.out _).mono ?_; rintro e wz ⟨rfl, rfl⟩) | (at_builtin; refine wpl_snocI rfl (.tmp 20) (.tmp 22) rfl rfl rfl rfl NS.out HM.out (by omega) ?_; intro A2 q2 w4 n4 k4 _; have N4 := Lib.hid n4; clear n4 k4))
          go_roundg (n + 1 - (i + 1))
          case measure => omega
          case rel => exact ⟨i + 1, m + 1, A2, q2, rfl, by go_num, by omega, rfl, by rw [HL.out, List.length_append, ← HM.out]; rfl, by rw [HL.out]; exact N4.out⟩
        · have h2b : ((K : Int) == 2) = false := by simp; omega
          have HL := Lib.hid (lanesTo_out (s := s) (k := i) (show kindB (bt s i) ≠ 2 by rw [← hK]; exact h2))
          clear hkd hK h2 hlt
          go_wp2_with (go_at_call 39; refine (HKD.out _).mono ?_; rintro e wz ⟨rfl, rfl⟩)
          go_roundg (n + 1 - (i + 1))
          case measure => omega
          case rel => exact ⟨i + 1, m, A, q, rfl, by go_num, by omega, rfl, by rw [HL.out]; exact HM.out, by rw [HL.out]; exact NS.out⟩
      · obtain rfl : i = n := by omega
        have hd0 : ¬ (i : Int) < (i : Int) := by omega
        clear hlt
        go_wp2_with fail
        go_ret
        exact ⟨_, rfl, by rw [HN.out]; exact NS.out.from_ B3.out.kp⟩
  | false =>
    have HRT := Lib.hid (right_at f hsz false hb)
    have HN := Lib.hid (show N = [] by rw [hN, if_neg (by simp [hb])])
    unfold Flr.val at HRT ⊢
    clear hb hN
    go_enter Tryd.func22, Tryd.ntmps22
    go_wp2_with fail
    refine (HRT.out _).mono ?_
    rintro e w1 ⟨rfl, kp1⟩
    have B1 := Lib.hid (HBX.out.no kp1)
    clear kp1
    go_wp2_with fail
    go_ret
    exact ⟨_, rfl, by rw [HN.out]; exact ⟨Own.nil _ _ _, by simp [Value.ownBlock], B1.out.kp⟩⟩
end Go.Proofs.YtolkkinophklcaaDoor
