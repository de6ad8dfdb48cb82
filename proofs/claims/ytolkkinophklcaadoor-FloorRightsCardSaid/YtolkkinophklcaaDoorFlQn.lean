/- carfaxref03.Robots, Dock, Zone, Near, Lanes. -/
import Derived.Test.YtolkkinophklcaaDoorFlQx
namespace Go.Proofs.YtolkkinophklcaaDoor
set_option linter.unusedVariables false
set_option linter.unusedSimpArgs false
open Go.RowKit

theorem qright_at (f : Flr) (hsz : f.s.size ≤ 9223372036854775807) (b : Bool) (hb : rightB f = b) (w : World) : Calls Tryd.prog 25 #[f.val] w fun e w' => e = .returned (.bool b) ∧ Kp No w w' := by
  subst hb; exact qright_any f hsz w
theorem right_kd {f : Flr} (hb : rightB f = true) {i : Nat} (hi : i < f.s.size) : kdS f.s i = 1 ∨ kdS f.s i = 2 ∨ kdS f.s i = 3 := by
  have h1 := (rightB_iff.1 hb).kinds i hi
  have h2 : kdS f.s i ≤ 3 := kindB_le _
  omega
theorem nearP_eq {f : Flr} {j W H : Nat} (hb : rightB f = true) (hj : j < f.s.size) (hW : f.W = W) (hH : f.H = H) (hk : kdS f.s j ≠ 1) : nearP f j = nearTo f.s W H j (besideP W H j).length := by
  unfold nearP nearTo
  rw [List.take_length, hW, hH, if_pos]
  · simp
  · rcases right_kd hb hj with h | h | h
    · exact absurd h hk
    · exact .inl (isB_iff.2 ⟨by omega, by omega, by simp [h], rightB_iff.1 hb⟩)
    · exact .inr (isB_iff.2 ⟨by omega, by omega, by simp [h], rightB_iff.1 hb⟩)
theorem nearP_no {f : Flr} {c : Int} (h : ¬ (0 ≤ c ∧ c < f.s.size ∧ rightB f = true ∧ kdS f.s c.toNat ≠ 1)) : nearP f c = [] := by
  unfold nearP
  rw [if_neg]
  rintro (h1 | h1)
  all_goals
    obtain ⟨h2, h3, h4, h5⟩ := isB_iff.1 h1
    exact h ⟨h2, h3, rightB_iff.2 h5, by omega⟩

set_option maxHeartbeats 1000000 in
set_option maxRecDepth 100000 in
theorem qnear_any (f : Flr) (hsz : f.s.size ≤ 9223372036854775807) (c : Int) (hc : c ≤ 9223372036854775807) (w : World) :
    Calls Tryd.prog 21 #[f.val, .int .i64 c] w fun e w' => ∃ v, e = .returned v ∧ NewS IK 3 w w' v (ints (nearP f c)) := by
  have HBX := Lib.hid (BxW.new f w)
  obtain ⟨N, hN⟩ : ∃ N, N = nearP f c := ⟨_, rfl⟩
  rw [← hN]
  have NIL := fun (w' : World) (h : Kp No w w') => (⟨Own.nil _ _ _, by simp [Value.ownBlock], h⟩ : NewS IK 3 w w' (.slice none 0 0) (ints []))
  obtain ⟨n, hn⟩ : ∃ n, n = f.s.size := ⟨_, rfl⟩
  have hnI : ((f.s.size : Nat) : Int) = (n : Int) := by omega
  have HSN := Lib.hid hn
  obtain ⟨b, hb⟩ : ∃ b, rightB f = b := ⟨_, rfl⟩
  have HRT := Lib.hid (qright_at f hsz b hb)
  have HNIL := Lib.hid NIL
  clear NIL
  by_cases h0 : c < 0
  · have HE := Lib.hid (show N = [] by rw [hN]; exact nearP_no (by omega))
    unfold Flr.val
    clear hb hN hn hsz
    go_enter Tryd.func21, Tryd.ntmps21
    go_wp2_with fail
    go_ret
    exact ⟨_, rfl, by rw [HE.out]; exact HNIL.out _ HBX.out.kp⟩
  obtain ⟨j, rfl⟩ : ∃ j : Nat, c = j := ⟨c.toNat, by omega⟩
  have h0b : ¬ ((j : Int) < 0) := by omega
  by_cases h1 : n ≤ j
  · have HE := Lib.hid (show N = [] by rw [hN]; exact nearP_no (by omega))
    have h1I : (n : Int) ≤ (j : Int) := by omega
    unfold Flr.val
    clear hb hN hn hsz h0
    go_enter Tryd.func21, Tryd.ntmps21
    go_wp2_with fail
    go_ret
    exact ⟨_, rfl, by rw [HE.out]; exact HNIL.out _ HBX.out.kp⟩
  have h1I : ¬ (n : Int) ≤ (j : Int) := by omega
  have h1J : (j : Int) < (n : Int) := by omega
  have hjs : j < f.s.size := by omega
  cases b with
  | false =>
    have HE := Lib.hid (show N = [] by rw [hN]; exact nearP_no (by simp [hb]))
    unfold Flr.val at HRT ⊢
    clear hb hN hn hsz h0 h1
    go_enter Tryd.func21, Tryd.ntmps21
    go_wp2_with fail
    refine (HRT.out _).mono ?_
    rintro e w1 ⟨rfl, kp1⟩
    have KP := Lib.hid (HBX.out.kp.no kp1)
    clear kp1
    go_wp2_with fail
    go_ret
    exact ⟨_, rfl, by rw [HE.out]; exact HNIL.out _ KP.out⟩
  | true =>
    have hbt := bt_at f.s j
    obtain ⟨B, hB⟩ : ∃ B, B = bt f.s j := ⟨_, rfl⟩
    rw [← hB] at hbt
    by_cases h35 : B = 35
    · have h35b : ((B : Int) == 35) = true := by simp [h35]
      have HE := Lib.hid (show N = [] by
        rw [hN]; refine nearP_no ?_
        rintro ⟨_, _, _, h⟩
        exact h (show kindB (bt f.s j) = 1 by rw [← hB, h35]; rfl))
      unfold Flr.val at HRT ⊢
      clear hb hN hn hsz h0 h1 h35 hB
      go_enter Tryd.func21, Tryd.ntmps21
      go_wp2_with fail
      refine (HRT.out _).mono ?_
      rintro e w1 ⟨rfl, kp1⟩
      have B1 := Lib.hid (HBX.out.no kp1)
      have hb2 := B1.out.c2
      clear kp1
      go_wp2_with fail
      go_ret
      exact ⟨_, rfl, by rw [HE.out]; exact HNIL.out _ B1.out.kp⟩
    · have h35b : ((B : Int) == 35) = false := by simp; omega
      obtain ⟨W, H, j', ix⟩ : ∃ W H j' : Nat, NIdx f (j : Int) W H j' := by
        rcases right_kd hb hjs with h | h | h
        · exact absurd (kd_wall h) (by rw [← hB]; exact h35)
        · exact isB_idx (k := 2) (isB_iff.2 ⟨by omega, by omega, by simp [h], rightB_iff.1 hb⟩)
        · exact isB_idx (k := 3) (isB_iff.2 ⟨by omega, by omega, by simp [h], rightB_iff.1 hb⟩)
      obtain ⟨hW1, hW, hH1, hH, hfW, hfH, hs, hcj, hjl⟩ := ix
      obtain rfl : j = j' := by omega
      have hN' : N = nearTo f.s W H j (besideP W H j).length := by
        rw [hN]
        exact nearP_eq hb hjs hfW hfH (fun e => h35 (by rw [hB]; exact kd_wall e))
      obtain ⟨X, Y, s⟩ := f
      simp only at hfW hfH hs hN' hjs hn hnI hbt
      subst hfW hfH
      unfold Flr.val at HRT ⊢
      simp only at HRT ⊢
      have HS := Lib.hid hs
      have HN := Lib.hid hN'
      have HJL := Lib.hid hjl
      clear hN' hN hb hs hsz hjl hn h0 h1 h35 hB hcj
      go_enter Tryd.func21, Tryd.ntmps21
      go_wp2_with fail
      refine (HRT.out _).mono ?_
      rintro e w1 ⟨rfl, kp1⟩
      have B1 := Lib.hid (HBX.out.no kp1)
      have hb0 : w1.cell? ⟨w.heap.size, 0, none⟩ = some (.int .i64 (W : Int)) := B1.out.c0
      have hb1 : w1.cell? ⟨w.heap.size, 1, none⟩ = some (.int .i64 (H : Int)) := B1.out.c1
      have hb2 : w1.cell? ⟨w.heap.size, 2, none⟩ = some (.string s) := B1.out.c2
      clear kp1
      go_wp2_with fail
      refine (qbeside_any W H j s hW1 hW hH1 hH HJL.out _).mono ?_
      rintro e w3 ⟨vB, rfl, nb⟩
      obtain ⟨AB, qB, rfl⟩ := nb.own.rd.shape
      rw [ints_len] at nb ⊢
      obtain ⟨nB, hnB⟩ : ∃ nB, nB = (besideP W H j).length := ⟨_, rfl⟩
      have hB4 : nB ≤ 4 := by rw [hnB]; exact besideP_len W H j
      rw [← hnB] at nb ⊢
      have HNB := Lib.hid hnB
      have B3 := Lib.hid (B1.out.no nb.kp); have OB := Lib.hid nb.own
      clear nb hnB hb0 hb1 hb2 hbt hjs h1I h1J h35b
      go_wp2_with fail
      go_loopg [5, 7] (nB + 1) (fun g2 v ii wx => ∃ (i m : Nat) (A : Option Addr) (q : Nat), g2 = nB + 1 - i ∧ ii = .int .i64 i ∧ i ≤ nB ∧ v = .slice A m q ∧ m = (nearTo s W H j i).length ∧ NewS IK 3 w3 wx v (ints (nearTo s W H j i)))
      case atStart => exact ⟨0, 0, none, 0, rfl, rfl, by omega, rfl, rfl, NewS.nil _ _ _⟩
      case round =>
        obtain ⟨i, m, A, q, hgi, rfl, hi, rfl, hm, ns⟩ := hrel
        have hm4 : m ≤ 4 := by rw [hm]; exact nearTo_len s W H j i
        have HM := Lib.hid hm; have NS := Lib.hid ns
        clear hm ns
        by_cases hlt : i < nB
        · have hltI : (i : Int) < (nB : Int) := by omega
          have hwi : IntKind.i64.wrap ((i : Int) + 1) = (i : Int) + 1 := IntWalk.i64_in _ (by omega)
          obtain ⟨x, hx⟩ : ∃ x, (besideP W H j)[i]? = some x := ⟨_, List.getElem?_eq_getElem (by rw [← HNB.out]; exact hlt)⟩
          have hxs : x < s.size := by rw [HS.out]; exact beside_lt hW1 HJL.out (List.mem_of_getElem? hx)
          have hxsI : (x : Int) < ((s.size : Nat) : Int) := by omega
          have hxn : (x : Int) < (n : Int) := by omega
          rcases OB.out.b with ⟨hv, _⟩ | ⟨gB, capB, hv, _, _, _⟩
          · simp only [Value.slice.injEq] at hv; omega
          simp only [Value.slice.injEq] at hv
          obtain ⟨rfl, hzz, rfl⟩ := hv
          clear hzz
          have hcb : wr.cell? ⟨gB, i, none⟩ = some (.int .i64 (x : Int)) := by have := (OB.out.kpNo NS.out.kp).rd.intAt (ints_get hx); simpa using this
          have hcB : ∀ k, (wr.drewN k).cell? ⟨gB, i, none⟩ = some (.int .i64 (x : Int)) := fun k => hcb
          have hb2 : wr.cell? ⟨w.heap.size, 2, none⟩ = some (.string s) := (B3.out.no NS.out.kp).c2
          have hbt := bt_at s x
          obtain ⟨B2, hB⟩ : ∃ B, B = bt s x := ⟨_, rfl⟩
          rw [← hB] at hbt
          by_cases h35 : B2 = 35
          · have h35b : ((B2 : Int) != 35) = false := by simp [h35]
            have HL := Lib.hid (nearTo_out hx (s := s) (show kindB (bt s x) = 1 by rw [← hB, h35]; rfl))
            clear hx hB h35 hlt hxs
            go_wp2_with fail
            go_quiet (fail)
            go_wp2_with fail
            go_roundg (nB + 1 - (i + 1))
            case measure => omega
            case rel => exact ⟨i + 1, m, A, q, rfl, by go_num, by omega, rfl, by rw [HL.out]; exact HM.out, by rw [HL.out]; exact NS.out.kpNo ((Kp.refl _ _).drewN _)⟩
          · have h35b : ((B2 : Int) != 35) = true := by simp; omega
            have HL := Lib.hid (nearTo_in hx (s := s) (show kindB (bt s x) ≠ 1 from fun e => h35 (by rw [hB]; exact kd_wall e)))
            have NS2 := Lib.hid (fun k => NS.out.kpNo ((Kp.refl _ wr).drewN k))
            clear hx hB h35 hlt hxs
            go_wp2_with fail
            go_quiet (fail)
            go_wp2_with (at_builtin; refine wpl_snocI rfl (.tmp 46) (.tmp 51) rfl rfl rfl rfl (NS2.out _) HM.out (by omega) ?_; intro A2 q2 w4 n4 k4 _; have N4 := Lib.hid n4; clear n4 k4 hcb hb2 hcB)
            go_roundg (nB + 1 - (i + 1))
            case measure => omega
            case rel => exact ⟨i + 1, m + 1, A2, q2, rfl, by go_num, by omega, rfl, by rw [HL.out, List.length_append, ← HM.out]; rfl, by rw [HL.out]; exact N4.out⟩
        · obtain rfl : i = nB := by omega
          have hd0 : ¬ (i : Int) < (i : Int) := by omega
          have HL := Lib.hid (show N = nearTo s W H j i by rw [HN.out, ← HNB.out])
          clear hlt
          go_wp2_with fail
          go_ret
          exact ⟨_, rfl, by rw [HL.out]; exact NS.out.from_ B3.out.kp⟩

theorem qzone_any (f : Flr) (hsz : f.s.size ≤ 9223372036854775807) (c : Int) (hc : c ≤ 9223372036854775807) (w : World) :
    Calls Tryd.prog 17 #[f.val, .int .i64 c] w fun e w' => e = .returned (ZVal (zoneP f c)) ∧ Kp No w w' := by
  have HBX := Lib.hid (BxW.new f w)
  obtain ⟨Z, hZ⟩ : ∃ N, N = zoneP f c := ⟨_, rfl⟩
  rw [← hZ]
  unfold zoneP at hZ
  obtain ⟨n, hn⟩ : ∃ n, n = f.s.size := ⟨_, rfl⟩
  have hnI : ((f.s.size : Nat) : Int) = (n : Int) := by omega
  obtain ⟨b, hb⟩ : ∃ b, rightB f = b := ⟨_, rfl⟩
  have HRT := Lib.hid (qright_at f hsz b hb)
  by_cases h0 : c < 0
  · have HE := Lib.hid (show Z = none by rw [hZ, if_neg (fun h => by have := (isB_iff.1 h).1; omega)])
    unfold Flr.val
    clear hb hZ hn hsz
    go_enter Tryd.func17, Tryd.ntmps17
    go_wp2_with fail
    go_ret2
    exact ⟨by rw [HE.out]; rfl, HBX.out.kp⟩
  obtain ⟨j, rfl⟩ : ∃ j : Nat, c = j := ⟨c.toNat, by omega⟩
  have h0b : ¬ ((j : Int) < 0) := by omega
  by_cases h1 : n ≤ j
  · have HE := Lib.hid (show Z = none by rw [hZ, if_neg (fun h => by have := (isB_iff.1 h).2.1; omega)])
    have h1I : (n : Int) ≤ (j : Int) := by omega
    unfold Flr.val
    clear hb hZ hn hsz h0
    go_enter Tryd.func17, Tryd.ntmps17
    go_wp2_with fail
    go_ret2
    exact ⟨by rw [HE.out]; rfl, HBX.out.kp⟩
  have h1I : ¬ (n : Int) ≤ (j : Int) := by omega
  have h1J : (j : Int) < (n : Int) := by omega
  have hjs : j < f.s.size := by omega
  cases b with
  | false =>
    have HE := Lib.hid (show Z = none by rw [hZ, if_neg (fun h => by have := (isB_iff.1 h).2.2.2; rw [← rightB_iff, hb] at this; simp at this)])
    unfold Flr.val at HRT ⊢
    clear hb hZ hn hsz h0 h1
    go_enter Tryd.func17, Tryd.ntmps17
    go_wp2_with fail
    refine (HRT.out _).mono ?_
    rintro e w1 ⟨rfl, kp1⟩
    have KP := Lib.hid (HBX.out.kp.no kp1)
    clear kp1
    go_wp2_with fail
    go_ret2
    exact ⟨by rw [HE.out]; rfl, KP.out⟩
  | true =>
    have hbt := bt_at f.s j
    obtain ⟨B, hB⟩ : ∃ B, B = bt f.s j := ⟨_, rfl⟩
    rw [← hB] at hbt
    obtain ⟨t, ht⟩ : ∃ t, t = (kindB B == 2) := ⟨_, rfl⟩
    have QL := Lib.hid (fun w => qlane_any B t ht w)
    have hK : kdS f.s j = kindB B := by rw [hB]; rfl
    cases t with
    | false =>
      have HE := Lib.hid (show Z = none by
        rw [hZ, if_neg (fun h => by have := (isB_iff.1 h).2.2.1; simp [hK] at this; simp at ht; omega)])
      unfold Flr.val at HRT ⊢
      clear hb hZ hn hsz h0 h1 hB ht hK
      go_enter Tryd.func17, Tryd.ntmps17
      go_wp2_with fail
      refine (HRT.out _).mono ?_
      rintro e w1 ⟨rfl, kp1⟩
      have B1 := Lib.hid (HBX.out.no kp1)
      have hb2 := B1.out.c2
      clear kp1
      go_wp2_with (go_at_call 37; refine (QL.out _).mono ?_; rintro e wz ⟨rfl, rfl⟩)
      go_ret2
      exact ⟨by rw [HE.out]; rfl, B1.out.kp⟩
    | true =>
      have h2 : kindB B = 2 := by simpa using ht.symm
      have hl := kd_lane h2
      have HE := Lib.hid (show Z = some (B - 97) by
        rw [hZ, if_pos (isB_iff.2 ⟨by omega, by omega, by simp [hK, h2], rightB_iff.1 hb⟩), hB]; simp)
      have hsub : IntKind.u8.wrap ((B : Int) - 97) = ((B - 97 : Nat) : Int) := by rw [IntWalk.u8_in _ (by omega)]; omega
      obtain ⟨q, hq⟩ : ∃ q, q = B - 97 := ⟨_, rfl⟩
      rw [← hq] at hsub HE
      have hcv : IntKind.i64.wrap (q : Int) = (q : Int) := IntWalk.i64_in _ (by omega)
      have hq25 : q ≤ 25 := by omega
      unfold Flr.val at HRT ⊢
      clear hb hZ hn hsz h0 h1 hB ht hK hq hl h2
      go_enter Tryd.func17, Tryd.ntmps17
      go_wp2_with fail
      refine (HRT.out _).mono ?_
      rintro e w1 ⟨rfl, kp1⟩
      have B1 := Lib.hid (HBX.out.no kp1)
      have hb2 := B1.out.c2
      clear kp1
      go_wp2_with (go_at_call 37; refine (QL.out _).mono ?_; rintro e wz ⟨rfl, rfl⟩)
      go_ret2
      exact ⟨by rw [HE.out]; rfl, B1.out.kp⟩

/-- A loop over all cells, as long as the floor is right: of one that is not right no round. -/
theorem docksP_le (s : ByteArray) (k : Nat) : (docksP s k).length ≤ k := by unfold docksP; exact Nat.le_trans (List.length_filter_le _ _) (by simp)

set_option maxHeartbeats 1000000 in
set_option maxRecDepth 100000 in
theorem qrobots_any (f : Flr) (hsz : f.s.size ≤ 9223372036854775807) (w : World) :
    Calls Tryd.prog 19 #[f.val] w fun e w' => e = .returned (.int .i64 ((robotsP f : Nat) : Int)) ∧ Kp No w w' := by
  have HBX := Lib.hid (BxW.new f w)
  obtain ⟨Z, hZ⟩ : ∃ Z, Z = robotsP f := ⟨_, rfl⟩
  rw [← hZ]
  unfold robotsP at hZ
  obtain ⟨b, hb⟩ : ∃ b, rightB f = b := ⟨_, rfl⟩
  have HRT := Lib.hid (qright_at f hsz b hb)
  obtain ⟨X, Y, s⟩ := f
  simp only at hsz hZ
  obtain ⟨n, hn⟩ : ∃ n, n = s.size := ⟨_, rfl⟩
  have hnI : ((s.size : Nat) : Int) = (n : Int) := by omega
  have HN := Lib.hid hn
  rw [← hn] at hZ
  have HS := Lib.hid (show b = true → n ≤ 256 from fun h => by rw [hn]; exact (rightB_iff.1 (hb.trans h)).s256)
  have HZ := Lib.hid (show Z = if b = true then (docksP s n).length else 0 by rw [hZ, hb])
  unfold Flr.val at HRT ⊢
  simp only at HRT ⊢
  clear hb hZ hn
  go_enter Tryd.func19, Tryd.ntmps19
  have B0 := Lib.hid HBX.out
  go_wp2_with fail
  go_loopg [3, 4] (n + 1) (fun g2 cv kk wx => ∃ k d : Nat, g2 = n + 1 - k ∧ kk = .int .i64 k ∧ k ≤ n ∧ cv = .int .i64 d ∧ d = (docksP s k).length ∧ BxW (Flr.mk X Y s) w.heap.size w wx ∧ (0 < k → b = true))
  case atStart => exact ⟨0, 0, rfl, rfl, by omega, rfl, rfl, B0.out, fun h => by omega⟩
  case round =>
    obtain ⟨k, d, hgk, rfl, hk, rfl, hd, bx, hb⟩ := hrel
    have BX := Lib.hid bx; have HD := Lib.hid hd; have HB := Lib.hid hb
    have hb0 : wr.cell? ⟨w.heap.size, 0, none⟩ = some (.int .i64 X) := bx.c0
    have hb1 : wr.cell? ⟨w.heap.size, 1, none⟩ = some (.int .i64 Y) := bx.c1
    have hb2 : wr.cell? ⟨w.heap.size, 2, none⟩ = some (.string s) := bx.c2
    have hdk : d ≤ k := by rw [hd]; exact docksP_le s k
    clear bx hd hb
    by_cases hlt : k < n
    · have hltI : (k : Int) < (n : Int) := by omega
      cases b with
      | false =>
        have hk0 : k = 0 := by
          rcases Nat.eq_zero_or_pos k with h | h
          · exact h
          · exact absurd (HB.out h) (by simp)
        have HE := Lib.hid (show d = Z by rw [HZ.out, HD.out, hk0]; rfl)
        clear hlt hk0
        go_wp2_with fail
        refine (HRT.out _).mono ?_
        rintro e w1 ⟨rfl, kp1⟩
        have KP := Lib.hid (BX.out.kp.no kp1)
        clear kp1 hb0 hb1 hb2
        go_wp2_with fail
        go_ret
        exact ⟨by rw [← HE.out]; rfl, KP.out⟩
      | true =>
        have hn256 := HS.out rfl
        have hwk : IntKind.i64.wrap ((k : Int) + 1) = (k : Int) + 1 := IntWalk.i64_in _ (by omega)
        have hwd : IntKind.i64.wrap ((d : Int) + 1) = (d : Int) + 1 := IntWalk.i64_in _ (by omega)
        have hks : k < s.size := by have := HN.out; omega
        have hbt := bt_at s k
        obtain ⟨B, hB⟩ : ∃ B, B = bt s k := ⟨_, rfl⟩
        rw [← hB] at hbt
        obtain ⟨t, ht⟩ : ∃ t, t = (kindB B == 3) := ⟨_, rfl⟩
        have QD := Lib.hid (fun w => qdock_any B t ht w)
        have hK : kdS s k = kindB B := by rw [hB]; rfl
        go_wp2_with fail
        refine (HRT.out _).mono ?_
        rintro e w1 ⟨rfl, kp1⟩
        have B1 := Lib.hid (BX.out.no kp1)
        clear hb0 hb1 hb2
        have hb2 : w1.cell? ⟨w.heap.size, 2, none⟩ = some (.string s) := B1.out.c2
        clear kp1
        cases t with
        | true =>
          have HP := Lib.hid (docksP_in (s := s) (k := k) (by rw [hK]; simpa using ht.symm))
          clear ht hB hK hlt hks
          go_wp2_with (go_at_call 36; refine (QD.out _).mono ?_; rintro e wz ⟨rfl, rfl⟩)
          go_roundg (n + 1 - (k + 1))
          case measure => omega
          case rel => exact ⟨k + 1, d + 1, rfl, by go_num, by omega, by go_num, by rw [HP.out, List.length_append, ← HD.out]; rfl, B1.out, by simp⟩
        | false =>
          have HP := Lib.hid (docksP_out (s := s) (k := k) (by rw [hK]; simpa using ht))
          clear ht hB hK hlt hks
          go_wp2_with (go_at_call 36; refine (QD.out _).mono ?_; rintro e wz ⟨rfl, rfl⟩)
          go_roundg (n + 1 - (k + 1))
          case measure => omega
          case rel => exact ⟨k + 1, d, rfl, by go_num, by omega, rfl, by rw [HP.out]; exact HD.out, B1.out, by simp⟩
    · obtain rfl : k = n := by omega
      have hd0 : ¬ (k : Int) < (k : Int) := by omega
      have HE := Lib.hid (show d = Z by
        rw [HZ.out, HD.out]
        cases b with
        | true => rw [if_pos rfl]
        | false =>
          rcases Nat.eq_zero_or_pos k with h | h
          · rw [h]; rfl
          · exact absurd (HB.out h) (by simp))
      clear hlt
      go_wp2_with fail
      go_ret
      exact ⟨by rw [← HE.out]; rfl, BX.out.kp⟩

set_option maxHeartbeats 1000000 in
set_option maxRecDepth 100000 in
theorem qlanes_any (f : Flr) (hsz : f.s.size ≤ 9223372036854775807) (w : World) :
    Calls Tryd.prog 23 #[f.val] w fun e w' => ∃ v, e = .returned v ∧ NewS IK 3 w w' v (ints (lanesP f)) := by
  have HBX := Lib.hid (BxW.new f w)
  obtain ⟨Z, hZ⟩ : ∃ Z, Z = lanesP f := ⟨_, rfl⟩
  rw [← hZ]
  unfold lanesP at hZ
  obtain ⟨b, hb⟩ : ∃ b, rightB f = b := ⟨_, rfl⟩
  have HRT := Lib.hid (qright_at f hsz b hb)
  obtain ⟨X, Y, s⟩ := f
  simp only at hsz hZ
  obtain ⟨n, hn⟩ : ∃ n, n = s.size := ⟨_, rfl⟩
  have hnI : ((s.size : Nat) : Int) = (n : Int) := by omega
  have HN := Lib.hid hn
  rw [← hn] at hZ
  have HS := Lib.hid (show b = true → n ≤ 256 from fun h => by rw [hn]; exact (rightB_iff.1 (hb.trans h)).s256)
  have HZ := Lib.hid (show Z = if b = true then lanesTo s n else [] by rw [hZ, hb])
  unfold Flr.val at HRT ⊢
  simp only at HRT ⊢
  clear hb hZ hn
  go_enter Tryd.func23, Tryd.ntmps23
  obtain ⟨w0, hw0⟩ : ∃ w0, w0 = w.alloc (.cells #[.int .i64 X, .int .i64 Y, .string s] 24) := ⟨_, rfl⟩
  have B0 := Lib.hid (show BxW (Flr.mk X Y s) w.heap.size w w0 by rw [hw0]; exact HBX.out)
  go_wp2_with fail
  rw [← hw0]
  clear hw0 HBX
  go_loopg [3, 4] (n + 1) (fun g2 cv kk wx => ∃ (k m : Nat) (A : Option Addr) (q : Nat), g2 = n + 1 - k ∧ kk = .int .i64 k ∧ k ≤ n ∧ cv = .slice A m q ∧ m = (lanesTo s k).length ∧ NewS IK 3 w0 wx cv (ints (lanesTo s k)) ∧ (0 < k → b = true))
  case atStart => exact ⟨0, 0, none, 0, rfl, rfl, by omega, rfl, rfl, NewS.nil _ _ _, fun h => by omega⟩
  case round =>
    obtain ⟨k, m, A, q, hgk, rfl, hk, rfl, hm, ns, hb⟩ := hrel
    have NS := Lib.hid ns; have HM := Lib.hid hm; have HB := Lib.hid hb
    have BX := Lib.hid (B0.out.no ns.kp)
    have hb0 : wr.cell? ⟨w.heap.size, 0, none⟩ = some (.int .i64 X) := BX.out.c0
    have hb1 : wr.cell? ⟨w.heap.size, 1, none⟩ = some (.int .i64 Y) := BX.out.c1
    have hb2 : wr.cell? ⟨w.heap.size, 2, none⟩ = some (.string s) := BX.out.c2
    have hdk : m ≤ k := by rw [hm]; exact lanesTo_len s k
    clear ns hm hb
    by_cases hlt : k < n
    · have hltI : (k : Int) < (n : Int) := by omega
      cases b with
      | false =>
        have hk0 : k = 0 := by
          rcases Nat.eq_zero_or_pos k with h | h
          · exact h
          · exact absurd (HB.out h) (by simp)
        have HE := Lib.hid (show lanesTo s k = Z by rw [HZ.out, hk0]; rfl)
        clear hlt hk0
        go_wp2_with fail
        refine (HRT.out _).mono ?_
        rintro e w1 ⟨rfl, kp1⟩
        have N1 := Lib.hid (NS.out.kpNo kp1)
        clear kp1 hb0 hb1 hb2
        go_wp2_with fail
        go_ret
        exact ⟨_, rfl, by rw [← HE.out]; exact N1.out.from_ B0.out.kp⟩
      | true =>
        have hn256 := HS.out rfl
        have hwk : IntKind.i64.wrap ((k : Int) + 1) = (k : Int) + 1 := IntWalk.i64_in _ (by omega)
        have hks : k < s.size := by have := HN.out; omega
        have hbt := bt_at s k
        obtain ⟨B, hB⟩ : ∃ B, B = bt s k := ⟨_, rfl⟩
        rw [← hB] at hbt
        obtain ⟨t, ht⟩ : ∃ t, t = (kindB B == 2) := ⟨_, rfl⟩
        have QL := Lib.hid (fun w => qlane_any B t ht w)
        have hK : kdS s k = kindB B := by rw [hB]; rfl
        go_wp2_with fail
        refine (HRT.out _).mono ?_
        rintro e w1 ⟨rfl, kp1⟩
        have B1 := Lib.hid (BX.out.no kp1)
        have N1 := Lib.hid (NS.out.kpNo kp1)
        clear hb0 hb1 hb2
        have hb2 : w1.cell? ⟨w.heap.size, 2, none⟩ = some (.string s) := B1.out.c2
        clear kp1
        cases t with
        | true =>
          have HP := Lib.hid (lanesTo_in (s := s) (k := k) (by rw [hK]; simpa using ht.symm))
          clear ht hB hK hlt hks
          go_wp2_with (first | (go_at_call 37; refine (QL.out _).mono ?_; rintro e wz ⟨rfl, hwz⟩; rw [hwz]; clear hwz) | (at_builtin; refine wpl_snocI rfl (.tmp 21) (.tmp 23) rfl rfl rfl rfl N1.out HM.out (by omega) ?_; intro A2 q2 w4 n4 k4 _; have N4 := Lib.hid n4; clear n4 k4))
          go_roundg (n + 1 - (k + 1))
          case measure => omega
          case rel => exact ⟨k + 1, m + 1, A2, q2, rfl, by go_num, by omega, rfl, by rw [HP.out, List.length_append, ← HM.out]; rfl, by rw [HP.out]; exact N4.out, by simp⟩
        | false =>
          have HP := Lib.hid (lanesTo_out (s := s) (k := k) (by rw [hK]; simpa using ht))
          clear ht hB hK hlt hks
          go_wp2_with (go_at_call 37; refine (QL.out _).mono ?_; rintro e wz ⟨rfl, hwz⟩; rw [hwz]; clear hwz)
          go_roundg (n + 1 - (k + 1))
          case measure => omega
          case rel => exact ⟨k + 1, m, A, q, rfl, by go_num, by omega, rfl, by rw [HP.out]; exact HM.out, by rw [HP.out]; exact N1.out, by simp⟩
    · obtain rfl : k = n := by omega
      have hd0 : ¬ (k : Int) < (k : Int) := by omega
      have HE := Lib.hid (show lanesTo s k = Z by
        rw [HZ.out]
        cases b with
        | true => rw [if_pos rfl]
        | false =>
          rcases Nat.eq_zero_or_pos k with h | h
          · rw [h]; rfl
          · exact absurd (HB.out h) (by simp))
      clear hlt
      go_wp2_with fail
      go_ret
      exact ⟨_, rfl, by rw [← HE.out]; exact NS.out.from_ B0.out.kp⟩
end Go.Proofs.YtolkkinophklcaaDoor
