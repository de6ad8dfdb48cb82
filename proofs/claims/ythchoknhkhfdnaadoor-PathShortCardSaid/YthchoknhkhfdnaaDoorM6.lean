/- carfaxref03.Robots, Dock, Zone, Near, Lanes; carfaxref05: the map in memory; in, open; carfaxref05: Steps; path, plain: the search by levels. No function of the program; carfaxref05: Map.Dist; carfaxref05: Of, what it holds in memory; carfaxref05: Of; carfaxref05, plain: how far a cell on the way is. No function of the program; path, plain: ways reckoned by hand. No function of the program; The floor of carfaxlaw05.shown (written by bin/gen_pts.py); carfaxref05: far, Map.Find. No condition. -/
import Derived.Test.YthchoknhkhfdnaaDoorM5
import Derived.Test.YthchoknhkhfdnaaDoorM4
import Derived.Test.YthchoknhkhfdnaaDoorM3
import Derived.Deep.RegionLaw
import Derived.Deep.CutBlock
import Derived.Deep.DeepCutAuto
import Derived.Deep.Cut
import Derived.Deep.CutRange

namespace Go.Proofs.YthchoknhkhfdnaaDoor
set_option linter.unusedVariables false
set_option linter.unusedSimpArgs false
open Go.RowKit

theorem qright_at (f : Flr) (hsz : f.s.size ≤ 9223372036854775807) (b : Bool) (hb : rightB f = b) (w : World) : Calls Tryd.prog 44 #[f.val] w fun e w' => e = .returned (.bool b) ∧ Kp No w w' := by
  subst hb; exact qright_any f hsz w
theorem right_kd {f : Flr} (hb : rightB f = true) {i : Nat} (hi : i < f.s.size) : kdS f.s i = 1 ∨ kdS f.s i = 2 ∨ kdS f.s i = 3 := by
  have h1 := (rightB_iff.1 hb).kinds i hi
  have h2 : kdS f.s i ≤ 3 := kindB_le _
  omega
theorem nearP_eq {f : Flr} {j W H : Nat} (hb : rightB f = true) (hj : j < f.s.size) (hW : f.W = W) (hH : f.H = H) (hk : kdS f.s j ≠ 1) : nearP f j = nearTo f.s W H j (besideP W H j).length := by
  unfold nearP nearTo
  rw [List.take_length, hW, hH, if_pos]
  · simp
  · rcases right_kd hb hj with h | h | h
    · exact absurd h hk
    · exact .inl (isB_iff.2 ⟨by omega, by omega, by simp [h], rightB_iff.1 hb⟩)
    · exact .inr (isB_iff.2 ⟨by omega, by omega, by simp [h], rightB_iff.1 hb⟩)
theorem nearP_no {f : Flr} {c : Int} (h : ¬ (0 ≤ c ∧ c < f.s.size ∧ rightB f = true ∧ kdS f.s c.toNat ≠ 1)) : nearP f c = [] := by
  unfold nearP
  rw [if_neg]
  rintro (h1 | h1)
  all_goals
    obtain ⟨h2, h3, h4, h5⟩ := isB_iff.1 h1
    exact h ⟨h2, h3, rightB_iff.2 h5, by omega⟩

set_option maxHeartbeats 1000000 in
set_option maxRecDepth 100000 in
theorem qnear_any (f : Flr) (hsz : f.s.size ≤ 9223372036854775807) (c : Int) (hc : c ≤ 9223372036854775807) (w : World) :
    Calls Tryd.prog 46 #[f.val, .int .i64 c] w fun e w' => ∃ v, e = .returned v ∧ NewS IK 3 w w' v (ints (nearP f c)) := by
  have HBX := Lib.hid (BxW.new f w)
  obtain ⟨N, hN⟩ : ∃ N, N = nearP f c := ⟨_, rfl⟩
  rw [← hN]
  have NIL := fun (w' : World) (h : Kp No w w') => (⟨Own.nil _ _ _, by simp [Value.ownBlock], h⟩ : NewS IK 3 w w' (.slice none 0 0) (ints []))
  obtain ⟨n, hn⟩ : ∃ n, n = f.s.size := ⟨_, rfl⟩
  have hnI : ((f.s.size : Nat) : Int) = (n : Int) := by omega
  have HSN := Lib.hid hn
  obtain ⟨b, hb⟩ : ∃ b, rightB f = b := ⟨_, rfl⟩
  have HRT := Lib.hid (qright_at f hsz b hb)
  have HNIL := Lib.hid NIL
  clear NIL
  by_cases h0 : c < 0
  · have HE := Lib.hid (show N = [] by rw [hN]; exact nearP_no (by omega))
    unfold Flr.val
    clear hb hN hn hsz
    go_enter Tryd.func46, Tryd.ntmps46
    go_wp2_with fail
    go_ret
    exact ⟨_, rfl, by rw [HE.out]; exact HNIL.out _ HBX.out.kp⟩
  obtain ⟨j, rfl⟩ : ∃ j : Nat, c = j := ⟨c.toNat, by omega⟩
  have h0b : ¬ ((j : Int) < 0) := by omega
  by_cases h1 : n ≤ j
  · have HE := Lib.hid (show N = [] by rw [hN]; exact nearP_no (by omega))
    have h1I : (n : Int) ≤ (j : Int) := by omega
    unfold Flr.val
    clear hb hN hn hsz h0
    go_enter Tryd.func46, Tryd.ntmps46
    go_wp2_with fail
    go_ret
    exact ⟨_, rfl, by rw [HE.out]; exact HNIL.out _ HBX.out.kp⟩
  have h1I : ¬ (n : Int) ≤ (j : Int) := by omega
  have h1J : (j : Int) < (n : Int) := by omega
  have hjs : j < f.s.size := by omega
  cases b with
  | false =>
    have HE := Lib.hid (show N = [] by rw [hN]; exact nearP_no (by simp [hb]))
    unfold Flr.val at HRT ⊢
    clear hb hN hn hsz h0 h1
    go_enter Tryd.func46, Tryd.ntmps46
    go_wp2_with fail
    refine (HRT.out _).mono ?_
    rintro e w1 ⟨rfl, kp1⟩
    have KP := Lib.hid (HBX.out.kp.no kp1)
    clear kp1
    go_wp2_with fail
    go_ret
    exact ⟨_, rfl, by rw [HE.out]; exact HNIL.out _ KP.out⟩
  | true =>
    have hbt := bt_at f.s j
    obtain ⟨B, hB⟩ : ∃ B, B = bt f.s j := ⟨_, rfl⟩
    rw [← hB] at hbt
    by_cases h35 : B = 35
    · have h35b : ((B : Int) == 35) = true := by simp [h35]
      have HE := Lib.hid (show N = [] by
        rw [hN]; refine nearP_no ?_
        rintro ⟨_, _, _, h⟩
        exact h (show kindB (bt f.s j) = 1 by rw [← hB, h35]; rfl))
      unfold Flr.val at HRT ⊢
      clear hb hN hn hsz h0 h1 h35 hB
      go_enter Tryd.func46, Tryd.ntmps46
      go_wp2_with fail
      refine (HRT.out _).mono ?_
      rintro e w1 ⟨rfl, kp1⟩
      have B1 := Lib.hid (HBX.out.no kp1)
      have hb2 := B1.out.c2
      clear kp1
      go_wp2_with fail
      go_ret
      exact ⟨_, rfl, by rw [HE.out]; exact HNIL.out _ B1.out.kp⟩
    · have h35b : ((B : Int) == 35) = false := by simp; omega
      obtain ⟨W, H, j', ix⟩ : ∃ W H j' : Nat, NIdx f (j : Int) W H j' := by
        rcases right_kd hb hjs with h | h | h
        · exact absurd (kd_wall h) (by rw [← hB]; exact h35)
        · exact isB_idx (k := 2) (isB_iff.2 ⟨by omega, by omega, by simp [h], rightB_iff.1 hb⟩)
        · exact isB_idx (k := 3) (isB_iff.2 ⟨by omega, by omega, by simp [h], rightB_iff.1 hb⟩)
      obtain ⟨hW1, hW, hH1, hH, hfW, hfH, hs, hcj, hjl⟩ := ix
      obtain rfl : j = j' := by omega
      have hN' : N = nearTo f.s W H j (besideP W H j).length := by
        rw [hN]
        exact nearP_eq hb hjs hfW hfH (fun e => h35 (by rw [hB]; exact kd_wall e))
      obtain ⟨X, Y, s⟩ := f
      simp only at hfW hfH hs hN' hjs hn hnI hbt
      subst hfW hfH
      unfold Flr.val at HRT ⊢
      simp only at HRT ⊢
      have HS := Lib.hid hs
      have HN := Lib.hid hN'
      have HJL := Lib.hid hjl
      clear hN' hN hb hs hsz hjl hn h0 h1 h35 hB hcj
      go_enter Tryd.func46, Tryd.ntmps46
      go_wp2_with fail
      refine (HRT.out _).mono ?_
      rintro e w1 ⟨rfl, kp1⟩
      have B1 := Lib.hid (HBX.out.no kp1)
      have hb0 : w1.cell? ⟨w.heap.size, 0, none⟩ = some (.int .i64 (W : Int)) := B1.out.c0
      have hb1 : w1.cell? ⟨w.heap.size, 1, none⟩ = some (.int .i64 (H : Int)) := B1.out.c1
      have hb2 : w1.cell? ⟨w.heap.size, 2, none⟩ = some (.string s) := B1.out.c2
      clear kp1
      go_wp2_with fail
      refine (qbeside_any W H j s hW1 hW hH1 hH HJL.out _).mono ?_
      rintro e w3 ⟨vB, rfl, nb⟩
      obtain ⟨AB, qB, rfl⟩ := nb.own.rd.shape
      rw [ints_len] at nb ⊢
      obtain ⟨nB, hnB⟩ : ∃ nB, nB = (besideP W H j).length := ⟨_, rfl⟩
      have hB4 : nB ≤ 4 := by rw [hnB]; exact besideP_len W H j
      rw [← hnB] at nb ⊢
      have HNB := Lib.hid hnB
      have B3 := Lib.hid (B1.out.no nb.kp); have OB := Lib.hid nb.own
      clear nb hnB hb0 hb1 hb2 hbt hjs h1I h1J h35b
      go_wp2_with fail
      go_loopg [5, 7] (nB + 1) (fun g2 v ii wx => ∃ (i m : Nat) (A : Option Addr) (q : Nat), g2 = nB + 1 - i ∧ ii = .int .i64 i ∧ i ≤ nB ∧ v = .slice A m q ∧ m = (nearTo s W H j i).length ∧ NewS IK 3 w3 wx v (ints (nearTo s W H j i)))
      case atStart => exact ⟨0, 0, none, 0, rfl, rfl, by omega, rfl, rfl, NewS.nil _ _ _⟩
      case round =>
        obtain ⟨i, m, A, q, hgi, rfl, hi, rfl, hm, ns⟩ := hrel
        have hm4 : m ≤ 4 := by rw [hm]; exact nearTo_len s W H j i
        have HM := Lib.hid hm; have NS := Lib.hid ns
        clear hm ns
        by_cases hlt : i < nB
        · have hltI : (i : Int) < (nB : Int) := by omega
          have hwi : IntKind.i64.wrap ((i : Int) + 1) = (i : Int) + 1 := IntWalk.i64_in _ (by omega)
          obtain ⟨x, hx⟩ : ∃ x, (besideP W H j)[i]? = some x := ⟨_, List.getElem?_eq_getElem (by rw [← HNB.out]; exact hlt)⟩
          have hxs : x < s.size := by rw [HS.out]; exact beside_lt hW1 HJL.out (List.mem_of_getElem? hx)
          have hxsI : (x : Int) < ((s.size : Nat) : Int) := by omega
          have hxn : (x : Int) < (n : Int) := by omega
          rcases OB.out.b with ⟨hv, _⟩ | ⟨gB, capB, hv, _, _, _⟩
          · simp only [Value.slice.injEq] at hv; omega
          simp only [Value.slice.injEq] at hv
          obtain ⟨rfl, hzz, rfl⟩ := hv
          clear hzz
          have hcb : wr.cell? ⟨gB, i, none⟩ = some (.int .i64 (x : Int)) := by have := (OB.out.kpNo NS.out.kp).rd.intAt (ints_get hx); simpa using this
          have hcB : ∀ k, (wr.drewN k).cell? ⟨gB, i, none⟩ = some (.int .i64 (x : Int)) := fun k => hcb
          have hb2 : wr.cell? ⟨w.heap.size, 2, none⟩ = some (.string s) := (B3.out.no NS.out.kp).c2
          have hbt := bt_at s x
          obtain ⟨B2, hB⟩ : ∃ B, B = bt s x := ⟨_, rfl⟩
          rw [← hB] at hbt
          by_cases h35 : B2 = 35
          · have h35b : ((B2 : Int) != 35) = false := by simp [h35]
            have HL := Lib.hid (nearTo_out hx (s := s) (show kindB (bt s x) = 1 by rw [← hB, h35]; rfl))
            clear hx hB h35 hlt hxs
            go_wp2_with fail
            go_quiet (fail)
            go_wp2_with fail
            go_roundg (nB + 1 - (i + 1))
            case measure => omega
            case rel => exact ⟨i + 1, m, A, q, rfl, by go_num, by omega, rfl, by rw [HL.out]; exact HM.out, by rw [HL.out]; exact NS.out.kpNo ((Kp.refl _ _).drewN _)⟩
          · have h35b : ((B2 : Int) != 35) = true := by simp; omega
            have HL := Lib.hid (nearTo_in hx (s := s) (show kindB (bt s x) ≠ 1 from fun e => h35 (by rw [hB]; exact kd_wall e)))
            have NS2 := Lib.hid (fun k => NS.out.kpNo ((Kp.refl _ wr).drewN k))
            clear hx hB h35 hlt hxs
            go_wp2_with fail
            go_quiet (fail)
            go_wp2_with (at_builtin; refine wpl_snocI rfl (.tmp 46) (.tmp 51) rfl rfl rfl rfl (NS2.out _) HM.out (by omega) ?_; intro A2 q2 w4 n4 k4 _; have N4 := Lib.hid n4; clear n4 k4 hcb hb2 hcB)
            go_roundg (nB + 1 - (i + 1))
            case measure => omega
            case rel => exact ⟨i + 1, m + 1, A2, q2, rfl, by go_num, by omega, rfl, by rw [HL.out, List.length_append, ← HM.out]; rfl, by rw [HL.out]; exact N4.out⟩
        · obtain rfl : i = nB := by omega
          have hd0 : ¬ (i : Int) < (i : Int) := by omega
          have HL := Lib.hid (show N = nearTo s W H j i by rw [HN.out, ← HNB.out])
          clear hlt
          go_wp2_with fail
          go_ret
          exact ⟨_, rfl, by rw [HL.out]; exact NS.out.from_ B3.out.kp⟩

theorem qzone_any (f : Flr) (hsz : f.s.size ≤ 9223372036854775807) (c : Int) (hc : c ≤ 9223372036854775807) (w : World) :
    Calls Tryd.prog 45 #[f.val, .int .i64 c] w fun e w' => e = .returned (ZVal (zoneP f c)) ∧ Kp No w w' := by
  have HBX := Lib.hid (BxW.new f w)
  obtain ⟨Z, hZ⟩ : ∃ N, N = zoneP f c := ⟨_, rfl⟩
  rw [← hZ]
  unfold zoneP at hZ
  obtain ⟨n, hn⟩ : ∃ n, n = f.s.size := ⟨_, rfl⟩
  have hnI : ((f.s.size : Nat) : Int) = (n : Int) := by omega
  obtain ⟨b, hb⟩ : ∃ b, rightB f = b := ⟨_, rfl⟩
  have HRT := Lib.hid (qright_at f hsz b hb)
  by_cases h0 : c < 0
  · have HE := Lib.hid (show Z = none by rw [hZ, if_neg (fun h => by have := (isB_iff.1 h).1; omega)])
    unfold Flr.val
    clear hb hZ hn hsz
    go_enter Tryd.func45, Tryd.ntmps45
    go_wp2_with fail
    go_ret2
    exact ⟨by rw [HE.out]; rfl, HBX.out.kp⟩
  obtain ⟨j, rfl⟩ : ∃ j : Nat, c = j := ⟨c.toNat, by omega⟩
  have h0b : ¬ ((j : Int) < 0) := by omega
  by_cases h1 : n ≤ j
  · have HE := Lib.hid (show Z = none by rw [hZ, if_neg (fun h => by have := (isB_iff.1 h).2.1; omega)])
    have h1I : (n : Int) ≤ (j : Int) := by omega
    unfold Flr.val
    clear hb hZ hn hsz h0
    go_enter Tryd.func45, Tryd.ntmps45
    go_wp2_with fail
    go_ret2
    exact ⟨by rw [HE.out]; rfl, HBX.out.kp⟩
  have h1I : ¬ (n : Int) ≤ (j : Int) := by omega
  have h1J : (j : Int) < (n : Int) := by omega
  have hjs : j < f.s.size := by omega
  cases b with
  | false =>
    have HE := Lib.hid (show Z = none by rw [hZ, if_neg (fun h => by have := (isB_iff.1 h).2.2.2; rw [← rightB_iff, hb] at this; simp at this)])
    unfold Flr.val at HRT ⊢
    clear hb hZ hn hsz h0 h1
    go_enter Tryd.func45, Tryd.ntmps45
    go_wp2_with fail
    refine (HRT.out _).mono ?_
    rintro e w1 ⟨rfl, kp1⟩
    have KP := Lib.hid (HBX.out.kp.no kp1)
    clear kp1
    go_wp2_with fail
    go_ret2
    exact ⟨by rw [HE.out]; rfl, KP.out⟩
  | true =>
    have hbt := bt_at f.s j
    obtain ⟨B, hB⟩ : ∃ B, B = bt f.s j := ⟨_, rfl⟩
    rw [← hB] at hbt
    obtain ⟨t, ht⟩ : ∃ t, t = (kindB B == 2) := ⟨_, rfl⟩
    have QL := Lib.hid (fun w => qlane_any B t ht w)
    have hK : kdS f.s j = kindB B := by rw [hB]; rfl
    cases t with
    | false =>
      have HE := Lib.hid (show Z = none by
        rw [hZ, if_neg (fun h => by have := (isB_iff.1 h).2.2.1; simp [hK] at this; simp at ht; omega)])
      unfold Flr.val at HRT ⊢
      clear hb hZ hn hsz h0 h1 hB ht hK
      go_enter Tryd.func45, Tryd.ntmps45
      go_wp2_with fail
      refine (HRT.out _).mono ?_
      rintro e w1 ⟨rfl, kp1⟩
      have B1 := Lib.hid (HBX.out.no kp1)
      have hb2 := B1.out.c2
      clear kp1
      go_wp2_with (go_at_call 62; refine (QL.out _).mono ?_; rintro e wz ⟨rfl, rfl⟩)
      go_ret2
      exact ⟨by rw [HE.out]; rfl, B1.out.kp⟩
    | true =>
      have h2 : kindB B = 2 := by simpa using ht.symm
      have hl := kd_lane h2
      have HE := Lib.hid (show Z = some (B - 97) by
        rw [hZ, if_pos (isB_iff.2 ⟨by omega, by omega, by simp [hK, h2], rightB_iff.1 hb⟩), hB]; simp)
      have hsub : IntKind.u8.wrap ((B : Int) - 97) = ((B - 97 : Nat) : Int) := by rw [IntWalk.u8_in _ (by omega)]; omega
      obtain ⟨q, hq⟩ : ∃ q, q = B - 97 := ⟨_, rfl⟩
      rw [← hq] at hsub HE
      have hcv : IntKind.i64.wrap (q : Int) = (q : Int) := IntWalk.i64_in _ (by omega)
      have hq25 : q ≤ 25 := by omega
      unfold Flr.val at HRT ⊢
      clear hb hZ hn hsz h0 h1 hB ht hK hq hl h2
      go_enter Tryd.func45, Tryd.ntmps45
      go_wp2_with fail
      refine (HRT.out _).mono ?_
      rintro e w1 ⟨rfl, kp1⟩
      have B1 := Lib.hid (HBX.out.no kp1)
      have hb2 := B1.out.c2
      clear kp1
      go_wp2_with (go_at_call 62; refine (QL.out _).mono ?_; rintro e wz ⟨rfl, rfl⟩)
      go_ret2
      exact ⟨by rw [HE.out]; rfl, B1.out.kp⟩

/-- A loop over all cells, as long as the floor is right: of one that is not right no round. -/
theorem docksP_le (s : ByteArray) (k : Nat) : (docksP s k).length ≤ k := by unfold docksP; exact Nat.le_trans (List.length_filter_le _ _) (by simp)

end Go.Proofs.YthchoknhkhfdnaaDoor

namespace Go.Proofs.YthchoknhkhfdnaaDoor
set_option linter.unusedVariables false
set_option linter.unusedSimpArgs false
open Go.RowKit

noncomputable def mpN (f : Flr) : Nat := if rightB f = true then f.s.size else 0
def opL (f : Flr) (n : Nat) : List Bool := (List.range n).map fun i => bt f.s i != 35
theorem opL_len (f : Flr) (n : Nat) : (opL f n).length = n := by simp [opL]
theorem opL_get {f : Flr} {n i : Nat} (h : i < n) : (opL f n)[i]? = some (bt f.s i != 35) := by simp [opL, List.getElem?_range h]
/-- A reference's map. -/
structure MpC where
  A1 : Option Addr
  q1 : Nat
  A2 : Option Addr
  q2 : Nat
  A3 : Option Addr
  q3 : Nat
def MpC.val (M : MpC) (n : Nat) : Value := .agg #[.slice M.A1 n M.q1, .slice M.A2 n M.q2, .slice M.A3 n M.q3]
structure MpW (f : Flr) (n : Nat) (M : MpC) (Vs : List SlC) (w : World) : Prop where
  hn : n = mpN f
  nr : Rd SvK w (.slice M.A1 n M.q1) Vs
  ln : Rd BoK w (.slice M.A2 n M.q2) (lnB f n n)
  op : Rd BoK w (.slice M.A3 n M.q3) (opL f n)
  len : Vs.length = n
  rd : ∀ (i : Nat) v, Vs[i]? = some v → Rd IK w (slv v) (ints (nearP f i))
theorem MpW.no {f : Flr} {n : Nat} {M : MpC} {Vs : List SlC} {w w' : World} (h : MpW f n M Vs w) (hk : Kp No w w') : MpW f n M Vs w' := ⟨h.hn, h.nr.kpNo hk, h.ln.kpNo hk, h.op.kpNo hk, h.len, fun i v hv => (h.rd i v hv).kpNo hk⟩
theorem Rd.one {α : Type} {K : Kd α} {enc : α → Value} (hK : K1 K enc) {w : World} {l : List α} {g o n cap : Nat} (h : Rd K w (.slice (some ⟨g, o, none⟩) n cap) l) {i : Nat} {x : α} (hx : l[i]? = some x) : w.cell? ⟨g, o + i, none⟩ = some (enc x) := by
  have := h.at rfl hx (j := 0) (u := enc x) (by rw [hK.enc]; rfl)
  rwa [hK.sz, Nat.mul_one, Nat.add_zero] at this
theorem Rd.some_ {α : Type} {K : Kd α} {w : World} {l : List α} {A : Option Addr} {n cap : Nat} (h : Rd K w (.slice A n cap) l) (hn : 0 < n) : ∃ g o, A = some ⟨g, o, none⟩ := by
  rcases h with ⟨⟨A', c, hv⟩, _⟩ | ⟨g, o, c, hv, _⟩
  · simp only [Value.slice.injEq] at hv; omega
  · simp only [Value.slice.injEq] at hv; exact ⟨g, o, hv.1⟩

set_option maxRecDepth 100000 in
theorem q5in_any {w : World} {v : Value} {l : List Int} (hv : Rd IK w v l) (x : Int) (b : Bool) (hb : b = decide (x ∈ l)) :
    Calls Tryd.prog 34 #[.int .i64 x, v] w fun e w' => e = .returned (.bool b) ∧ Kp No w w' := by
  have hl := hv.lenI
  obtain ⟨A, c, rfl⟩ := hv.shape
  obtain ⟨n, hn⟩ : ∃ n, n = l.length := ⟨_, rfl⟩
  rw [← hn] at hv hl ⊢
  have H := Lib.hid hv; have HN := Lib.hid hn; have HB := Lib.hid hb
  unfold maxLen at hl
  clear hv hn hb
  go_enter Tryd.func34, Tryd.ntmps34
  go_wp2_with fail
  go_loopg [5] (n + 1) (fun g_ iv wx => ∃ i : Nat, g_ = n + 1 - i ∧ iv = .int .i64 i ∧ i ≤ n ∧ (∀ y ∈ l.take i, y ≠ x) ∧ Kp No w wx)
  case atStart => exact ⟨0, rfl, rfl, by omega, by simp, Kp.refl _ _⟩
  case round =>
    obtain ⟨i, hg, rfl, hi, hno, kp⟩ := hrel
    have NO := Lib.hid hno; have KP := Lib.hid kp
    clear hno kp
    by_cases hlt : i < n
    · have hltI : (i : Int) < (n : Int) := by omega
      have hwi : IntKind.i64.wrap ((i : Int) + 1) = (i : Int) + 1 := IntWalk.i64_in _ (by omega)
      obtain ⟨y, hy⟩ : ∃ y, l[i]? = some y := ⟨_, List.getElem?_eq_getElem (by rw [← HN.out]; exact hlt)⟩
      rcases H.out with ⟨_, he⟩ | ⟨g, o, cap', hv, _⟩
      · have := HN.out; rw [he, List.length_nil] at this; omega
      simp only [Value.slice.injEq] at hv
      obtain ⟨rfl, hzz, rfl⟩ := hv
      clear hzz
      have hc := (H.out.kpNo KP.out).intAt hy
      have HY := Lib.hid hy
      clear hy hlt
      by_cases hxy : y = x
      · subst hxy
        have HE := Lib.hid (show b = true by rw [HB.out, decide_eq_true_eq]; exact List.mem_of_getElem? HY.out)
        go_wp2_with fail
        go_ret
        exact ⟨by rw [HE.out]; rfl, KP.out⟩
      · have hb : (y == x) = false := by simpa using hxy
        have NO2 := Lib.hid (show ∀ z ∈ l.take (i + 1), z ≠ x from fun z hz => by
          rw [List.take_add_one, HY.out] at hz
          rcases List.mem_append.1 hz with h | h
          · exact NO.out z h
          · simp at h; subst h; exact hxy)
        clear hxy
        go_wp2_with fail
        go_roundg (n + 1 - (i + 1))
        case measure => omega
        case rel => exact ⟨i + 1, rfl, by go_num, by omega, NO2.out, KP.out⟩
    · obtain rfl : i = n := by omega
      have hd0 : ¬ (i : Int) < (i : Int) := by omega
      have HE := Lib.hid (show b = false by
        rw [HB.out, decide_eq_false_iff_not]
        intro h
        exact NO.out x (by rw [HN.out, List.take_length]; exact h) rfl)
      clear hlt
      go_wp2_with fail
      go_ret
      exact ⟨by rw [HE.out]; rfl, KP.out⟩
set_option maxRecDepth 100000 in
theorem q5open_any {f : Flr} {n : Nat} {M : MpC} {Vs : List SlC} {w : World} (h : MpW f n M Vs w) (hn : n ≤ 1000000) (c : Int) (b : Bool) (hb : ptOk f c = b) :
    Calls Tryd.prog 33 #[M.val n, .int .i64 c] w fun e w' => e = .returned (.bool b) ∧ Kp No w w' := by
  have H := Lib.hid h
  have KA := Lib.hid (show Kp No w (w.alloc (.cells #[.slice M.A1 n M.q1, .slice M.A2 n M.q2, .slice M.A3 n M.q3] 51)) from (Kp.refl _ _).alloc _)
  by_cases h0 : 0 ≤ c
  · by_cases h1 : c < n
    · obtain ⟨j, rfl⟩ : ∃ j : Nat, c = j := ⟨c.toNat, by omega⟩
      have hj : j < n := by omega
      obtain ⟨g, o, hA⟩ := h.op.some_ (by omega)
      have hop := h.op
      rw [hA] at hop
      have hcell := (hop.kpNo KA.out).one BoK1 (opL_get hj)
      have HE := Lib.hid (show (bt f.s j != 35) = b by
        rw [← hb]
        have hh := h.hn
        unfold mpN at hh
        unfold ptOk
        by_cases hr : rightB f = true
        · rw [if_pos hr] at hh
          rw [hr]
          have h3 : (j : Int) < (f.s.size : Int) := by omega
          simp [h3]
          try (intro h4; omega)
        · rw [if_neg hr] at hh; omega)
      obtain ⟨A1, q1, A2, q2, A3, q3⟩ := M
      simp only at hA
      subst hA
      unfold MpC.val
      simp only at hcell ⊢
      clear h hop hb hj KA
      have HE2 := HE.out
      obtain ⟨t, ht⟩ : ∃ t, t = (bt f.s j != 35) := ⟨_, rfl⟩
      rw [← ht] at hcell HE2
      clear ht HE H
      go_enter Tryd.func33, Tryd.ntmps33
      go_wp2_with fail
      go_ret
      exact ⟨by first | rfl | (rw [HE2]; rfl), (Kp.refl _ _).alloc _⟩
    · have HE := Lib.hid (show b = false by
        rw [← hb]
        have hh := h.hn
        unfold mpN at hh
        unfold ptOk
        by_cases hr : rightB f = true
        · rw [if_pos hr] at hh
          have h3 : ¬ c < (f.s.size : Int) := by omega
          simp [h3]
        · simp at hr; simp [hr])
      have h1b : decide (c < (n : Int)) = false := by simpa using h1
      obtain ⟨A1, q1, A2, q2, A3, q3⟩ := M
      unfold MpC.val
      clear h hb h1 KA H
      go_enter Tryd.func33, Tryd.ntmps33
      go_wp2_with fail
      go_ret
      exact ⟨by rw [HE.out]; rfl, (Kp.refl _ _).alloc _⟩
  · have HE := Lib.hid (show b = false by
      rw [← hb]; unfold ptOk; simp [h0])
    have h0b : decide (0 ≤ c) = false := by simpa using h0
    obtain ⟨A1, q1, A2, q2, A3, q3⟩ := M
    unfold MpC.val
    clear h hb h0 KA H
    go_enter Tryd.func33, Tryd.ntmps33
    go_wp2_with fail
    go_ret
    exact ⟨by rw [HE.out]; rfl, (Kp.refl _ _).alloc _⟩
end Go.Proofs.YthchoknhkhfdnaaDoor

namespace Go.Proofs.YthchoknhkhfdnaaDoor
set_option linter.unusedVariables false
set_option linter.unusedSimpArgs false
open Go.RowKit

set_option maxHeartbeats 1000000 in
set_option maxRecDepth 100000 in
theorem q5Steps_any {f : Flr} {n : Nat} {M : MpC} {Vs : List SlC} {w : World} {bv : Value} {B : List Int} (h : MpW f n M Vs w) (hn : n ≤ 1000000) (u fr : Nat) (hu : u < n) (hB : Rd IK w bv B) :
    Calls Tryd.prog 35 #[M.val n, .int .i64 (u : Int), .int .i64 (fr : Int), bv] w fun e w' => ∃ v, e = .returned v ∧ NewS IK 3 w w' v (ints (stepsP f fr B u)) := by
  have H := Lib.hid h; have HB := Lib.hid hB
  obtain ⟨N, hN⟩ : ∃ N, N = stepsP f fr B u := ⟨_, rfl⟩
  rw [← hN]
  unfold stepsP at hN
  obtain ⟨w1, hw1⟩ : ∃ w1, w1 = w.alloc (.cells #[.slice M.A1 n M.q1, .slice M.A2 n M.q2, .slice M.A3 n M.q3] 51) := ⟨_, rfl⟩
  have K1 := Lib.hid (show Kp No w w1 by rw [hw1]; exact (Kp.refl _ _).alloc _)
  have BX := Lib.hid (show w1.heap[w.heap.size]? = some (.cells #[.slice M.A1 n M.q1, .slice M.A2 n M.q2, .slice M.A3 n M.q3] 51 (0, 0)) by rw [hw1]; exact blk_new w _)
  have HW1 := Lib.hid hw1
  clear hw1
  obtain ⟨g1, o1, hA1⟩ := h.nr.some_ (by omega)
  obtain ⟨g2, o2, hA2⟩ := h.ln.some_ (by omega)
  obtain ⟨⟨AN, m, qN⟩, hv⟩ : ∃ v, Vs[u]? = some v := ⟨_, List.getElem?_eq_getElem (by rw [h.len]; exact hu)⟩
  have hrd := h.rd u _ hv
  unfold slv at hrd
  simp only at hrd
  obtain ⟨A', q', hsh⟩ := hrd.shape
  simp only [Value.slice.injEq] at hsh
  obtain ⟨rfl, hm, rfl⟩ := hsh
  rw [ints_len] at hm
  have hm4 : m ≤ 4 := by rw [hm]; exact near_len4 f u
  have hnr := h.nr; have hln := h.ln
  rw [hA1] at hnr; rw [hA2] at hln
  have CN := Lib.hid (fun wx (hk : Kp No w wx) => show wx.cell? ⟨g1, o1 + u, none⟩ = some (.slice AN m qN) from (hnr.kpNo hk).one SvK1 hv)
  obtain ⟨lb, hlb⟩ : ∃ b, b = decide (kdS f.s u = 2) := ⟨_, rfl⟩
  have hlg := lnB_get (f := f) (k := n) hu
  rw [show decide (u < n ∧ kdS f.s u = 2) = lb by rw [hlb]; simp [hu]] at hlg
  have hcl := (hln.kpNo K1.out).one BoK1 hlg
  obtain ⟨db, hdb⟩ : ∃ b, b = ((u : Int) != (fr : Int)) := ⟨_, rfl⟩
  have hdbI := hdb.symm
  have huI : (u : Int) < (n : Int) := by omega
  have HRd := Lib.hid hrd; have HM := Lib.hid hm
  obtain ⟨A1, q1, A2, q2, A3, q3⟩ := M
  simp only at hA1 hA2 BX HW1
  subst hA1 hA2
  unfold MpC.val
  simp only
  clear h hB hv hrd hnr hln hlg H hm
  by_cases hx : u ≠ fr ∧ kdS f.s u ≠ 2
  · rw [if_pos hx] at hN
    obtain rfl : lb = false := by rw [hlb]; simp [hx.2]
    obtain rfl : db = true := by rw [hdb]; simp; omega
    have HN := Lib.hid hN
    clear hN hx hlb hdb hu
    have hb1 : w1.cell? ⟨w.heap.size, 1, none⟩ = some (.slice (some ⟨g2, o2, none⟩) n q2) := blk_cell BX.out 1
    go_enter Tryd.func35, Tryd.ntmps35
    go_upto_region 1 with fail
    rw [← HW1.out]
    go_wp2_with fail
    go_ret
    exact ⟨_, rfl, by rw [HN.out]; exact ⟨Own.nil _ _ _, by simp [Value.ownBlock], K1.out⟩⟩
  · rw [if_neg hx] at hN
    have hor : db = true → lb = true := fun e => by
      rw [hdb] at e; simp at e
      have : u ≠ fr := by omega
      rw [hlb]; simp
      exact Classical.byContradiction fun h2 => hx ⟨this, h2⟩
    have HN := Lib.hid (show N = stepsTo f B u (nearP f u).length by rw [hN]; unfold stepsTo; rw [List.take_length])
    clear hx hlb hdb hN hu
    have hcase : (db = true ∧ lb = true) ∨ db = false := by
      cases db with
      | true => exact .inl ⟨rfl, hor rfl⟩
      | false => exact .inr rfl
    clear hor
    rcases hcase with ⟨rfl, rfl⟩ | rfl
    all_goals
      have hb1 : w1.cell? ⟨w.heap.size, 1, none⟩ = some (.slice (some ⟨g2, o2, none⟩) n q2) := blk_cell BX.out 1
      go_enter Tryd.func35, Tryd.ntmps35
      go_upto_region 1 with fail
      rw [← HW1.out]
      go_wp2_with fail
      clear hb1 hcl
      go_loopg [9, 10] (m + 1) (fun g_ v ii wx => ∃ (j k : Nat) (A : Option Addr) (q : Nat), g_ = m + 1 - j ∧ ii = .int .i64 j ∧ j ≤ m ∧ v = .slice A k q ∧ k = (stepsTo f B u j).length ∧ NewS IK 3 w1 wx v (ints (stepsTo f B u j)))
      case atStart => exact ⟨0, 0, none, 0, rfl, rfl, by omega, rfl, rfl, NewS.nil _ _ _⟩
      case round =>
        obtain ⟨j, k, A2, q2, hgk, rfl, hj, rfl, hk, ns⟩ := hrel
        have hk4 : k ≤ 4 := by rw [hk]; exact Nat.le_trans (stepsTo_len f B u j) (by omega)
        have HK := Lib.hid hk; have NS := Lib.hid ns
        have hb0 : wr.cell? ⟨w.heap.size, 0, none⟩ = some (.slice (some ⟨g1, o1, none⟩) n q1) := blk_cell (NS.out.kp.blk BX.out (no_no _)) 0
        have hcn := CN.out wr (K1.out.no NS.out.kp)
        clear hk ns
        by_cases hlt : j < m
        · have hltI : (j : Int) < (m : Int) := by omega
          have hwj : IntKind.i64.wrap ((j : Int) + 1) = (j : Int) + 1 := IntWalk.i64_in _ (by omega)
          obtain ⟨x, hx⟩ : ∃ x, (nearP f u)[j]? = some x := ⟨_, List.getElem?_eq_getElem (by rw [← HM.out]; exact hlt)⟩
          rcases HRd.out with ⟨_, he⟩ | ⟨g, o, cap', hv, _⟩
          · have h1 := HM.out
            have := congrArg List.length he
            rw [ints_len, List.length_nil] at this
            omega
          simp only [Value.slice.injEq] at hv
          obtain ⟨rfl, hzz, rfl⟩ := hv
          clear hzz
          have hcx := (HRd.out.kpNo (K1.out.no NS.out.kp)).intAt (ints_get hx)
          obtain ⟨bb, hb⟩ : ∃ b, b = decide ((x : Int) ∈ B) := ⟨_, rfl⟩
          have QI := Lib.hid (q5in_any (HB.out.kpNo (K1.out.no NS.out.kp)) (x : Int) bb hb)
          have HX := Lib.hid hx
          have HBB := Lib.hid hb
          clear hx hlt hb
          go_wp2_with fail
          refine QI.out.mono ?_
          rintro e w3 ⟨rfl, kp3⟩
          have N3 := Lib.hid (NS.out.kpNo kp3)
          clear kp3 hb0 hcn hcx
          cases bb with
          | true =>
            have HL := Lib.hid (stepsTo_out HX.out (by simpa using HBB.out.symm))
            go_wp2_with fail
            go_roundg (m + 1 - (j + 1))
            case measure => omega
            case rel => exact ⟨j + 1, k, A2, q2, rfl, by go_num, by omega, rfl, by rw [HL.out]; exact HK.out, by rw [HL.out]; exact N3.out⟩
          | false =>
            have HL := Lib.hid (stepsTo_in HX.out (by simpa using HBB.out.symm))
            have hb0 : w3.cell? ⟨w.heap.size, 0, none⟩ = some (.slice (some ⟨g1, o1, none⟩) n q1) := blk_cell (N3.out.kp.blk BX.out (no_no _)) 0
            have hcn := CN.out w3 (K1.out.no N3.out.kp)
            have hcx := (HRd.out.kpNo (K1.out.no N3.out.kp)).intAt (ints_get HX.out)
            go_wp2_with (at_builtin; refine wpl_snocI rfl (.tmp 43) (.tmp 52) rfl rfl rfl rfl N3.out HK.out (by omega) ?_; intro A3 q3 w4 n4 k4 _; have N4 := Lib.hid n4; clear n4 k4 hcx hcn hb0)
            go_roundg (m + 1 - (j + 1))
            case measure => omega
            case rel => exact ⟨j + 1, k + 1, A3, q3, rfl, by go_num, by omega, rfl, by rw [HL.out, List.length_append, ← HK.out]; rfl, by rw [HL.out]; exact N4.out⟩
        · obtain rfl : j = m := by omega
          have hd0 : ¬ (j : Int) < (j : Int) := by omega
          have HL := Lib.hid (show N = stepsTo f B u j by rw [HN.out, ← HM.out])
          clear hlt
          go_wp2_with fail
          go_ret
          exact ⟨_, rfl, by rw [HL.out]; exact NS.out.from_ K1.out⟩
end Go.Proofs.YthchoknhkhfdnaaDoor

namespace Go.Proofs.YthchoknhkhfdnaaDoor
set_option linter.unusedVariables false
set_option linter.unusedSimpArgs false
open Go.RowKit

/-- m levels are done; in the next one the cells ahead of i. -/
structure LvI (st : Nat → List Nat) (s n m i : Nat) (D : List Int) : Prop where
  len : D.length = n
  a : ∀ (c : Nat) d, D[c]? = some d → d = -1 ∨ ∃ k : Nat, d = k ∧ Wk st s k c ∧ k ≤ m + 1
  b : ∀ (k c : Nat), k ≤ m → Wk st s k c → ∃ k' : Nat, k' ≤ k ∧ D[c]? = some (k' : Int)
  c : ∀ (u : Nat), u < i → D[u]? = some (m : Int) → ∀ c ∈ st u, ∃ k' : Nat, k' ≤ m + 1 ∧ D[c]? = some (k' : Int)
/-- ...and of what the i-th goes to, the first j. -/
structure LvJ (st : Nat → List Nat) (s n m i j : Nat) (D : List Int) : Prop where
  v : LvI st s n m i D
  at_ : D[i]? = some (m : Int)
  p : ∀ c ∈ (st i).take j, ∃ k' : Nat, k' ≤ m + 1 ∧ D[c]? = some (k' : Int)
section
variable {st : Nat → List Nat} {s n m i j c : Nat} {D : List Int}
theorem LvI.start (hs : s < n) : LvI st s n 0 0 ((List.replicate n (-1 : Int)).set s 0) := by
  refine ⟨by simp, fun c d h => ?_, fun k c hk hw => ?_, fun u hu => by omega⟩
  · rw [List.getElem?_set, List.length_replicate] at h
    by_cases e : s = c
    · subst e; rw [if_pos rfl, if_pos hs] at h; cases h; exact .inr ⟨0, rfl, .nil, by omega⟩
    · rw [if_neg e, List.getElem?_replicate] at h
      split at h
      · cases h; exact .inl rfl
      · cases h
  · obtain rfl : k = 0 := by omega
    cases hw
    exact ⟨0, Nat.le_refl _, by simp [hs]⟩
theorem LvI.skip (h : LvI st s n m i D) (hd : D[i]? ≠ some (m : Int)) : LvI st s n m (i + 1) D :=
  ⟨h.len, h.a, h.b, fun u hu hu2 => by
    rcases Nat.lt_or_ge u i with h1 | h1
    · exact h.c u h1 hu2
    · obtain rfl : u = i := by omega
      exact absurd hu2 hd⟩
theorem LvI.into (h : LvI st s n m i D) (hd : D[i]? = some (m : Int)) : LvJ st s n m i 0 D := ⟨h, hd, fun c hc => by simp at hc⟩
theorem LvJ.skip (h : LvJ st s n m i j D) (hc : (st i)[j]? = some c) {d : Int} (hd : D[c]? = some d) (h0 : 0 ≤ d) : LvJ st s n m i (j + 1) D :=
  ⟨h.v, h.at_, fun c' hc' => by
    rw [List.take_add_one, hc] at hc'
    rcases List.mem_append.1 hc' with h2 | h2
    · exact h.p c' h2
    · simp at h2; subst h2
      rcases h.v.a _ _ hd with e | ⟨k, rfl, _, h3⟩
      · omega
      · exact ⟨k, h3, hd⟩⟩
theorem LvJ.put (h : LvJ st s n m i j D) (hc : (st i)[j]? = some c) (hcn : c < n) {d : Int} (hd : D[c]? = some d) (h0 : d < 0) : LvJ st s n m i (j + 1) (D.set c ((m : Int) + 1)) := by
  have hcl : c < D.length := by rw [h.v.len]; exact hcn
  have keep : ∀ (e : Nat) (k : Nat), D[e]? = some (k : Int) → (D.set c ((m : Int) + 1))[e]? = some (k : Int) := fun e k he => by
    rw [List.getElem?_set, if_neg]
    · exact he
    · rintro rfl; rw [hd] at he; cases he; omega
  have back : ∀ (e : Nat), (D.set c ((m : Int) + 1))[e]? = some (m : Int) → D[e]? = some (m : Int) := fun e he => by
    rw [List.getElem?_set] at he
    by_cases e2 : c = e
    · subst e2; rw [if_pos rfl, if_pos hcl] at he; simp at he; omega
    · rwa [if_neg e2] at he
  obtain ⟨wm, hwm⟩ : ∃ k : Nat, (m : Int) = k ∧ Wk st s k i ∧ k ≤ m + 1 := by
    rcases h.v.a _ _ h.at_ with e | e
    · omega
    · exact e
  obtain rfl : m = wm := by omega
  refine ⟨⟨by simp [h.v.len], fun e d2 he => ?_, fun k e hk hw => ?_, fun u hu hu2 e he => ?_⟩, keep _ _ h.at_, fun e he => ?_⟩
  · rw [List.getElem?_set] at he
    by_cases e2 : c = e
    · subst e2
      rw [if_pos rfl, if_pos hcl] at he; cases he
      exact .inr ⟨m + 1, by omega, .step hwm.2.1 (List.mem_of_getElem? hc), by omega⟩
    · rw [if_neg e2] at he; exact h.v.a _ _ he
  · obtain ⟨k', h1, h2⟩ := h.v.b k e hk hw
    exact ⟨k', h1, keep _ _ h2⟩
  · obtain ⟨k', h1, h2⟩ := h.v.c u hu (back _ hu2) e he
    exact ⟨k', h1, keep _ _ h2⟩
  · rw [List.take_add_one, hc] at he
    rcases List.mem_append.1 he with h2 | h2
    · obtain ⟨k', h3, h4⟩ := h.p e h2
      exact ⟨k', h3, keep _ _ h4⟩
    · simp at h2; subst h2
      exact ⟨m + 1, Nat.le_refl _, by rw [List.getElem?_set, if_pos rfl, if_pos hcl]; simp⟩
theorem LvJ.done (h : LvJ st s n m i (st i).length D) : LvI st s n m (i + 1) D :=
  ⟨h.v.len, h.v.a, h.v.b, fun u hu hu2 c hc => by
    rcases Nat.lt_or_ge u i with h1 | h1
    · exact h.v.c u h1 hu2 c hc
    · obtain rfl : u = i := by omega
      exact h.p c (by rw [List.take_length]; exact hc)⟩
theorem LvI.next (h : LvI st s n m n D) : LvI st s n (m + 1) 0 D := by
  refine ⟨h.len, fun c d hd => ?_, fun k c hk hw => ?_, fun u hu => by omega⟩
  · rcases h.a c d hd with e | ⟨k, e, hw, hk⟩
    · exact .inl e
    · exact .inr ⟨k, e, hw, by omega⟩
  · rcases Nat.lt_or_ge k (m + 1) with h1 | h1
    · exact h.b k c (by omega) hw
    · obtain rfl : k = m + 1 := by omega
      cases hw with
      | step hw hc =>
        rename_i a
        obtain ⟨k', h2, h3⟩ := h.b m a (Nat.le_refl _) hw
        rcases Nat.lt_or_ge k' m with h4 | h4
        · rcases h.a _ _ h3 with e | ⟨k2, e, hw2, _⟩
          · omega
          · obtain rfl : k' = k2 := by omega
            obtain ⟨k3, h5, h6⟩ := h.b (k' + 1) c (by omega) (.step hw2 hc)
            exact ⟨k3, by omega, h6⟩
        · obtain rfl : k' = m := by omega
          exact h.c a (by have := (List.getElem?_eq_some_iff.1 h3).1; rw [h.len] at this; exact this) h3 c hc
theorem short_list (st : Nat → List Nat) (s n : Nat) (hs : s < n) (hst : ∀ u c, u < n → c ∈ st u → c < n) : ∀ (k c : Nat), Wk st s k c → (∀ j, Wk st s j c → k ≤ j) → ∃ L : List Nat, L.length = k + 1 ∧ (∀ x ∈ L, x < n) ∧ L.Nodup ∧ (∀ x ∈ L, ∃ j, j ≤ k ∧ Wk st s j x) ∧ c < n := by
  intro k
  induction k with
  | zero => intro c hw _; cases hw; exact ⟨[s], rfl, by simpa using hs, by simp, by simpa using .nil, hs⟩
  | succ k ih =>
    intro c hw hl
    cases hw with
    | step hw hc =>
      rename_i a
      obtain ⟨L, h1, h2, h3, h4, h5⟩ := ih a hw (fun j hj => by have := hl (j + 1) (.step hj hc); omega)
      have hcn := hst a c h5 hc
      refine ⟨c :: L, by simp [h1], fun x hx => ?_, ?_, fun x hx => ?_, hcn⟩
      · rcases List.mem_cons.1 hx with rfl | hx
        · exact hcn
        · exact h2 x hx
      · rw [List.nodup_cons]
        refine ⟨fun hm => ?_, h3⟩
        obtain ⟨j, hj, hw2⟩ := h4 c hm
        have := hl j hw2; omega
      · rcases List.mem_cons.1 hx with rfl | hx
        · exact ⟨k + 1, Nat.le_refl _, .step hw hc⟩
        · obtain ⟨j, hj, hw2⟩ := h4 x hx
          exact ⟨j, by omega, hw2⟩
theorem short_lt {st : Nat → List Nat} {s n : Nat} (hs : s < n) (hst : ∀ u c, u < n → c ∈ st u → c < n) {k c : Nat} (hw : Wk st s k c) (hl : ∀ j, Wk st s j c → k ≤ j) : k < n := by
  obtain ⟨L, h1, h2, h3, _⟩ := short_list st s n hs hst k c hw hl
  have := List.Nodup.length_le_of_subset h3 (l₂ := List.range n) (fun x hx => by simpa using h2 x hx)
  simp at this; omega
theorem LvI.dl (h : LvI st s n n 0 D) (hs : s < n) (hst : ∀ u c, u < n → c ∈ st u → c < n) : D = distL st s n := by
  refine distL_of h.len fun c d hd => ?_
  have least : ∀ k, Wk st s k c → ∃ k0, k0 ≤ k ∧ D[c]? = some (k0 : Int) := fun k hw => by
    obtain ⟨k1, hw1, hl1⟩ := least_ex (p := fun k => Wk st s k c) k hw
    have := short_lt hs hst hw1 hl1
    obtain ⟨k2, h1, h2⟩ := h.b k1 c (by omega) hw1
    exact ⟨k2, by have := hl1 k hw; omega, h2⟩
  rcases h.a c d hd with e | ⟨k, rfl, hw, _⟩
  · refine .inl ⟨e, fun k hw => ?_⟩
    obtain ⟨k0, _, h2⟩ := least k hw
    rw [hd] at h2; cases h2; omega
  · refine .inr ⟨k, rfl, hw, fun k' hw' => ?_⟩
    obtain ⟨k0, h1, h2⟩ := least k' hw'
    rw [hd] at h2; simp at h2; omega
end
end Go.Proofs.YthchoknhkhfdnaaDoor

namespace Go.Proofs.YthchoknhkhfdnaaDoor
set_option linter.unusedVariables false
set_option linter.unusedSimpArgs false
open Go.RowKit

structure QdW (w1 : World) (gd : Nat) (D : List Int) (w : World) : Prop where
  d : Blk (Value.int .i64) 3 w gd D
  ge : w1.heap.size ≤ gd
  kp : Kp No w1 w
theorem QdW.no {w1 w w' : World} {gd : Nat} {D : List Int} (h : QdW w1 gd D w) (hk : Kp No w w') : QdW w1 gd D w' := ⟨h.d.kpNo hk, h.ge, h.kp.no hk⟩
theorem QdW.set {w1 w : World} {gd : Nat} {D : List Int} (h : QdW w1 gd D w) (c : Nat) (x : Int) : QdW w1 gd (D.set c x) (w.setCell ⟨gd, c, none⟩ (.int .i64 x)) :=
  ⟨h.d.set c x, h.ge, h.kp.setCell (p := ⟨gd, c, none⟩) (fun e => by have := h.ge; have e : gd < w1.heap.size := e; omega) _⟩
theorem fill_all {D : List Int} {n : Nat} (hl : D.length = n) (h : ∀ j, j < n → D[j]? = some (-1)) : D = List.replicate n (-1 : Int) := by
  apply List.ext_getElem?
  intro i
  rw [List.getElem?_replicate]
  rcases Nat.lt_or_ge i n with h1 | h1
  · rw [if_pos h1, h i h1]
  · rw [if_neg (by omega), List.getElem?_eq_none (by omega)]

set_option maxHeartbeats 1000000 in
set_option maxRecDepth 100000 in
theorem q5MDist_any {f : Flr} {n : Nat} {M : MpC} {Vs : List SlC} {w : World} {bv : Value} {B : List Int} (h : MpW f n M Vs w) (hn : n ≤ 1000) (fr : Int) (hB : Rd IK w bv B) :
    Calls Tryd.prog 26 #[M.val n, .int .i64 fr, bv] w fun e w' => ∃ v, e = .returned v ∧ NewS IK 3 w w' v (distP f fr B) := by
  obtain ⟨w1, hw1⟩ : ∃ w1, w1 = w.alloc (.cells #[.slice M.A1 n M.q1, .slice M.A2 n M.q2, .slice M.A3 n M.q3] 51) := ⟨_, rfl⟩
  have K1 := Lib.hid (show Kp No w w1 by rw [hw1]; exact (Kp.refl _ _).alloc _)
  have BX := Lib.hid (show w1.heap[w.heap.size]? = some (.cells #[.slice M.A1 n M.q1, .slice M.A2 n M.q2, .slice M.A3 n M.q3] 51 (0, 0)) by rw [hw1]; exact blk_new w _)
  have HW1 := Lib.hid hw1
  clear hw1
  have H := Lib.hid (h.no K1.out); have HB := Lib.hid (hB.kpNo K1.out)
  have lb : ∀ wx, Kp No w1 wx → wx.cell? ⟨w.heap.size, 0, none⟩ = some (.slice M.A1 n M.q1) ∧ wx.cell? ⟨w.heap.size, 1, none⟩ = some (.slice M.A2 n M.q2) ∧ wx.cell? ⟨w.heap.size, 2, none⟩ = some (.slice M.A3 n M.q3) := fun wx hk => by
    have := hk.blk BX.out (no_no _)
    exact ⟨blk_cell this 0, blk_cell this 1, blk_cell this 2⟩
  have LB := Lib.hid lb
  clear lb
  cases hok : ptOk f fr with
  | false =>
    have QO := Lib.hid (q5open_any H.out (by omega) fr false hok)
    have HD := Lib.hid (show distP f fr B = [] by unfold distP; rw [hok]; simp)
    obtain ⟨N, hN⟩ : ∃ N, N = distP f fr B := ⟨_, rfl⟩
    rw [← hN] at HD ⊢
    obtain ⟨hb0, hb1, hb2⟩ := LB.out w1 (Kp.refl _ _)
    obtain ⟨A1, q1, A2, q2, A3, q3⟩ := M
    unfold MpC.val at QO ⊢
    simp only at hb0 hb1 hb2 QO HW1 ⊢
    clear hok h hB hN H LB BX
    go_enter Tryd.func26, Tryd.ntmps26
    go_upto_region 1 with fail
    rw [← HW1.out]
    go_wp2_with fail
    refine QO.out.mono ?_
    rintro e w2 ⟨rfl, kp2⟩
    have K2 := Lib.hid (K1.out.no kp2)
    clear kp2
    go_wp2_with fail
    go_ret
    exact ⟨_, rfl, by rw [HD.out]; exact ⟨Own.nil _ _ _, by simp [Value.ownBlock], K2.out⟩⟩
  | true =>
    obtain ⟨k, rfl, hk, hr⟩ := ptOk_nat hok
    have hnf : n = f.s.size := by rw [h.hn]; unfold mpN; rw [if_pos (rightB_iff.2 hr)]
    have QO := Lib.hid (q5open_any H.out (by omega) (k : Int) true hok)
    have HD := Lib.hid (show distP f (k : Int) B = distL (stepsP f k B) k n by unfold distP; rw [hok, hnf]; simp)
    obtain ⟨N, hN⟩ : ∃ N, N = distP f (k : Int) B := ⟨_, rfl⟩
    rw [← hN] at HD ⊢
    obtain ⟨st, hst⟩ : ∃ st, st = stepsP f k B := ⟨_, rfl⟩
    rw [← hst] at HD
    have HST := Lib.hid (show ∀ u c, u < n → c ∈ st u → c < n by
      intro u c hu hc
      rw [hst] at hc
      have := steps_sz hr (show u < f.s.size by omega) hc
      omega)
    have hkn : k < n := by omega
    have hkI : (k : Int) < (n : Int) := by omega
    have LS := Lib.hid (LvI.start (st := st) hkn)
    have hmk := run_mkI n (by omega)
    have QS := Lib.hid (fun u (hu : u < n) wx (hk : Kp No w1 wx) => show Calls Tryd.prog 35 #[M.val n, .int .i64 (u : Int), .int .i64 (k : Int), bv] wx fun e w' => ∃ v, e = .returned v ∧ NewS IK 3 wx w' v (ints (st u)) by
      rw [hst]; exact q5Steps_any (H.out.no hk) (by omega) u k hu (HB.out.kpNo hk))
    have SL := Lib.hid (show ∀ u, (st u).length ≤ 4 by intro u; rw [hst]; exact steps_len f k B u)
    obtain ⟨hb0, hb1, hb2⟩ := LB.out w1 (Kp.refl _ _)
    obtain ⟨A1, q1, A2, q2, A3, q3⟩ := M
    unfold MpC.val at QO QS ⊢
    simp only at hb0 hb1 hb2 QO QS LB HW1 ⊢
    clear hok h hB hN H BX hst hk hr hnf
    go_enter Tryd.func26, Tryd.ntmps26
    go_upto_region 1 with fail
    rw [← HW1.out]
    go_wp2_with fail
    refine QO.out.mono ?_
    rintro e w2 ⟨rfl, kp2⟩
    have K2 := Lib.hid kp2
    clear hb0 hb1 hb2 kp2
    obtain ⟨hb0, hb1, hb2⟩ := LB.out w2 K2.out
    have W3 := Lib.hid (show QdW w1 w2.heap.size (List.replicate n 0) (w2.alloc (.cells (Array.replicate n (.int .i64 0)) 3)) from
      ⟨by have h : Blk (Value.int .i64) 3 (w2.alloc (.cells ((List.replicate n (0 : Int)).map (Value.int .i64)).toArray 3)) w2.heap.size (List.replicate n 0) := blk_new w2 _
          simpa using h, K2.out.size, K2.out.alloc _⟩)
    obtain ⟨gd, hgd⟩ : ∃ gd, gd = w2.heap.size := ⟨_, rfl⟩
    rw [← hgd] at W3
    have HGD := Lib.hid hgd
    clear hgd
    go_wp2_with fail
    rw [← HGD.out]
    clear hmk hb0 hb1 hb2
    go_loopg [8] (n + 1) (fun g_ iv wx => ∃ (i : Nat) (D : List Int), g_ = n + 1 - i ∧ iv = .int .i64 i ∧ i ≤ n ∧ D.length = n ∧ (∀ j, j < i → D[j]? = some (-1)) ∧ QdW w1 gd D wx)
    case atStart => exact ⟨0, _, rfl, rfl, by omega, by simp, fun j hj => by omega, W3.out⟩
    case round =>
      obtain ⟨i, D, hg, rfl, hi, hl, hfill, qd⟩ := hrel
      have QD := Lib.hid qd; have HL := Lib.hid hl; have HF := Lib.hid hfill
      clear qd hl hfill W3
      by_cases hlt : i < n
      · have hltI : (i : Int) < (n : Int) := by omega
        have hwi : IntKind.i64.wrap ((i : Int) + 1) = (i : Int) + 1 := IntWalk.i64_in _ (by omega)
        obtain ⟨x, hx⟩ : ∃ x, D[i]? = some x := ⟨_, List.getElem?_eq_getElem (by rw [HL.out]; exact hlt)⟩
        have hcx := QD.out.d.get hx
        have hcf := QD.out.d.free i
        have Q2 := Lib.hid (QD.out.set i (-1))
        have HF2 := Lib.hid (show ∀ j, j < i + 1 → (D.set i (-1))[j]? = some (-1) from fun j hj => by
          rw [List.getElem?_set, HL.out]
          by_cases e : i = j
          · rw [if_pos e, if_pos (by omega)]
          · rw [if_neg e]; exact HF.out j (by omega))
        clear hx hlt
        go_wp2_with fail
        go_roundg (n + 1 - (i + 1))
        case measure => omega
        case rel => exact ⟨i + 1, _, rfl, by go_num, by omega, by rw [List.length_set]; exact HL.out, HF2.out, Q2.out⟩
      · obtain rfl : i = n := by omega
        have hd0 : ¬ (i : Int) < (i : Int) := by omega
        have hD := fill_all HL.out HF.out
        have qd := QD.out
        rw [hD] at qd
        have hcx := qd.d.get (i := k) (x := -1) (by rw [List.getElem?_replicate, if_pos hkn])
        have hcf := qd.d.free k
        have Q2 := Lib.hid (qd.set k 0)
        clear hlt hD qd
        go_wp2_with fail
        clear hcx hcf hd0
        obtain ⟨n, rfl⟩ : ∃ n, n = i := ⟨_, rfl⟩
        obtain ⟨wo, hwo⟩ : ∃ wo : World, wo = wr := ⟨_, rfl⟩
        rw [← hwo] at Q2 ⊢
        clear hwo QD
        go_loopg [9] (n + 1) (fun g_ mv wx => ∃ (m : Nat) (D : List Int), g_ = n + 1 - m ∧ mv = .int .i64 m ∧ m ≤ n ∧ LvI st k n m 0 D ∧ QdW w1 gd D wx)
        case atStart => exact ⟨0, _, rfl, rfl, by omega, LS.out, Q2.out⟩
        case round =>
          clear HL HF Q2
          obtain ⟨m, D, hg2, rfl, hm, lv, qd⟩ := hrel
          have LV := Lib.hid lv; have QD := Lib.hid qd
          clear lv qd
          by_cases hlt : m < n
          · have hltI : (m : Int) < (n : Int) := by omega
            have hwm : IntKind.i64.wrap ((m : Int) + 1) = (m : Int) + 1 := IntWalk.i64_in _ (by omega)
            have HMN := Lib.hid hlt
            clear hlt
            go_wp2_with fail
            obtain ⟨wa, hwa⟩ : ∃ wa : World, wa = wr := ⟨_, rfl⟩
            rw [← hwa] at QD ⊢
            clear hwa
            go_loopg [10] (n + 1) (fun g_ iv wx => ∃ (i : Nat) (D : List Int), g_ = n + 1 - i ∧ iv = .int .i64 i ∧ i ≤ n ∧ LvI st k n m i D ∧ QdW w1 gd D wx)
            case atStart => exact ⟨0, _, rfl, rfl, by omega, LV.out, QD.out⟩
            case round =>
              clear LV QD
              obtain ⟨i, D, hg3, rfl, hi, lv, qd⟩ := hrel
              have LV := Lib.hid lv; have QD := Lib.hid qd
              clear lv qd
              by_cases hlt : i < n
              · have hltI : (i : Int) < (n : Int) := by omega
                have hwi : IntKind.i64.wrap ((i : Int) + 1) = (i : Int) + 1 := IntWalk.i64_in _ (by omega)
                obtain ⟨d, hd⟩ : ∃ d, D[i]? = some d := ⟨_, List.getElem?_eq_getElem (by rw [LV.out.len]; exact hlt)⟩
                have hcd := QD.out.d.get hd
                have HIN := Lib.hid hlt
                by_cases hdm : d = (m : Int)
                · subst hdm
                  have LJ := Lib.hid (LV.out.into hd)
                  have hmb : ((m : Int) != (m : Int)) = false := by simp
                  have Q2 := Lib.hid (QS.out i hlt wr QD.out.kp)
                  obtain ⟨hb0, hb1, hb2⟩ := LB.out wr QD.out.kp
                  clear hd hlt
                  go_wp2_with fail
                  refine Q2.out.mono ?_
                  rintro e w5 ⟨vL, rfl, ns⟩
                  obtain ⟨AL, qL, rfl⟩ := ns.own.rd.shape
                  rw [ints_len] at ns ⊢
                  obtain ⟨nL, hnL⟩ : ∃ nL, nL = (st i).length := ⟨_, rfl⟩
                  rw [← hnL] at ns ⊢
                  have hL4 : nL ≤ 4 := by rw [hnL]; exact SL.out i
                  have HNL := Lib.hid hnL
                  have D5 := Lib.hid (QD.out.no ns.kp)
                  have OL := Lib.hid ns.own
                  have GL := Lib.hid (show ∀ g, (Value.slice AL nL qL).ownBlock = some g → g ≠ gd from fun g hg => by have := ns.ge g hg; have := QD.out.d.lt; omega)
                  clear ns hnL hb0 hb1 hb2 hcd Q2 hmb
                  go_wp2_with fail
                  obtain ⟨wb, hwb⟩ : ∃ wb : World, wb = wr := ⟨_, rfl⟩
                  clear hwb
                  go_loopg [12] (nL + 1) (fun g_ jv wx => ∃ (j : Nat) (D : List Int), g_ = nL + 1 - j ∧ jv = .int .i64 j ∧ j ≤ nL ∧ LvJ st k n m i j D ∧ QdW w1 gd D wx ∧ Own IK 3 wx (.slice AL nL qL) (ints (st i)))
                  case atStart => exact ⟨0, _, rfl, rfl, by omega, LJ.out, D5.out, OL.out⟩
                  case round =>
                    clear LV QD LJ D5 OL
                    obtain ⟨j, D, hg4, rfl, hj, lj, qd, ol⟩ := hrel
                    have LJ := Lib.hid lj; have QD := Lib.hid qd; have OL := Lib.hid ol
                    clear lj qd ol
                    by_cases hlt : j < nL
                    · have hltJ : (j : Int) < (nL : Int) := by omega
                      have hwj : IntKind.i64.wrap ((j : Int) + 1) = (j : Int) + 1 := IntWalk.i64_in _ (by omega)
                      obtain ⟨c, hc⟩ : ∃ c, (st i)[j]? = some c := ⟨_, List.getElem?_eq_getElem (by rw [← HNL.out]; exact hlt)⟩
                      have hcn : c < n := HST.out i c HIN.out (List.mem_of_getElem? hc)
                      have hcI : (c : Int) < (n : Int) := by omega
                      rcases OL.out.b with ⟨hv, _⟩ | ⟨gL, capL, hv, _, _, _⟩
                      · simp only [Value.slice.injEq] at hv; omega
                      simp only [Value.slice.injEq] at hv
                      obtain ⟨rfl, hzz, rfl⟩ := hv
                      clear hzz
                      have hcc : wr.cell? ⟨gL, j, none⟩ = some (.int .i64 (c : Int)) := by have := OL.out.rd.intAt (ints_get hc); simpa using this
                      obtain ⟨d, hd⟩ : ∃ d, D[c]? = some d := ⟨_, List.getElem?_eq_getElem (by rw [LJ.out.v.len]; exact hcn)⟩
                      have hcd : wr.cell? ⟨gd, c, none⟩ = some (.int .i64 d) := QD.out.d.get hd
                      by_cases hd0 : d < 0
                      · have LJ2 := Lib.hid (LJ.out.put hc hcn hd hd0)
                        have Q2 := Lib.hid (QD.out.set c ((m : Int) + 1))
                        have O2 := Lib.hid (OL.out.kp ((Kp.refl (fun b => b = gd) wr).setCell (p := ⟨gd, c, none⟩) (fun _ => rfl) (.int .i64 ((m : Int) + 1))) (fun g hg e => GL.out g hg e))
                        have hcf := QD.out.d.free c
                        clear hc hcn hd hlt
                        go_wp2_with fail
                        go_roundg (nL + 1 - (j + 1))
                        case measure => omega
                        case rel => exact ⟨j + 1, _, rfl, by go_num, by omega, LJ2.out, Q2.out, O2.out⟩
                      · have LJ2 := Lib.hid (LJ.out.skip hc hd (by omega))
                        clear hc hcn hd hlt
                        go_wp2_with fail
                        go_roundg (nL + 1 - (j + 1))
                        case measure => omega
                        case rel => exact ⟨j + 1, _, rfl, by go_num, by omega, LJ2.out, QD.out, OL.out⟩
                    · obtain rfl : j = nL := by omega
                      have hd0 : ¬ (j : Int) < (j : Int) := by omega
                      have LV2 := Lib.hid ((show LvJ st k n m i (st i).length D by rw [← HNL.out]; exact LJ.out).done)
                      clear hlt
                      go_wp2_with fail
                      go_roundg (n + 1 - (i + 1))
                      case measure => have := HIN.out; omega
                      case rel => exact ⟨i + 1, D, rfl, by go_num, by have := HIN.out; omega, LV2.out, QD.out⟩
                · have hmb : (d != (m : Int)) = true := by simpa using hdm
                  have LV2 := Lib.hid (LV.out.skip (by rw [hd]; simpa using hdm))
                  clear hd hdm hlt
                  go_wp2_with fail
                  go_roundg (n + 1 - (i + 1))
                  case measure => have := HIN.out; omega
                  case rel => exact ⟨i + 1, D, rfl, by go_num, by have := HIN.out; omega, LV2.out, QD.out⟩
              · obtain rfl : i = n := by omega
                have hd0 : ¬ (i : Int) < (i : Int) := by omega
                have LV2 := Lib.hid LV.out.next
                clear hlt
                go_wp2_with fail
                go_roundg (i + 1 - (m + 1))
                case measure => have := HMN.out; omega
                case rel => exact ⟨m + 1, D, rfl, by go_num, by have := HMN.out; omega, LV2.out, QD.out⟩
          · obtain rfl : m = n := by omega
            have hd0 : ¬ (m : Int) < (m : Int) := by omega
            have HE := Lib.hid (LV.out.dl hkn HST.out)
            have HLn := Lib.hid LV.out.len
            clear hlt
            go_wp2_with fail
            go_ret
            refine ⟨_, rfl, ?_⟩
            have := QD.out.d.newI (w0 := w) (by have := K1.out.size; have := QD.out.ge; omega) (K1.out.no QD.out.kp) (by rw [HLn.out]; omega)
            rw [HLn.out] at this
            rw [HD.out, ← HE.out]; exact this
end Go.Proofs.YthchoknhkhfdnaaDoor

namespace Go.Proofs.YthchoknhkhfdnaaDoor
set_option linter.unusedVariables false
set_option linter.unusedSimpArgs false
open Go.RowKit

theorem elB2 : ElT Tryd.prog 49 4 BoK 1 := elBo
structure OfM (f : Flr) (w0 : World) (bm bf br : Nat) (V1 V2 V3 : Value) (k1 k2 k3 : Nat) (Vs : List SlC) (w : World) : Prop where
  blk : w.heap[bm]? = some (.cells #[V1, V2, V3] 51 (0, 0))
  bx : BxW f bf w0 w
  rs : w.heap[br]? = some (.cells #[.slice none 0 0, .slice none 0 0, .slice none 0 0] 51 (0, 0))
  o1 : Own SvK 24 w V1 Vs
  o2 : Own BoK 4 w V2 (lnB f k2 k2)
  o3 : Own BoK 4 w V3 (opL f k3)
  len : Vs.length = k1
  rd : ∀ (i : Nat) v, Vs[i]? = some v → Rd IK w (slv v) (ints (nearP f i)) ∧ ∀ g, (slv v).ownBlock = some g → g ≠ bm ∧ V1.ownBlock ≠ some g ∧ V2.ownBlock ≠ some g ∧ V3.ownBlock ≠ some g ∧ g < w.heap.size ∧ g ≠ br
  n1 : ∀ g, V1.ownBlock = some g → g ≠ bm ∧ g ≠ bf ∧ g ≠ br ∧ V2.ownBlock ≠ some g ∧ V3.ownBlock ≠ some g ∧ w0.heap.size ≤ g
  n2 : ∀ g, V2.ownBlock = some g → g ≠ bm ∧ g ≠ bf ∧ g ≠ br ∧ V3.ownBlock ≠ some g ∧ w0.heap.size ≤ g
  n3 : ∀ g, V3.ownBlock = some g → g ≠ bm ∧ g ≠ bf ∧ g ≠ br ∧ w0.heap.size ≤ g
  nb : bm ≠ bf ∧ bm ≠ br ∧ w0.heap.size ≤ bm ∧ w0.heap.size ≤ br
section
variable {f : Flr} {w0 w wa w' : World} {bm bf br k1 k2 k3 : Nat} {V1 V2 V3 V' : Value} {Vs : List SlC}
theorem OfM.no (h : OfM f w0 bm bf br V1 V2 V3 k1 k2 k3 Vs w) (hk : Kp No w w') : OfM f w0 bm bf br V1 V2 V3 k1 k2 k3 Vs w' :=
  ⟨hk.blk h.blk (no_no _), h.bx.no hk, hk.blk h.rs (no_no _), h.o1.kpNo hk, h.o2.kpNo hk, h.o3.kpNo hk, h.len, fun i v hv => ⟨(h.rd i v hv).1.kpNo hk, fun g hg => let ⟨a, b, c, d, e⟩ := (h.rd i v hv).2 g hg; ⟨a, b, c, d, Nat.lt_of_lt_of_le e.1 hk.size, e.2⟩⟩, h.n1, h.n2, h.n3, h.nb⟩
theorem OfM.c0 (h : OfM f w0 bm bf br V1 V2 V3 k1 k2 k3 Vs w) : w.cell? ⟨bm, 0, none⟩ = some V1 := blk_cell h.blk 0
theorem OfM.c1 (h : OfM f w0 bm bf br V1 V2 V3 k1 k2 k3 Vs w) : w.cell? ⟨bm, 1, none⟩ = some V2 := blk_cell h.blk 1
theorem OfM.c2 (h : OfM f w0 bm bf br V1 V2 V3 k1 k2 k3 Vs w) : w.cell? ⟨bm, 2, none⟩ = some V3 := blk_cell h.blk 2
theorem OfM.fz (h : OfM f w0 bm bf br V1 V2 V3 k1 k2 k3 Vs w) (i : Nat) : w.frozen? ⟨bm, i, none⟩ = false := blk_free h.blk i
theorem OfM.lts (h : OfM f w0 bm bf br V1 V2 V3 k1 k2 k3 Vs w) : bm < w.heap.size ∧ bf < w.heap.size ∧ br < w.heap.size ∧ w0.heap.size ≤ w.heap.size := ⟨lt_of_block h.blk, lt_of_block h.bx.box, lt_of_block h.rs, h.bx.kp.size⟩
/-- What an append to the first list leaves. -/
theorem OfM.app1 (h : OfM f w0 bm bf br V1 V2 V3 k1 k2 k3 Vs w) {v : SlC} (hv : Rd IK w (slv v) (ints (nearP f k1))) (hb : ∀ g, (slv v).ownBlock = some g → g ≠ bm ∧ V1.ownBlock ≠ some g ∧ V2.ownBlock ≠ some g ∧ V3.ownBlock ≠ some g ∧ g < w.heap.size ∧ g ≠ br)
    (ho : Own SvK 24 w' V' (Vs ++ [v])) (hk : Kp (fun k => V1.ownBlock = some k) w w') (hn : ∀ g, V'.ownBlock = some g → V1.ownBlock = some g ∨ w.heap.size ≤ g) :
    OfM f w0 bm bf br V' V2 V3 (k1 + 1) k2 k3 (Vs ++ [v]) (w'.setCell ⟨bm, 0, none⟩ V') := by
  obtain ⟨l0, l1, l2, l3⟩ := h.lts
  have hs := (Kp.refl (fun j => j = bm) w').setCell (p := ⟨bm, 0, none⟩) (fun _ => rfl) V'
  have kk : Kp (fun j => V1.ownBlock = some j ∨ j = bm) w (w'.setCell ⟨bm, 0, none⟩ V') := (hk.mono (fun _ _ e => .inl e)).trans' hs (fun j _ e => .inr e)
  have m0 : ¬ V1.ownBlock = some bm := fun e => (h.n1 _ e).1 rfl
  have all_ : ∀ v : SlC, ∀ l, Rd IK w (slv v) l → (∀ g, (slv v).ownBlock = some g → g ≠ bm ∧ V1.ownBlock ≠ some g ∧ V2.ownBlock ≠ some g ∧ V3.ownBlock ≠ some g ∧ g < w.heap.size ∧ g ≠ br) →
      Rd IK (w'.setCell ⟨bm, 0, none⟩ V') (slv v) l ∧ ∀ g, (slv v).ownBlock = some g → g ≠ bm ∧ V'.ownBlock ≠ some g ∧ V2.ownBlock ≠ some g ∧ V3.ownBlock ≠ some g ∧ g < (w'.setCell ⟨bm, 0, none⟩ V').heap.size ∧ g ≠ br := fun v l a b => by
    refine ⟨a.kp kk ?_, fun g hg => ?_⟩
    · rintro g hg (e | e)
      · exact (b g hg).2.1 e
      · exact (b g hg).1 e
    · obtain ⟨b1, b2, b3, b4, b5⟩ := b g hg
      refine ⟨b1, fun e => ?_, b3, b4, Nat.lt_of_lt_of_le b5.1 kk.size, b5.2⟩
      rcases hn g e with e2 | e2
      · exact b2 e2
      · omega
  refine ⟨?_, h.bx.kps kk ?_ ?_, kk.blk h.rs ?_, ho.kp hs (fun g hg e => ?_), h.o2.kp kk ?_, h.o3.kp kk ?_, by rw [List.length_append, h.len]; rfl, fun i y hy => ?_, fun g hg => ?_, h.n2, h.n3, h.nb⟩
  · have := blk_set (hk.blk h.blk m0) 0 V'; simpa using this
  · rintro (e | e)
    · exact (h.n1 _ e).2.1 rfl
    · exact h.nb.1 e.symm
  · rintro j (e | e)
    · exact (h.n1 _ e).2.2.2.2.2
    · rw [e]; exact h.nb.2.2.1
  · rintro (e | e)
    · exact (h.n1 _ e).2.2.1 rfl
    · exact h.nb.2.1 e.symm
  · rcases hn g hg with e2 | e2
    · exact (h.n1 _ e2).1 e
    · omega
  · rintro g hg (e | e)
    · exact (h.n1 _ e).2.2.2.1 hg
    · exact (h.n2 _ hg).1 e
  · rintro g hg (e | e)
    · exact (h.n1 _ e).2.2.2.2.1 hg
    · exact (h.n3 _ hg).1 e
  · rcases Nat.lt_or_ge i Vs.length with h1 | h1
    · rw [List.getElem?_append_left h1] at hy
      exact all_ y _ (h.rd i y hy).1 (h.rd i y hy).2
    · have h2 := (List.getElem?_eq_some_iff.1 hy).1
      simp at h2
      obtain rfl : i = k1 := by have := h.len; omega
      rw [← h.len] at hy
      simp at hy
      subst hy
      exact all_ _ _ hv hb
  · rcases hn g hg with e | e
    · exact h.n1 g e
    · exact ⟨by omega, by omega, by omega, fun e2 => by have := h.o2.lt e2; omega, fun e2 => by have := h.o3.lt e2; omega, by omega⟩
theorem OfM.app2 (h : OfM f w0 bm bf br V1 V2 V3 k1 k2 k3 Vs w) (ho : Own BoK 4 w' V' (lnB f (k2 + 1) (k2 + 1))) (hk : Kp (fun k => V2.ownBlock = some k) w w') (hn : ∀ g, V'.ownBlock = some g → V2.ownBlock = some g ∨ w.heap.size ≤ g) :
    OfM f w0 bm bf br V1 V' V3 k1 (k2 + 1) k3 Vs (w'.setCell ⟨bm, 1, none⟩ V') := by
  obtain ⟨l0, l1, l2, l3⟩ := h.lts
  have hs := (Kp.refl (fun j => j = bm) w').setCell (p := ⟨bm, 1, none⟩) (fun _ => rfl) V'
  have kk : Kp (fun j => V2.ownBlock = some j ∨ j = bm) w (w'.setCell ⟨bm, 1, none⟩ V') := (hk.mono (fun _ _ e => .inl e)).trans' hs (fun j _ e => .inr e)
  have m0 : ¬ V2.ownBlock = some bm := fun e => (h.n2 _ e).1 rfl
  refine ⟨?_, h.bx.kps kk ?_ ?_, kk.blk h.rs ?_, h.o1.kp kk ?_, ho.kp hs (fun g hg e => ?_), h.o3.kp kk ?_, h.len, fun i y hy => ?_, fun g hg => ?_, fun g hg => ?_, h.n3, h.nb⟩
  · have := blk_set (hk.blk h.blk m0) 1 V'; simpa using this
  · rintro (e | e)
    · exact (h.n2 _ e).2.1 rfl
    · exact h.nb.1 e.symm
  · rintro j (e | e)
    · exact (h.n2 _ e).2.2.2.2
    · rw [e]; exact h.nb.2.2.1
  · rintro (e | e)
    · exact (h.n2 _ e).2.2.1 rfl
    · exact h.nb.2.1 e.symm
  · rintro g hg (e | e)
    · exact (h.n1 _ hg).2.2.2.1 e
    · exact (h.n1 _ hg).1 e
  · rcases hn g hg with e2 | e2
    · exact (h.n2 _ e2).1 e
    · omega
  · rintro g hg (e | e)
    · exact (h.n2 _ e).2.2.2.1 hg
    · exact (h.n3 _ hg).1 e
  · obtain ⟨a, b⟩ := h.rd i y hy
    refine ⟨a.kp kk ?_, fun g hg => ?_⟩
    · rintro g hg (e | e)
      · exact (b g hg).2.2.1 e
      · exact (b g hg).1 e
    · obtain ⟨b1, b2, b3, b4, b5⟩ := b g hg
      refine ⟨b1, b2, fun e => ?_, b4, Nat.lt_of_lt_of_le b5.1 kk.size, b5.2⟩
      rcases hn g e with e2 | e2
      · exact b3 e2
      · omega
  · obtain ⟨a, b, c, d, e⟩ := h.n1 g hg
    refine ⟨a, b, c, fun e2 => ?_, e⟩
    rcases hn g e2 with e3 | e3
    · exact d e3
    · have := h.o1.lt hg; omega
  · rcases hn g hg with e | e
    · exact h.n2 g e
    · exact ⟨by omega, by omega, by omega, fun e2 => by have := h.o3.lt e2; omega, by omega⟩
theorem OfM.app3 (h : OfM f w0 bm bf br V1 V2 V3 k1 k2 k3 Vs w) (ho : Own BoK 4 w' V' (opL f (k3 + 1))) (hk : Kp (fun k => V3.ownBlock = some k) w w') (hn : ∀ g, V'.ownBlock = some g → V3.ownBlock = some g ∨ w.heap.size ≤ g) :
    OfM f w0 bm bf br V1 V2 V' k1 k2 (k3 + 1) Vs (w'.setCell ⟨bm, 2, none⟩ V') := by
  obtain ⟨l0, l1, l2, l3⟩ := h.lts
  have hs := (Kp.refl (fun j => j = bm) w').setCell (p := ⟨bm, 2, none⟩) (fun _ => rfl) V'
  have kk : Kp (fun j => V3.ownBlock = some j ∨ j = bm) w (w'.setCell ⟨bm, 2, none⟩ V') := (hk.mono (fun _ _ e => .inl e)).trans' hs (fun j _ e => .inr e)
  have m0 : ¬ V3.ownBlock = some bm := fun e => (h.n3 _ e).1 rfl
  refine ⟨?_, h.bx.kps kk ?_ ?_, kk.blk h.rs ?_, h.o1.kp kk ?_, h.o2.kp kk ?_, ho.kp hs (fun g hg e => ?_), h.len, fun i y hy => ?_, fun g hg => ?_, fun g hg => ?_, fun g hg => ?_, h.nb⟩
  · have := blk_set (hk.blk h.blk m0) 2 V'; simpa using this
  · rintro (e | e)
    · exact (h.n3 _ e).2.1 rfl
    · exact h.nb.1 e.symm
  · rintro j (e | e)
    · exact (h.n3 _ e).2.2.2
    · rw [e]; exact h.nb.2.2.1
  · rintro (e | e)
    · exact (h.n3 _ e).2.2.1 rfl
    · exact h.nb.2.1 e.symm
  · rintro g hg (e | e)
    · exact (h.n1 _ hg).2.2.2.2.1 e
    · exact (h.n1 _ hg).1 e
  · rintro g hg (e | e)
    · exact (h.n2 _ hg).2.2.2.1 e
    · exact (h.n2 _ hg).1 e
  · rcases hn g hg with e2 | e2
    · exact (h.n3 _ e2).1 e
    · omega
  · obtain ⟨a, b⟩ := h.rd i y hy
    refine ⟨a.kp kk ?_, fun g hg => ?_⟩
    · rintro g hg (e | e)
      · exact (b g hg).2.2.2.1 e
      · exact (b g hg).1 e
    · obtain ⟨b1, b2, b3, b4, b5⟩ := b g hg
      refine ⟨b1, b2, b3, fun e => ?_, Nat.lt_of_lt_of_le b5.1 kk.size, b5.2⟩
      rcases hn g e with e2 | e2
      · exact b4 e2
      · omega
  · obtain ⟨a, b, c, d, e, j⟩ := h.n1 g hg
    refine ⟨a, b, c, d, fun e2 => ?_, j⟩
    rcases hn g e2 with e3 | e3
    · exact e e3
    · have := h.o1.lt hg; omega
  · obtain ⟨a, b, c, d, e⟩ := h.n2 g hg
    refine ⟨a, b, c, fun e2 => ?_, e⟩
    rcases hn g e2 with e3 | e3
    · exact d e3
    · have := h.o2.lt hg; omega
  · rcases hn g hg with e | e
    · exact h.n3 g e
    · exact ⟨by omega, by omega, by omega, by omega⟩
end
theorem OfM.start (f : Flr) (w : World) : OfM f w (w.heap.size + 1 + 1) w.heap.size (w.heap.size + 1) (.slice none 0 0) (.slice none 0 0) (.slice none 0 0) 0 0 0 [] (((w.alloc (.cells #[.int .i64 f.W, .int .i64 f.H, .string f.s] 23)).alloc (.cells #[.slice none 0 0, .slice none 0 0, .slice none 0 0] 51)).alloc (.cells #[.slice none 0 0, .slice none 0 0, .slice none 0 0] 51)) := by
  refine ⟨?_, (BxW.new f w).no (((Kp.refl _ _).alloc _).alloc _), ?_, Own.nil _ _ _, Own.nil _ _ _, Own.nil _ _ _, rfl, fun i v hv => by simp at hv, fun g hg => by simp [Value.ownBlock] at hg, fun g hg => by simp [Value.ownBlock] at hg, fun g hg => by simp [Value.ownBlock] at hg, by omega⟩
  · have := blk_new ((w.alloc (.cells #[.int .i64 f.W, .int .i64 f.H, .string f.s] 23)).alloc (.cells #[.slice none 0 0, .slice none 0 0, .slice none 0 0] 51)) (.cells #[.slice none 0 0, .slice none 0 0, .slice none 0 0] 51)
    simpa using this
  · refine blk_alloc ?_ _
    have := blk_new (w.alloc (.cells #[.int .i64 f.W, .int .i64 f.H, .string f.s] 23)) (.cells #[.slice none 0 0, .slice none 0 0, .slice none 0 0] 51)
    simpa using this
/-- The map, told. -/
theorem OfM.out {f : Flr} {w0 w : World} {bm bf br n q1 q2 q3 : Nat} {A1 A2 A3 : Option Addr} {Vs : List SlC} (h : OfM f w0 bm bf br (.slice A1 n q1) (.slice A2 n q2) (.slice A3 n q3) n n n Vs w) (hn : n = mpN f) (v0 v1 v2 : Value) :
    MpW f n ⟨A1, q1, A2, q2, A3, q3⟩ Vs (((w.setCell ⟨br, 0, none⟩ v0).setCell ⟨br, 1, none⟩ v1).setCell ⟨br, 2, none⟩ v2) ∧ Kp No w0 (((w.setCell ⟨br, 0, none⟩ v0).setCell ⟨br, 1, none⟩ v1).setCell ⟨br, 2, none⟩ v2) := by
  have hs := (((Kp.refl (fun j => j = br) w).setCell (p := ⟨br, 0, none⟩) (fun _ => rfl) v0).setCell (p := ⟨br, 1, none⟩) (fun _ => rfl) v1).setCell (p := ⟨br, 2, none⟩) (fun _ => rfl) v2
  exact ⟨⟨hn, h.o1.rd.kp hs (fun g hg e => (h.n1 g hg).2.2.1 e), h.o2.rd.kp hs (fun g hg e => (h.n2 g hg).2.2.1 e), h.o3.rd.kp hs (fun g hg e => (h.n3 g hg).2.2.1 e), h.len, fun i v hv => (h.rd i v hv).1.kp hs (fun g hg e => ((h.rd i v hv).2 g hg).2.2.2.2.2 e)⟩, h.bx.kp.trans' hs (fun j hj e => by have := h.nb.2.2.2; omega)⟩
theorem lnB_snoc (f : Flr) (k : Nat) (b : Bool) (hb : b = decide (kdS f.s k = 2)) : lnB f (k + 1) (k + 1) = lnB f k k ++ [b] := by
  subst hb
  unfold lnB
  rw [List.range_succ, List.map_append]
  congr 1
  · apply List.map_congr_left
    intro i hi
    rw [List.mem_range] at hi
    rw [decide_eq_decide]; omega
  · simp
theorem opL_snoc (f : Flr) (k : Nat) (b : Bool) (hb : b = (bt f.s k != 35)) : opL f (k + 1) = opL f k ++ [b] := by
  subst hb
  unfold opL
  rw [List.range_succ, List.map_append]
  rfl
end Go.Proofs.YthchoknhkhfdnaaDoor

namespace Go.Proofs.YthchoknhkhfdnaaDoor
set_option linter.unusedVariables false
set_option linter.unusedSimpArgs false
open Go.RowKit

def OfR (f : Flr) (w : World) (e : Ending) (w' : World) : Prop :=
  ∃ A1 q1 A2 q2 A3 q3 Vs, e = .returned (.agg #[.slice A1 (mpN f) q1, .slice A2 (mpN f) q2, .slice A3 (mpN f) q3]) ∧ MpW f (mpN f) ⟨A1, q1, A2, q2, A3, q3⟩ Vs w' ∧ Kp No w w'
set_option maxHeartbeats 2000000 in
set_option maxRecDepth 100000 in
theorem q5Of_any (f : Flr) (hsz : f.s.size ≤ 1000000) (w : World) : Calls Tryd.prog 25 #[f.val] w (OfR f w) := by
  obtain ⟨F, hF⟩ : ∃ F, F = f := ⟨_, rfl⟩
  rw [show OfR f w = OfR F w by rw [hF]]
  have HF := Lib.hid hF
  unfold OfR
  have O0 := OfM.start F w
  cases hb : rightB f with
  | false =>
    have HRT := Lib.hid (qright_at f (by omega) false hb)
    have hn0 : mpN F = 0 := by rw [hF]; unfold mpN; rw [hb]; simp
    have HN0 := Lib.hid hn0
    rw [hn0]
    rw [hF] at O0
    obtain ⟨X, Y, s⟩ := f
    have O1 := Lib.hid O0
    unfold Flr.val at HRT ⊢
    clear hb hF hn0 hsz O0
    go_enter Tryd.func25, Tryd.ntmps25
    go_wp2_with fail
    refine (HRT.out _).mono ?_
    rintro e w1 ⟨rfl, kp1⟩
    have O2 := Lib.hid (O1.out.no kp1)
    obtain ⟨bm, hbm⟩ : ∃ b, b = w.heap.size + 1 + 1 := ⟨_, rfl⟩
    obtain ⟨br, hbr⟩ : ∃ b, b = w.heap.size + 1 := ⟨_, rfl⟩
    rw [← hbm, ← hbr] at O2 ⊢
    have hc0 := O2.out.c0; have hc1 := O2.out.c1; have hc2 := O2.out.c2
    have hf0 : w1.frozen? ⟨br, 0, none⟩ = false := blk_free O2.out.rs 0
    have hf1 : w1.frozen? ⟨br, 1, none⟩ = false := blk_free O2.out.rs 1
    have hf2 : w1.frozen? ⟨br, 2, none⟩ = false := blk_free O2.out.rs 2
    have hg0 : w1.cell? ⟨br, 0, none⟩ = some (.slice none 0 0) := blk_cell O2.out.rs 0
    have hg1 : w1.cell? ⟨br, 1, none⟩ = some (.slice none 0 0) := blk_cell O2.out.rs 1
    have hg2 : w1.cell? ⟨br, 2, none⟩ = some (.slice none 0 0) := blk_cell O2.out.rs 2
    have hs0 := fun v => box_set (i := 0) O2.out.rs (by decide) v
    have hs1 := fun v0 v => box_set (i := 1) (blk_set O2.out.rs 0 v0) (by simp) v
    have hs2 := fun v0 v1 v => box_set (i := 2) (blk_set (blk_set O2.out.rs 0 v0) 1 v1) (by simp) v
    clear kp1 hbm hbr O1
    go_wp2_with fail
    obtain ⟨m1, m2⟩ := O2.out.out (by rw [← HF.out]; exact HN0.out.symm) (.slice none 0 0) (.slice none 0 0) (.slice none 0 0)
    exact bodyPost_ret (v := .agg #[.slice none 0 0, .slice none 0 0, .slice none 0 0]) (by simp [results, Tryd.results25, go_sem, hs0, hs1, hs2]) rfl ⟨none, 0, none, 0, none, 0, _, rfl, by rw [HF.out]; exact m1, m2⟩
  | true =>
    have HRT := Lib.hid (qright_at f (by omega) true hb)
    have hn0 : mpN F = F.s.size := by rw [hF]; unfold mpN; rw [hb]; simp
    have hs256 : f.s.size ≤ 256 := (rightB_iff.1 hb).s256
    obtain ⟨n, hn⟩ : ∃ n, n = F.s.size := ⟨_, rfl⟩
    rw [← hn] at hn0
    have HN0 := Lib.hid hn0
    rw [hn0]
    rw [hF] at O0
    have HN := Lib.hid hn
    have hnI : ((f.s.size : Nat) : Int) = (n : Int) := by rw [hn, hF]
    have hn256 : n ≤ 256 := by rw [hn, hF]; exact hs256
    have HR := Lib.hid (show rightB F = true by rw [hF]; exact hb)
    obtain ⟨X, Y, s⟩ := f
    simp only at hnI
    have O1 := Lib.hid O0
    unfold Flr.val at HRT ⊢
    clear hb hF hn0 hsz O0 hn hs256
    go_enter Tryd.func25, Tryd.ntmps25
    go_wp2_with fail
    refine (HRT.out _).mono ?_
    rintro e w1 ⟨rfl, kp1⟩
    obtain ⟨bm, hbm⟩ : ∃ b, b = w.heap.size + 1 + 1 := ⟨_, rfl⟩
    obtain ⟨br, hbr⟩ : ∃ b, b = w.heap.size + 1 := ⟨_, rfl⟩
    obtain ⟨bf, hbf⟩ : ∃ b, b = w.heap.size := ⟨_, rfl⟩
    have O2 := Lib.hid (show OfM F w bm bf br (.slice none 0 0) (.slice none 0 0) (.slice none 0 0) 0 0 0 [] w1 by
      rw [hbm, hbr, hbf, HF.out]; exact O1.out.no kp1)
    rw [← hbm, ← hbr, ← hbf]
    clear kp1 hbm hbr hbf O1
    go_wp2_with fail
    go_loopg [4] (n + 1) (fun g_ iv wx => ∃ (i : Nat) (A1 : Option Addr) (q1 : Nat) (A2 : Option Addr) (q2 : Nat) (A3 : Option Addr) (q3 : Nat) (Vs : List SlC), g_ = n + 1 - i ∧ iv = .int .i64 i ∧ i ≤ n ∧ OfM F w bm bf br (.slice A1 i q1) (.slice A2 i q2) (.slice A3 i q3) i i i Vs wx)
    case atStart => exact ⟨0, none, 0, none, 0, none, 0, [], rfl, rfl, by omega, O2.out⟩
    case round =>
      obtain ⟨i, A1, q1, A2, q2, A3, q3, Vs, hg, rfl, hi, om⟩ := hrel
      have OM := Lib.hid om
      have bx : BxW ⟨X, Y, s⟩ bf w wr := by have := om.bx; rwa [HF.out] at this
      have hb0 : wr.cell? ⟨bf, 0, none⟩ = some (.int .i64 X) := bx.c0
      have hb1 : wr.cell? ⟨bf, 1, none⟩ = some (.int .i64 Y) := bx.c1
      have hb2 : wr.cell? ⟨bf, 2, none⟩ = some (.string s) := bx.c2
      clear om bx O2
      by_cases hlt : i < n
      · have hltI : (i : Int) < (n : Int) := by omega
        have hwi : IntKind.i64.wrap ((i : Int) + 1) = (i : Int) + 1 := IntWalk.i64_in _ (by omega)
        have hiF : i < F.s.size := by rw [← HN.out]; exact hlt
        obtain ⟨L, hL⟩ : ∃ L, nearP F i = L := ⟨_, rfl⟩
        have NE := Lib.hid (fun wx => show Calls Tryd.prog 46 #[F.val, .int .i64 (i : Int)] wx (RetI L wx) by
          rw [← hL]; exact (qnear_any F (by rw [← HN.out]; omega) i (by omega) wx).mono fun _ _ h => .of h)
        obtain ⟨Z, hZ⟩ : ∃ Z, zoneP F i = Z := ⟨_, rfl⟩
        obtain ⟨zi, hzi⟩ : ∃ zi : Nat, zi = Z.getD 0 := ⟨_, rfl⟩
        obtain ⟨zb, hzb⟩ : ∃ zb : Bool, zb = Z.isSome := ⟨_, rfl⟩
        have ZO := Lib.hid (fun wx => show Calls Tryd.prog 45 #[F.val, .int .i64 (i : Int)] wx fun e w' => e = .returned (.tuple #[.int .i64 (zi : Int), .bool zb]) ∧ Kp No wx w' by
          rw [hzi, hzb]
          exact (qzone_any F (by rw [← HN.out]; omega) i (by omega) wx).mono fun _ _ h => by rw [hZ] at h; exact h)
        have HZB := Lib.hid (show zb = decide (kdS F.s i = 2) by rw [hzb, ← hZ]; exact zone_isSome F i HR.out hiF)
        rw [HF.out] at NE ZO
        unfold Flr.val at NE ZO
        simp only at NE ZO
        have HL := Lib.hid hL
        have hjs : i < s.size := by have := HF.out; rw [this] at hiF; exact hiF
        have hbt := bt_at s i hjs
        obtain ⟨ob, hob⟩ : ∃ ob, ob = ((bt s i : Int) != 35) := ⟨_, rfl⟩
        have hbs : (((s[i]'hjs).toNat : Int) != 35) = ob := by rw [hbt, hob]
        have HOB := Lib.hid (show ob = (bt F.s i != 35) by
          rw [hob, HF.out]
          by_cases e : bt s i = 35
          · simp [e]
          · have h1 : ((bt s i : Int) != 35) = true := by simp; omega
            have h2 : (bt s i != 35) = true := by simp [e]
            rw [h1]; exact h2.symm)
        clear hL hZ hzi hzb hiF hlt hbt hob
        go_wp2_with fail
        refine (ZO.out _).mono ?_
        rintro e w2 ⟨rfl, kz⟩
        have O2 := Lib.hid (OM.out.no kz)
        clear kz hb0 hb1 hb2 OM
        have lb : ∀ wx k1 k2 k3 V1 V2 V3 Vs', OfM F w bm bf br V1 V2 V3 k1 k2 k3 Vs' wx → wx.cell? ⟨bf, 0, none⟩ = some (.int .i64 X) ∧ wx.cell? ⟨bf, 1, none⟩ = some (.int .i64 Y) ∧ wx.cell? ⟨bf, 2, none⟩ = some (.string s) := fun wx k1 k2 k3 V1 V2 V3 Vs' h => by
          have h0 := h.bx.c0; have h1 := h.bx.c1; have h2 := h.bx.c2
          rw [HF.out] at h0 h1 h2; exact ⟨h0, h1, h2⟩
        have LB := Lib.hid lb
        clear lb
        obtain ⟨hb0, hb1, hb2⟩ := LB.out _ _ _ _ _ _ _ _ O2.out
        have hm0 := O2.out.c0
        go_upto_region 8 with fail
        go_cut [24, 25, 26, 27, 28, 29, 30, 31] (fun _ _ _ _ _ _ _ _ wx => ∃ A1' q1' Vs', OfM F w bm bf br (.slice A1' (i + 1) q1') (.slice A2 i q2) (.slice A3 i q3) (i + 1) i i Vs' wx)
        case first =>
          go_region_law (first
            | (go_simp; go_at_call 46; refine (NE.out _).mono ?_; rintro e w3 ⟨A, q, rfl, ns⟩; have L3 := O2.out.no (w' := w3) (Kp.trans ((Kp.refl No _).drew) ns.kp); have d0 := L3.c0; have d0a : ∀ o, (w3.alloc o).cell? ⟨bm, 0, none⟩ = some (.slice A1 i q1) := fun o => (L3.no ((Kp.refl No w3).alloc o)).c0; have L3 := Lib.hid L3; have NS := Lib.hid ns; clear ns)
            | (refine stp_app elSv rfl (.tmp 25) (.tmp 29) rfl rfl rfl (v := .slice A1 i q1) (l := Vs) (m := [(A, L.length, q)]) (L3.out.no ((Kp.refl No w3).alloc _)).o1 (Rd.litAt SvK 24 w3 _ [(A, L.length, q)] rfl (by unfold maxLen; simp) _ _ rfl rfl) (by rw [L3.out.len]; unfold maxLen; simp; omega) (by rw [L3.out.len]; simp; omega) ?_; intro V4 w4 m1 m2 m3; obtain ⟨A4, q4, rfl⟩ := m1.rd.shape; rw [List.length_append, L3.out.len, List.length_singleton] at m1 m3 ⊢; have B4 := m2.blk (L3.out.no ((Kp.refl No w3).alloc _)).blk (fun e => (L3.out.n1 _ e).1 rfl); have F4 : w4.frozen? ⟨bm, 0, none⟩ = false := blk_free B4 0; have C4 : w4.cell? ⟨bm, 0, none⟩ = some (.slice A1 i q1) := blk_cell B4 0; have M1 := Lib.hid m1; have M2 := Lib.hid m2; have M3 := Lib.hid m3; clear m1 m2 m3 B4))
          all_goals
            have SZ := L3.out.lts
            have AP := Lib.hid ((L3.out.no ((Kp.refl No w3).alloc (.cells #[.slice A L.length q] 24))).app1 (v := (A, L.length, q)) (by rw [HL.out]; exact NS.out.own.rd.alloc _) (fun g hg => by
              have h1 := NS.out.ge g hg
              have h2 := NS.out.own.lt hg
              have h1 : w2.heap.size ≤ g := by simpa using h1
              obtain ⟨l0, l1, l2, l3⟩ := O2.out.lts
              exact ⟨by omega, fun e => by have := O2.out.o1.lt e; omega, fun e => by have := O2.out.o2.lt e; omega, fun e => by have := O2.out.o3.lt e; omega, by simp; omega, by omega⟩) M1.out M2.out M3.out)
            go_wp2_with fail
            go_meet
            exact ⟨_, _, _, AP.out.no ((Kp.refl No _).drewN 0)⟩
        case rest =>
          obtain ⟨A4, q4, V4, om⟩ := hcut
          have O4 := Lib.hid om
          clear om hb0 hb1 hb2 hm0 O2
          have hm1 := O4.out.c1
          have HL2 := Lib.hid (lnB_len F i i)
          have HL3 := Lib.hid (opL_len F i)
          obtain ⟨wd, hwd⟩ : ∃ x : World, x = wc := ⟨_, rfl⟩
          rw [← hwd] at O4 hm1 ⊢
          clear hwd
          go_upto_region 9 with fail
          go_cut [32, 33, 34, 35, 36, 37] (fun _ _ _ _ _ _ wx => ∃ A2' q2', OfM F w bm bf br (.slice A4 (i + 1) q4) (.slice A2' (i + 1) q2') (.slice A3 i q3) (i + 1) (i + 1) i V4 wx)
          case first =>
            go_wp2_with (at_builtin; refine wpl_append elBo rfl (.tmp 33) (.tmp 35) rfl rfl rfl (v := .slice A2 i q2) (l := lnB F i i) (m := [zb]) (O4.out.o2.alloc _) (Rd.litAt BoK 4 _ _ [zb] rfl (by unfold maxLen; simp) _ _ rfl rfl) (by rw [HL2.out]; unfold maxLen; simp; omega) (by rw [HL2.out]; simp; omega) ?_; intro V5 w5 m1 m2 m3; obtain ⟨A5, q5, rfl⟩ := m1.rd.shape; rw [List.length_append, HL2.out, List.length_singleton] at m1 m3 ⊢; rw [← lnB_snoc F i zb HZB.out] at m1; have B5 := m2.blk (O4.out.no ((Kp.refl No wd).alloc _)).blk (fun e => (O4.out.n2 _ e).1 rfl); have F5 : w5.frozen? ⟨bm, 1, none⟩ = false := blk_free B5 1; have C5 : w5.cell? ⟨bm, 1, none⟩ = some (.slice A2 i q2) := blk_cell B5 1; have AP := Lib.hid ((O4.out.no ((Kp.refl No wd).alloc _)).app2 m1 m2 m3); clear m1 m2 m3 B5)
            go_meet
            exact ⟨_, _, AP.out.no ((Kp.refl No _).drewN 0)⟩
          case rest =>
            obtain ⟨A5, q5, om⟩ := hcut
            have O5 := Lib.hid om
            clear om hm1
            obtain ⟨we, hwe⟩ : ∃ x : World, x = wc := ⟨_, rfl⟩
            rw [← hwe] at O5 ⊢
            clear hwe
            have hm2 := O5.out.c2
            obtain ⟨hb0, hb1, hb2⟩ := LB.out _ _ _ _ _ _ _ _ O5.out
            have lit := Lib.hid (show ∀ wx : World, Rd BoK (wx.alloc (.cells #[.bool ob] 4)) (.slice (some ⟨wx.heap.size, 0, none⟩) 1 1) [ob] from fun wx => Rd.litAt BoK 4 wx _ [ob] rfl (by unfold maxLen; simp) _ _ rfl rfl)
            have hm2a : ∀ o, (we.alloc o).cell? ⟨bm, 2, none⟩ = some (.slice A3 i q3) := fun o => (O5.out.no ((Kp.refl No we).alloc o)).c2
            go_upto_region 10 with fail
            go_region_law (refine stp_app elBo rfl (.tmp 39) (.tmp 45) rfl rfl rfl (v := .slice A3 i q3) (l := opL F i) (m := [ob]) (O5.out.no ((Kp.refl No we).alloc _)).o3 (lit.out we) (by rw [HL3.out]; unfold maxLen; simp; omega) (by rw [HL3.out]; simp; omega) ?_; intro V6 w6 m1 m2 m3; obtain ⟨A6, q6, rfl⟩ := m1.rd.shape; rw [List.length_append, HL3.out, List.length_singleton] at m1 m3 ⊢; rw [← opL_snoc F i ob HOB.out] at m1; have B6 := m2.blk (O5.out.no ((Kp.refl No we).alloc _)).blk (fun e => (O5.out.n3 _ e).1 rfl); have F6 : w6.frozen? ⟨bm, 2, none⟩ = false := blk_free B6 2; have C6 : w6.cell? ⟨bm, 2, none⟩ = some (.slice A3 i q3) := blk_cell B6 2; have AP := Lib.hid ((O5.out.no ((Kp.refl No we).alloc (.cells #[.bool ob] 4)).drew).app3 m1 m2 m3); clear m1 m2 m3 B6)
            all_goals
              go_wp2_with fail
              go_roundg (n + 1 - (i + 1))
              case measure => omega
              case rel => exact ⟨i + 1, A4, q4, A5, q5, A6, q6, V4, rfl, by go_num, by omega, AP.out.no ((Kp.refl No _).drewN 0)⟩
      · obtain rfl : i = n := by omega
        have hd0 : ¬ (i : Int) < (i : Int) := by omega
        have hc0 := OM.out.c0; have hc1 := OM.out.c1; have hc2 := OM.out.c2
        have hf0 : wr.frozen? ⟨br, 0, none⟩ = false := blk_free OM.out.rs 0
        have hf1 : wr.frozen? ⟨br, 1, none⟩ = false := blk_free OM.out.rs 1
        have hf2 : wr.frozen? ⟨br, 2, none⟩ = false := blk_free OM.out.rs 2
        have hg0 : wr.cell? ⟨br, 0, none⟩ = some (.slice none 0 0) := blk_cell OM.out.rs 0
        have hg1 : wr.cell? ⟨br, 1, none⟩ = some (.slice none 0 0) := blk_cell OM.out.rs 1
        have hg2 : wr.cell? ⟨br, 2, none⟩ = some (.slice none 0 0) := blk_cell OM.out.rs 2
        have hs0 := fun v => box_set (i := 0) OM.out.rs (by decide) v
        have hs1 := fun v0 v => box_set (i := 1) (blk_set OM.out.rs 0 v0) (by simp) v
        have hs2 := fun v0 v1 v => box_set (i := 2) (blk_set (blk_set OM.out.rs 0 v0) 1 v1) (by simp) v
        clear hlt
        go_wp2_with fail
        obtain ⟨m1, m2⟩ := OM.out.out HN0.out.symm (.slice A1 i q1) (.slice A2 i q2) (.slice A3 i q3)
        exact bodyPost_ret (v := .agg #[.slice A1 i q1, .slice A2 i q2, .slice A3 i q3]) (by simp [results, Tryd.results25, go_sem, hs0, hs1, hs2]) rfl ⟨A1, q1, A2, q2, A3, q3, rfl, ⟨Vs, m1⟩, m2⟩
end Go.Proofs.YthchoknhkhfdnaaDoor

namespace Go.Proofs.YthchoknhkhfdnaaDoor
set_option linter.unusedVariables false
set_option linter.unusedSimpArgs false
open Go.RowKit

noncomputable def farP (f : Flr) (fr : Nat) (B : List Int) (u g : Nat) : Int := if u = g then 0 else if u ≠ fr ∧ kdS f.s u ≠ 2 then -1 else dst (stepsP f u B) u g
theorem steps_of {f : Flr} {fr : Nat} {B : List Int} {u c : Nat} (h : c ∈ stepsP f fr B u) : u = fr ∨ kdS f.s u = 2 := by
  unfold stepsP at h
  split at h
  · simp at h
  · rename_i hx
    by_cases h1 : u = fr
    · exact .inl h1
    · exact .inr (Classical.byContradiction fun h2 => hx ⟨h1, h2⟩)
theorem steps_sub {f : Flr} {fr l : Nat} {B : List Int} {u c : Nat} (h : c ∈ stepsP f l B u) (hu : u = fr ∨ kdS f.s u = 2) : c ∈ stepsP f fr B u := by
  have h1 := steps_of h
  unfold stepsP at h ⊢
  rw [if_neg (by rintro ⟨a, b⟩; rcases h1 with e | e; exact a e; exact b e)] at h
  rw [if_neg (by rintro ⟨a, b⟩; rcases hu with e | e; exact a e; exact b e)]
  exact h
theorem Wk.sub {st st' : Nat → List Nat} {s k c : Nat} (h : Wk st s k c) (hs : ∀ u c, c ∈ st u → c ∈ st' u) : Wk st' s k c := by
  induction h with
  | nil => exact .nil
  | step _ hc ih => exact .step ih (hs _ _ hc)
theorem dst_self (st : Nat → List Nat) (s : Nat) : dst st s s = 0 := by
  rcases dst_isD st s s with ⟨_, h⟩ | ⟨k, h1, _, h3⟩
  · exact absurd .nil (h 0)
  · have := h3 0 .nil; omega
theorem far_self (f : Flr) (fr : Nat) (B : List Int) (g : Nat) : farP f fr B fr g = dst (stepsP f fr B) fr g := by
  unfold farP
  by_cases e : fr = g
  · subst e; rw [if_pos rfl, dst_self]
  · rw [if_neg e, if_neg (by simp)]
theorem far_iff {f : Flr} {fr : Nat} {B : List Int} {a l g i d n : Nat} (hn : dst (stepsP f fr B) fr g = (n : Int)) (ha : Wk (stepsP f fr B) fr i a) (hl : l ∈ stepsP f fr B a) (hd : i + 1 + d = n) : farP f fr B l g = (d : Int) ↔ Wk (stepsP f fr B) l d g := by
  have least : ∀ j, Wk (stepsP f fr B) fr j g → n ≤ j := by
    rcases dst_isD (stepsP f fr B) fr g with ⟨h, _⟩ | ⟨k, h, _, h3⟩
    · omega
    · obtain rfl : k = n := by omega
      exact h3
  have via : ∀ j, Wk (stepsP f fr B) l j g → d ≤ j := fun j hj => by
    have := least (i + 1 + j) ((Wk.step ha hl).trans hj); omega
  have sub : (l = fr ∨ kdS f.s l = 2) → ∀ u c, c ∈ stepsP f l B u → c ∈ stepsP f fr B u := fun hlf u c hc => by
    refine steps_sub hc ?_
    rcases steps_of hc with rfl | e
    · exact hlf
    · exact .inr e
  unfold farP
  constructor
  · intro h
    by_cases e : l = g
    · rw [if_pos e] at h
      obtain rfl : d = 0 := by omega
      subst e; exact .nil
    · rw [if_neg e] at h
      by_cases e2 : l ≠ fr ∧ kdS f.s l ≠ 2
      · rw [if_pos e2] at h; omega
      · rw [if_neg e2] at h
        have hlf : l = fr ∨ kdS f.s l = 2 := by
          by_cases h1 : l = fr
          · exact .inl h1
          · exact .inr (Classical.byContradiction fun h2 => e2 ⟨h1, h2⟩)
        rcases dst_isD (stepsP f l B) l g with ⟨h1, _⟩ | ⟨k, h1, h2, _⟩
        · omega
        · obtain rfl : k = d := by omega
          exact h2.sub (sub hlf)
  · intro hw
    by_cases e : l = g
    · rw [if_pos e]
      have := via 0 (by subst e; exact .nil)
      omega
    · rw [if_neg e]
      have hlf : l = fr ∨ kdS f.s l = 2 := by
        have : ∃ c, c ∈ stepsP f fr B l := by
          have gen : ∀ j c, Wk (stepsP f fr B) l j c → c = l ∨ ∃ c, c ∈ stepsP f fr B l := by
            intro j c h
            induction h with
            | nil => exact .inl rfl
            | step h hc ih =>
              rcases ih with rfl | ih
              · exact .inr ⟨_, hc⟩
              · exact .inr ih
          rcases gen _ _ hw with h | h
          · exact absurd h.symm e
          · exact h
        obtain ⟨c, hc⟩ := this
        exact steps_of hc
      rw [if_neg (by rintro ⟨a, b⟩; rcases hlf with h | h; exact a h; exact b h)]
      have pre : ∀ j e, Wk (stepsP f fr B) l j e → ∀ r, Wk (stepsP f fr B) e r g → j + r = d → Wk (stepsP f l B) l j e := by
        intro j e h
        induction h with
        | nil => intro r _ _; exact .nil
        | step h hc ih =>
          rename_i j2 a2 c2
          intro r hr hj
          refine .step (ih (r + 1) (.front hc hr) (by omega)) (steps_sub hc ?_)
          rcases steps_of hc with h1 | h1
          · by_cases h2 : a2 = l
            · exact .inl h2
            · exfalso
              rw [h1] at hc
              have := least (r + 1) (.front hc hr)
              omega
          · exact .inr h1
      have hg : Wk (stepsP f l B) l d g := pre d g hw 0 .nil (by omega)
      exact (dst_isD _ _ _).uniq (.inr ⟨d, rfl, hg, fun j hj => via j (hj.sub (sub hlf))⟩)
theorem FstW.walk {st : Nat → List Nat} {s g : Nat} {Q : List Nat} (h : FstW st s g Q) : ∀ k, k ≤ Q.length → Wk st s k (nd s Q k) := by
  intro k
  induction k with
  | zero => intro _; exact .nil
  | succ k ih =>
    intro hk
    obtain ⟨b, hb⟩ : ∃ b, Q[k]? = some b := ⟨_, List.getElem?_eq_getElem (by omega)⟩
    obtain ⟨_, m, hm, _⟩ := h.at_ k b hb
    rw [nd_succ hb]
    exact .step (ih (by omega)) (List.mem_of_getElem? hm)
end Go.Proofs.YthchoknhkhfdnaaDoor

namespace Go.Proofs.YthchoknhkhfdnaaDoor
set_option linter.unusedVariables false
set_option linter.unusedSimpArgs false
open Go.RowKit

/-- Steps, reckoned. -/
def stepsC (W H : Nat) (s : ByteArray) (fr : Nat) (B : List Int) (u : Nat) : List Nat :=
  if (u == fr || kdS s u == 2) && (kdS s u == 2 || kdS s u == 3) then ((besideP W H u).filter fun x => kdS s x != 1).filter fun (c : Nat) => !decide ((c : Int) ∈ B) else []
theorem stepsC_eq {W H : Nat} {s : ByteArray} (hb : rightB ⟨W, H, s⟩ = true) {fr : Nat} (hf : kdS s fr ≠ 1) (B : List Int) {u : Nat} (hu : u < s.size) : stepsP ⟨W, H, s⟩ fr B u = stepsC W H s fr B u := by
  unfold stepsP stepsC
  rcases right_kd hb hu with h | h | h
  · rw [if_pos ⟨fun e => hf (by rw [← e]; exact h), by rw [h]; decide⟩, if_neg (by rw [h]; simp)]
  · rw [if_neg (by rintro ⟨_, b⟩; exact b h), if_pos (by rw [h]; simp), nearP_at (W := W) (H := H) hb hu rfl rfl (.inl h)]
  · by_cases e : u = fr
    · rw [if_neg (by rintro ⟨a, _⟩; exact a e), if_pos (by rw [h, e]; simp), nearP_at (W := W) (H := H) hb hu rfl rfl (.inr h)]
    · rw [if_pos ⟨e, by rw [h]; decide⟩, if_neg (by rw [h]; simp [e])]
/-- h bounds how far each cell is from g. -/
theorem pot {st : Nat → List Nat} {n : Nat} {h : Nat → Nat} (hs : ∀ u, u < n → ∀ c ∈ st u, c < n ∧ h u ≤ h c + 1) {l k c : Nat} (hw : Wk st l k c) (hl : l < n) : c < n ∧ h l ≤ h c + k := by
  induction hw with
  | nil => exact ⟨hl, Nat.le_refl _⟩
  | step _ hc ih =>
    obtain ⟨h1, h2⟩ := ih
    obtain ⟨h3, h4⟩ := hs _ h1 _ hc
    exact ⟨h3, by omega⟩
theorem FstW.uniq {st : Nat → List Nat} {s g : Nat} {Q R : List Nat} (h : FstW st s g Q) (r : FstW st s g R) (hl : Q.length = R.length) : Q = R := by
  have key : ∀ (k : Nat), (∀ (j : Nat), j < k → Q[j]? = R[j]?) := by
    intro k
    induction k with
    | zero => intro j hj; omega
    | succ k ih =>
      intro j hj
      rcases Nat.lt_or_ge j k with h1 | h1
      · exact ih j h1
      · obtain rfl : j = k := by omega
        rcases Nat.lt_or_ge j Q.length with h2 | h2
        · obtain ⟨a, ha⟩ : ∃ b, Q[j]? = some b := ⟨_, List.getElem?_eq_getElem h2⟩
          obtain ⟨b, hb⟩ : ∃ b, R[j]? = some b := ⟨_, List.getElem?_eq_getElem (by omega)⟩
          have hn : nd s Q j = nd s R j := by
            cases j with
            | zero => rfl
            | succ j =>
              show Q.getD j 0 = R.getD j 0
              rw [List.getD_eq_getElem?_getD, List.getD_eq_getElem?_getD, ih j (by omega)]
          obtain ⟨w1, m1, a1, a2⟩ := h.at_ j a ha
          obtain ⟨w2, m2, b1, b2⟩ := r.at_ j b hb
          rw [hn] at a1 a2
          rw [← hl] at w2 b2
          rcases Nat.lt_trichotomy m1 m2 with e | e | e
          · exact absurd w1 (b2 _ _ e a1)
          · subst e; rw [a1] at b1; rw [ha, hb, b1]
          · exact absurd w2 (a2 _ _ e b1)
        · rw [List.getElem?_eq_none h2, List.getElem?_eq_none (by omega)]
  exact List.ext_getElem? fun j => key (j + 1) j (by omega)
/-- A way, reckoned: Q[k] is the m[k]-th neighbour, and ahead of it all are too far. -/
structure Way (st : Nat → List Nat) (h : Nat → Nat) (n s g : Nat) (Q ms : List Nat) : Prop where
  en : nd s Q Q.length = g
  ok : ∀ k, k < Q.length → (st (nd s Q k))[ms.getD k 0]? = Q[k]? ∧ ∀ m', m' < ms.getD k 0 → ∀ l ∈ (st (nd s Q k))[m']?, Q.length - 1 - k < h l
theorem Way.walk {st : Nat → List Nat} {h : Nat → Nat} {n s g : Nat} {Q ms : List Nat} (w : Way st h n s g Q ms) : ∀ d k, k + d = Q.length → Wk st (nd s Q k) d g := by
  intro d
  induction d with
  | zero => intro k hk; rw [← w.en, show k = Q.length by omega]; exact .nil
  | succ d ih =>
    intro k hk
    obtain ⟨b, hb⟩ : ∃ b, Q[k]? = some b := ⟨_, List.getElem?_eq_getElem (by omega)⟩
    have h1 := (w.ok k (by omega)).1
    rw [hb] at h1
    have := ih (k + 1) (by omega)
    rw [nd_succ hb] at this
    exact .front (List.mem_of_getElem? h1) this
theorem Way.fst {st : Nat → List Nat} {h : Nat → Nat} {n s g : Nat} {Q ms : List Nat} (w : Way st h n s g Q ms) (hs : ∀ u, u < n → ∀ c ∈ st u, c < n ∧ h u ≤ h c + 1) (hsn : s < n) (hg : h g = 0) : FstW st s g Q := by
  have ndn : ∀ k, k ≤ Q.length → nd s Q k < n := by
    intro k
    induction k with
    | zero => intro _; exact hsn
    | succ k ih =>
      intro hk
      obtain ⟨b, hb⟩ : ∃ b, Q[k]? = some b := ⟨_, List.getElem?_eq_getElem (by omega)⟩
      have h1 := (w.ok k (by omega)).1
      rw [hb] at h1
      rw [nd_succ hb]
      exact (hs _ (ih (by omega)) b (List.mem_of_getElem? h1)).1
  refine ⟨w.en, fun k b hb => ?_⟩
  have hl := (List.getElem?_eq_some_iff.1 hb).1
  obtain ⟨h1, h2⟩ := w.ok k hl
  rw [hb] at h1
  refine ⟨?_, _, h1, fun m' l hm hl2 hw => ?_⟩
  · have := w.walk (Q.length - 1 - k) (k + 1) (by omega)
    rwa [nd_succ hb] at this
  · have h3 := h2 m' hm l hl2
    have h4 := (pot hs hw (hs _ (ndn k (by omega)) l (List.mem_of_getElem? hl2)).1).2
    omega
theorem Way.dst {st : Nat → List Nat} {h : Nat → Nat} {n s g : Nat} {Q ms : List Nat} (w : Way st h n s g Q ms) (hs : ∀ u, u < n → ∀ c ∈ st u, c < n ∧ h u ≤ h c + 1) (hsn : s < n) (hg : h g = 0) (hh : h s = Q.length) : dst st s g = (Q.length : Int) :=
  (dst_isD st s g).uniq (.inr ⟨Q.length, rfl, w.walk Q.length 0 (by omega), fun k hk => by have := (pot hs hk hsn).2; omega⟩)
end Go.Proofs.YthchoknhkhfdnaaDoor

namespace Go.Proofs.YthchoknhkhfdnaaDoor
set_option linter.unusedVariables false
set_option linter.unusedSimpArgs false
open Go.RowKit

theorem steps_fun {W H : Nat} {s : ByteArray} (hb : rightB ⟨W, H, s⟩ = true) {fr : Nat} (hf : kdS s fr ≠ 1) (hfr : fr < s.size) (B : List Int) {G : List (List Nat)} (hG : (List.range s.size).map (stepsC W H s fr B) = G) : stepsP ⟨W, H, s⟩ fr B = fun u => G.getD u [] := by
  funext u
  subst hG
  rw [List.getD_eq_getElem?_getD, List.getElem?_map]
  rcases Nat.lt_or_ge u s.size with h | h
  · rw [List.getElem?_range h]
    exact stepsC_eq hb hf B h
  · rw [List.getElem?_eq_none (by simpa using h)]
    unfold stepsP
    have : nearP ⟨W, H, s⟩ (u : Int) = [] := nearP_no (fun h2 => by have := h2.2.1; simp at this; omega)
    split
    · rfl
    · rw [this]; rfl
def fS : Flr := ⟨5, 3, ⟨#[48, 97, 97, 98, 49, 35, 99, 35, 100, 35, 50, 101, 101, 102, 102]⟩⟩
theorem fS_right : rightB fS = true := rightC_ok (W := 5) (H := 3) (by kernel_rfl)
theorem parse_S : parseP ⟨#[48, 97, 97, 98, 49, 10, 35, 99, 35, 100, 35, 10, 50, 101, 101, 102, 102, 10]⟩ = (fS, 0, 0) := parseP_of (W := 5) (H := 3) (R := [⟨#[48, 97, 97, 98, 49]⟩, ⟨#[35, 99, 35, 100, 35]⟩, ⟨#[50, 101, 101, 102, 102]⟩]) (by kernel_rfl) (by kernel_rfl) (by kernel_rfl) (by kernel_rfl) (by kernel_rfl) (by kernel_rfl)
theorem st_a : stepsP fS 0 [] = fun u => ([[1], [2, 6, 0], [3, 1], [4, 8, 2], [], [], [1, 11], [], [3, 13], [], [], [6, 12, 10], [13, 11], [8, 14, 12], [13]] : List (List Nat)).getD u [] := steps_fun (W := 5) (H := 3) (s := ⟨#[48, 97, 97, 98, 49, 35, 99, 35, 100, 35, 50, 101, 101, 102, 102]⟩) fS_right (by decide) (by decide) [] (by kernel_rfl)
theorem pt_a : ∀ u, u < 15 → ∀ c ∈ stepsP fS 0 [] u, c < 15 ∧ ([4, 3, 2, 1, 0, 100, 4, 100, 2, 100, 100, 5, 4, 3, 4] : List Nat).getD u 0 ≤ ([4, 3, 2, 1, 0, 100, 4, 100, 2, 100, 100, 5, 4, 3, 4] : List Nat).getD c 0 + 1 := by rw [st_a]; decide
theorem wy_a : Way (stepsP fS 0 []) (fun u => ([4, 3, 2, 1, 0, 100, 4, 100, 2, 100, 100, 5, 4, 3, 4] : List Nat).getD u 0) 15 0 4 [1, 2, 3, 4] [0, 0, 0, 0] := by
  rw [st_a]
  exact ⟨by decide, by decide⟩
theorem ds_a : dst (stepsP fS 0 []) 0 4 = 4 := wy_a.dst pt_a (by decide) (by decide) (by decide)
theorem fw_a : FstW (stepsP fS 0 []) 0 4 [1, 2, 3, 4] := wy_a.fst pt_a (by decide) (by decide)
theorem st_b : stepsP fS 0 [2] = fun u => ([[1], [6, 0], [3, 1], [4, 8], [], [], [1, 11], [], [3, 13], [], [], [6, 12, 10], [13, 11], [8, 14, 12], [13]] : List (List Nat)).getD u [] := steps_fun (W := 5) (H := 3) (s := ⟨#[48, 97, 97, 98, 49, 35, 99, 35, 100, 35, 50, 101, 101, 102, 102]⟩) fS_right (by decide) (by decide) [2] (by kernel_rfl)
theorem pt_b : ∀ u, u < 15 → ∀ c ∈ stepsP fS 0 [2] u, c < 15 ∧ ([8, 7, 2, 1, 0, 100, 6, 100, 2, 100, 100, 5, 4, 3, 4] : List Nat).getD u 0 ≤ ([8, 7, 2, 1, 0, 100, 6, 100, 2, 100, 100, 5, 4, 3, 4] : List Nat).getD c 0 + 1 := by rw [st_b]; decide
theorem wy_b : Way (stepsP fS 0 [2]) (fun u => ([8, 7, 2, 1, 0, 100, 6, 100, 2, 100, 100, 5, 4, 3, 4] : List Nat).getD u 0) 15 0 4 [1, 6, 11, 12, 13, 8, 3, 4] [0, 0, 1, 1, 0, 0, 0, 0] := by
  rw [st_b]
  exact ⟨by decide, by decide⟩
theorem ds_b : dst (stepsP fS 0 [2]) 0 4 = 8 := wy_b.dst pt_b (by decide) (by decide) (by decide)
theorem fw_b : FstW (stepsP fS 0 [2]) 0 4 [1, 6, 11, 12, 13, 8, 3, 4] := wy_b.fst pt_b (by decide) (by decide)
theorem st_d : stepsP fS 0 [] = fun u => ([[1], [2, 6, 0], [3, 1], [4, 8, 2], [], [], [1, 11], [], [3, 13], [], [], [6, 12, 10], [13, 11], [8, 14, 12], [13]] : List (List Nat)).getD u [] := steps_fun (W := 5) (H := 3) (s := ⟨#[48, 97, 97, 98, 49, 35, 99, 35, 100, 35, 50, 101, 101, 102, 102]⟩) fS_right (by decide) (by decide) [] (by kernel_rfl)
theorem pt_d : ∀ u, u < 15 → ∀ c ∈ stepsP fS 0 [] u, c < 15 ∧ ([4, 3, 4, 5, 100, 100, 2, 100, 4, 100, 0, 1, 2, 3, 4] : List Nat).getD u 0 ≤ ([4, 3, 4, 5, 100, 100, 2, 100, 4, 100, 0, 1, 2, 3, 4] : List Nat).getD c 0 + 1 := by rw [st_d]; decide
theorem wy_d : Way (stepsP fS 0 []) (fun u => ([4, 3, 4, 5, 100, 100, 2, 100, 4, 100, 0, 1, 2, 3, 4] : List Nat).getD u 0) 15 0 10 [1, 6, 11, 10] [0, 1, 1, 2] := by
  rw [st_d]
  exact ⟨by decide, by decide⟩
theorem ds_d : dst (stepsP fS 0 []) 0 10 = 4 := wy_d.dst pt_d (by decide) (by decide) (by decide)
theorem fw_d : FstW (stepsP fS 0 []) 0 10 [1, 6, 11, 10] := wy_d.fst pt_d (by decide) (by decide)
theorem ok_S : ptOk fS 0 = true := by unfold ptOk; rw [fS_right]; decide
theorem op_S : opB fS 4 = true := by decide
end Go.Proofs.YthchoknhkhfdnaaDoor

namespace Go.Proofs.YthchoknhkhfdnaaDoor
set_option linter.unusedVariables false
set_option linter.unusedSimpArgs false
open Go.RowKit

theorem boxM (w : World) (v1 v2 v3 : Value) : (w.alloc (.cells #[v1, v2, v3] 51)).heap[w.heap.size]? = some (.cells #[v1, v2, v3] 51 (0, 0)) := blk_new w _
set_option maxHeartbeats 1000000 in
set_option maxRecDepth 100000 in
theorem q5far_any {f : Flr} {n : Nat} {M : MpC} {Vs : List SlC} {w : World} {bv : Value} {B : List Int} (h : MpW f n M Vs w) (hn : n ≤ 1000) (u fr g : Nat) (hok : ptOk f fr = true) (hu : u < n) (hg : g < n) (hB : Rd IK w bv B) (x : Int) (hx : x = farP f fr B u g) :
    Calls Tryd.prog 47 #[M.val n, .int .i64 (u : Int), .int .i64 (fr : Int), .int .i64 (g : Int), bv] w fun e w' => e = .returned (.int .i64 x) ∧ Kp No w w' := by
  obtain ⟨w1, hw1⟩ : ∃ w1, w1 = w.alloc (.cells #[.slice M.A1 n M.q1, .slice M.A2 n M.q2, .slice M.A3 n M.q3] 51) := ⟨_, rfl⟩
  have K1 := Lib.hid (show Kp No w w1 by rw [hw1]; exact (Kp.refl _ _).alloc _)
  have BX := Lib.hid (show w1.heap[w.heap.size]? = some (.cells #[.slice M.A1 n M.q1, .slice M.A2 n M.q2, .slice M.A3 n M.q3] 51 (0, 0)) by rw [hw1]; exact blk_new w _)
  have HW1 := Lib.hid hw1
  clear hw1
  have H := Lib.hid (h.no K1.out); have HB := Lib.hid (hB.kpNo K1.out)
  have hb0 : w1.cell? ⟨w.heap.size, 0, none⟩ = some (.slice M.A1 n M.q1) := blk_cell BX.out 0
  have hb1 : w1.cell? ⟨w.heap.size, 1, none⟩ = some (.slice M.A2 n M.q2) := blk_cell BX.out 1
  have hb2 : w1.cell? ⟨w.heap.size, 2, none⟩ = some (.slice M.A3 n M.q3) := blk_cell BX.out 2
  unfold farP at hx
  by_cases e1 : u = g
  · subst e1
    rw [if_pos rfl] at hx
    have HX := Lib.hid hx
    obtain ⟨A1, q1, A2, q2, A3, q3⟩ := M
    unfold MpC.val
    simp only at hb0 hb1 hb2 HW1 ⊢
    clear h hx hok hB H BX
    go_enter Tryd.func47, Tryd.ntmps47
    go_upto_region 1 with fail
    rw [← HW1.out]
    go_wp2_with fail
    go_ret
    exact ⟨by rw [HX.out]; rfl, K1.out⟩
  · rw [if_neg e1] at hx
    have e1b : ((u : Int) == (g : Int)) = false := by simp; omega
    obtain ⟨lb, hlb⟩ : ∃ b, b = decide (kdS f.s u = 2) := ⟨_, rfl⟩
    have hlg := lnB_get (f := f) (k := n) hu
    rw [show decide (u < n ∧ kdS f.s u = 2) = lb by rw [hlb]; simp [hu]] at hlg
    obtain ⟨g2, o2, hA2⟩ := h.ln.some_ (by omega)
    have hln := h.ln
    rw [hA2] at hln
    have hcl := (hln.kpNo K1.out).one BoK1 hlg
    obtain ⟨db, hdb⟩ : ∃ b, b = ((u : Int) != (fr : Int)) := ⟨_, rfl⟩
    have hdbI := hdb.symm
    have huI : (u : Int) < (n : Int) := by omega
    by_cases e2 : u ≠ fr ∧ kdS f.s u ≠ 2
    · rw [if_pos e2] at hx
      obtain rfl : lb = false := by rw [hlb]; simp [e2.2]
      obtain rfl : db = true := by rw [hdb]; simp; omega
      have HX := Lib.hid hx
      obtain ⟨A1, q1, A2, q2, A3, q3⟩ := M
      simp only at hA2
      subst hA2
      unfold MpC.val
      simp only at hb0 hb1 hb2 HW1 ⊢
      clear h hx hok hB H BX e1 e2 hlb hdb hln hlg hu hg
      go_enter Tryd.func47, Tryd.ntmps47
      go_upto_region 1 with fail
      rw [← HW1.out]
      go_wp2_with fail
      go_ret
      exact ⟨by rw [HX.out]; rfl, K1.out⟩
    · rw [if_neg e2] at hx
      obtain ⟨k, hk1, hk2, hr⟩ := ptOk_nat hok
      have hnf : n = f.s.size := by rw [h.hn]; unfold mpN; rw [if_pos (rightB_iff.2 hr)]
      have hlf : u = fr ∨ kdS f.s u = 2 := by
        by_cases h1 : u = fr
        · exact .inl h1
        · exact .inr (Classical.byContradiction fun h2 => e2 ⟨h1, h2⟩)
      have hou : ptOk f (u : Int) = true := by
        rcases hlf with rfl | h2
        · exact hok
        · unfold ptOk
          rw [rightB_iff.2 hr]
          have h3 : (u : Int) < (f.s.size : Int) := by omega
          simp [h3]
          rintro h4
          unfold kdS at h2; rw [h4] at h2; simp [kindB] at h2
      have HD := Lib.hid (show distP f (u : Int) B = distL (stepsP f u B) u n by unfold distP; rw [hou, hnf]; simp)
      have QD := Lib.hid (q5MDist_any H.out hn (u : Int) HB.out)
      have hcase : (db = true ∧ lb = true) ∨ db = false := by
        cases hd : db with
        | true =>
          left
          refine ⟨rfl, ?_⟩
          rw [hdb] at hd; simp at hd
          rw [hlb]; simp
          rcases hlf with h1 | h1
          · omega
          · exact h1
        | false => exact .inr rfl
      have hgI : (g : Int) < (n : Int) := by omega
      have HX := Lib.hid hx
      obtain ⟨A1, q1, A2, q2, A3, q3⟩ := M
      simp only at hA2
      subst hA2
      unfold MpC.val at QD ⊢
      simp only at hb0 hb1 hb2 HW1 QD ⊢
      clear h hx hok hB H BX e1 e2 hlb hdb hln hlg hu hk1 hk2 hr hlf hou hnf
      rcases hcase with ⟨rfl, rfl⟩ | rfl
      all_goals
        go_enter Tryd.func47, Tryd.ntmps47
        go_upto_region 1 with fail
        rw [← HW1.out]
        go_wp2_with fail
        refine QD.out.mono ?_
        rintro e w2 ⟨v, rfl, ns⟩
        obtain ⟨A, q, rfl⟩ := ns.own.rd.shape
        have K2 := Lib.hid (K1.out.no ns.kp)
        rw [HD.out, distL_len] at ns ⊢
        rcases ns.own.b with ⟨hv, _⟩ | ⟨gL, capL, hv, _, _, _⟩
        · simp only [Value.slice.injEq] at hv; omega
        simp only [Value.slice.injEq] at hv
        obtain ⟨rfl, hzz, rfl⟩ := hv
        clear hzz
        have hcx : w2.cell? ⟨gL, g, none⟩ = some (.int .i64 x) := by
          have := ns.own.rd.intAt (distL_get (st := stepsP f u B) (s := u) hg)
          rw [← HX.out] at this
          simpa using this
        clear ns
        go_wp2_with fail
        go_ret
        exact ⟨rfl, K2.out⟩
end Go.Proofs.YthchoknhkhfdnaaDoor
