/- carfaxref10.Right; carfaxlaw10: shown, small; Slice expressions, as lists; Sets of ints beside slices that are read. No function of the program; TripRights: the walk; Arguments that are slices of rows: what they read as. No function of the program; Arguments: floors; Arguments: slices of ints; Arguments of carfaxlaw10: cases, acts; Arguments of carfaxlaw10 and 11: lists of acts. No condition. -/
import Derived.Test.YtmipnicdlldjnaaGreatDoorM9
import Derived.Deep.RegionHeld3
import Derived.Test.YtmipnicdlldjnaaGreatDoorM7
import Derived.Test.YtmipnicdlldjnaaGreatDoorM1
import Derived.Test.YtmipnicdlldjnaaGreatDoorM2
import Derived.Test.YtmipnicdlldjnaaGreatDoorM8
import Derived.Deep.Slices
import Derived.ProofKit
import Derived.OpenShut
import Derived.Lib.SmallJoins
import Derived.Test.YtmipnicdlldjnaaGreatDoorM5

namespace Go.Proofs.YtmipnicdlldjnaaGreatDoor
set_option linter.unusedVariables false
set_option linter.unusedSimpArgs false
open Go.RowKit

theorem laneB_nat {f : Flr} (hb : rightB f = true) {c : Nat} (hc : c < f.s.size) : laneB f (c : Int) = decide (c < f.s.size ∧ kdS f.s c = 2) := by
  unfold laneB
  rw [zone_isSome f c hb hc]
  simp [hc]
theorem near_sizeT {f : Flr} (hb : rightB f = true) {x y : Nat} (hx : x < f.s.size) (h : y ∈ nearP f (x : Int)) : y < f.s.size := near_sz (rightB_iff.1 hb) hx h
set_option maxHeartbeats 4000000 in
set_option maxRecDepth 100000 in
theorem q10Right_any (f : Flr) (hsz : f.s.size ≤ 1000000) (robot at_ : Int) (ha : at_ ≤ 9223372036854775807) {w : World} {v : Value} {l : List ActT} (hl : Rd AcK w v l) (hc : ∀ x ∈ l, x.c ≤ 9223372036854775807) (b : Bool) (hb : rightT f robot at_ l = b) :
    Calls Tryz.prog 11 #[f.val, .int .i64 robot, .int .i64 at_, v] w fun e w' => e = .returned (.bool b) ∧ Kp No w w' := by
  obtain ⟨A, cap, rfl⟩ := hl.shape
  have hll := hl.lenI
  unfold maxLen at hll
  obtain ⟨n, hn⟩ : ∃ z, z = l.length := ⟨_, rfl⟩
  rw [← hn] at hl hll ⊢
  obtain ⟨D, hD⟩ : ∃ D, dockP f robot = D := ⟨_, rfl⟩
  obtain ⟨dn, hdn⟩ : ∃ z : Nat, z = D.getD 0 := ⟨_, rfl⟩
  obtain ⟨is, his⟩ : ∃ z : Bool, D.isSome = z := ⟨_, rfl⟩
  have DO := Lib.hid (show ∀ w, Calls Tryz.prog 21 #[f.val, .int .i64 robot] w fun e w' => e = .returned (.tuple #[.int .i64 (dn : Int), .bool is]) ∧ Kp No w w' from fun w => by
    have h1 := qdockOf_any f (by omega) robot w
    have e : ZVal (dockP f robot) = .tuple #[.int .i64 (dn : Int), .bool is] := by unfold ZVal; rw [hD, ← hdn, his]
    rwa [e] at h1)
  obtain ⟨Z, hZ⟩ : ∃ Z, zoneP f at_ = Z := ⟨_, rfl⟩
  obtain ⟨zn, hzn⟩ : ∃ z : Nat, z = Z.getD 0 := ⟨_, rfl⟩
  obtain ⟨ln, hln⟩ : ∃ z : Bool, laneB f at_ = z := ⟨_, rfl⟩
  have ZA := Lib.hid (show ∀ w, Calls Tryz.prog 22 #[f.val, .int .i64 at_] w fun e w' => e = .returned (.tuple #[.int .i64 (zn : Int), .bool ln]) ∧ Kp No w w' from fun w => by
    have h1 := qzone_any f (by omega) at_ ha w
    have e : ZVal (zoneP f at_) = .tuple #[.int .i64 (zn : Int), .bool ln] := by unfold ZVal; rw [← hln]; unfold laneB; rw [hZ, ← hzn]
    rwa [e] at h1)
  have HO := Lib.hid (fun w => q5Of_any f hsz w)
  unfold OfR at HO
  obtain ⟨d, hd⟩ : ∃ d : Int, d = (dn : Int) := ⟨_, rfl⟩
  rw [← hd] at DO
  obtain ⟨ed, hed⟩ : ∃ z, (at_ != d) = z := ⟨_, rfl⟩
  obtain ⟨big, hbig⟩ : ∃ z, decide (1024 < (n : Int)) = z := ⟨_, rfl⟩
  have HTRUE := Lib.hid (show (!is || (!ln && ed) || big) = true → b = false by
    intro h
    rw [← hb]
    unfold rightT
    rw [hD]
    cases D with
    | none => rfl
    | some z =>
      simp at his
      subst his
      simp at hdn
      subst hdn
      rw [← hln, ← hed, ← hbig, hd] at h
      rw [← hn]
      by_cases h1 : laneB f at_ = true <;> by_cases h2 : at_ = (dn : Int) <;> by_cases h3 : n ≤ 1024 <;> simp [h1, h2, h3] at h ⊢ <;> omega)
  have HFALSE := Lib.hid (show (!is || (!ln && ed) || big) = false → (laneB f at_ = true ∨ at_ = d) ∧ n ≤ 1024 ∧ dockP f robot = some dn ∧ b = (match runP f d ⟨at_, -1, false⟩ l with | none => false | some s => decide (s.at_ = d) && decide (s.pod < 0)) by
    intro h
    simp only [Bool.or_eq_false_iff, Bool.not_eq_false', Bool.and_eq_false_iff] at h
    obtain ⟨⟨h1, h2⟩, h3⟩ := h
    rw [h1] at his
    obtain ⟨z, hz⟩ := Option.isSome_iff_exists.1 his
    have hzd : z = dn := by rw [hdn, hz]; rfl
    have hn4 : n ≤ 1024 := by rw [← hbig] at h3; simp at h3; omega
    have hor : laneB f at_ = true ∨ at_ = d := by
      rcases h2 with h2 | h2
      · exact .inl (by rw [hln]; exact h2)
      · right; rw [← hed] at h2; simpa using h2
    refine ⟨hor, hn4, by rw [hD, hz, hzd], ?_⟩
    rw [← hb, hd]
    unfold rightT
    rw [hD, hz, hzd]
    have : (laneB f at_ || decide (at_ = (dn : Int))) = true := by rcases hor with e | e <;> simp [e]; rw [hd]; simp
    simp only [this]
    rw [← hn]
    simp [hn4]
    rfl)
  have PS := Lib.hid (show dockP f robot = some dn → rightB f = true ∧ f.s.size ≤ 256 ∧ 0 < f.s.size ∧ (∀ c : Int, laneB f c = true ∨ c = d → ∃ k : Nat, c = k ∧ k < f.s.size) by
    intro h
    obtain ⟨h1, _, h2, _⟩ := dock_okT h
    have hR : rightB f = true := by unfold ptOk at h2; simp only [Bool.and_eq_true] at h2; exact h2.1.2
    refine ⟨hR, (rightB_iff.1 hR).s256, by omega, fun c hc => ?_⟩
    rcases hc with hc | hc
    · obtain ⟨k, e, hk, _⟩ := zone_okT hc
      exact ⟨k, e, hk⟩
    · exact ⟨dn, by rw [hc, hd], h1⟩)
  have HL := Lib.hid hl; have HN := Lib.hid hn; have HC := Lib.hid hc
  obtain ⟨F, hF⟩ : ∃ F, F = f := ⟨_, rfl⟩
  have HBX := Lib.hid (BxW.new F w)
  rw [← hF] at DO ZA HO HFALSE PS
  rw [← hF]
  obtain ⟨X, Y, sb⟩ := f
  have HV := Lib.hid (show F.val = .agg #[.int .i64 X, .int .i64 Y, .string sb] by rw [hF]; rfl)
  have BC := Lib.hid (show ∀ wx, BxW F w.heap.size w wx → wx.cell? ⟨w.heap.size, 0, none⟩ = some (.int .i64 X) ∧ wx.cell? ⟨w.heap.size, 1, none⟩ = some (.int .i64 Y) ∧ wx.cell? ⟨w.heap.size, 2, none⟩ = some (.string sb) from fun wx h => by rw [hF] at h; exact ⟨h.c0, h.c1, h.c2⟩)
  have B0 := Lib.hid (show BxW F w.heap.size w (w.alloc (.cells #[.int .i64 X, .int .i64 Y, .string sb] 23)) by rw [hF]; rw [hF] at HBX; exact HBX.out)
  rw [HV.out] at DO ZA HO ⊢
  have hbigI : (decide ((1024 : Int) < (n : Int))) = big := hbig
  have HED := Lib.hid hed
  clear hF HBX hsz ha hl hc hb hD hdn his hZ hzn hln hd hn hbig
  go_enter Tryz.func11, Tryz.ntmps11
  go_wp2_with fail
  refine (DO.out _).mono ?_
  rintro e w1 ⟨rfl, k1⟩
  have B1 := Lib.hid (B0.out.no k1)
  obtain ⟨c0, c1, c2⟩ := BC.out _ B1.out
  clear k1
  go_wp2_with fail
  refine (ZA.out _).mono ?_
  rintro e w2 ⟨rfl, k2⟩
  have B2 := Lib.hid (B1.out.no k2)
  clear c0 c1 c2 k2
  obtain ⟨tb, htb⟩ : ∃ z, z = (!is || (!ln && ed) || big) := ⟨_, rfl⟩
  rw [← htb] at HTRUE HFALSE
  have HTB := Lib.hid htb
  go_upto_region 3 with fail
  go_cut [32, 33, 34, 35, 36, 37, 38, 39, 40, 41, 42, 43, 44, 45, 46, 47] (fun _ _ _ _ _ _ _ _ _ _ _ _ _ _ _ v47 wx => v47 = .bool tb ∧ Kp No w2 wx)
  case first =>
    cases is <;> cases ln <;> cases ed <;> cases big
    all_goals
      go_wp2_with fail
      go_meet
      exact ⟨by rw [HTB.out]; rfl, Kp.refl _ _⟩
  case rest =>
    obtain ⟨rfl, k3⟩ := hcut
    obtain ⟨w3, hw3⟩ : ∃ y : World, y = wc := ⟨_, rfl⟩
    rw [← hw3] at k3 ⊢
    have B3 := Lib.hid (B2.out.no k3)
    clear hw3 k3 htb
    cases tb with
    | true =>
      have hb0 := HTRUE.out (by first | rfl | trivial)
      go_wp2_with fail
      go_ret
      exact ⟨by first | rfl | (rw [hb0]; rfl), B3.out.kp⟩
    | false =>
      obtain ⟨hor, hn4, hdk, hbb⟩ := HFALSE.out (by first | rfl | trivial)
      obtain ⟨hR, h256, h0, hpos⟩ := PS.out hdk
      obtain ⟨s0, hs0⟩ : ∃ s0 : WkS, s0 = ⟨at_, -1, false⟩ := ⟨_, rfl⟩
      rw [← hs0] at hbb
      obtain ⟨N, hN⟩ : ∃ z, z = F.s.size := ⟨_, rfl⟩
      have hNm : mpN F = N := by unfold mpN; rw [if_pos hR, hN]
      rw [hNm] at HO
      have HBB := Lib.hid hbb; have HR := Lib.hid hR; have HPOS := Lib.hid hpos; have HNN := Lib.hid hN; have HS0 := Lib.hid hs0
      rw [← hN] at h256 h0
      have HP0 := Lib.hid (show ∃ k : Nat, s0.at_ = k ∧ k < N by rw [hs0, hN]; exact hpos _ hor)
      obtain ⟨c0, c1, c2⟩ := BC.out _ B3.out
      clear hor hdk hbb hR hpos hs0 hN hNm
      go_wp2_with fail
      refine (HO.out _).mono ?_
      rintro e w4 ⟨A1, s1, A2, s2, A3, s3, Vs, rfl, mw, kp4⟩
      have MW := Lib.hid mw
      have K4 := Lib.hid (B3.out.kp.no kp4)
      obtain ⟨g1, o1, hA1⟩ := mw.nr.some_ (by omega)
      obtain ⟨g2, o2, hA2⟩ := mw.ln.some_ (by omega)
      simp only at hA1 hA2
      subst hA1 hA2
      clear mw kp4 c0 c1 c2
      go_upto_region 6 with fail
      obtain ⟨w5, hw5⟩ : ∃ y : World, y = w4.alloc (.cells #[.slice (some ⟨g1, o1, none⟩) N s1, .slice (some ⟨g2, o2, none⟩) N s2, .slice A3 N s3] 51) := ⟨_, rfl⟩
      rw [← hw5]
      have BM := Lib.hid (show w5.heap[w4.heap.size]? = some (.cells #[.slice (some ⟨g1, o1, none⟩) N s1, .slice (some ⟨g2, o2, none⟩) N s2, .slice A3 N s3] 51 (0, 0)) by rw [hw5]; exact blk_new w4 _)
      have K5 := Lib.hid (show Kp No w w5 by rw [hw5]; exact K4.out.alloc _)
      have MW5 := Lib.hid (MW.out.no (show Kp No w4 w5 by rw [hw5]; exact (Kp.refl _ _).alloc _))
      have LB := Lib.hid (fun wx (hk : Kp No w5 wx) => show wx.cell? ⟨w4.heap.size, 0, none⟩ = some (.slice (some ⟨g1, o1, none⟩) N s1) ∧ wx.cell? ⟨w4.heap.size, 1, none⟩ = some (.slice (some ⟨g2, o2, none⟩) N s2) from ⟨blk_cell (hk.blk BM.out (no_no _)) 0, blk_cell (hk.blk BM.out (no_no _)) 1⟩)
      clear hw5
      have LN := Lib.hid (fun (c : Nat) (hc : c < N) wx (hk : Kp No w5 wx) => show wx.cell? ⟨g2, o2 + c, none⟩ = some (.bool (laneB F (c : Int))) by
        rw [laneB_nat HR.out (by rw [← HNN.out]; exact hc), ← HNN.out]
        exact (MW5.out.no hk).ln.one BoK1 (lnB_get hc))
      have RL := Lib.hid (HL.out.kpNo K5.out)
      clear HTRUE HFALSE PS DO ZA HO HTB HED B0 B1 B2 BC HL
      go_wp2_with fail
      go_loopg [2, 14, 15, 16] (n + 1) (fun g_ av lv fv iv wx => ∃ (i : Nat) (s : WkS), g_ = n + 1 - i ∧ iv = .int .i64 (i : Int) ∧ i ≤ n ∧ av = .int .i64 s.at_ ∧ lv = .int .i64 s.pod ∧ fv = .bool (!s.st) ∧ runP F d s0 (l.take i) = some s ∧ (∃ k : Nat, s.at_ = k ∧ k < N) ∧ Kp No w5 wx)
      case atStart => exact ⟨0, s0, rfl, rfl, by omega, by rw [HS0.out], by rw [HS0.out], by rw [HS0.out]; rfl, by rw [List.take_zero, runP], HP0.out, Kp.refl _ _⟩
      case round =>
        obtain ⟨i, s, hg, rfl, hi, rfl, rfl, rfl, hrun, ⟨a, hat, han⟩, kp⟩ := hrel
        obtain ⟨sa, pd, st⟩ := s
        simp only at hat ⊢
        subst hat
        have RUN := Lib.hid hrun; have KP := Lib.hid kp
        clear hrun kp
        by_cases hlt : i < n
        · have hltI : (i : Int) < (n : Int) := by omega
          have hwi : IntKind.i64.wrap ((i : Int) + 1) = (i : Int) + 1 := IntWalk.i64_in _ (by omega)
          obtain ⟨x, hx⟩ : ∃ x, l[i]? = some x := ⟨_, List.getElem?_eq_getElem (by rw [← HN.out]; exact hlt)⟩
          rcases (RL.out.kpNo KP.out) with ⟨_, he⟩ | ⟨g, o, cap', hv, _⟩
          · have := HN.out; rw [he, List.length_nil] at this; omega
          simp only [Value.slice.injEq] at hv
          obtain ⟨rfl, hzz, rfl⟩ := hv
          obtain ⟨x0, x1, x2, x3⟩ := (RL.out.kpNo KP.out).actAt hx
          have NXT := Lib.hid (show ∀ s', doesP F d ⟨(a : Int), pd, st⟩ x = some s' → runP F d s0 (l.take (i + 1)) = some s' from fun s' h => by rw [runP_at hx, RUN.out, Option.bind_some, h])
          have BAD := Lib.hid (show doesP F d ⟨(a : Int), pd, st⟩ x = none → b = false from fun h => by
            rw [HBB.out, runP_no (k := i + 1) (by rw [runP_at hx, RUN.out, Option.bind_some, h])])
          obtain ⟨wa, hwa⟩ : ∃ y : World, y = wr.alloc (.cells #[.int .u8 (x.k : Int), .int .i64 x.c, .int .i64 x.p] 41) := ⟨_, rfl⟩
          have XB := Lib.hid (fun wx (hk : Kp No wa wx) => by
            have b : wx.heap[wr.heap.size]? = some (.cells #[.int .u8 (x.k : Int), .int .i64 x.c, .int .i64 x.p] 41 (0, 0)) := hk.blk (by rw [hwa]; exact blk_new _ _) (no_no _)
            exact (⟨blk_cell b 0, blk_cell b 1, blk_cell b 2⟩ : wx.cell? ⟨wr.heap.size, 0, none⟩ = some (.int .u8 (x.k : Int)) ∧ wx.cell? ⟨wr.heap.size, 1, none⟩ = some (.int .i64 x.c) ∧ wx.cell? ⟨wr.heap.size, 2, none⟩ = some (.int .i64 x.p)))
          have KA := Lib.hid (show Kp No w5 wa by rw [hwa]; exact KP.out.alloc _)
          have HWA := Lib.hid hwa
          have hcb := HC.out x (List.mem_of_getElem? hx)
          have HCB := Lib.hid hcb
          obtain ⟨⟨AN, m, qN⟩, hvs⟩ : ∃ v, Vs[a]? = some v := ⟨_, List.getElem?_eq_getElem (by rw [MW5.out.len]; exact han)⟩
          have hrd := MW5.out.rd a _ hvs
          unfold slv at hrd
          simp only at hrd
          obtain ⟨A', q', hsh⟩ := hrd.shape
          simp only [Value.slice.injEq] at hsh
          obtain ⟨rfl, hm, rfl⟩ := hsh
          rw [ints_len] at hm
          have hm4 : m ≤ 4 := by rw [hm]; exact near_len4 F a
          have CN := Lib.hid (fun wx (hk : Kp No w5 wx) => show wx.cell? ⟨g1, o1 + a, none⟩ = some (.slice AN m qN) from (MW5.out.no hk).nr.one SvK1 hvs)
          obtain ⟨L, hL⟩ : ∃ L, L = nearP F (a : Int) := ⟨_, rfl⟩
          rw [← hL] at hrd hm
          have HRd := Lib.hid hrd; have HM := Lib.hid hm; have HLL := Lib.hid hL
          have CL := Lib.hid (fun wx (hk : Kp No w5 wx) => LN.out a han wx hk)
          have haI : (a : Int) < (N : Int) := by omega
          have ha0 : ¬ (a : Int) < 0 := by omega
          clear hx hzz hlt hcb hvs hrd hm hL hwa
          go_upto_region 12 with fail
          rw [← HWA.out]
          obtain ⟨b0, b1, b2⟩ := XB.out wa (Kp.refl _ _)
          by_cases hk1 : x.k = 1
          · have hk1b : ((x.k : Int) == 1) = true := by simp; omega
            have HK1 := Lib.hid hk1
            obtain ⟨m0, m1⟩ := LB.out wa KA.out
            have cn := CN.out wa KA.out
            clear hk1 x0 x1 x2 x3
            go_wp2_with fail
            clear b0 b1 b2 m0 m1 cn
            obtain ⟨gO, hgO⟩ : ∃ z, z = gk := ⟨_, rfl⟩
            subst hgO
            go_loopg [18, 19] (m + 1) (fun gg nv jv wx => ∃ j : Nat, gg = m + 1 - j ∧ jv = .int .i64 (j : Int) ∧ j ≤ m ∧ nv = .bool (decide (x.c ∈ ints (L.take j))) ∧ Kp No wa wx)
            case atStart => exact ⟨0, rfl, rfl, by omega, by simp [ints], Kp.refl _ _⟩
            case round =>
              obtain ⟨j, hg2, rfl, hj, rfl, kp2⟩ := hrel
              have KP2 := Lib.hid kp2
              clear kp2
              obtain ⟨nb, hnb⟩ : ∃ z, decide (x.c ∈ ints (L.take j)) = z := ⟨_, rfl⟩
              rw [hnb]
              have HNB := Lib.hid hnb
              clear hnb
              obtain ⟨m0, m1⟩ := LB.out wr (KA.out.no KP2.out)
              have cn := CN.out wr (KA.out.no KP2.out)
              obtain ⟨b0, b1, b2⟩ := XB.out wr KP2.out
              by_cases hltj : j < m
              · have hltJ : (j : Int) < (m : Int) := by omega
                have hwj : IntKind.i64.wrap ((j : Int) + 1) = (j : Int) + 1 := IntWalk.i64_in _ (by omega)
                obtain ⟨y, hy⟩ : ∃ y, L[j]? = some y := ⟨_, List.getElem?_eq_getElem (by rw [← HM.out]; exact hltj)⟩
                have hyi : (ints L)[j]? = some (y : Int) := by unfold ints; rw [List.getElem?_map, hy]; rfl
                rcases (HRd.out.kpNo (KA.out.no KP2.out)) with ⟨_, he⟩ | ⟨gN, oN, capN, hv, _⟩
                · have h := HM.out; have := congrArg List.length he; rw [ints_len, List.length_nil] at this; omega
                simp only [Value.slice.injEq] at hv
                obtain ⟨rfl, hzz, rfl⟩ := hv
                have hcy := (HRd.out.kpNo (KA.out.no KP2.out)).intAt hyi
                obtain ⟨ey, hey⟩ : ∃ z, ((y : Int) == x.c) = z := ⟨_, rfl⟩
                have HY := Lib.hid (show decide (x.c ∈ ints (L.take (j + 1))) = (nb || ey) by
                  rw [List.take_add_one, hy, ← HNB.out, ← hey]
                  unfold ints
                  rw [List.map_append]
                  by_cases h : (y : Int) = x.c
                  · simp [h]
                  · have h2 : x.c ≠ (y : Int) := fun e => h e.symm
                    simp [h, h2])
                clear hy hyi hzz hltj
                cases nb <;> cases ey
                all_goals
                  go_upto_region 19 with fail
                  go_quiet (fail)
                  go_wp2_with fail
                  go_roundg (m + 1 - (j + 1))
                  case measure => omega
                  case rel => exact ⟨j + 1, rfl, by go_num, by omega, by rw [HY.out]; rfl, KP2.out.drewN _⟩
              · obtain rfl : m = j := by omega
                have hd0 : ¬ (m : Int) < (m : Int) := by omega
                have hin : nb = decide (x.c ∈ ints (nearP F (a : Int))) := by rw [← HNB.out, HM.out, List.take_length, HLL.out]
                obtain ⟨pz, hpz⟩ : ∃ z, (x.p != 0) = z := ⟨_, rfl⟩
                obtain ⟨lx, hlx⟩ : ∃ z, laneB F x.c = z := ⟨_, rfl⟩
                obtain ⟨xd, hxd⟩ : ∃ z, (x.c != d) = z := ⟨_, rfl⟩
                have HGO := Lib.hid (show doesP F d ⟨(a : Int), pd, st⟩ x = if (!pz && nb && (lx || !xd)) = true then some ⟨x.c, pd, st⟩ else none by
                  unfold doesP
                  rw [if_pos HK1.out]
                  have : goB F d ⟨(a : Int), pd, st⟩ x = (!pz && nb && (lx || !xd)) := by
                    have q1 : decide (x.p = 0) = !pz := by rw [← hpz]; by_cases h : x.p = 0 <;> simp [h]
                    have q2 : decide (x.c = d) = !xd := by rw [← hxd]; by_cases h : x.c = d <;> simp [h]
                    show (decide (x.p = 0) && decide (x.c ∈ ints (nearP F (a : Int))) && (laneB F x.c || decide (x.c = d))) = _
                    rw [q1, q2, hlx, ← hin]
                  rw [this])
                have HXP := Lib.hid (show nb = true → ∃ c : Nat, x.c = c ∧ c < N by
                  intro h
                  rw [hin] at h
                  simp only [decide_eq_true_eq] at h
                  obtain ⟨c, hc, e⟩ := List.mem_map.1 h
                  exact ⟨c, e.symm, by rw [HNN.out]; exact near_sizeT HR.out (by rw [← HNN.out]; exact han) hc⟩)
                have HLX := Lib.hid hlx
                clear hin hlx hltj
                cases nb with
                | false =>
                  have hb0 := BAD.out (by rw [HGO.out]; simp)
                  go_wp2_with fail
                  go_ret
                  exact ⟨by first | rfl | (rw [hb0]; rfl), K5.out.no (KA.out.no KP2.out)⟩
                | true =>
                  obtain ⟨c, hxc, hcN⟩ := HXP.out (by first | rfl | trivial)
                  have hxN : x.c < (N : Int) := by omega
                  have hx0 : ¬ x.c < 0 := by omega
                  have hxt : x.c.toNat = c := by omega
                  have hlc := LN.out c hcN wr (KA.out.no KP2.out)
                  rw [← hxc, HLX.out, ← hxt] at hlc
                  have HT := Lib.hid (show ∃ k : Nat, x.c = k ∧ k < N from ⟨c, hxc, hcN⟩)
                  clear hxc hcN hxt
                  cases pz with
                  | true =>
                    have hb0 := BAD.out (by rw [HGO.out]; simp)
                    go_wp2_with fail
                    go_ret
                    exact ⟨by first | rfl | (rw [hb0]; rfl), K5.out.no (KA.out.no KP2.out)⟩
                  | false =>
                    cases lx <;> cases xd
                    case false.true =>
                      have hb0 := BAD.out (by rw [HGO.out]; simp)
                      go_wp2_with fail
                      go_ret
                      exact ⟨by first | rfl | (rw [hb0]; rfl), K5.out.no (KA.out.no KP2.out)⟩
                    all_goals
                      go_wp2_with fail
                      go_roundg (n + 1 - (i + 1))
                      case measure => omega
                      case rel => exact ⟨i + 1, ⟨x.c, pd, st⟩, rfl, by go_num, by omega, rfl, rfl, rfl, NXT.out _ (by rw [HGO.out]; rfl), HT.out, KA.out.no KP2.out⟩
          · have hk1b : ((x.k : Int) == 1) = false := by simp; omega
            have HK1 := Lib.hid hk1
            obtain ⟨m0, m1⟩ := LB.out wa KA.out
            have cl := CL.out wa KA.out
            obtain ⟨la, hla⟩ : ∃ z, laneB F (a : Int) = z := ⟨_, rfl⟩
            rw [hla] at cl
            obtain ⟨xa, hxa⟩ : ∃ z, (x.c != (a : Int)) = z := ⟨_, rfl⟩
            obtain ⟨pl, hpl⟩ : ∃ z, decide (x.p < 0) = z := ⟨_, rfl⟩
            obtain ⟨pb, hpb⟩ : ∃ z, decide (64 ≤ x.p) = z := ⟨_, rfl⟩
            obtain ⟨pg, hpg⟩ : ∃ z, decide (0 ≤ pd) = z := ⟨_, rfl⟩
            obtain ⟨pn, hpn⟩ : ∃ z, decide (pd < 0) = z := ⟨_, rfl⟩
            obtain ⟨pp, hpp⟩ : ∃ z, (pd != x.p) = z := ⟨_, rfl⟩
            have HPN := Lib.hid (show pn = !pg by rw [← hpn, ← hpg]; by_cases h : pd < 0 <;> simp [h] <;> omega)
            have HHR := Lib.hid (show hereB F ⟨(a : Int), pd, st⟩ x = (!xa && la && !pl && !pb) by
              have q1 : decide (x.c = (a : Int)) = !xa := by rw [← hxa]; by_cases h : x.c = (a : Int) <;> simp [h]
              have q2 : decide (0 ≤ x.p) = !pl := by rw [← hpl]; by_cases h : x.p < 0 <;> simp [h] <;> omega
              have q3 : decide (x.p < 64) = !pb := by rw [← hpb]; by_cases h : 64 ≤ x.p <;> simp [h] <;> omega
              show (decide (x.c = (a : Int)) && laneB F (a : Int) && decide (0 ≤ x.p) && decide (x.p < 64)) = _
              rw [q1, q2, q3, hla])
            have HDR := Lib.hid (show dropB ⟨(a : Int), pd, st⟩ x = (!(pn && st) && !(pg && pp)) by
              have q3 : decide (pd ≠ x.p) = pp := by rw [← hpp]; by_cases h : pd = x.p <;> simp [h]
              show (!(decide (pd < 0) && st) && !(decide (0 ≤ pd) && decide (pd ≠ x.p))) = _
              rw [hpn, hpg, q3])
            have H5 := Lib.hid (show xa = true ∨ (xa = false ∧ la = false) ∨ (xa = false ∧ la = true ∧ pl = true) ∨ (xa = false ∧ la = true ∧ pl = false ∧ pb = true) ∨ (xa = false ∧ la = true ∧ pl = false ∧ pb = false) by cases xa <;> cases la <;> cases pl <;> cases pb <;> simp)
            clear hla x0 x1 x2 x3 hk1
            by_cases hk2 : x.k = 2
            · have hk2b : ((x.k : Int) == 2) = true := by simp; omega
              have HDO := Lib.hid (show doesP F d ⟨(a : Int), pd, st⟩ x = if pn = true ∧ (!xa && la && !pl && !pb) = true then some ⟨(a : Int), x.p, true⟩ else none by
                unfold doesP
                rw [if_neg HK1.out, if_pos hk2, HHR.out]
                simp only [hpn])
              clear hk2
              cases pg with
              | true =>
                have hb0 := BAD.out (by rw [HDO.out, HPN.out]; simp)
                go_wp2_with fail
                go_ret
                exact ⟨by first | rfl | (rw [hb0]; rfl), K5.out.no KA.out⟩
              | false =>
                obtain rfl : pn = true := by rw [HPN.out]; rfl
                rcases H5.out with rfl | ⟨rfl, rfl⟩ | ⟨rfl, rfl, rfl⟩ | ⟨rfl, rfl, rfl, rfl⟩ | ⟨rfl, rfl, rfl, rfl⟩
                case inr.inr.inr.inr =>
                  go_wp2_with fail
                  go_roundg (n + 1 - (i + 1))
                  case measure => omega
                  case rel => exact ⟨i + 1, ⟨(a : Int), x.p, true⟩, rfl, by go_num, by omega, rfl, rfl, rfl, NXT.out _ (by rw [HDO.out]; rfl), ⟨a, rfl, han⟩, KA.out⟩
                all_goals
                  have hb0 := BAD.out (by rw [HDO.out]; simp)
                  go_wp2_with fail
                  go_ret
                  exact ⟨by first | rfl | (rw [hb0]; rfl), K5.out.no KA.out⟩
            · have hk2b : ((x.k : Int) == 2) = false := by simp; omega
              by_cases hk3 : x.k = 3
              · have hk3b : ((x.k : Int) == 3) = true := by simp; omega
                have HDO := Lib.hid (show doesP F d ⟨(a : Int), pd, st⟩ x = if (!xa && la && !pl && !pb) = true ∧ (!(pn && st) && !(pg && pp)) = true then some ⟨(a : Int), -1, true⟩ else none by
                  unfold doesP
                  rw [if_neg HK1.out, if_neg hk2, if_pos hk3, HHR.out, HDR.out])
                clear hk2 hk3
                obtain ⟨tt, htt⟩ : ∃ z, z = (!(pn && st) && !(pg && pp)) := ⟨_, rfl⟩
                rw [← htt] at HDO
                cases tt with
                | false =>
                  have hb0 := BAD.out (by rw [HDO.out]; simp)
                  have hcs : (st = true ∧ pn = true ∧ pg = false) ∨ (pg = true ∧ pn = false ∧ pp = true) := by
                    have h := HPN.out
                    cases st <;> cases pg <;> cases pp <;> simp at h <;> subst h <;> simp at htt ⊢
                  clear htt
                  rcases hcs with ⟨rfl, rfl, rfl⟩ | ⟨rfl, rfl, rfl⟩
                  · go_wp2_with fail
                    go_ret
                    exact ⟨by first | rfl | (rw [hb0]; rfl), K5.out.no KA.out⟩
                  · cases st
                    all_goals
                      go_wp2_with fail
                      go_ret
                      exact ⟨by first | rfl | (rw [hb0]; rfl), K5.out.no KA.out⟩
                | true =>
                  have hcs : (st = false ∧ pg = false ∧ pn = true) ∨ (st = false ∧ pg = true ∧ pn = false ∧ pp = false) ∨ (st = true ∧ pg = true ∧ pn = false ∧ pp = false) := by
                    have h := HPN.out
                    cases st <;> cases pg <;> cases pp <;> simp at h <;> subst h <;> simp at htt ⊢
                  clear htt
                  rcases hcs with ⟨rfl, rfl, rfl⟩ | ⟨rfl, rfl, rfl, rfl⟩ | ⟨rfl, rfl, rfl, rfl⟩
                  all_goals
                    rcases H5.out with rfl | ⟨rfl, rfl⟩ | ⟨rfl, rfl, rfl⟩ | ⟨rfl, rfl, rfl, rfl⟩ | ⟨rfl, rfl, rfl, rfl⟩
                    case inr.inr.inr.inr =>
                      go_wp2_with fail
                      go_roundg (n + 1 - (i + 1))
                      case measure => omega
                      case rel => exact ⟨i + 1, ⟨(a : Int), -1, true⟩, rfl, by go_num, by omega, rfl, rfl, rfl, NXT.out _ (by rw [HDO.out]; rfl), ⟨a, rfl, han⟩, KA.out⟩
                    all_goals
                      have hb0 := BAD.out (by rw [HDO.out]; simp)
                      go_wp2_with fail
                      go_ret
                      exact ⟨by first | rfl | (rw [hb0]; rfl), K5.out.no KA.out⟩
              · have hk3b : ((x.k : Int) == 3) = false := by simp; omega
                have hb0 := BAD.out (by unfold doesP; rw [if_neg HK1.out, if_neg hk2, if_neg hk3])
                clear hk2 hk3
                go_wp2_with fail
                go_ret
                exact ⟨by first | rfl | (rw [hb0]; rfl), K5.out.no KA.out⟩
        · obtain rfl : n = i := by omega
          have hd0 : ¬ (n : Int) < (n : Int) := by omega
          have hfin : b = (decide ((a : Int) = d) && decide (pd < 0)) := by
            have := RUN.out
            rw [HN.out, List.take_length] at this
            rw [HBB.out, this]
          obtain ⟨e1, he1⟩ : ∃ z, ((a : Int) == d) = z := ⟨_, rfl⟩
          obtain ⟨e2, he2⟩ : ∃ z, decide (pd < 0) = z := ⟨_, rfl⟩
          have HFB := Lib.hid (show b = (e1 && e2) by rw [hfin, ← he1, he2]; by_cases h : (a : Int) = d <;> simp [h])
          clear hlt hfin
          cases e1 <;> cases e2
          all_goals
            go_wp2_with fail
            go_ret
            exact ⟨by rw [HFB.out]; rfl, K5.out.no KP.out⟩
end Go.Proofs.YtmipnicdlldjnaaGreatDoor

namespace Go.Proofs.YtmipnicdlldjnaaGreatDoor
set_option linter.unusedVariables false
set_option linter.unusedSimpArgs false
open Go.RowKit

set_option maxHeartbeats 1000000 in
set_option maxRecDepth 100000 in
theorem shown10_any (w : World) : Calls Tryz.prog 5 #[] w fun e w' => e = .returned (.bool true) ∧ Kp No w w' := by
  have hpS := Lib.hid (parse_at _ (by decide) _ parse_10 (.tuple #[.agg #[.int .i64 5, .int .i64 1, .string f10.s], .int .i64 0, .int .i64 0]) rfl)
  have MK := Lib.hid (show ∀ w, Calls Tryz.prog 7 #[.agg #[.int .i64 5, .int .i64 1, .string f10.s], .int .i64 0, .int .i64 5, .int .i64 2, .int .i64 3, .slice none 0 0] w fun e w' => ∃ A q, e = .returned (.tuple #[.slice A 8 q, .int .i64 0]) ∧ NewS AcK 41 w w' (.slice A 8 q) want10 from fun w => by
    refine (tpMake_any f10 (by decide) 0 5 2 3 (by decide) (by decide) (by decide) (Rd.nil IK w)).mono ?_
    rintro e w' ⟨out, A, q, er, hm, rfl, ns⟩
    obtain ⟨rfl, rfl⟩ := make_10 hm
    exact ⟨A, q, rfl, ns⟩)
  have ZN := Lib.hid (show ∀ w v, Rd AcK w v want10 → Calls Tryz.prog 15 #[.agg #[.int .i64 5, .int .i64 1, .string f10.s], v] w fun e w' => ∃ v', e = .returned v' ∧ Rd IK w' v' [0, 1] ∧ Kp No w w' from fun w v hv => by
    have := tpZones_any f10 (by decide) hv (by decide) (by decide)
    rw [zones_10] at this
    exact this)
  have CS := Lib.hid (show ∀ w v, Rd AcK w v want10 → Calls Tryz.prog 12 #[v] w fun e w' => e = .returned (.int .i64 6) ∧ Kp No w w' from fun w v hv => by
    have := tpCost_any hv (by decide)
    rw [cost_10] at this
    exact this)
  have LW := Lib.hid (show ∀ w : World, Rd AcK (w.alloc (.cells #[.int .u8 1, .int .i64 1, .int .i64 0, .int .u8 1, .int .i64 2, .int .i64 0, .int .u8 2, .int .i64 2, .int .i64 5, .int .u8 1, .int .i64 3, .int .i64 0, .int .u8 3, .int .i64 3, .int .i64 5, .int .u8 1, .int .i64 2, .int .i64 0, .int .u8 1, .int .i64 1, .int .i64 0, .int .u8 1, .int .i64 0, .int .i64 0] 41)) (.slice (some ⟨w.heap.size, 0, none⟩) 8 8) want10 from fun w => Rd.litAt AcK 41 w _ want10 rfl (by unfold maxLen; decide) _ _ rfl rfl)
  have LI := Lib.hid (show ∀ w : World, Rd IK (w.alloc (.cells #[.int .i64 0, .int .i64 1] 3)) (.slice (some ⟨w.heap.size, 0, none⟩) 2 2) [0, 1] from fun w => Rd.litAt IK 3 w _ [0, 1] rfl (by unfold maxLen; simp) _ _ rfl rfl)
  have SA := Lib.hid (show ∀ w v v2, Rd AcK w v want10 → Rd AcK w v2 want10 → Calls Tryz.prog 9 #[v, v2] w fun e w' => e = .returned (.bool true) ∧ Kp No w w' from fun w v v2 h1 h2 => same10_any h1 h2 (by decide) (by decide) true (by simp))
  simp only [f10] at hpS
  obtain ⟨S, hS⟩ : ∃ S, S = f10.s := ⟨_, rfl⟩
  rw [← hS] at MK ZN
  rw [show (⟨#[48, 97, 97, 98, 49]⟩ : ByteArray) = S from hS.symm] at hpS
  clear hS
  go_enter Tryz.func5, Tryz.ntmps5
  go_wp2_with fail
  refine (hpS.out _).mono ?_
  rintro e w1 ⟨rfl, k1⟩
  have K1 := Lib.hid (k1.alloc (.cells #[.int .i64 5, .int .i64 1, .string S] 23))
  obtain ⟨b1, hb1⟩ : ∃ b1, b1 = w1.heap.size := ⟨_, rfl⟩
  obtain ⟨w2, hw2⟩ : ∃ w2, w2 = w1.alloc (.cells #[.int .i64 5, .int .i64 1, .string S] 23) := ⟨_, rfl⟩
  have BX := Lib.hid (show w2.heap[b1]? = some (.cells #[.int .i64 5, .int .i64 1, .string S] 23 (0, 0)) by rw [hw2, hb1]; exact blk_new w1 _)
  rw [← hw2] at K1
  have HW2 := Lib.hid hw2; have HB1 := Lib.hid hb1
  clear k1 hw2 hb1
  have lb : ∀ wx, Kp No w2 wx → wx.cell? ⟨b1, 0, none⟩ = some (.int .i64 5) ∧ wx.cell? ⟨b1, 1, none⟩ = some (.int .i64 1) ∧ wx.cell? ⟨b1, 2, none⟩ = some (.string S) := fun wx hk => by
    have := hk.blk BX.out (no_no _)
    exact ⟨blk_cell this 0, blk_cell this 1, blk_cell this 2⟩
  have LB := Lib.hid lb
  clear lb
  go_upto_region 2 with fail
  rw [← HW2.out, ← HB1.out]
  obtain ⟨hc0, hc1, hc2⟩ := LB.out w2 (Kp.refl _ _)
  go_wp2_with fail
  refine (MK.out _).mono ?_
  rintro e w3 ⟨A3, q3, rfl, n3⟩
  have N3 := Lib.hid n3
  clear n3 hc0 hc1 hc2
  go_wp2_with fail
  refine (SA.out _ _ _ (N3.out.own.rd.alloc _) (LW.out w3)).mono ?_
  rintro e w4 ⟨rfl, k4⟩
  have K4 := Lib.hid (((Kp.refl No w3).alloc _).no k4)
  clear k4
  go_wp2_with fail
  refine (CS.out _ _ (N3.out.own.rd.kpNo K4.out)).mono ?_
  rintro e w5 ⟨rfl, k5⟩
  have K5 := Lib.hid (K4.out.no k5)
  clear k5
  obtain ⟨hc0, hc1, hc2⟩ := LB.out w5 (N3.out.kp.no K5.out)
  go_wp2_with fail
  refine (ZN.out _ _ (N3.out.own.rd.kpNo K5.out)).mono ?_
  rintro e w6 ⟨v6, rfl, r6, k6⟩
  have R6 := Lib.hid r6
  have K6 := Lib.hid (K5.out.no k6)
  clear k6 r6 hc0 hc1 hc2
  go_wp2_with fail
  refine (sameInts_any (R6.out.alloc _) (LI.out w6) true (by decide)).mono ?_
  rintro e w7 ⟨rfl, k7⟩
  have K7 := Lib.hid (K1.out.no (N3.out.kp.no ((K6.out.alloc (.cells #[.int .i64 0, .int .i64 1] 3)).no k7)))
  clear k7
  go_wp2_with fail
  go_ret
  exact ⟨rfl, K7.out⟩
end Go.Proofs.YtmipnicdlldjnaaGreatDoor

namespace Go.Proofs.YtmipnicdlldjnaaGreatDoor
set_option linter.unusedVariables false
set_option linter.unusedSimpArgs false
open Go.RowKit

section
variable {α : Type} {K : Kd α} {P : Program} {t e : TypeId} {bytes : Nat}
theorem Kd.encs_mid (K : Kd α) (l : List α) (a b j : Nat) (u : Value) (h : (K.encs ((l.drop a).take b))[j]? = some u) : (K.encs l)[a * K.sz + j]? = some u := by
  rw [← K.encs_take, List.getElem?_take] at h
  split at h
  · rw [← K.encs_drop, List.getElem?_drop] at h; exact h
  · exact absurd h (by simp)
/-- 's[lo:hi]', as a list. -/
theorem Rd.mid (E : ElT P t e K bytes) {w : World} {v : Value} {l : List α} (h : Rd K w v l) (lo hi : Nat) (h1 : lo ≤ hi) (h2 : hi ≤ l.length) (x y : Int) (hx : x = lo) (hy : y = hi) :
    ∃ v2, (∀ w', (Instr.slice t v (some (.int .i64 x)) (some (.int .i64 y)) none).run P w' = .ok v2 w') ∧ Rd K w v2 ((l.drop lo).take (hi - lo)) ∧ (∀ g, v2.ownBlock = some g → v.ownBlock = some g) := by
  rcases h with ⟨⟨A, c, rfl⟩, rfl⟩ | ⟨g, o, cap, rfl, c1, c2, c3⟩
  · obtain rfl : hi = 0 := by simpa using h2
    obtain rfl : lo = 0 := by omega
    subst hx hy
    exact ⟨_, fun w' => run_slice_e_lohi E A c w', by simpa using Rd.empty K w A c, fun g hg => hg⟩
  · obtain ⟨o', ho, hr⟩ := run_slice_lohi E g o l.length cap lo hi h1 (by omega) x y hx hy
    have hln : ((l.drop lo).take (hi - lo)).length = hi - lo := by rw [List.length_take, List.length_drop]; omega
    refine ⟨_, hr, .inr ⟨g, o', cap - lo, by rw [hln], by rw [hln]; omega, by omega, fun j u hu => ?_⟩, fun g' hg' => hg'⟩
    have hne : lo < cap := by
      rcases Nat.lt_or_ge lo cap with h | h
      · exact h
      · have h0 : (l.drop lo).take (hi - lo) = [] := List.eq_nil_of_length_eq_zero (by omega)
        rw [h0] at hu; simp [Kd.encs] at hu
    have := c3 _ u (K.encs_mid l lo (hi - lo) j u hu)
    rw [ho hne, Nat.add_assoc]
    exact this
/-- The same, with a name for what is read, and the value written out. -/
theorem Rd.upto2 (E : ElT P t e K bytes) {w : World} {v : Value} {l : List α} (h : Rd K w v l) (p : Nat) (hp : p ≤ l.length) (x : Int) (hx : x = p) :
    ∃ s A c, Hid (s = l.take p) ∧ s.length = p ∧ (∀ w', (Instr.slice t v none (some (.int .i64 x)) none).run P w' = .ok (.slice A s.length c) w') ∧ Hid (Rd K w (.slice A s.length c) s) ∧ Hid (∀ g, (Value.slice A s.length c).ownBlock = some g → v.ownBlock = some g) := by
  obtain ⟨v2, h1, h2, h3⟩ := h.upto E p hp x hx
  obtain ⟨A, c, rfl⟩ := h2.shape
  exact ⟨_, A, c, rfl, by rw [List.length_take]; omega, h1, h2, h3⟩
theorem Rd.mid2 (E : ElT P t e K bytes) {w : World} {v : Value} {l : List α} (h : Rd K w v l) (lo hi : Nat) (h1 : lo ≤ hi) (h2 : hi ≤ l.length) (x y : Int) (hx : x = lo) (hy : y = hi) :
    ∃ s A c, Hid (s = (l.drop lo).take (hi - lo)) ∧ s.length = hi - lo ∧ (∀ w', (Instr.slice t v (some (.int .i64 x)) (some (.int .i64 y)) none).run P w' = .ok (.slice A s.length c) w') ∧ Hid (Rd K w (.slice A s.length c) s) ∧ Hid (∀ g, (Value.slice A s.length c).ownBlock = some g → v.ownBlock = some g) := by
  obtain ⟨v2, k1, k2, k3⟩ := h.mid E lo hi h1 h2 x y hx hy
  obtain ⟨A, c, rfl⟩ := k2.shape
  exact ⟨_, A, c, rfl, by rw [List.length_take, List.length_drop]; omega, k1, k2, k3⟩
theorem Rd.from2 (E : ElT P t e K bytes) {w : World} {v : Value} {l : List α} (h : Rd K w v l) (lo : Nat) (h1 : lo ≤ l.length) (x : Int) (hx : x = lo) :
    ∃ s A c, Hid (s = l.drop lo) ∧ s.length = l.length - lo ∧ (∀ w', (Instr.slice t v (some (.int .i64 x)) none none).run P w' = .ok (.slice A s.length c) w') ∧ Hid (Rd K w (.slice A s.length c) s) ∧ Hid (∀ g, (Value.slice A s.length c).ownBlock = some g → v.ownBlock = some g) := by
  obtain ⟨v2, k1, k2, k3⟩ := h.from E lo h1 x hx
  obtain ⟨A, c, rfl⟩ := k2.shape
  exact ⟨_, A, c, rfl, by rw [List.length_drop], k1, k2, k3⟩
end
end Go.Proofs.YtmipnicdlldjnaaGreatDoor

namespace Go.Proofs.YtmipnicdlldjnaaGreatDoor
set_option linter.unusedVariables false
set_option linter.unusedSimpArgs false
open Go.RowKit

theorem Rd.kpMap {α : Type} {K : Kd α} {w w' : World} {v : Value} {l : List α} {b : Nat} {M : List Int} (h : Rd K w v l) (hs : SetI w b M) (hk : Kp (fun k => k = b) w w') : Rd K w' v l := by
  rcases h with ⟨⟨A, c, rfl⟩, rfl⟩ | ⟨g, o, cap, rfl, c1, c2, c3⟩
  · exact .inl ⟨⟨A, c, rfl⟩, rfl⟩
  · refine .inr ⟨g, o, cap, rfl, c1, c2, fun j u hu => ?_⟩
    have h3 := c3 j u hu
    refine hk.cellS h3 ?_
    intro e
    have e : g = b := e
    obtain ⟨arr, clk, hb, _⟩ := hs
    rw [e] at h3
    simp [World.cell?, hb] at h3
end Go.Proofs.YtmipnicdlldjnaaGreatDoor

namespace Go.Proofs.YtmipnicdlldjnaaGreatDoor
set_option linter.unusedVariables false
set_option linter.unusedSimpArgs false
open Go.RowKit

set_option maxHeartbeats 4000000 in
set_option maxRecDepth 100000 in
theorem rights_row (f : Flr) (hsz : f.s.size ≤ 9223372036854775807) (rb at_ : Int) (hrb : rb ≤ 9223372036854775807) (hat : at_ ≤ 9223372036854775807) {w : World} {v : Value} {l : List ActT} (hl : Rd AcK w v l) (hc : ∀ x ∈ l, x.c ≤ 9223372036854775807) :
    Calls Tryz.prog 4 #[f.val, .int .i64 rb, .int .i64 at_, v] w fun e w' => e = .returned (.bool true) ∧ Kp No w w' := by
  have HSH := Lib.hid shown10_any
  obtain ⟨sz, hszn⟩ : ∃ z, z = f.s.size := ⟨_, rfl⟩
  have hszI : ((f.s.size : Nat) : Int) = (sz : Int) := by omega
  obtain ⟨w1, hw1⟩ : ∃ y : World, y = w.alloc (.cells #[.int .i64 f.W, .int .i64 f.H, .string f.s] 23) := ⟨_, rfl⟩
  have BX := Lib.hid (show w1.heap[w.heap.size]? = some (.cells #[.int .i64 f.W, .int .i64 f.H, .string f.s] 23 (0, 0)) by rw [hw1]; exact blk_new w _)
  have K1 := Lib.hid (show Kp No w w1 by rw [hw1]; exact (Kp.refl _ _).alloc _)
  have HW1 := Lib.hid hw1
  have HL := Lib.hid (hl.kpNo K1.out)
  have HC := Lib.hid hc
  obtain ⟨A, cap, rfl⟩ := hl.shape
  have hll := hl.lenI
  unfold maxLen at hll
  obtain ⟨n, hn⟩ : ∃ z, z = l.length := ⟨_, rfl⟩
  rw [← hn] at HL hll ⊢
  have HN := Lib.hid hn
  obtain ⟨m, hm⟩ : ∃ z, z = min n 100 := ⟨_, rfl⟩
  have hmi : min (n : Int) 100 = (m : Int) := by omega
  obtain ⟨sl, As, qs, hsl, hsn, hrs, hRs, _⟩ := HL.out.upto2 elAc m (by rw [← hn]; omega) (m : Int) rfl
  rw [hsn] at hrs hRs
  have HM := Lib.hid hsn
  have RS := Lib.hid hRs.out
  have hm100 : m ≤ 100 := by omega
  have HCS := Lib.hid (show ∀ x ∈ sl, x.c ≤ 9223372036854775807 from fun x hx => hc x (by rw [hsl.out] at hx; exact List.mem_of_mem_take hx))
  have LB := Lib.hid (fun wx (hk : Kp No w1 wx) => show wx.cell? ⟨w.heap.size, 0, none⟩ = some (.int .i64 f.W) ∧ wx.cell? ⟨w.heap.size, 1, none⟩ = some (.int .i64 f.H) ∧ wx.cell? ⟨w.heap.size, 2, none⟩ = some (.string f.s) from ⟨blk_cell (hk.blk BX.out (no_no _)) 0, blk_cell (hk.blk BX.out (no_no _)) 1, blk_cell (hk.blk BX.out (no_no _)) 2⟩)
  obtain ⟨F, hF⟩ : ∃ F, F = f := ⟨_, rfl⟩
  obtain ⟨b, hb⟩ : ∃ b, rightT F rb at_ sl = b := ⟨_, rfl⟩
  obtain ⟨co, hco⟩ : ∃ z, z = costT sl := ⟨_, rfl⟩
  have AL := Lib.hid (show F.s.size ≤ 60 → ∀ wx, Kp No w1 wx →
      Calls Tryz.prog 10 #[F.val, .int .i64 rb, .int .i64 at_, .slice As m qs] wx (fun e w' => e = .returned (.bool b) ∧ Kp No wx w') ∧
      Calls Tryz.prog 11 #[F.val, .int .i64 rb, .int .i64 at_, .slice As m qs] wx (fun e w' => e = .returned (.bool b) ∧ Kp No wx w') ∧
      Calls Tryz.prog 12 #[.slice As m qs] wx (fun e w' => e = .returned (.int .i64 (co : Int)) ∧ Kp No wx w') ∧
      Calls Tryz.prog 13 #[.slice As m qs] wx (fun e w' => e = .returned (.int .i64 (co : Int)) ∧ Kp No wx w') ∧
      Calls Tryz.prog 15 #[F.val, .slice As m qs] wx (fun e w' => ∃ v', e = .returned v' ∧ Rd IK w' v' (zonesR F sl) ∧ Kp No wx w') ∧
      Calls Tryz.prog 16 #[F.val, .slice As m qs] wx (fun e w' => ∃ v', e = .returned v' ∧ NewS IK 3 wx w' v' (ints (zonesQ F sl 26))) from fun h60 wx hk => by
    have R := RS.out.kpNo hk
    have hlb : sl.length ≤ 1000000 := by rw [HM.out]; omega
    refine ⟨tpRight_any F (by omega) rb at_ hrb hat R HCS.out b hb, q10Right_any F (by omega) rb at_ hat R HCS.out b hb, ?_, ?_, tpZones_any F (by omega) R hlb HCS.out, q10Zones_any F (by omega) R hlb HCS.out⟩
    · rw [hco]; exact tpCost_any R hlb
    · rw [hco]; exact q10Cost_any R hlb)
  have ZE := Lib.hid (zones_eq F sl)
  have HFS := Lib.hid (show F.s.size = sz by rw [hF, hszn])
  obtain ⟨X, Y, sb⟩ := f
  have HV := Lib.hid (show F.val = .agg #[.int .i64 X, .int .i64 Y, .string sb] by rw [hF]; rfl)
  rw [← hF, HV.out]
  rw [HV.out] at AL
  simp only at hszI HW1 LB
  clear hF hszn hw1 hl hc hn hm hsl hsn hRs hb hco hsz hrb hat
  go_enter Tryz.func4, Tryz.ntmps4
  go_upto_region 1 with fail
  rw [← HW1.out]
  go_wp2_with fail
  refine (HSH.out _).mono ?_
  rintro e w2 ⟨rfl, k2⟩
  have K2 := Lib.hid k2
  obtain ⟨c0, c1, c2⟩ := LB.out w2 K2.out
  clear k2
  by_cases h60 : ¬ sz ≤ 60
  · have hbig : (60 : Int) < (sz : Int) := by omega
    clear h60
    go_wp2_with fail
    go_ret
    exact ⟨rfl, K1.out.no K2.out⟩
  have h60 := Decidable.of_not_not h60
  have hbig : ¬ (60 : Int) < (sz : Int) := by omega
  have AA := Lib.hid (AL.out (by rw [HFS.out]; exact h60))
  have hor : b = true ∨ b = false := by cases b <;> simp
  clear h60 AL
  go_upto_region 5 with fail
  obtain ⟨q0, q1, q2⟩ := LB.out w2.drew K2.out.drew
  go_region_held3 (fun w' => w'.cell? ⟨w.heap.size, 0, none⟩ = some (.int .i64 X) ∧ w'.cell? ⟨w.heap.size, 1, none⟩ = some (.int .i64 Y) ∧ w'.cell? ⟨w.heap.size, 2, none⟩ = some (.string sb))
    (first | exact ⟨by assumption, by assumption, by assumption⟩ | exact ⟨q0, q1, q2⟩)
    (first
      | (go_at_call 10; refine (AA.out _ K2.out.drew).1.mono ?_; rintro e w3 ⟨rfl, k3⟩; have K3 := Lib.hid (K2.out.drew.no k3); obtain ⟨r0, r1, r2⟩ := LB.out w3 K3.out; clear k3)
      | (go_at_call 11; refine (AA.out _ K3.out).2.1.mono ?_; rintro e w4 ⟨rfl, k4⟩; have K4 := Lib.hid (K3.out.no k4); obtain ⟨s0, s1, s2⟩ := LB.out w4 K4.out; clear k4)
      | (go_at_call 12; refine (AA.out _ K4.out).2.2.1.mono ?_; rintro e w5 ⟨rfl, k5⟩; have K5 := Lib.hid (K4.out.no k5); obtain ⟨t0, t1, t2⟩ := LB.out w5 K5.out; clear k5)
      | (go_at_call 13; refine (AA.out _ K5.out).2.2.2.1.mono ?_; rintro e w6 ⟨rfl, k6⟩; have K6 := Lib.hid (K5.out.no k6); obtain ⟨u0, u1, u2⟩ := LB.out w6 K6.out; clear k6)
      | (go_at_call 15; refine (AA.out _ K6.out).2.2.2.2.1.mono ?_; rintro e w7 ⟨v7, rfl, r7, k7⟩; have R7 := Lib.hid r7; have K7 := Lib.hid (K6.out.no k7); obtain ⟨x0, x1, x2⟩ := LB.out w7 K7.out; clear k7 r7)
      | (go_at_call 16; refine (AA.out _ K7.out).2.2.2.2.2.mono ?_; rintro e w8 ⟨v8, rfl, n8⟩; have N8 := Lib.hid n8; have R78 := Lib.hid (R7.out.kpNo n8.kp); have K8 := Lib.hid (K7.out.no n8.kp); obtain ⟨y0, y1, y2⟩ := LB.out w8 K8.out; clear n8)
      | (go_at_call 14; refine (sameInts_any R78.out N8.out.own.rd true (by rw [ZE.out]; simp)).mono ?_; rintro e w9 ⟨rfl, k9⟩; have K9 := Lib.hid (K8.out.no k9); obtain ⟨z0, z1, z2⟩ := LB.out w9 K9.out; clear k9))
  all_goals
    go_wp2_with fail
    go_ret
    exact ⟨by simp, K1.out.no (K9.out.no ((Kp.refl No _).drewN 0))⟩
end Go.Proofs.YtmipnicdlldjnaaGreatDoor

namespace Go.Proofs.YtmipnicdlldjnaaGreatDoor
set_option linter.unusedVariables false
set_option linter.unusedSimpArgs false
open Go.RowKit

/-- v, that came in, reads as l. -/
def RdA {α : Type} (K : Kd α) (w : World) (v : Value) (l : List α) : Prop :=
  ∃ A cap, v = .slice A l.length cap ∧ ∀ i x, l[i]? = some x → ∃ g o, A = some ⟨g, o, none⟩ ∧ ∀ j u, (K.enc x)[j]? = some u → w.cell? ⟨g, o + i * K.sz + j, none⟩ = some u

theorem Rd.a {α : Type} {K : Kd α} {w : World} {v : Value} {l : List α} (h : Rd K w v l) : RdA K w v l := by
  have h' := h
  rcases h with ⟨⟨A, c, rfl⟩, rfl⟩ | ⟨g, o, cap, rfl, _⟩
  · exact ⟨A, c, rfl, by simp⟩
  · exact ⟨_, cap, rfl, fun i x hx => ⟨g, o, rfl, fun j u hu => h'.at rfl hx hu⟩⟩
theorem RdA.kpNo {α : Type} {K : Kd α} {w w' : World} {v : Value} {l : List α} (h : RdA K w v l) (hk : Kp No w w') : RdA K w' v l :=
  let ⟨A, cap, hv, hc⟩ := h
  ⟨A, cap, hv, fun i x hx => let ⟨g, o, hA, hu⟩ := hc i x hx; ⟨g, o, hA, fun j u hj => hk.cellS (hu j u hj) (no_no _)⟩⟩
theorem RdA.shape {α : Type} {K : Kd α} {w : World} {v : Value} {l : List α} (h : RdA K w v l) : ∃ A cap, v = .slice A l.length cap := let ⟨A, cap, hv, _⟩ := h; ⟨A, cap, hv⟩
theorem RdA.take {α : Type} {K : Kd α} {w : World} {A : Option Addr} {n cap : Nat} {l : List α} (h : RdA K w (.slice A n cap) l) (m : Nat) : RdA K w (.slice A (min m n) cap) (l.take m) := by
  obtain ⟨A', cap', hv, hc⟩ := h
  simp only [Value.slice.injEq] at hv
  obtain ⟨rfl, rfl, rfl⟩ := hv
  refine ⟨A, cap, by simp, fun i x hx => ?_⟩
  rw [List.getElem?_take] at hx
  split at hx
  · exact hc i x hx
  · cases hx
theorem RdA.at {α : Type} {K : Kd α} {w : World} {A : Option Addr} {n cap : Nat} {l : List α} (h : RdA K w (.slice A n cap) l) {i : Nat} {x : α} (hx : l[i]? = some x) :
    ∃ g o, A = some ⟨g, o, none⟩ ∧ ∀ j u, (K.enc x)[j]? = some u → w.cell? ⟨g, o + i * K.sz + j, none⟩ = some u := by
  obtain ⟨A', cap', hv, hc⟩ := h
  simp only [Value.slice.injEq] at hv
  obtain ⟨rfl, rfl, rfl⟩ := hv
  exact hc i x hx

/-- 's[:hi]' of whatever came in. -/
theorem run_slice_hiA {α : Type} {K : Kd α} {P : Program} {t e : TypeId} {bytes : Nat} (E : ElT P t e K bytes) (A : Option Addr) (n cap hi : Nat) (h : hi ≤ cap) (x : Int) (hx : x = hi) (w : World) :
    (Instr.slice t (.slice A n cap) none (some (.int .i64 x)) none).run P w = .ok (.slice A hi cap) w := by
  subst hx
  obtain ⟨ht, i, z, hi', hz, hsize, hby, hzs⟩ := E
  have hA : (if cap = 0 then A else A.map (·.add (0 * i.size))) = A := by
    split
    · rfl
    · cases A <;> simp [Addr.add]
  simp only [Nat.zero_mul] at hA
  simp [Instr.slice, Instr.sliceBounds, Instr.sliceBound, run_underlying ht, sizeOf, typeInfo, hi', asIntOf, h, hA]

theorem list_of {α : Type} (Q : Nat → α → Prop) : ∀ n, (∀ i, i < n → ∃ x, Q i x) → ∃ l : List α, l.length = n ∧ ∀ i x, l[i]? = some x → Q i x
  | 0, _ => ⟨[], rfl, by simp⟩
  | n + 1, h => by
    obtain ⟨l, hl, hq⟩ := list_of Q n fun i hi => h i (by omega)
    obtain ⟨x, hx⟩ := h n (by omega)
    refine ⟨l ++ [x], by simp [hl], fun i y hy => ?_⟩
    rw [List.getElem?_append] at hy
    split at hy
    · exact hq i y hy
    · rename_i hi
      have : i = l.length := by
        have := (List.getElem?_eq_some_iff.1 hy).1
        simp at this; omega
      subst this
      simp at hy
      subst hy
      rw [hl]; exact hx

theorem open_rows {α : Type} {K : Kd α} {H : Type} {enc : TypeId × Value → H} {P : Program} {w : World} {base : Nat} {spare : Nat → Bool} {held : Bool} {t e : TypeId} {fuel : Nat} {v : Value} {x : DataW H × List MemPlace} (Good : α → Prop)
    (ht : P.underlying t = some (.slice e)) (hC : P.cellsOf e = K.sz) (dec : ∀ n cs' y, DataW.trod enc P w base spare held n e cs' = some y → ∃ x : α, cs' = K.enc x ∧ Good x)
    (h : DataW.trod enc P w base spare held fuel t [v] = some x) : ∃ l : List α, RdA K w v l ∧ (∀ x ∈ l, Good x) ∧ ∃ A cap, v = .slice A l.length cap ∧ l.length ≤ cap ∧ cap ≤ maxLen := by
  rcases Go.Deep.open_slice ht h with ⟨h0, _⟩ | ⟨a, len, cap, m, n, D, Pl, hcs, hb, hl, hm, hmm, hx, hi⟩
  · simp at h0
    exact ⟨[], ⟨none, 0, h0, by simp⟩, by simp, none, 0, h0, by simp, by simp⟩
  · simp at hcs
    have hml : len ≤ m := by rw [hmm]; split <;> omega
    have hsp : 0 < len → a = ⟨a.block, a.off, none⟩ := by
      intro h0
      obtain ⟨cs', hc, ht'⟩ := hi 0 (by omega)
      obtain ⟨y, rfl, _⟩ := dec n cs' _ ht'
      obtain ⟨_, hcl, hat⟩ := World.cells?_some hc
      have h1 := hat 0 (by rw [hC]; exact K.pos)
      rw [List.getElem?_eq_getElem (by rw [K.len y]; exact K.pos), Nat.zero_mul] at h1
      have := World.cell?_spot h1
      simp only [Addr.add, if_true] at this
      obtain ⟨b, o, sp⟩ := a
      simp only at this
      rw [this]
    obtain ⟨l, hll, hq⟩ := list_of (fun i (x : α) => Good x ∧ ∃ g o, some a = some (⟨g, o, none⟩ : Addr) ∧ ∀ j u, (K.enc x)[j]? = some u → w.cell? ⟨g, o + i * K.sz + j, none⟩ = some u) len fun i hil => by
      obtain ⟨cs', hc, ht'⟩ := hi i (by omega)
      obtain ⟨y, rfl, hg⟩ := dec n cs' _ ht'
      obtain ⟨_, hcl, hat⟩ := World.cells?_some hc
      rw [hC] at hat
      have ha := hsp (by omega)
      refine ⟨y, hg, a.block, a.off, congrArg some ha, fun j u hj => ?_⟩
      have hjl : j < K.sz := by rw [← K.len y]; exact (List.getElem?_eq_some_iff.1 hj).1
      have := hat j hjl
      rw [ha] at this
      simp only [Addr.add_lit] at this
      rw [this, hj]
    subst hll
    exact ⟨l, ⟨some a, cap, hcs, fun i x hx => (hq i x hx).2⟩, fun x hx => by obtain ⟨i, hil, rfl⟩ := List.getElem_of_mem hx; exact (hq i _ (List.getElem?_eq_getElem hil)).1, some a, cap, hcs, hl, hm⟩
end Go.Proofs.YtmipnicdlldjnaaGreatDoor

namespace Go.Proofs.YtmipnicdlldjnaaGreatDoor
set_option linter.unusedVariables false
set_option linter.unusedSimpArgs false
open Go.ChangeShapes Go.WideShapes Go.ChangeAt Go.RowKit Go.Joins

section
variable {H : Type} {enc : TypeId × Value → H} {w : World} {base : Nat} {spare : Nat → Bool} {held : Bool}
set_option maxRecDepth 100000 in
theorem open_floor {v : Value} {d : DataW H} {p : List MemPlace} {r : Reach} {b0 : Nat} (hv : Value.okWide Tryz.prog w r b0 23 v) (h : DataW.Trod enc Tryz.prog w base spare held 23 v d p) :
    ∃ f : Flr, v = f.val ∧ f.s.size ≤ 9223372036854775807 := by
  obtain ⟨v0, v1, v2, y0, y1, y2, n, rfl, _, _, h0, h1, h2⟩ := open_agg3 Tryz.underlying23 (by kernel_rfl) (by kernel_rfl) hv h
  obtain ⟨a, e0, _, _⟩ := DataW.trod_int Tryz.underlying3 h0
  obtain ⟨b, e1, _, _⟩ := DataW.trod_int Tryz.underlying3 h1
  obtain ⟨s, e2, _, hs⟩ := DataW.trod_string Tryz.underlying9 h2
  simp at e0 e1 e2
  subst e0 e1 e2
  exact ⟨⟨a, b, s⟩, rfl, hs⟩
end
end Go.Proofs.YtmipnicdlldjnaaGreatDoor

namespace Go.Proofs.YtmipnicdlldjnaaGreatDoor
set_option linter.unusedVariables false
set_option linter.unusedSimpArgs false
open Go.ChangeShapes Go.WideShapes Go.ChangeAt Go.RowKit Go.Joins
section
variable {H : Type} {enc : TypeId × Value → H} {w : World} {base : Nat} {spare : Nat → Bool} {held : Bool}
theorem int_dec {n : Nat} {cs : List Value} {y : DataW H × List MemPlace} (h : DataW.trod enc Tryz.prog w base spare held n 3 cs = some y) : ∃ x : Int, cs = IK.enc x ∧ True := by
  obtain ⟨k, e0, _, wk⟩ := DataW.trod_int Tryz.underlying3 h
  exact ⟨k, by rw [e0]; rfl, trivial⟩
theorem RdA.rd' {α : Type} {K : Kd α} {w : World} {A : Option Addr} {cap : Nat} {l : List α} (h : RdA K w (.slice A l.length cap) l) (h3 : l.length ≤ cap) (h4 : cap ≤ maxLen) : Rd K w (.slice A l.length cap) l := by
  obtain ⟨A', cap', e, hi⟩ := h
  simp only [Value.slice.injEq] at e
  obtain ⟨rfl, _, rfl⟩ := e
  by_cases h0 : l = []
  · subst h0; exact .inl ⟨⟨A, cap, rfl⟩, rfl⟩
  · obtain ⟨x, hx⟩ : ∃ x, l[0]? = some x := ⟨_, List.getElem?_eq_getElem (by cases l with | nil => exact absurd rfl h0 | cons _ _ => simp)⟩
    obtain ⟨g, o, rfl, _⟩ := hi 0 x hx
    refine .inr ⟨g, o, cap, rfl, h3, h4, fun j u hu => ?_⟩
    have hjl : j < l.length * K.sz := by rw [← K.length_encs]; exact (List.getElem?_eq_some_iff.1 hu).1
    have hp := K.pos
    have hq : j / K.sz < l.length := Nat.div_lt_of_lt_mul (by rw [Nat.mul_comm]; exact hjl)
    obtain ⟨y, hy⟩ : ∃ y, l[j / K.sz]? = some y := ⟨_, List.getElem?_eq_getElem hq⟩
    obtain ⟨g', o', e2, hc⟩ := hi _ y hy
    simp only [Option.some.injEq, Addr.mk.injEq] at e2
    obtain ⟨rfl, rfl, _⟩ := e2
    have hm : j % K.sz < K.sz := Nat.mod_lt _ hp
    have he := K.encs_get l (j / K.sz) (j % K.sz) y hy hm
    have hj : j / K.sz * K.sz + j % K.sz = j := Nat.div_add_mod' j K.sz
    rw [hj, hu] at he
    have := hc _ u he.symm
    rw [Nat.add_assoc, hj] at this
    exact this
set_option maxRecDepth 100000 in
theorem open_ints {v : Value} {d : DataW H} {p : List MemPlace} {r : Reach} {b0 : Nat} (hv : Value.okWide Tryz.prog w r b0 24 v) (h : DataW.Trod enc Tryz.prog w base spare held 24 v d p) : ∃ l : List Int, Rd IK w v l := by
  obtain ⟨a0, len, cap, rfl⟩ := okWide_slice Tryz.underlying24 hv
  obtain ⟨fuel, hf⟩ := h
  obtain ⟨l, h1, h2, A, cap, e, h3, h4⟩ := open_rows (K := IK) (fun _ : Int => True) Tryz.underlying24 (by kernel_rfl) (fun n cs' y hy => int_dec hy) hf
  rw [e] at h1 ⊢
  exact ⟨l, h1.rd' h3 h4⟩
end
end Go.Proofs.YtmipnicdlldjnaaGreatDoor

namespace Go.Proofs.YtmipnicdlldjnaaGreatDoor
set_option linter.unusedVariables false
set_option linter.unusedSimpArgs false
open Go.ChangeShapes Go.WideShapes Go.ChangeAt Go.RowKit Go.Joins

theorem wf_le {n : Int} (h : (Lit.int .i64 n).wf = true) : n ≤ 9223372036854775807 := by
  unfold Lit.wf at h
  simp only [Bool.and_eq_true, decide_eq_true_eq] at h
  have : IntKind.i64.max = 9223372036854775807 := by decide
  omega
/-- A case: a floor, a robot, a pod, where from and where to, cells that are blocked. -/
structure Cb where
  f : Flr
  rb : Int
  pod : Int
  fr : Int
  tg : Int
  bv : Value
  B : List Int
def Cb.val (x : Cb) : Value := .agg #[.int .i64 x.f.W, .int .i64 x.f.H, .string x.f.s, .int .i64 x.rb, .int .i64 x.pod, .int .i64 x.fr, .int .i64 x.tg, x.bv]
structure Cb.Ok (x : Cb) (w : World) : Prop where
  sz : x.f.s.size ≤ 9223372036854775807
  rb : x.rb ≤ 9223372036854775807
  fr : x.fr ≤ 9223372036854775807
  tg : x.tg ≤ 9223372036854775807
  rd : Rd IK w x.bv x.B
section
variable {H : Type} {enc : TypeId × Value → H} {w : World} {base : Nat} {spare : Nat → Bool} {held : Bool}
set_option maxRecDepth 100000 in
theorem floorX_dec {n : Nat} {cs : List Value} {y : DataW H × List MemPlace} (h : DataW.trod enc Tryz.prog w base spare held n 23 cs = some y) : ∃ f : Flr, cs = [.int .i64 f.W, .int .i64 f.H, .string f.s] ∧ f.s.size ≤ 9223372036854775807 := by
  obtain ⟨ys, n', rfl, hy, hlen, hyl, hf⟩ := DataW.trod_struct Tryz.underlying23 h
  have hc : Tryz.prog.cellsOf 23 = 3 := by kernel_rfl
  have hi : Tryz.prog.cellsOf 3 = 1 := by kernel_rfl
  have hs : Tryz.prog.cellsOf 9 = 1 := by kernel_rfl
  rw [hc] at hlen
  match cs, hlen with
  | [c0, c1, c2], _ =>
    match ys, hyl with
    | [y0, y1, y2], _ =>
      have h0 := hf 0 _ rfl
      have h1 := hf 1 _ rfl
      have h2 := hf 2 _ rfl
      simp [hi, hs] at h0 h1 h2
      obtain ⟨a, e0, _, _⟩ := DataW.trod_int Tryz.underlying3 h0
      obtain ⟨b, e1, _, _⟩ := DataW.trod_int Tryz.underlying3 h1
      obtain ⟨s, e2, _, hb⟩ := DataW.trod_string Tryz.underlying9 h2
      simp at e0 e1 e2
      exact ⟨⟨a, b, s⟩, by rw [e0, e1, e2], hb⟩
set_option maxRecDepth 100000 in
theorem intsX_dec {n : Nat} {v : Value} {y : DataW H × List MemPlace} (h : DataW.trod enc Tryz.prog w base spare held n 24 [v] = some y) : ∃ l : List Int, Rd IK w v l := by
  obtain ⟨l, h1, h2, A, cap, e, h3, h4⟩ := open_rows (K := IK) (fun _ : Int => True) Tryz.underlying24 (by kernel_rfl) (fun n cs' y hy => int_dec hy) h
  rw [e] at h1 ⊢
  exact ⟨l, h1.rd' h3 h4⟩
set_option maxRecDepth 100000 in
theorem open_case10 {v : Value} {d : DataW H} {p : List MemPlace} {r : Reach} {b0 : Nat} (hv : Value.okWide Tryz.prog w r b0 26 v) (h : DataW.Trod enc Tryz.prog w base spare held 26 v d p) :
    ∃ x : Cb, v = x.val ∧ x.Ok w := by
  obtain ⟨cs, rfl, hsz⟩ := okWide_struct Tryz.underlying26 hv
  obtain ⟨fuel, hf0⟩ := h
  have hf1 : DataW.trod enc Tryz.prog w base spare held fuel 26 cs.toList = some (d, p) := hf0
  obtain ⟨ys, n', rfl, hy, hlen, hyl, hf⟩ := DataW.trod_struct Tryz.underlying26 hf1
  have hc : Tryz.prog.cellsOf 26 = 8 := by kernel_rfl
  have hi : Tryz.prog.cellsOf 3 = 1 := by kernel_rfl
  have hF : Tryz.prog.cellsOf 23 = 3 := by kernel_rfl
  have hR : Tryz.prog.cellsOf 24 = 1 := by kernel_rfl
  rw [hc] at hlen
  obtain ⟨l, hl⟩ : ∃ l, l = cs.toList := ⟨_, rfl⟩
  have hcs : cs = l.toArray := by rw [hl]
  rw [← hl] at hlen hf
  clear hf0 hf1 hl hy hsz hv
  subst hcs
  match l, hlen with
  | [c0, c1, c2, c3, c4, c5, c6, c7], _ =>
    match ys, hyl with
    | [y0, y1, y2, y3, y4, y5], _ =>
      have h0 := hf 0 _ rfl
      have h1 := hf 1 _ rfl
      have h2 := hf 2 _ rfl
      have h3 := hf 3 _ rfl
      have h4 := hf 4 _ rfl
      have h5 := hf 5 _ rfl
      simp [hi, hF, hR] at h0 h1 h2 h3 h4 h5
      obtain ⟨f, e0, hb⟩ := floorX_dec h0
      obtain ⟨a, e1, _, w1⟩ := DataW.trod_int Tryz.underlying3 h1
      obtain ⟨b, e2, _, w2⟩ := DataW.trod_int Tryz.underlying3 h2
      obtain ⟨c, e3, _, w3⟩ := DataW.trod_int Tryz.underlying3 h3
      obtain ⟨e, e4, _, w4⟩ := DataW.trod_int Tryz.underlying3 h4
      obtain ⟨L, rL⟩ := intsX_dec h5
      simp at e0 e1 e2 e3 e4
      exact ⟨⟨f, a, b, c, e, c7, L⟩, by rw [e0.1, e0.2.1, e0.2.2, e1, e2, e3, e4]; rfl, ⟨hb, wf_le w1, wf_le w3, wf_le w4, rL⟩⟩
end
end Go.Proofs.YtmipnicdlldjnaaGreatDoor

namespace Go.Proofs.YtmipnicdlldjnaaGreatDoor
set_option linter.unusedVariables false
set_option linter.unusedSimpArgs false
open Go.ChangeShapes Go.WideShapes Go.ChangeAt Go.RowKit Go.Joins

theorem wf_u8A {n : Int} (h : (Lit.int .u8 n).wf = true) : ∃ u : Nat, n = (u : Int) ∧ u ≤ 255 := by
  unfold Lit.wf at h
  simp only [Bool.and_eq_true, decide_eq_true_eq] at h
  have h1 : IntKind.u8.max = 255 := by decide
  have h2 : IntKind.u8.min = 0 := by decide
  exact ⟨n.toNat, by omega, by omega⟩
section
variable {H : Type} {enc : TypeId × Value → H} {w : World} {base : Nat} {spare : Nat → Bool} {held : Bool}
set_option maxRecDepth 100000 in
theorem act_dec {n : Nat} {cs : List Value} {y : DataW H × List MemPlace} (h : DataW.trod enc Tryz.prog w base spare held n 41 cs = some y) : ∃ x : ActT, cs = AcK.enc x ∧ x.c ≤ 9223372036854775807 := by
  obtain ⟨ys, n', rfl, hy, hlen, hyl, hf⟩ := DataW.trod_struct Tryz.underlying41 h
  have hc : Tryz.prog.cellsOf 41 = 3 := by kernel_rfl
  have hi : Tryz.prog.cellsOf 3 = 1 := by kernel_rfl
  have hu : Tryz.prog.cellsOf 5 = 1 := by kernel_rfl
  rw [hc] at hlen
  match cs, hlen with
  | [c0, c1, c2], _ =>
    match ys, hyl with
    | [y0, y1, y2], _ =>
      have h0 := hf 0 _ rfl
      have h1 := hf 1 _ rfl
      have h2 := hf 2 _ rfl
      simp [hi, hu] at h0 h1 h2
      obtain ⟨a, e0, _, w0⟩ := DataW.trod_int Tryz.underlying5 h0
      obtain ⟨b, e1, _, w1⟩ := DataW.trod_int Tryz.underlying3 h1
      obtain ⟨c, e2, _, _⟩ := DataW.trod_int Tryz.underlying3 h2
      obtain ⟨u, rfl, _⟩ := wf_u8A w0
      simp at e0 e1 e2
      exact ⟨⟨u, b, c⟩, by rw [e0, e1, e2]; rfl, wf_le w1⟩
set_option maxRecDepth 100000 in
theorem open_acts {v : Value} {d : DataW H} {p : List MemPlace} {r : Reach} {b0 : Nat} (hv : Value.okWide Tryz.prog w r b0 29 v) (h : DataW.Trod enc Tryz.prog w base spare held 29 v d p) : ∃ l : List ActT, Rd AcK w v l ∧ ∀ x ∈ l, x.c ≤ 9223372036854775807 := by
  obtain ⟨a0, len, cap, rfl⟩ := okWide_slice Tryz.underlying29 hv
  obtain ⟨fuel, hf⟩ := h
  obtain ⟨l, h1, h2, A, cap, e, h3, h4⟩ := open_rows (K := AcK) (fun x : ActT => x.c ≤ 9223372036854775807) Tryz.underlying29 (by kernel_rfl) (fun n cs' y hy => act_dec hy) hf
  rw [e] at h1 ⊢
  exact ⟨l, h1.rd' h3 h4, h2⟩
end
end Go.Proofs.YtmipnicdlldjnaaGreatDoor
