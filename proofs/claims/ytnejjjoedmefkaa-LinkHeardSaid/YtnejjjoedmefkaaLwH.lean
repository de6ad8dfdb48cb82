/- The laws of link: LinkHeard. -/
import Derived.Test.YtnejjjoedmefkaaLwB
import Derived.Test.YtnejjjoedmefkaaSlH
namespace Go.Proofs.Ytnejjjoedmefkaa
set_option linter.unusedVariables false
set_option linter.unusedSimpArgs false
open Go.RowKit

theorem tell_ok (told : Nat) (d : List Nat) (h : told < 18446744073709551614) (hd : d.length ≤ 200) : tellE told false d = 0 := by
  unfold tellE; rw [if_neg (by decide), if_neg (fun h => by rcases h with h | h <;> omega)]
theorem tell_there (told : Nat) (d : List Nat) : tellE told true d = 3 := by unfold tellE; rw [if_pos rfl]

set_option maxHeartbeats 1000000 in
set_option maxRecDepth 100000 in
theorem heardL_any {w : World} {v : Value} {l : List SlH} (hv : Rd SHK w v l) (hg : ∀ x ∈ l, x.ok w) (n : Nat) (hn : n < 18446744073709551616) : Calls Try.prog 7 #[.int .u64 (n : Int), v] w (LawR w) := by
  obtain ⟨A, cap, rfl⟩ := hv.shape
  obtain ⟨N, hN⟩ : ∃ N, N = n % 9223372036854775808 := ⟨_, rfl⟩
  have hNI : (n : Int) % 9223372036854775808 = (N : Int) := by omega
  have hNl : N < 9223372036854775808 := by omega
  have hNw : IntKind.u64.wrap (N : Int) = (N : Int) := IntWalk.u64_in _ (by omega)
  have HL := Lib.hid (show l.length ≤ maxLen by
    rcases hv with ⟨_, rfl⟩ | ⟨_, _, _, _, h1, h2, _⟩
    · simp
    · omega)
  have H := Lib.hid hv; have HG := Lib.hid hg
  clear hv hg hN
  go_enter Try.func7, Try.ntmps7
  go_wp2_with fail
  refine (shown14 _).mono ?_
  rintro e w1 ⟨rfl, k1⟩
  have K1 := Lib.hid k1
  clear k1
  go_wp2_with fail
  refine (newSnd_any w1 N (by omega) _ rfl).mono ?_
  rintro e w2 ⟨ps, rfl, s2, k2, g2, l2⟩
  have S2 := Lib.hid s2; have K2 := Lib.hid k2; have G2 := Lib.hid g2; have L2 := Lib.hid l2
  clear s2 k2 g2 l2
  go_wp2_with fail
  refine (newRcv_any w2 N (by omega) _ rfl).mono ?_
  rintro e w3 ⟨pr, rfl, r3, k3, g3, l3⟩
  have S3 := Lib.hid (S2.out.no k3); have R3 := Lib.hid r3; have K3 := Lib.hid ((K1.out.trans K2.out).trans k3)
  have NE := Lib.hid (show pr ≠ ps by have := L2.out; omega)
  have PS := Lib.hid (show w.heap.size ≤ ps by have := K1.out.size; have := G2.out; omega)
  have PR := Lib.hid (show w.heap.size ≤ pr by have := K1.out.size; have := G2.out; have := L2.out; omega)
  clear r3 k3 g3 l3
  go_wp2
  go_loopw [31] (fun i wr => ∃ k : Nat, i = .int .i64 k ∧ k ≤ l.length ∧ k ≤ 50 ∧ SndS ps (N + k) false [] (.slice none 0 0) wr ∧ RcvS pr (N + k) wr ∧ Kp No w wr) (fun i _ => l.length - (intOf i).toNat)
  case atStart => exact ⟨0, rfl, by omega, by omega, S3.out, R3.out, K3.out⟩
  case round =>
    obtain ⟨k, rfl, hk, hk50, s0, r0, kk⟩ := hrel
    by_cases hlt : k < l.length
    · have hml := HL.out
      have hwk : IntKind.i64.wrap ((k : Int) + 1) = (k : Int) + 1 := IntWalk.i64_in _ (by omega)
      have hltI : (k : Int) < (l.length : Int) := by omega
      obtain ⟨x, hx⟩ : ∃ x, l[k]? = some x := ⟨_, List.getElem?_eq_getElem hlt⟩
      rcases H.out with ⟨_, he⟩ | ⟨g, o, cap', hv, _⟩
      · rw [he] at hlt; simp at hlt
      simp only [Value.slice.injEq] at hv
      obtain ⟨rfl, _, rfl⟩ := hv
      have hxc := (H.out.kpNo kk).slAt hx
      have hxo := HG.out x (List.mem_of_getElem? hx)
      have S0 := Lib.hid s0; have R0 := Lib.hid r0; have KK := Lib.hid kk; have HX := Lib.hid hx; have XO := Lib.hid hxo
      clear s0 r0 kk hx hxo hlt hml
      by_cases h50 : k < 50
      · have h50I : ¬ (50 : Int) ≤ (k : Int) := by omega
        by_cases h200 : 200 < x.b.length
        · have h200I : (200 : Int) < (x.b.length : Int) := by omega
          clear h200
          go_wp2
          go_ret
          exact ⟨rfl, KK.out⟩
        · have h200I : ¬ (200 : Int) < (x.b.length : Int) := by omega
          obtain ⟨t, ht⟩ : ∃ t, t = N + k := ⟨_, rfl⟩
          have htl : t < 9223372036854775858 := by omega
          have hbl : x.b.length ≤ 200 := by omega
          have hb := tell_ok t x.b (by omega) hbl
          have ha := ack_laid t (t + 1) x.b (by omega) hbl XO.out.2
          have hnx : nxt t = t + 1 := by unfold nxt; omega
          have hh := heard_laid t (t + 1) true (by omega)
          obtain ⟨F, hF⟩ : ∃ F, F = layL false (t + 1) x.b := ⟨_, rfl⟩
          obtain ⟨Q, hQ⟩ : ∃ Q, Q = layL true (t + 1) [] := ⟨_, rfl⟩
          rw [← hF] at ha
          rw [← hQ] at hh
          have hFl : F.length ≤ 1000000 := by rw [hF]; exact Nat.le_trans (layL_len false (t + 1) x.b (by omega)) (by decide)
          have hQl : Q.length ≤ 1000000 := by rw [hQ]; exact Nat.le_trans (layL_len true (t + 1) [] (by omega)) (by decide)
          have hfr : freshB t F = true := by rw [ha.2.1, hnx]; simp
          have hak : ackB t F = true := by rw [ha.1, hnx]; simp
          have hQt : heardB t true Q = true := by rw [hh]; simp
          have HFX : Hid (∀ y ∈ F, y < 256) := Lib.hid (by rw [hF]; exact layL_lt _ _ _)
          have HQX : Hid (∀ y ∈ Q, y < 256) := Lib.hid (by rw [hQ]; exact layL_lt _ _ _)
          obtain ⟨T1, hT1⟩ : ∃ T1, T1 = t + 1 := ⟨_, rfl⟩
          have e1 : (N : Int) + ((k : Int) + 1) = (T1 : Int) := by omega
          have e2 : IntKind.u64.wrap (T1 : Int) = (T1 : Int) := IntWalk.u64_in _ (by omega)
          have e3 : IntKind.u64.wrap ((k : Int) + 1) = (k : Int) + 1 := IntWalk.u64_in _ (by omega)
          have HB := Lib.hid hb; have HFR := Lib.hid hfr; have HAK := Lib.hid hak; have HQT := Lib.hid hQt; have HF := Lib.hid hF; have HQ := Lib.hid hQ; have HT := Lib.hid ht; have HT1 := Lib.hid hT1; have HNX := Lib.hid (show nxt t = T1 by rw [hnx, hT1]); have HTN := Lib.hid (show tkN F = T1 by rw [ha.2.2.1, hT1]); have HTD := Lib.hid ha.2.2.2
          have S0' := Lib.hid (show SndS ps t false [] (.slice none 0 0) wr by rw [ht]; exact S0.out)
          have R0' := Lib.hid (show RcvS pr t wr by rw [ht]; exact R0.out)
          have hxl : x.b.length ≤ 1000000 := by omega
          clear hb ha hnx hh hF hQ hfr hak hQt ht hT1 h200 S0 R0 htl
          go_wp2_with fail
          refine (tell_any S0'.out (XO.out.kpNo KK.out).1 hxl XO.out.2).mono ?_
          rintro e w4 ⟨rfl, k4, V4, s4, v4⟩
          rw [HB.out] at s4 ⊢
          have S4 : Hid (SndS ps t true x.b V4 w4) := Lib.hid s4
          have KK4 := Lib.hid (KK.out.newer k4 PS.out)
          have R4 := Lib.hid (R0'.out.far k4 NE.out)
          have hxc4 := (H.out.kpNo KK4.out).slAt HX.out
          have V4' : Hid (∀ g, V4.ownBlock = some g → pr < g) := Lib.hid fun g hg => by
            rcases v4 g hg with e | e
            · simp [Value.ownBlock] at e
            · have := lt_of_block R0'.out.blk; omega
          clear k4 s4 v4
          go_wp2_with fail
          refine (tell_any S4.out (XO.out.kpNo KK4.out).1 hxl XO.out.2).mono ?_
          rintro e w5 ⟨rfl, k5, V5, s5, v5⟩
          rw [tell_there] at s5 ⊢
          rw [if_neg (by decide)] at s5
          have S5 : Hid (SndS ps t true x.b V5 w5) := Lib.hid s5
          have KK5 := Lib.hid (KK4.out.newer k5 PS.out)
          have R5 := Lib.hid (R4.out.far k5 NE.out)
          have V5' : Hid (∀ g, V5.ownBlock = some g → pr < g) := Lib.hid fun g hg => by
            rcases v5 g hg with e | e
            · exact V4'.out g e
            · have := lt_of_block R4.out.blk; omega
          clear k5 s5 v5
          go_wp2_with fail
          refine (packet_any S5.out).mono ?_
          rintro e w6 ⟨v6, rfl, k6⟩
          have k6 : NewS BK 5 w5 w6 v6 F := by rw [HF.out]; exact k6
          obtain ⟨A6, c6, rfl⟩ := k6.own.rd.shape
          have K6 := Lib.hid k6
          have S6 := Lib.hid (S5.out.no k6.kp); have R6 := Lib.hid (R5.out.no k6.kp); have KK6 := Lib.hid (KK5.out.trans k6.kp)
          clear k6
          go_wp2_with fail
          refine (rhear_any R6.out K6.out.own.rd hFl HFX.out).mono ?_
          rintro e w7 ⟨va, vb, rfl, k7, r7, oa, ob, ga, gb⟩
          rw [HFR.out] at r7 oa ⊢
          rw [if_pos rfl, HTD.out] at oa
          rw [if_pos rfl, HNX.out] at r7
          rw [HAK.out, if_pos rfl, HTN.out, HT1.out, ← HQ.out] at ob
          obtain ⟨Aa, ca, rfl⟩ := oa.rd.shape
          obtain ⟨Ab, cb, rfl⟩ := ob.rd.shape
          have KK7 := Lib.hid (KK6.out.newer k7 PR.out)
          have R7 := Lib.hid r7
          have SL := Lib.hid (Nat.lt_of_lt_of_le (lt_of_block S5.out.blk) K6.out.kp.size)
          have S7 := Lib.hid (S6.out.far k7 (fun e => NE.out (Eq.symm e)) fun g hg e => by have e : g = pr := e; have := V5'.out g hg; omega)
          have OA := Lib.hid oa; have OB := Lib.hid ob; have GA := Lib.hid ga
          have hxc7 := (H.out.kpNo KK7.out).slAt HX.out
          have st1 : (convert 23 9 (.slice Aa x.b.length ca)).run Try.prog w7.drew = .ok (.string (strB x.b)) w7.drew := (oa.rd.kpNo (Kp.refl No w7).drew).str
          have st2 : (convert 23 9 (.slice x.A x.b.length x.c)).run Try.prog w7.drew = .ok (.string (strB x.b)) w7.drew := (((XO.out.kpNo KK7.out).1).kpNo (Kp.refl No w7).drew).str
          clear k7 r7 oa ob ga gb
          have htm : (n : Int).tmod 9223372036854775808 = (N : Int) := by rw [Int.tmod_eq_emod_of_nonneg (by omega)]; exact hNI
          go_wp2
          go_region_held3 (fun w' => w'.cell? ⟨g, o + k, none⟩ = some (.slice x.A x.b.length x.c) ∧ (convert 23 9 (.slice Aa x.b.length ca)).run Try.prog w' = .ok (.string (strB x.b)) w' ∧ (convert 23 9 (.slice x.A x.b.length x.c)).run Try.prog w' = .ok (.string (strB x.b)) w') (first | exact ⟨by assumption, by assumption, by assumption⟩ | exact ⟨hxc7, st1, st2⟩)
            (first
              | (go_at_call 23; refine (shear_any (w := w7.drew) (S7.out.no (Kp.refl No w7).drew) (OB.out.rd.kpNo (Kp.refl No w7).drew) hQl HQX.out).mono ?_; rintro e w8 ⟨rfl, k8, s8⟩; rw [HQT.out] at s8 ⊢; have S8 : Hid (SndS ps T1 false [] (.slice none 0 0) w8) := (by rw [HT1.out]; exact Lib.hid s8); have R8 := Lib.hid ((R7.out.no (Kp.refl No w7).drew).far k8 NE.out); have KK8 := Lib.hid (KK7.out.drew.newer k8 PS.out); have c1 := (H.out.kpNo KK8.out).slAt HX.out; have c2 := (OA.out.kp k8.ofDrew (fun g hg e => by have e : g = ps := e; have := GA.out g hg; have := SL.out; omega)).rd.str; have c3 := ((XO.out.kpNo KK8.out).1).str; clear k8 s8)
              | (go_at_call 27; refine (told_any S8.out).mono ?_; rintro e w9 ⟨rfl, rfl⟩)
              | (go_at_call 28; refine (heard_any R8.out).mono ?_; rintro e w9 ⟨rfl, rfl⟩))
          have hTk := Lib.hid (show T1 = N + (k + 1) by have := HT.out; have := HT1.out; omega)
          go_wp2_with fail
          refine (packet_any S8.out).mono ?_
          rintro e w10 ⟨v10, rfl, k10⟩
          have k10 : NewS BK 5 w8 w10 v10 [] := k10
          obtain ⟨A10, c10, rfl⟩ := k10.own.rd.shape
          have K10 := Lib.hid k10
          clear k10
          go_wp2
          go_roundw
          case rel => exact ⟨k + 1, by go_num, by omega, by omega, by rw [← hTk.out]; exact S8.out.no K10.out.kp, by rw [← hTk.out]; exact R8.out.no K10.out.kp, KK8.out.trans K10.out.kp⟩
          case measure => simp [intOf]; omega
      · have h50I : (50 : Int) ≤ (k : Int) := by omega
        clear h50
        go_wp2
        go_ret
        exact ⟨rfl, KK.out⟩
    · obtain rfl : k = l.length := by omega
      have KK := Lib.hid kk
      clear s0 r0 kk
      go_wp2
      go_ret
      exact ⟨rfl, KK.out⟩
open Go.ChangeShapes Go.WideShapes Go.ChangeAt Go.Joins in
theorem heardL_row {w : World} {v : Value} {l : List SlH} (hv : Rd SHK w v l) (hg : ∀ x ∈ l, x.ok w) (x : Int) (hx : (Lit.int .u64 x).wf = true) : Calls Try.prog 7 #[.int .u64 x, v] w (LawR w) := by
  have hb := bounds_u64 hx
  obtain ⟨n, rfl⟩ := Int.eq_ofNat_of_zero_le hb.1
  exact heardL_any hv hg n (by omega)
end Go.Proofs.Ytnejjjoedmefkaa
