/- carfaxref05: Map.Find; carfaxref05: Dist, Find, Is; path.Is; carfaxref05: Is; carfaxlaw05: shown, small, few; PathBlocked, PathSteps, PathBack, plain. No function of the program; PathBack, PathSteps, PathShort, plain: walks between lanes, and their lengths. No function of the program; PathSteps, plain. No function of the program; PathSteps, the walk; PathFinds, plain: both answers at once; PathShort, plain. No function of the program but by its contract. No condition. -/
import Derived.Test.YthchoknhkhfdnaaDoorM6
import Derived.Deep.RegionHeld3
import Derived.OpenShut
import Derived.Lib.SmallJoins
import Derived.Test.YthchoknhkhfdnaaDoorM5
import Derived.Test.YthchoknhkhfdnaaDoorM1
import Derived.Deep.RegionLaw

namespace Go.Proofs.YthchoknhkhfdnaaDoor
set_option linter.unusedVariables false
set_option linter.unusedSimpArgs false
open Go.RowKit

set_option maxHeartbeats 1000000 in
set_option maxRecDepth 100000 in
theorem q5MFind_arg {f : Flr} {n : Nat} {M : MpC} {Vs : List SlC} {w : World} {bv : Value} (h : MpW f n M Vs w) (hn : n ≤ 1000) (fr g : Int) (hx : ptOk f fr = false ∨ ptOk f g = false) :
    Calls Tryd.prog 28 #[M.val n, .int .i64 fr, .int .i64 g, bv] w fun e w' => e = .returned (.tuple #[.slice none 0 0, .int .i64 1]) ∧ Kp No w w' := by
  obtain ⟨w1, hw1⟩ : ∃ w1, w1 = w.alloc (.cells #[.slice M.A1 n M.q1, .slice M.A2 n M.q2, .slice M.A3 n M.q3] 51) := ⟨_, rfl⟩
  have K1 := Lib.hid (show Kp No w w1 by rw [hw1]; exact (Kp.refl _ _).alloc _)
  have BX := Lib.hid (show w1.heap[w.heap.size]? = some (.cells #[.slice M.A1 n M.q1, .slice M.A2 n M.q2, .slice M.A3 n M.q3] 51 (0, 0)) by rw [hw1]; exact blk_new w _)
  have HW1 := Lib.hid hw1
  clear hw1
  have H := Lib.hid (h.no K1.out)
  have lb : ∀ wx, Kp No w1 wx → wx.cell? ⟨w.heap.size, 0, none⟩ = some (.slice M.A1 n M.q1) ∧ wx.cell? ⟨w.heap.size, 1, none⟩ = some (.slice M.A2 n M.q2) ∧ wx.cell? ⟨w.heap.size, 2, none⟩ = some (.slice M.A3 n M.q3) := fun wx hk => by
    have := hk.blk BX.out (no_no _)
    exact ⟨blk_cell this 0, blk_cell this 1, blk_cell this 2⟩
  have LB := Lib.hid lb
  clear lb
  obtain ⟨b1, hb1⟩ : ∃ b, ptOk f fr = b := ⟨_, rfl⟩
  obtain ⟨b2, hb2⟩ : ∃ b, ptOk f g = b := ⟨_, rfl⟩
  have Q1 := Lib.hid (q5open_any H.out (by omega) fr b1 hb1)
  have Q2 := Lib.hid (fun wx (hk : Kp No w1 wx) => q5open_any (H.out.no hk) (by omega) g b2 hb2)
  obtain ⟨hc0, hc1, hc2⟩ := LB.out w1 (Kp.refl _ _)
  obtain ⟨A1, q1, A2, q2, A3, q3⟩ := M
  unfold MpC.val at Q1 Q2 ⊢
  simp only at hc0 hc1 hc2 HW1 Q1 Q2 LB ⊢
  rw [hb1, hb2] at hx
  clear h H BX hb1 hb2
  cases b1 with
  | false =>
    go_enter Tryd.func28, Tryd.ntmps28
    go_upto_region 1 with fail
    rw [← HW1.out]
    go_wp2_with fail
    refine Q1.out.mono ?_
    rintro e w2 ⟨rfl, kp2⟩
    have K2 := Lib.hid (K1.out.no kp2)
    clear kp2
    go_wp2_with fail
    go_ret2
    exact ⟨rfl, K2.out⟩
  | true =>
    obtain rfl : b2 = false := by rcases hx with h | h; simp at h; exact h
    clear hx
    go_enter Tryd.func28, Tryd.ntmps28
    go_upto_region 1 with fail
    rw [← HW1.out]
    go_wp2_with fail
    refine Q1.out.mono ?_
    rintro e w2 ⟨rfl, kp2⟩
    have K2 := Lib.hid kp2
    clear kp2 hc0 hc1 hc2
    obtain ⟨hc0, hc1, hc2⟩ := LB.out w2 K2.out
    go_wp2_with fail
    refine (Q2.out w2 K2.out).mono ?_
    rintro e w3 ⟨rfl, kp3⟩
    have K3 := Lib.hid (K1.out.no (K2.out.no kp3))
    clear kp3
    go_wp2_with fail
    go_ret2
    exact ⟨rfl, K3.out⟩
set_option maxHeartbeats 2000000 in
set_option maxRecDepth 100000 in
theorem q5MFind_any {f : Flr} {n : Nat} {M : MpC} {Vs : List SlC} {w : World} {bv : Value} {B : List Int} (h : MpW f n M Vs w) (hn : n ≤ 1000) (fr g : Nat) (hok : ptOk f fr = true) (hog : ptOk f g = true) (hB : Rd IK w bv B) (d : Int) (hd : d = dst (stepsP f fr B) fr g) (Q : List Nat) (hQ : d < 0 ∨ FstW (stepsP f fr B) fr g Q ∧ d = Q.length) :
    Calls Tryd.prog 28 #[M.val n, .int .i64 (fr : Int), .int .i64 (g : Int), bv] w fun e w' => (d < 0 ∧ e = .returned (.tuple #[.slice none 0 0, .int .i64 2]) ∧ Kp No w w') ∨ ∃ A q, d = (List.length Q : Int) ∧ e = .returned (.tuple #[.slice A Q.length q, .int .i64 0]) ∧ NewS IK 3 w w' (.slice A Q.length q) (ints Q) := by
  obtain ⟨w1, hw1⟩ : ∃ w1, w1 = w.alloc (.cells #[.slice M.A1 n M.q1, .slice M.A2 n M.q2, .slice M.A3 n M.q3] 51) := ⟨_, rfl⟩
  have K1 := Lib.hid (show Kp No w w1 by rw [hw1]; exact (Kp.refl _ _).alloc _)
  have BX := Lib.hid (show w1.heap[w.heap.size]? = some (.cells #[.slice M.A1 n M.q1, .slice M.A2 n M.q2, .slice M.A3 n M.q3] 51 (0, 0)) by rw [hw1]; exact blk_new w _)
  have HW1 := Lib.hid hw1
  clear hw1
  have H := Lib.hid (h.no K1.out); have HB := Lib.hid (hB.kpNo K1.out)
  have lb : ∀ wx, Kp No w1 wx → wx.cell? ⟨w.heap.size, 0, none⟩ = some (.slice M.A1 n M.q1) ∧ wx.cell? ⟨w.heap.size, 1, none⟩ = some (.slice M.A2 n M.q2) ∧ wx.cell? ⟨w.heap.size, 2, none⟩ = some (.slice M.A3 n M.q3) := fun wx hk => by
    have := hk.blk BX.out (no_no _)
    exact ⟨blk_cell this 0, blk_cell this 1, blk_cell this 2⟩
  have LB := Lib.hid lb
  clear lb
  obtain ⟨k, hk1, hk2, hr⟩ := ptOk_nat hok
  obtain rfl : fr = k := by omega
  obtain ⟨k', hk1', hk2', _⟩ := ptOk_nat hog
  obtain rfl : g = k' := by omega
  have hnf : n = f.s.size := by rw [h.hn]; unfold mpN; rw [if_pos (rightB_iff.2 hr)]
  have hfn : fr < n := by omega
  have hgn : g < n := by omega
  obtain ⟨st, hst⟩ : ∃ st, st = stepsP f fr B := ⟨_, rfl⟩
  rw [← hst] at hd hQ
  have HSZ := Lib.hid (show ∀ u c, u < n → c ∈ st u → c < n by
    intro u c hu hc
    rw [hst] at hc
    have := steps_sz hr (show u < f.s.size by omega) hc
    omega)
  have SL := Lib.hid (show ∀ u, (st u).length ≤ 4 by intro u; rw [hst]; exact steps_len f fr B u)
  have Q1 := Lib.hid (q5open_any H.out (by omega) (fr : Int) true hok)
  have Q2 := Lib.hid (fun wx (hk : Kp No w1 wx) => q5open_any (H.out.no hk) (by omega) (g : Int) true hog)
  have F0 := Lib.hid (fun wx (hk : Kp No w1 wx) => q5far_any (H.out.no hk) hn fr fr g hok hfn hgn (HB.out.kpNo hk) d (by rw [hd, far_self, hst]))
  have FA := Lib.hid (fun wx (hk : Kp No w1 wx) u (hu : u < n) x hx => q5far_any (H.out.no hk) hn u fr g hok hu hgn (HB.out.kpNo hk) x hx)
  have FI := Lib.hid (fun a l i e (hn : dst (stepsP f fr B) fr g = ((List.length Q : Nat) : Int)) => far_iff (a := a) (l := l) (i := i) (d := e) hn)
  rw [← hst] at FI
  have QS := Lib.hid (fun u (hu : u < n) wx (hk : Kp No w1 wx) => show Calls Tryd.prog 35 #[M.val n, .int .i64 (u : Int), .int .i64 (fr : Int), bv] wx fun e w' => ∃ v, e = .returned v ∧ NewS IK 3 wx w' v (ints (st u)) by
    rw [hst]; exact q5Steps_any (H.out.no hk) (by omega) u fr hu (HB.out.kpNo hk))
  obtain ⟨hc0, hc1, hc2⟩ := LB.out w1 (Kp.refl _ _)
  obtain ⟨A1, q1, A2, q2, A3, q3⟩ := M
  unfold MpC.val at Q1 Q2 F0 FA QS ⊢
  simp only at hc0 hc1 hc2 HW1 Q1 Q2 F0 FA QS LB ⊢
  have HD := Lib.hid hd; have HQ := Lib.hid hQ; have HFN := Lib.hid hfn
  clear h H BX HB hB hok hog hk1 hk2 hr hk1' hk2' hst hd hnf hfn hgn
  go_enter Tryd.func28, Tryd.ntmps28
  go_upto_region 1 with fail
  rw [← HW1.out]
  go_wp2_with fail
  refine Q1.out.mono ?_
  rintro e w2 ⟨rfl, kp2⟩
  have K2 := Lib.hid kp2
  clear kp2 hc0 hc1 hc2
  obtain ⟨hc0, hc1, hc2⟩ := LB.out w2 K2.out
  go_wp2_with fail
  refine (Q2.out w2 K2.out).mono ?_
  rintro e w3 ⟨rfl, kp3⟩
  have K3 := Lib.hid (K2.out.no kp3)
  clear kp3 hc0 hc1 hc2
  obtain ⟨hc0, hc1, hc2⟩ := LB.out w3 K3.out
  go_wp2_with fail
  refine (F0.out w3 K3.out).mono ?_
  rintro e w4 ⟨rfl, kp4⟩
  have K4 := Lib.hid (K3.out.no kp4)
  clear kp4 hc0 hc1 hc2 Q1 Q2
  by_cases h0 : d < 0
  · clear hQ
    go_wp2_with fail
    go_ret2
    exact .inl ⟨h0, rfl, K1.out.no K4.out⟩
  · obtain ⟨fs, hdl⟩ := hQ.resolve_left h0
    have FS := Lib.hid fs
    obtain ⟨qn, hqn⟩ : ∃ qn, qn = Q.length := ⟨_, rfl⟩
    have HQN := Lib.hid hqn
    have hdq : d = (qn : Int) := by rw [hdl, hqn]
    have HDQ := Lib.hid hdq
    have hq1 : qn ≤ 1000 := by
      rcases dst_isD st fr g with ⟨h1, _⟩ | ⟨k, h1, h2, h3⟩
      · have := HD.out; omega
      · have := short_lt HFN.out HSZ.out h2 h3
        have := HD.out; omega
    subst hdq
    have HSL := Lib.hid (show ∀ k a, Wk st fr k a → a < n from fun k a hw => by
      induction hw with
      | nil => exact HFN.out
      | step _ hc ih => exact HSZ.out _ _ ih hc)
    clear hQ fs hdl hqn
    go_wp2_with fail
    go_loopg [10, 11, 12] (qn + 1) (fun g_ nv ov av wx => ∃ (i : Nat) (A : Option Addr) (q : Nat), g_ = qn + 1 - i ∧ i ≤ qn ∧ av = .int .i64 (nd fr Q i : Nat) ∧ ov = .slice A i q ∧ nv = .int .i64 ((qn : Int) - (i : Int)) ∧ NewS IK 3 w4 wx (.slice A i q) (ints (Q.take i)))
    case atStart => exact ⟨0, none, 0, rfl, by omega, rfl, rfl, by simp, NewS.nil _ _ _⟩
    case round =>
      obtain ⟨i, A, q, hg, hi, rfl, rfl, rfl, ns⟩ := hrel
      have NS := Lib.hid ns
      have HI := Lib.hid hi
      clear ns
      by_cases hlt : i < qn
      · have hpos : (0 : Int) < (qn : Int) - (i : Int) := by omega
        have HI := Lib.hid hlt
        obtain ⟨b, hb⟩ : ∃ b, Q[i]? = some b := ⟨_, List.getElem?_eq_getElem (by rw [← HQN.out]; exact hlt)⟩
        obtain ⟨hwb, m, hm, hno⟩ := FS.out.at_ i b hb
        have hwa := FS.out.walk i (by rw [← HQN.out]; exact hi)
        have NDS := Lib.hid (nd_succ (s := fr) hb)
        have HT := Lib.hid (show Q.take (i + 1) = Q.take i ++ [b] by rw [List.take_add_one, hb]; rfl)
        obtain ⟨a, ha⟩ : ∃ a, a = nd fr Q i := ⟨_, rfl⟩
        rw [← ha] at hm hno hwa ⊢
        have han := HSL.out _ _ hwa
        have S5 := Lib.hid (QS.out a han wr (K4.out.no NS.out.kp))
        obtain ⟨hc0, hc1, hc2⟩ := LB.out wr (K4.out.no NS.out.kp)
        have HM := Lib.hid hm; have HNO := Lib.hid hno; have HWA := Lib.hid hwa; have HWB := Lib.hid hwb; have HAN := Lib.hid han
        have hwn : IntKind.i64.wrap ((qn : Int) - (i : Int) - 1) = (qn : Int) - (i : Int) - 1 := IntWalk.i64_in _ (by omega)
        clear hb hwb hm hno hwa ha han hlt hi
        go_wp2_with fail
        refine S5.out.mono ?_
        rintro e w5 ⟨vL, rfl, n5⟩
        obtain ⟨AL, qL, rfl⟩ := n5.own.rd.shape
        rw [ints_len] at n5 ⊢
        obtain ⟨nL, hnL⟩ : ∃ nL, nL = (st a).length := ⟨_, rfl⟩
        have hL4 : nL ≤ 4 := by rw [hnL]; exact SL.out a
        rw [← hnL] at n5 ⊢
        have hml : m < nL := by rw [hnL]; exact (List.getElem?_eq_some_iff.1 HM.out).1
        have HNL := Lib.hid hnL
        have NS5 := Lib.hid (NS.out.kpNo n5.kp)
        rcases n5.own.b with ⟨hv, _⟩ | ⟨gL, capL, hv, _, _, _⟩
        · simp only [Value.slice.injEq] at hv; omega
        simp only [Value.slice.injEq] at hv
        obtain ⟨rfl, hzz, rfl⟩ := hv
        clear hzz
        have OL := Lib.hid n5.own
        have K5 := Lib.hid (K4.out.no NS5.out.kp)
        clear n5 hnL hc0 hc1 hc2 S5
        have hwl : IntKind.i64.wrap ((nL : Int) - 1) = (nL : Int) - 1 := IntWalk.i64_in _ (by omega)
        have CL := Lib.hid (fun (j c : Nat) (wx : World) (hc : (st a)[j]? = some c) (hk : Kp No w5 wx) => show wx.cell? ⟨gL, j, none⟩ = some (.int .i64 (c : Int)) by have := (OL.out.kpNo hk).rd.intAt (ints_get hc); simpa using this)
        go_wp2_with fail
        go_loopg [14] (m + 1) (fun g_ jv wx => ∃ j : Nat, g_ = m + 1 - j ∧ jv = .int .i64 j ∧ j ≤ m ∧ Kp No w5 wx)
        case atStart => exact ⟨0, rfl, rfl, by omega, Kp.refl _ _⟩
        case round =>
          obtain ⟨j, hgj, rfl, hj, kj⟩ := hrel
          have KJ := Lib.hid kj
          clear kj
          obtain ⟨c, hc⟩ : ∃ c, (st a)[j]? = some c := ⟨_, List.getElem?_eq_getElem (by rw [← HNL.out]; omega)⟩
          have hcc := CL.out j c wr hc KJ.out
          have hjI : (j : Int) < (nL : Int) := by omega
          have hcn := HSZ.out _ _ HAN.out (List.mem_of_getElem? hc)
          obtain ⟨hc0, hc1, hc2⟩ := LB.out wr (K5.out.no KJ.out)
          have hwj : IntKind.i64.wrap ((j : Int) + 1) = (j : Int) + 1 := IntWalk.i64_in _ (by omega)
          obtain ⟨x, hx⟩ : ∃ x, x = farP f fr B c g := ⟨_, rfl⟩
          have FC := Lib.hid (FA.out wr.drew (K5.out.no KJ.out).drew c hcn x hx)
          obtain ⟨dd, hdd⟩ : ∃ dd, dd = qn - 1 - i := ⟨_, rfl⟩
          have hfi := FI.out a c i dd (by rw [← HD.out, HQN.out]) HWA.out (List.mem_of_getElem? hc) (by rw [← HQN.out]; have := HI.out; omega)
          by_cases hjm : j < m
          · have hjl : (j : Int) < (nL : Int) - 1 := by omega
            have HJM := Lib.hid hjm
            have hne : (x != (qn : Int) - (i : Int) - 1) = true := by
              have h1 := HNO.out j c hjm hc
              rw [← HQN.out, ← hdd] at h1
              have h2 : x ≠ (dd : Int) := by rw [hx]; exact fun e => h1 (hfi.1 e)
              have h3 := HI.out
              simp; omega
            clear hc hx hfi hcn hdd hjm
            go_wp2_with fail
            have r0 : wr.drew.cell? ⟨w.heap.size, 0, none⟩ = some (.slice A1 n q1) := hc0
            have r1 : wr.drew.cell? ⟨w.heap.size, 1, none⟩ = some (.slice A2 n q2) := hc1
            have r2 : wr.drew.cell? ⟨w.heap.size, 2, none⟩ = some (.slice A3 n q3) := hc2
            have r3 : wr.drew.cell? ⟨gL, j, none⟩ = some (.int .i64 (c : Int)) := hcc
            go_region_held3 (fun w' => w'.cell? ⟨w.heap.size, 0, none⟩ = some (.slice A1 n q1) ∧ w'.cell? ⟨w.heap.size, 1, none⟩ = some (.slice A2 n q2) ∧ w'.cell? ⟨w.heap.size, 2, none⟩ = some (.slice A3 n q3) ∧ w'.cell? ⟨gL, j, none⟩ = some (.int .i64 (c : Int)))
              (first | exact ⟨by assumption, by assumption, by assumption, by assumption⟩ | exact ⟨r0, r1, r2, r3⟩)
              (first
                | (go_at_call 47; refine FC.out.mono ?_; rintro e w6 ⟨rfl, k6⟩; have t0 := k6.cellS r0 (no_no _); have t1 := k6.cellS r1 (no_no _); have t2 := k6.cellS r2 (no_no _); have t3 := k6.cellS r3 (no_no _); have K6 := Lib.hid (KJ.out.no ((Kp.refl No wr).drew.no k6)); clear k6))
            clear r0 r1 r2 r3 t0 t1 t2 t3
            go_wp2_with fail
            go_roundg (m + 1 - (j + 1))
            case measure => omega
            case rel => exact ⟨j + 1, rfl, by go_num, by have := HJM.out; omega, K6.out.no ((Kp.refl No _).drewN 0)⟩
          · obtain rfl : j = m := by omega
            obtain rfl : b = c := by have := HM.out; rw [hc] at this; exact (Option.some.inj this).symm
            have HC := Lib.hid hc
            by_cases hml2 : (j : Int) < (nL : Int) - 1
            · have hne : (x != (qn : Int) - (i : Int) - 1) = false := by
                have h1 := HWB.out
                rw [← HQN.out, ← hdd] at h1
                have h2 : x = (dd : Int) := by rw [hx]; exact hfi.2 h1
                have h3 := HI.out
                simp; omega
              clear hc hx hfi hcn hdd hjm
              go_wp2_with fail
              have r0 : wr.drew.cell? ⟨w.heap.size, 0, none⟩ = some (.slice A1 n q1) := hc0
              have r1 : wr.drew.cell? ⟨w.heap.size, 1, none⟩ = some (.slice A2 n q2) := hc1
              have r2 : wr.drew.cell? ⟨w.heap.size, 2, none⟩ = some (.slice A3 n q3) := hc2
              have r3 : wr.drew.cell? ⟨gL, j, none⟩ = some (.int .i64 (b : Int)) := hcc
              go_region_held3 (fun w' => w'.cell? ⟨w.heap.size, 0, none⟩ = some (.slice A1 n q1) ∧ w'.cell? ⟨w.heap.size, 1, none⟩ = some (.slice A2 n q2) ∧ w'.cell? ⟨w.heap.size, 2, none⟩ = some (.slice A3 n q3) ∧ w'.cell? ⟨gL, j, none⟩ = some (.int .i64 (b : Int)))
                (first | exact ⟨by assumption, by assumption, by assumption, by assumption⟩ | exact ⟨r0, r1, r2, r3⟩)
                (first
                  | (go_at_call 47; refine FC.out.mono ?_; rintro e w6 ⟨rfl, k6⟩; have t0 := k6.cellS r0 (no_no _); have t1 := k6.cellS r1 (no_no _); have t2 := k6.cellS r2 (no_no _); have t3 := k6.cellS r3 (no_no _); have K6 := Lib.hid (KJ.out.no ((Kp.refl No wr).drew.no k6)); clear k6))
              clear r0 r1 r2 r3 t0 t1 t2
              go_wp2_with (at_builtin; refine wpl_snocI (m := i) rfl (.tmp 66) (.tmp 68) rfl rfl rfl rfl (NS5.out.kpNo (K6.out.no ((Kp.refl No _).drewN 0))) (by rw [List.length_take]; have := HQN.out; have := HI.out; omega) (by have := HI.out; omega) ?_; intro A8 q8 w8 n8 k8 _; have N8 := Lib.hid n8; clear n8 k8)
              go_roundg (qn + 1 - (i + 1))
              case measure => have := HI.out; omega
              case rel => exact ⟨i + 1, A8, q8, rfl, by have := HI.out; omega, by rw [NDS.out], rfl, by simp; omega, by rw [HT.out]; exact N8.out⟩
            · have hcc6 := hcc
              have hml3 : decide ((j : Int) < (nL : Int) - 1) = false := by simpa using hml2
              clear hc hx hfi hcn hdd hjm
              go_wp2_with fail
              go_quiet (fail)
              go_wp2_with (at_builtin; refine wpl_snocI (m := i) rfl (.tmp 66) (.tmp 68) rfl rfl rfl rfl (NS5.out.kpNo (KJ.out.no ((Kp.refl No _).drewN _))) (by rw [List.length_take]; have := HQN.out; have := HI.out; omega) (by have := HI.out; omega) ?_; intro A8 q8 w8 n8 k8 _; have N8 := Lib.hid n8; clear n8 k8)
              go_roundg (qn + 1 - (i + 1))
              case measure => have := HI.out; omega
              case rel => exact ⟨i + 1, A8, q8, rfl, by have := HI.out; omega, by rw [NDS.out], rfl, by simp; omega, by rw [HT.out]; exact N8.out⟩
      · obtain rfl : i = qn := by omega
        have hd0 : ¬ (0 : Int) < (i : Int) - (i : Int) := by omega
        have HE := Lib.hid (show Q.take i = Q by rw [HQN.out, List.take_length])
        clear hlt
        go_wp2_with fail
        go_ret2
        exact .inr ⟨by rw [HQN.out], A, q, by rw [← HQN.out]; rfl, by
          have := NS.out
          rw [HE.out] at this
          rw [← HQN.out]
          exact this.from_ (K1.out.no K4.out)⟩
end Go.Proofs.YthchoknhkhfdnaaDoor

namespace Go.Proofs.YthchoknhkhfdnaaDoor
set_option linter.unusedVariables false
set_option linter.unusedSimpArgs false
open Go.RowKit

theorem mpN_le (f : Flr) : mpN f ≤ 256 := by
  unfold mpN
  split
  · rename_i h; exact (rightB_iff.1 h).s256
  · omega
set_option maxRecDepth 100000 in
theorem q5Dist_any (f : Flr) (hsz : f.s.size ≤ 1000000) (fr : Int) {bv : Value} {B : List Int} {w : World} (hB : Rd IK w bv B) :
    Calls Tryd.prog 15 #[f.val, .int .i64 fr, bv] w fun e w' => ∃ v, e = .returned v ∧ NewS IK 3 w w' v (distP f fr B) := by
  have HBX := Lib.hid (BxW.new f w)
  have HO := Lib.hid (q5Of_any f hsz (w.alloc (.cells #[.int .i64 f.W, .int .i64 f.H, .string f.s] 23)))
  have HN := Lib.hid (mpN_le f)
  have HB := Lib.hid (hB.kpNo HBX.out.kp)
  obtain ⟨F, hF⟩ : ∃ F, F = f := ⟨_, rfl⟩
  have HF := Lib.hid hF
  rw [show distP f fr B = distP F fr B by rw [hF]]
  obtain ⟨X, Y, s⟩ := f
  unfold Flr.val at HO ⊢
  clear hsz hB hF
  go_enter Tryd.func15, Tryd.ntmps15
  go_wp2_with fail
  refine HO.out.mono ?_
  rintro e w1 ⟨A1, q1, A2, q2, A3, q3, Vs, rfl, mw, kp1⟩
  have K1 := Lib.hid (HBX.out.kp.no kp1)
  have QD := Lib.hid (q5MDist_any mw (by have := HN.out; omega) fr (HB.out.kpNo kp1))
  rw [show distP ⟨X, Y, s⟩ fr B = distP F fr B by rw [HF.out]] at QD
  unfold MpC.val at QD
  simp only at QD
  clear mw kp1
  go_wp2_with fail
  refine QD.out.mono ?_
  rintro e w2 ⟨v, rfl, ns⟩
  have NS := Lib.hid (ns.from_ K1.out)
  clear ns
  go_wp2_with fail
  go_ret
  exact ⟨_, rfl, NS.out⟩
set_option maxRecDepth 100000 in
theorem q5Find_arg (f : Flr) (hsz : f.s.size ≤ 1000000) (fr g : Int) {bv : Value} {w : World} (hx : ptOk f fr = false ∨ ptOk f g = false) :
    Calls Tryd.prog 17 #[f.val, .int .i64 fr, .int .i64 g, bv] w fun e w' => e = .returned (.tuple #[.slice none 0 0, .int .i64 1]) ∧ Kp No w w' := by
  have HBX := Lib.hid (BxW.new f w)
  have HO := Lib.hid (q5Of_any f hsz (w.alloc (.cells #[.int .i64 f.W, .int .i64 f.H, .string f.s] 23)))
  have HN := Lib.hid (mpN_le f)
  have HX := Lib.hid hx
  obtain ⟨X, Y, s⟩ := f
  unfold Flr.val at HO ⊢
  clear hsz hx
  go_enter Tryd.func17, Tryd.ntmps17
  go_wp2_with fail
  refine HO.out.mono ?_
  rintro e w1 ⟨A1, q1, A2, q2, A3, q3, Vs, rfl, mw, kp1⟩
  have K1 := Lib.hid (HBX.out.kp.no kp1)
  have QD := Lib.hid (q5MFind_arg (bv := bv) mw (by have := HN.out; omega) fr g HX.out)
  unfold MpC.val at QD
  simp only at QD
  clear mw kp1
  go_wp2_with fail
  refine QD.out.mono ?_
  rintro e w2 ⟨rfl, kp2⟩
  have K2 := Lib.hid (K1.out.no kp2)
  clear kp2
  go_wp2_with fail
  go_ret2
  exact ⟨rfl, K2.out⟩
set_option maxRecDepth 100000 in
theorem q5Find_any (f : Flr) (hsz : f.s.size ≤ 1000000) (fr g : Nat) (hok : ptOk f fr = true) (hog : ptOk f g = true) {bv : Value} {B : List Int} {w : World} (hB : Rd IK w bv B) (d : Int) (hd : d = dst (stepsP f fr B) fr g) (Q : List Nat) (hQ : d < 0 ∨ FstW (stepsP f fr B) fr g Q ∧ d = Q.length) :
    Calls Tryd.prog 17 #[f.val, .int .i64 (fr : Int), .int .i64 (g : Int), bv] w fun e w' => (d < 0 ∧ e = .returned (.tuple #[.slice none 0 0, .int .i64 2]) ∧ Kp No w w') ∨ ∃ A q, d = (List.length Q : Int) ∧ e = .returned (.tuple #[.slice A Q.length q, .int .i64 0]) ∧ NewS IK 3 w w' (.slice A Q.length q) (ints Q) := by
  have HBX := Lib.hid (BxW.new f w)
  have HO := Lib.hid (q5Of_any f hsz (w.alloc (.cells #[.int .i64 f.W, .int .i64 f.H, .string f.s] 23)))
  have HN := Lib.hid (mpN_le f)
  have HB := Lib.hid (hB.kpNo HBX.out.kp)
  have H1 := Lib.hid hok; have H2 := Lib.hid hog; have H3 := Lib.hid hd; have H4 := Lib.hid hQ
  obtain ⟨X, Y, s⟩ := f
  unfold Flr.val at HO ⊢
  clear hsz hok hog hB hd hQ
  go_enter Tryd.func17, Tryd.ntmps17
  go_wp2_with fail
  refine HO.out.mono ?_
  rintro e w1 ⟨A1, q1, A2, q2, A3, q3, Vs, rfl, mw, kp1⟩
  have K1 := Lib.hid (HBX.out.kp.no kp1)
  have QD := Lib.hid (q5MFind_any mw (by have := HN.out; omega) fr g H1.out H2.out (HB.out.kpNo kp1) d H3.out Q H4.out)
  unfold MpC.val at QD
  simp only at QD
  clear mw kp1
  go_wp2_with fail
  refine QD.out.mono ?_
  rintro e w2 (⟨h0, rfl, kp2⟩ | ⟨A, q, hdl, rfl, ns⟩)
  · have K2 := Lib.hid (K1.out.no kp2)
    have H0 := Lib.hid h0
    clear kp2 h0
    go_wp2_with fail
    go_ret2
    exact .inl ⟨H0.out, rfl, K2.out⟩
  · have NS := Lib.hid (ns.from_ K1.out)
    have HDL := Lib.hid hdl
    clear ns hdl
    go_wp2_with fail
    go_ret2
    exact .inr ⟨A, q, HDL.out, rfl, NS.out⟩
end Go.Proofs.YthchoknhkhfdnaaDoor

namespace Go.Proofs.YthchoknhkhfdnaaDoor
set_option linter.unusedVariables false
set_option linter.unusedSimpArgs false
open Go.RowKit

/-- Are cells a way? -/
def wayB (st : Nat → List Nat) : Nat → List Int → Bool
  | _, [] => true
  | a, c :: cs => decide (c ∈ ints (st a)) && wayB st c.toNat cs
/-- The cell behind the first k. -/
def wayAt (a : Nat) (way : List Int) (k : Nat) : Nat := match k with
  | 0 => a
  | k + 1 => (way.getD k 0).toNat
theorem wayB_at (st : Nat → List Nat) : ∀ (way : List Int) (a : Nat), wayB st a way = true ↔ ∀ (k : Nat) c, way[k]? = some c → c ∈ ints (st (wayAt a way k)) := by
  intro way
  induction way with
  | nil => intro a; simp [wayB]
  | cons c cs ih =>
    intro a
    unfold wayB
    rw [Bool.and_eq_true, decide_eq_true_eq, ih]
    constructor
    · rintro ⟨h1, h2⟩ k d hd
      cases k with
      | zero => simp at hd; subst hd; exact h1
      | succ k =>
        have := h2 k d (by simpa using hd)
        cases k with
        | zero => exact this
        | succ k => simpa [wayAt] using this
    · intro h
      refine ⟨h 0 c rfl, fun k d hd => ?_⟩
      have := h (k + 1) d (by simpa using hd)
      cases k with
      | zero => exact this
      | succ k => simpa [wayAt] using this
noncomputable def isP (f : Flr) (fr : Int) (way B : List Int) : Bool := if ptOk f fr = true then wayB (stepsP f fr.toNat B) fr.toNat way else false

set_option maxHeartbeats 1000000 in
set_option maxRecDepth 100000 in
theorem ptIs_any (f : Flr) (hsz : f.s.size ≤ 1000000) (fr : Int) {wv bv : Value} {way B : List Int} {w : World} (hW : Rd IK w wv way) (hB : Rd IK w bv B) (b : Bool) (hb : isP f fr way B = b) :
    Calls Tryd.prog 20 #[f.val, .int .i64 fr, wv, bv] w fun e w' => e = .returned (.bool b) ∧ Kp No w w' := by
  have HBX := Lib.hid (BxW.new f w)
  cases hok : ptOk f fr with
  | false =>
    have HO := Lib.hid (ptof_no f hsz fr bv hok)
    have HD := Lib.hid (show b = false by rw [← hb]; unfold isP; rw [hok]; simp)
    obtain ⟨X, Y, s⟩ := f
    unfold Flr.val at HO ⊢
    clear hok hsz hB hb hW
    go_enter Tryd.func20, Tryd.ntmps20
    go_wp2_with (go_at_call 23; refine (HO.out _).mono ?_; rintro e w1 ⟨rfl, kp1⟩; have K1 := Lib.hid kp1; clear kp1)
    go_ret
    exact ⟨by rw [HD.out]; rfl, HBX.out.kp.no K1.out⟩
  | true =>
    obtain ⟨k, rfl, hk, hr⟩ := ptOk_nat hok
    have HO := Lib.hid (ptof_ok f hsz k (w := w.alloc (.cells #[.int .i64 f.W, .int .i64 f.H, .string f.s] 23)) (hB.alloc _) hok)
    have HD := Lib.hid (show b = wayB (stepsP f k B) k way by rw [← hb]; unfold isP; rw [hok]; simp)
    have HK := Lib.hid hk; have HR := Lib.hid hr
    obtain ⟨F, hF⟩ : ∃ F, F = f := ⟨_, rfl⟩
    have HF := Lib.hid hF
    rw [← hF] at HD HK HR
    have hlW := hW.lenI
    obtain ⟨AW, cW, rfl⟩ := hW.shape
    obtain ⟨n, hn⟩ : ∃ n, n = way.length := ⟨_, rfl⟩
    rw [← hn] at hW hlW ⊢
    unfold maxLen at hlW
    have HW := Lib.hid hW; have HN := Lib.hid hn
    obtain ⟨X, Y, s⟩ := f
    unfold Flr.val at HO ⊢
    clear hok hsz hB hk hr hF hb hW hn
    go_enter Tryd.func20, Tryd.ntmps20
    go_wp2_with fail
    refine HO.out.mono ?_
    rintro e w1 ⟨p, g1, g2, g3, Vs, rfl, pl, kp1⟩
    have PL := Lib.hid (show PlW F k (blkB F.s.size B) p g1 g2 g3 Vs w1 by rw [HF.out]; exact pl)
    have K1 := Lib.hid (HBX.out.kp.no kp1)
    clear pl kp1
    go_wp2_with fail
    go_loopg [11, 26] (n + 1) (fun g_ av iv wx => ∃ i : Nat, g_ = n + 1 - i ∧ iv = .int .i64 i ∧ i ≤ n ∧ av = .int .i64 (wayAt k way i : Nat) ∧ (∀ (j : Nat) c, j < i → way[j]? = some c → c ∈ ints (stepsP F k B (wayAt k way j))) ∧ wayAt k way i < F.s.size ∧ Kp No w1 wx)
    case atStart => exact ⟨0, rfl, rfl, by omega, rfl, fun j c hj => by omega, HK.out, Kp.refl _ _⟩
    case round =>
      obtain ⟨i, hg, rfl, hi, rfl, hall, hat, kp⟩ := hrel
      have ALL := Lib.hid hall; have KP := Lib.hid kp; have AT := Lib.hid hat
      obtain ⟨a, ha⟩ : ∃ a, a = wayAt k way i := ⟨_, rfl⟩
      rw [← ha] at AT ⊢
      have HA := Lib.hid ha
      clear hall kp hat ha
      by_cases hlt : i < n
      · have hltI : (i : Int) < (n : Int) := by omega
        have hwi : IntKind.i64.wrap ((i : Int) + 1) = (i : Int) + 1 := IntWalk.i64_in _ (by omega)
        obtain ⟨y, hy⟩ : ∃ y, way[i]? = some y := ⟨_, List.getElem?_eq_getElem (by rw [← HN.out]; exact hlt)⟩
        rcases HW.out with ⟨_, he⟩ | ⟨g, o, cap', hv, _⟩
        · have := HN.out; rw [he, List.length_nil] at this; omega
        simp only [Value.slice.injEq] at hv
        obtain ⟨rfl, hzz, rfl⟩ := hv
        clear hzz
        have hc := (HW.out.kpNo (K1.out.no KP.out)).intAt hy
        have SP := Lib.hid (ptsteps_any HR.out (PL.out.no KP.out) a AT.out)
        obtain ⟨t, ht⟩ : ∃ t, t = decide (y ∈ ints (stepsP F k B a)) := ⟨_, rfl⟩
        have HT := Lib.hid ht
        have HY := Lib.hid hy
        clear hy hlt ht
        go_wp2_with fail
        refine SP.out.mono ?_
        rintro e w2 ⟨v, rfl, ns⟩
        have CO := Lib.hid (conI_any ns.own.rd y t HT.out)
        have K2 := Lib.hid (KP.out.no ns.kp)
        clear ns hc
        go_wp2_with fail
        refine CO.out.mono ?_
        rintro e w3 ⟨rfl, kp3⟩
        have K3 := Lib.hid (K2.out.no kp3)
        clear kp3
        cases t with
        | false =>
          have HE := Lib.hid (show b = false by
            rw [HD.out]
            cases hw : wayB (stepsP F k B) k way with
            | false => rfl
            | true =>
              have h2 := HT.out
              have := (wayB_at _ _ _).1 hw i y HY.out
              rw [← HA.out] at this
              simp [this] at h2)
          go_wp2_with fail
          go_ret
          exact ⟨by rw [HE.out]; rfl, K1.out.no K3.out⟩
        | true =>
          have hm : y ∈ ints (stepsP F k B a) := by have := HT.out; simpa using this.symm
          obtain ⟨c, hcm, rfl⟩ : ∃ c : Nat, c ∈ stepsP F k B a ∧ (c : Int) = y := by
            unfold ints at hm; rw [List.mem_map] at hm; exact hm
          have hcs := steps_sz HR.out AT.out hcm
          have HA2 := Lib.hid (show wayAt k way (i + 1) = c by
            show (way.getD i 0).toNat = c
            rw [List.getD_eq_getElem?_getD, HY.out]; simp)
          have ALL2 := Lib.hid (show ∀ (j : Nat) d, j < i + 1 → way[j]? = some d → d ∈ ints (stepsP F k B (wayAt k way j)) from fun j d hj hd => by
            rcases Nat.lt_or_ge j i with h | h
            · exact ALL.out j d h hd
            · obtain rfl : j = i := by omega
              rw [HY.out] at hd; cases hd
              rw [← HA.out]; exact hm)
          have HCS := Lib.hid hcs
          clear hm hcm hcs
          go_wp2_with fail
          go_roundg (n + 1 - (i + 1))
          case measure => omega
          case rel => exact ⟨i + 1, rfl, by go_num, by omega, by rw [HA2.out], ALL2.out, by rw [HA2.out]; exact HCS.out, K3.out⟩
      · obtain rfl : i = n := by omega
        have hd0 : ¬ (i : Int) < (i : Int) := by omega
        have HE := Lib.hid (show b = true by
          rw [HD.out, wayB_at]
          intro j c hc
          exact ALL.out j c (by rw [HN.out]; exact (List.getElem?_eq_some_iff.1 hc).1) hc)
        clear hlt
        go_wp2_with fail
        go_ret
        exact ⟨by rw [HE.out]; rfl, K1.out.no KP.out⟩
end Go.Proofs.YthchoknhkhfdnaaDoor

namespace Go.Proofs.YthchoknhkhfdnaaDoor
set_option linter.unusedVariables false
set_option linter.unusedSimpArgs false
open Go.RowKit

set_option maxHeartbeats 1000000 in
set_option maxRecDepth 100000 in
theorem q5Is_any (f : Flr) (hsz : f.s.size ≤ 1000000) (fr : Int) {wv bv : Value} {way B : List Int} {w : World} (hW : Rd IK w wv way) (hB : Rd IK w bv B) (b : Bool) (hb : isP f fr way B = b) :
    Calls Tryd.prog 21 #[f.val, .int .i64 fr, wv, bv] w fun e w' => e = .returned (.bool b) ∧ Kp No w w' := by
  have HBX := Lib.hid (BxW.new f w)
  have HO := Lib.hid (q5Of_any f hsz (w.alloc (.cells #[.int .i64 f.W, .int .i64 f.H, .string f.s] 23)))
  have HN := Lib.hid (mpN_le f)
  have HB := Lib.hid (hB.kpNo HBX.out.kp)
  have hlW := hW.lenI
  obtain ⟨AW, cW, rfl⟩ := hW.shape
  obtain ⟨nW, hnW⟩ : ∃ n, n = way.length := ⟨_, rfl⟩
  rw [← hnW] at hW hlW ⊢
  unfold maxLen at hlW
  have HNW := Lib.hid hnW
  have HW := Lib.hid (hW.kpNo HBX.out.kp)
  obtain ⟨F, hF⟩ : ∃ F, F = f := ⟨_, rfl⟩
  have HF := Lib.hid hF
  rw [← hF] at hb
  have HBE := Lib.hid hb
  obtain ⟨X, Y, s⟩ := f
  unfold Flr.val at HO ⊢
  clear hsz hB hF hW hnW hb
  go_enter Tryd.func21, Tryd.ntmps21
  go_wp2_with fail
  refine HO.out.mono ?_
  rw [← HF.out]
  rintro e w1 ⟨A1, q1, A2, q2, A3, q3, Vs, rfl, mw, kp1⟩
  obtain ⟨n, hn⟩ : ∃ n, n = mpN F := ⟨_, rfl⟩
  rw [← hn] at mw ⊢
  have hn256 : n ≤ 256 := by rw [hn, HF.out]; exact HN.out
  have HNN := Lib.hid hn
  obtain ⟨w2, hw2⟩ : ∃ w2, w2 = w1.alloc (.cells #[.slice A1 n q1, .slice A2 n q2, .slice A3 n q3] 51) := ⟨_, rfl⟩
  have K2 := Lib.hid (show Kp No w w2 by rw [hw2]; exact (HBX.out.kp.no kp1).alloc _)
  have BX := Lib.hid (show w2.heap[w1.heap.size]? = some (.cells #[.slice A1 n q1, .slice A2 n q2, .slice A3 n q3] 51 (0, 0)) by rw [hw2]; exact boxM w1 _ _ _)
  have MW := Lib.hid (show MpW F n ⟨A1, q1, A2, q2, A3, q3⟩ Vs w2 by rw [hw2]; exact mw.no ((Kp.refl _ _).alloc _))
  have W2 := Lib.hid (show Rd IK w2 (.slice AW nW cW) way by rw [hw2]; exact (HW.out.kpNo kp1).alloc _)
  have B2 := Lib.hid (show Rd IK w2 bv B by rw [hw2]; exact (HB.out.kpNo kp1).alloc _)
  have HW2 := Lib.hid hw2
  have lb : ∀ wx, Kp No w2 wx → wx.cell? ⟨w1.heap.size, 0, none⟩ = some (.slice A1 n q1) ∧ wx.cell? ⟨w1.heap.size, 1, none⟩ = some (.slice A2 n q2) ∧ wx.cell? ⟨w1.heap.size, 2, none⟩ = some (.slice A3 n q3) := fun wx hk => by
    have := hk.blk BX.out (no_no _)
    exact ⟨blk_cell this 0, blk_cell this 1, blk_cell this 2⟩
  have LB := Lib.hid lb
  obtain ⟨ok, hok⟩ : ∃ b, ptOk F fr = b := ⟨_, rfl⟩
  have QO := Lib.hid (q5open_any MW.out (by omega) fr ok hok)
  have HOK := Lib.hid hok
  obtain ⟨hc0, hc1, hc2⟩ := lb w2 (Kp.refl _ _)
  unfold MpC.val at QO
  simp only at QO
  clear mw kp1 lb hok hw2 hn
  go_upto_region 2 with fail
  rw [← HW2.out]
  go_wp2_with fail
  refine QO.out.mono ?_
  rintro e w3 ⟨rfl, k3⟩
  have K3 := Lib.hid k3
  clear k3 hc0 hc1 hc2 QO
  cases ok with
  | false =>
    have HE := Lib.hid (show b = false by rw [← HBE.out]; unfold isP; rw [HOK.out]; simp)
    go_wp2_with fail
    go_ret
    exact ⟨by rw [HE.out]; rfl, K2.out.no K3.out⟩
  | true =>
    obtain ⟨k, rfl, hk, hr⟩ := ptOk_nat HOK.out
    have hnf : n = F.s.size := by rw [HNN.out]; unfold mpN; rw [if_pos (rightB_iff.2 hr)]
    have HD := Lib.hid (show b = wayB (stepsP F k B) k way by rw [← HBE.out]; unfold isP; rw [HOK.out]; simp)
    have HR := Lib.hid hr
    have HKN := Lib.hid (show k < n by omega)
    have HNF := Lib.hid hnf
    have QS := Lib.hid (fun u (hu : u < n) wx (hk : Kp No w2 wx) => show Calls Tryd.prog 35 #[.agg #[.slice A1 n q1, .slice A2 n q2, .slice A3 n q3], .int .i64 (u : Int), .int .i64 (k : Int), bv] wx fun e w' => ∃ v, e = .returned v ∧ NewS IK 3 wx w' v (ints (stepsP F k B u)) from
      q5Steps_any (MW.out.no hk) (by omega) u k hu (B2.out.kpNo hk))
    clear hk hr hnf
    go_wp2_with fail
    go_loopg [10, 11] (nW + 1) (fun g_ av iv wx => ∃ i : Nat, g_ = nW + 1 - i ∧ iv = .int .i64 i ∧ i ≤ nW ∧ av = .int .i64 (wayAt k way i : Nat) ∧ (∀ (j : Nat) c, j < i → way[j]? = some c → c ∈ ints (stepsP F k B (wayAt k way j))) ∧ wayAt k way i < n ∧ Kp No w2 wx)
    case atStart => exact ⟨0, rfl, rfl, by omega, rfl, fun j c hj => by omega, HKN.out, K3.out⟩
    case round =>
      obtain ⟨i, hg, rfl, hi, rfl, hall, hat, kp⟩ := hrel
      have ALL := Lib.hid hall; have KP := Lib.hid kp; have AT := Lib.hid hat
      obtain ⟨a, ha⟩ : ∃ a, a = wayAt k way i := ⟨_, rfl⟩
      rw [← ha] at AT ⊢
      have HA := Lib.hid ha
      clear hall kp hat ha
      by_cases hlt : i < nW
      · have hltI : (i : Int) < (nW : Int) := by omega
        have hwi : IntKind.i64.wrap ((i : Int) + 1) = (i : Int) + 1 := IntWalk.i64_in _ (by omega)
        obtain ⟨y, hy⟩ : ∃ y, way[i]? = some y := ⟨_, List.getElem?_eq_getElem (by rw [← HNW.out]; exact hlt)⟩
        rcases W2.out with ⟨_, he⟩ | ⟨g, o, cap', hv, _⟩
        · have := HNW.out; rw [he, List.length_nil] at this; omega
        simp only [Value.slice.injEq] at hv
        obtain ⟨rfl, hzz, rfl⟩ := hv
        clear hzz
        have hc := (W2.out.kpNo KP.out).intAt hy
        have SP := Lib.hid (QS.out a AT.out wr.drew KP.out.drew)
        obtain ⟨t, ht⟩ : ∃ t, t = decide (y ∈ ints (stepsP F k B a)) := ⟨_, rfl⟩
        have HT := Lib.hid ht
        have HY := Lib.hid hy
        obtain ⟨hc0, hc1, hc2⟩ := LB.out wr KP.out
        have r0 : wr.drew.cell? ⟨w1.heap.size, 0, none⟩ = some (.slice A1 n q1) := hc0
        have r1 : wr.drew.cell? ⟨w1.heap.size, 1, none⟩ = some (.slice A2 n q2) := hc1
        have r2 : wr.drew.cell? ⟨w1.heap.size, 2, none⟩ = some (.slice A3 n q3) := hc2
        have r3 : wr.drew.cell? ⟨g, o + i, none⟩ = some (.int .i64 y) := hc
        clear hy hlt ht
        go_wp2_with fail
        go_region_held3 (fun w' => w'.cell? ⟨w1.heap.size, 0, none⟩ = some (.slice A1 n q1) ∧ w'.cell? ⟨w1.heap.size, 1, none⟩ = some (.slice A2 n q2) ∧ w'.cell? ⟨w1.heap.size, 2, none⟩ = some (.slice A3 n q3) ∧ w'.cell? ⟨g, o + i, none⟩ = some (.int .i64 y))
          (first | exact ⟨by assumption, by assumption, by assumption, by assumption⟩ | exact ⟨r0, r1, r2, r3⟩)
          (first
            | (go_at_call 35; refine SP.out.mono ?_; rintro e w6 ⟨v6, rfl, n6⟩; have t0 := n6.kp.cellS r0 (no_no _); have t1 := n6.kp.cellS r1 (no_no _); have t2 := n6.kp.cellS r2 (no_no _); have t3 := n6.kp.cellS r3 (no_no _); have QI := Lib.hid (q5in_any n6.own.rd y t HT.out); have K6 := Lib.hid (KP.out.no ((Kp.refl No wr).drew.no n6.kp)); clear n6)
            | (go_at_call 34; refine QI.out.mono ?_; rintro e w7 ⟨rfl, k7⟩; have s0 := k7.cellS t0 (no_no _); have s1 := k7.cellS t1 (no_no _); have s2 := k7.cellS t2 (no_no _); have s3 := k7.cellS t3 (no_no _); have K7 := Lib.hid (K6.out.no k7); clear k7))
        clear r0 r1 r2 r3 t0 t1 t2 hc0 hc1 hc2 hc t3
        cases t with
        | false =>
          have HE := Lib.hid (show b = false by
            rw [HD.out]
            cases hw : wayB (stepsP F k B) k way with
            | false => rfl
            | true =>
              have h2 := HT.out
              have := (wayB_at _ _ _).1 hw i y HY.out
              rw [← HA.out] at this
              simp [this] at h2)
          go_wp2_with fail
          go_ret
          exact ⟨by rw [HE.out]; rfl, K2.out.no (K7.out.no ((Kp.refl No _).drewN 0))⟩
        | true =>
          have hm : y ∈ ints (stepsP F k B a) := by have := HT.out; simpa using this.symm
          obtain ⟨c, hcm, rfl⟩ : ∃ c : Nat, c ∈ stepsP F k B a ∧ (c : Int) = y := by
            unfold ints at hm; rw [List.mem_map] at hm; exact hm
          have hcs := steps_sz HR.out (show a < F.s.size by rw [← HNF.out]; exact AT.out) hcm
          rw [← HNF.out] at hcs
          have HA2 := Lib.hid (show wayAt k way (i + 1) = c by
            show (way.getD i 0).toNat = c
            rw [List.getD_eq_getElem?_getD, HY.out]; simp)
          have ALL2 := Lib.hid (show ∀ (j : Nat) d, j < i + 1 → way[j]? = some d → d ∈ ints (stepsP F k B (wayAt k way j)) from fun j d hj hd => by
            rcases Nat.lt_or_ge j i with h | h
            · exact ALL.out j d h hd
            · obtain rfl : j = i := by omega
              rw [HY.out] at hd; cases hd
              rw [← HA.out]; exact hm)
          have HCS := Lib.hid hcs
          clear hm hcm hcs
          go_wp2_with fail
          go_roundg (nW + 1 - (i + 1))
          case measure => omega
          case rel => exact ⟨i + 1, rfl, by go_num, by omega, by rw [HA2.out], ALL2.out, by rw [HA2.out]; exact HCS.out, K7.out.no ((Kp.refl No _).drewN 0)⟩
      · obtain rfl : i = nW := by omega
        have hd0 : ¬ (i : Int) < (i : Int) := by omega
        have HE := Lib.hid (show b = true by
          rw [HD.out, wayB_at]
          intro j c hc
          exact ALL.out j c (by rw [HNW.out]; exact (List.getElem?_eq_some_iff.1 hc).1) hc)
        clear hlt
        go_wp2_with fail
        go_ret
        exact ⟨by rw [HE.out]; rfl, K2.out.no KP.out⟩
end Go.Proofs.YthchoknhkhfdnaaDoor

namespace Go.Proofs.YthchoknhkhfdnaaDoor
set_option linter.unusedVariables false
set_option linter.unusedSimpArgs false
open Go.RowKit

theorem find_of {B : List Int} {g : Nat} {R : List Nat} (hg : opB fS g = true) (hd : dst (stepsP fS 0 B) 0 g = (R.length : Int)) (hf : FstW (stepsP fS 0 B) 0 g R) {w : World} {bv : Value} (hB : Rd IK w bv B) :
    Calls Tryd.prog 16 #[fS.val, .int .i64 0, .int .i64 (g : Int), bv] w fun e w' => ∃ A q, e = .returned (.tuple #[.slice A R.length q, .int .i64 0]) ∧ NewS IK 3 w w' (.slice A R.length q) (ints R) := by
  refine (ptFind_any fS (by decide) 0 g hB ok_S hg).mono ?_
  rintro e w' (⟨h, _⟩ | ⟨Q, A, q, h1, h2, rfl, h4⟩)
  · omega
  · have hl : Q.length = R.length := by omega
    obtain rfl := h2.uniq hf hl
    exact ⟨A, q, rfl, h4⟩
theorem len_S : fS.s.size = 15 := by decide
set_option maxHeartbeats 1000000 in
set_option maxRecDepth 100000 in
theorem shown05_any (w : World) : Calls Tryd.prog 10 #[] w fun e w' => e = .returned (.bool true) ∧ Kp No w w' := by
  have hpS := Lib.hid (parse_at _ (by decide) _ parse_S (.tuple #[.agg #[.int .i64 5, .int .i64 3, .string fS.s], .int .i64 0, .int .i64 0]) rfl)
  have FA := Lib.hid (fun w => find_of op_S ds_a fw_a (Rd.nil IK w))
  have FB := Lib.hid (fun w => find_of op_S ds_b fw_b (w := w.alloc (.cells #[.int .i64 2] 3)) (Rd.litAt IK 3 w _ [2] rfl (by unfold maxLen; simp) _ _ rfl rfl))
  have DA := Lib.hid (fun w => ptDist_any fS (by decide) 0 (Rd.nil IK w))
  have HD := Lib.hid (show distP fS 0 [] = distL (stepsP fS 0 []) 0 15 by unfold distP; rw [ok_S]; rfl)
  unfold Flr.val at FA FB DA
  simp only [fS] at hpS
  obtain ⟨S, hS⟩ : ∃ S, S = fS.s := ⟨_, rfl⟩
  have e1 : fS.W = 5 := rfl
  have e2 : fS.H = 3 := rfl
  rw [e1, e2, ← hS] at FA FB DA
  rw [show (⟨#[48, 97, 97, 98, 49, 35, 99, 35, 100, 35, 50, 101, 101, 102, 102]⟩ : ByteArray) = S from hS.symm] at hpS
  have L4 : ([1, 2, 3, 4] : List Nat).length = 4 := rfl
  have L8 : ([1, 6, 11, 12, 13, 8, 3, 4] : List Nat).length = 8 := rfl
  rw [L4] at FA
  rw [L8] at FB
  clear hS
  go_enter Tryd.func10, Tryd.ntmps10
  go_wp2_with fail
  refine (hpS.out _).mono ?_
  rintro e w1 ⟨rfl, k1⟩
  have K1 := Lib.hid (k1.alloc (.cells #[.int .i64 5, .int .i64 3, .string S] 23))
  obtain ⟨b1, hb1⟩ : ∃ b1, b1 = w1.heap.size := ⟨_, rfl⟩
  obtain ⟨w2, hw2⟩ : ∃ w2, w2 = w1.alloc (.cells #[.int .i64 5, .int .i64 3, .string S] 23) := ⟨_, rfl⟩
  have BX := Lib.hid (show w2.heap[b1]? = some (.cells #[.int .i64 5, .int .i64 3, .string S] 23 (0, 0)) by rw [hw2, hb1]; exact blk_new w1 _)
  rw [← hw2] at K1
  have HW2 := Lib.hid hw2; have HB1 := Lib.hid hb1
  clear k1 hw2 hb1
  have lb : ∀ wx, Kp No w2 wx → wx.cell? ⟨b1, 0, none⟩ = some (.int .i64 5) ∧ wx.cell? ⟨b1, 1, none⟩ = some (.int .i64 3) ∧ wx.cell? ⟨b1, 2, none⟩ = some (.string S) := fun wx hk => by
    have := hk.blk BX.out (no_no _)
    exact ⟨blk_cell this 0, blk_cell this 1, blk_cell this 2⟩
  have LB := Lib.hid lb
  clear lb
  go_upto_region 2 with fail
  rw [← HW2.out, ← HB1.out]
  obtain ⟨hc0, hc1, hc2⟩ := LB.out w2 (Kp.refl _ _)
  go_wp2_with fail
  refine (FA.out _).mono ?_
  rintro e w3 ⟨A3, q3, rfl, n3⟩
  have N3 := Lib.hid n3
  clear n3 hc0 hc1 hc2
  obtain ⟨hc0, hc1, hc2⟩ := LB.out w3 N3.out.kp
  have hc := fun o => LB.out (w3.alloc o) (N3.out.kp.alloc o)
  go_wp2_with fail
  refine (FB.out _).mono ?_
  rintro e w4 ⟨A4, q4, rfl, n4⟩
  have N4 := Lib.hid n4
  have K4 := Lib.hid ((N3.out.kp.alloc _).no n4.kp)
  have N3' := Lib.hid ((N3.out.alloc (.cells #[.int .i64 2] 3)).kpNo n4.kp)
  clear n4 hc0 hc1 hc2 hc
  obtain ⟨hc0, hc1, hc2⟩ := LB.out w4 K4.out
  go_wp2_with fail
  refine (DA.out _).mono ?_
  rintro e w5 ⟨v5, rfl, n5⟩
  rw [HD.out] at n5
  obtain ⟨A5, q5, rfl⟩ := n5.own.rd.shape
  rw [distL_len] at n5 ⊢
  have K5 := Lib.hid (K1.out.no (K4.out.no n5.kp))
  have R3 := Lib.hid ((N3'.out.kpNo n5.kp).own.rd)
  have R4 := Lib.hid ((N4.out.kpNo n5.kp).own.rd)
  have R5 := Lib.hid n5.own.rd
  obtain ⟨g5, o5, rfl⟩ := n5.own.rd.some_ (by omega)
  clear n5 hc0 hc1 hc2
  go_wp2_with fail
  have l4 := Lib.hid (show Rd IK (w5.alloc (.cells #[.int .i64 1, .int .i64 2, .int .i64 3, .int .i64 4] 3)) (.slice (some ⟨w5.heap.size, 0, none⟩) 4 4) [1, 2, 3, 4] from Rd.litAt IK 3 w5 _ [1, 2, 3, 4] rfl (by unfold maxLen; simp) _ _ rfl rfl)
  refine (sameInts_any (R3.out.alloc _) l4.out true (by decide)).mono ?_
  rintro e w6 ⟨rfl, k6⟩
  have K6 := Lib.hid (K5.out.no (((Kp.refl No _).alloc _).no k6))
  have R46 := Lib.hid ((R4.out.alloc (.cells #[.int .i64 1, .int .i64 2, .int .i64 3, .int .i64 4] 3)).kpNo k6)
  have R56 := Lib.hid ((R5.out.alloc (.cells #[.int .i64 1, .int .i64 2, .int .i64 3, .int .i64 4] 3)).kpNo k6)
  clear k6
  go_wp2_with fail
  have l8 := Lib.hid (show Rd IK (w6.alloc (.cells #[.int .i64 1, .int .i64 6, .int .i64 11, .int .i64 12, .int .i64 13, .int .i64 8, .int .i64 3, .int .i64 4] 3)) (.slice (some ⟨w6.heap.size, 0, none⟩) 8 8) [1, 6, 11, 12, 13, 8, 3, 4] from Rd.litAt IK 3 w6 _ [1, 6, 11, 12, 13, 8, 3, 4] rfl (by unfold maxLen; simp) _ _ rfl rfl)
  refine (sameInts_any (R46.out.alloc _) l8.out true (by decide)).mono ?_
  rintro e w7 ⟨rfl, k7⟩
  have K7 := Lib.hid (K6.out.no (((Kp.refl No _).alloc _).no k7))
  have hcd : w7.cell? ⟨g5, o5 + 10, none⟩ = some (.int .i64 4) := by
    have := ((R56.out.alloc (.cells #[.int .i64 1, .int .i64 6, .int .i64 11, .int .i64 12, .int .i64 13, .int .i64 8, .int .i64 3, .int .i64 4] 3)).kpNo k7).intAt (distL_get (st := stepsP fS 0 []) (s := 0) (show 10 < 15 by omega))
    rw [ds_d] at this
    exact this
  clear k7
  go_wp2_with fail
  go_ret
  exact ⟨rfl, K7.out⟩
set_option maxRecDepth 100000 in
theorem small05_any (f : Flr) (hsz : f.s.size ≤ 9223372036854775807) (b : Bool) (hb : b = decide (f.s.size ≤ 80)) (w : World) : Calls Tryd.prog 11 #[f.val] w fun e w' => e = .returned (.bool b) ∧ Kp No w w' := by
  have HBX := Lib.hid (BxW.new f w)
  have HB := Lib.hid hb
  obtain ⟨X, Y, s⟩ := f
  obtain ⟨n, hn⟩ : ∃ n, n = s.size := ⟨_, rfl⟩
  have hnI : ((s.size : Nat) : Int) = (n : Int) := by omega
  have HE := Lib.hid (show decide ((n : Int) ≤ 80) = b by
    rw [hb, decide_eq_decide]
    show (n : Int) ≤ 80 ↔ s.size ≤ 80
    omega)
  unfold Flr.val
  clear hb hn hsz
  go_enter Tryd.func11, Tryd.ntmps11
  go_wp2_with fail
  go_ret
  exact ⟨by have := HE.out; simp at this ⊢; exact this, HBX.out.kp⟩
set_option maxRecDepth 100000 in
theorem few05_any {v : Value} {l : List Int} {w : World} (h : Rd IK w v l) : Calls Tryd.prog 14 #[v] w fun e w' => ∃ v', e = .returned v' ∧ Rd IK w' v' (l.take 50) ∧ (∀ g, v'.ownBlock = some g → v.ownBlock = some g) ∧ Kp No w w' := by
  have hl := h.lenI
  obtain ⟨v2, hr, h2, h3⟩ := h.upto elI (min l.length 50) (by omega) (min (l.length : Int) 50) (by omega)
  rw [show l.take (min l.length 50) = l.take 50 by rw [Nat.min_comm, ← List.take_take, List.take_length]] at h2
  obtain ⟨A, c, rfl⟩ := h.shape
  obtain ⟨n, hn⟩ : ∃ n, n = l.length := ⟨_, rfl⟩
  rw [← hn] at hr hl h3 ⊢
  have H2 := Lib.hid h2; have H3 := Lib.hid h3
  unfold maxLen at hl
  clear h h2 h3 hn
  go_enter Tryd.func14, Tryd.ntmps14
  go_wp2_with fail
  go_ret
  exact ⟨_, rfl, H2.out, H3.out, Kp.refl _ _⟩
end Go.Proofs.YthchoknhkhfdnaaDoor

namespace Go.Proofs.YthchoknhkhfdnaaDoor
set_option linter.unusedVariables false
set_option linter.unusedSimpArgs false
open Go.RowKit

theorem dst_mono {st st' : Nat → List Nat} (hs : ∀ u c, c ∈ st' u → c ∈ st u) {s c : Nat} (h : 0 ≤ dst st' s c) : 0 ≤ dst st s c ∧ dst st s c ≤ dst st' s c := by
  rcases dst_isD st' s c with ⟨e, _⟩ | ⟨k, e, hw, _⟩
  · omega
  · have hw2 := hw.sub hs
    rcases dst_isD st s c with ⟨_, h2⟩ | ⟨j, e2, _, h3⟩
    · exact absurd hw2 (h2 k)
    · have := h3 k hw2; omega
theorem steps_more {f : Flr} {fr : Nat} {B C : List Int} : ∀ u c, c ∈ stepsP f fr (B ++ C) u → c ∈ stepsP f fr B u := by
  intro u c h
  unfold stepsP at h ⊢
  split at h
  · simp at h
  · rename_i hx
    rw [if_neg hx]
    rw [List.mem_filter] at h ⊢
    refine ⟨h.1, ?_⟩
    have h2 := h.2
    simp at h2 ⊢
    exact h2.1
theorem dist_len (f : Flr) (fr : Int) (B C : List Int) : (distP f fr B).length = (distP f fr C).length := by
  unfold distP
  split
  · rw [distL_len, distL_len]
  · rfl
theorem dist_less {f : Flr} {fr : Int} {B C : List Int} {i : Nat} {a b : Int} (ha : (distP f fr B)[i]? = some a) (hb : (distP f fr (B ++ C))[i]? = some b) (h0 : 0 ≤ b) : 0 ≤ a ∧ a ≤ b := by
  unfold distP at ha hb
  by_cases hok : ptOk f fr = true
  · rw [if_pos hok] at ha hb
    have hl := (List.getElem?_eq_some_iff.1 ha).1
    rw [distL_len] at hl
    rw [distL_get hl] at ha hb
    cases ha; cases hb
    exact dst_mono steps_more h0
  · rw [if_neg hok] at ha; simp at ha
end Go.Proofs.YthchoknhkhfdnaaDoor

namespace Go.Proofs.YthchoknhkhfdnaaDoor
set_option linter.unusedVariables false
set_option linter.unusedSimpArgs false
open Go.RowKit

theorem near_beside {f : Flr} {u c : Nat} (h : c ∈ nearP f u) : c ∈ besideP f.W.toNat f.H.toNat u ∧ kdS f.s c ≠ 1 := by
  unfold nearP at h
  split at h
  · have h2 := List.mem_filter.1 h
    exact ⟨by simpa using h2.1, by simpa using h2.2⟩
  · simp at h
theorem near_of {f : Flr} (r : RightP f) {u c : Nat} (hu : u < f.s.size) (hk : kdS f.s u = 2 ∨ kdS f.s u = 3) (h : c ∈ besideP f.W.toNat f.H.toNat u) (hc : kdS f.s c ≠ 1) : c ∈ nearP f u := by
  unfold nearP isB
  rw [rightB_iff.2 r]
  have e : ((u : Int)).toNat = u := by omega
  rw [e, if_pos (by rcases hk with e | e <;> simp [e, hu])]
  exact List.mem_filter.2 ⟨h, by simpa using hc⟩
theorem RightP.wh {f : Flr} (r : RightP f) : 1 ≤ f.W.toNat ∧ f.s.size = f.W.toNat * f.H.toNat := by
  have h1 := r.w1; have h2 := r.h1; have h3 := r.len
  refine ⟨by omega, ?_⟩
  have : (f.s.size : Int) = ((f.W.toNat * f.H.toNat : Nat) : Int) := by
    rw [h3, Int.natCast_mul, Int.toNat_of_nonneg (by omega), Int.toNat_of_nonneg (by omega)]
  exact Int.ofNat.inj this
theorem lane_ne1 {s : ByteArray} {i : Nat} (h : laneI s i) : kdS s i ≠ 1 := by rw [h.2]; decide
theorem near_symm {f : Flr} (r : RightP f) {u c : Nat} (hu : laneI f.s u) (hc : laneI f.s c) (h : c ∈ nearP f u) : u ∈ nearP f c := by
  obtain ⟨h1, h2⟩ := r.wh
  exact near_of r hc.1 (.inl hc.2) (beside_symm h1 (by rw [← h2]; exact hu.1) (near_beside h).1) (lane_ne1 hu)
/-- The steps between lanes. -/
noncomputable def stL (f : Flr) (u : Nat) : List Nat := if kdS f.s u = 2 then nearP f u else []
theorem stL_eq {f : Flr} {a : Nat} (h : laneI f.s a) : stepsP f a [] = stL f := by
  funext u
  unfold stepsP stL
  by_cases hu : kdS f.s u = 2
  · rw [if_neg (by simp [hu]), if_pos hu]; simp
  · rw [if_pos ⟨fun e => hu (by rw [e]; exact h.2), hu⟩, if_neg hu]
theorem stL_mem {f : Flr} {u c : Nat} (h : c ∈ stL f u) : kdS f.s u = 2 ∧ c ∈ nearP f u := by
  unfold stL at h
  split at h
  · rename_i hx; exact ⟨hx, h⟩
  · simp at h
theorem stL_lt {f : Flr} (r : RightP f) (u c : Nat) (hu : u < f.s.size) (h : c ∈ stL f u) : c < f.s.size := near_sz r hu (stL_mem h).2
theorem wkL_lt {f : Flr} (r : RightP f) {a k c : Nat} (ha : a < f.s.size) (h : Wk (stL f) a k c) : c < f.s.size := by
  induction h with
  | nil => exact ha
  | step _ hc ih => exact stL_lt r _ _ ih hc
theorem wkL_symm {f : Flr} (r : RightP f) {a k c : Nat} (ha : laneI f.s a) (h : Wk (stL f) a k c) : laneI f.s c → Wk (stL f) c k a := by
  induction h with
  | nil => intro _; exact .nil
  | step hw hc ih =>
    rename_i u c
    intro hl
    have h1 := stL_mem hc
    have hu : laneI f.s u := ⟨wkL_lt r ha.1 hw, h1.1⟩
    refine .front ?_ (ih hu)
    unfold stL
    rw [if_pos hl.2]
    exact near_symm r hu hl h1.2
theorem conn_wk {f : Flr} (r : RightP f) {a c : Nat} (ha : laneI f.s a) (h : Conn f.W.toNat f.H.toNat f.s a c) : ∃ k, Wk (stL f) a k c := by
  induction h with
  | refl => exact ⟨0, .nil⟩
  | step h0 h1 h2 ih =>
    obtain ⟨k, hk⟩ := ih
    have hj := h0.lane ha
    refine ⟨k + 1, .step hk ?_⟩
    unfold stL
    rw [if_pos hj.2]
    exact near_of r hj.1 (.inl hj.2) h1 (lane_ne1 h2)
theorem dst_small {st : Nat → List Nat} {s n c : Nat} (hs : s < n) (hst : ∀ u c, u < n → c ∈ st u → c < n) : dst st s c < n := by
  rcases dst_isD st s c with ⟨e, _⟩ | ⟨k, e, hw, hl⟩
  · omega
  · have := short_lt hs hst hw hl; omega
theorem dst_le {st : Nat → List Nat} {s k c : Nat} (hw : Wk st s k c) : 0 ≤ dst st s c ∧ dst st s c ≤ (k : Int) := by
  rcases dst_isD st s c with ⟨_, h⟩ | ⟨j, e, _, hl⟩
  · exact absurd hw (h k)
  · have := hl k hw; omega
theorem dst_wk {st : Nat → List Nat} {s c : Nat} (h : 0 ≤ dst st s c) : ∃ k : Nat, dst st s c = k ∧ Wk st s k c := by
  rcases dst_isD st s c with ⟨e, _⟩ | ⟨j, e, hw, _⟩
  · omega
  · exact ⟨j, e, hw⟩
theorem zone_lane {f : Flr} {c : Int} (h : (zoneP f c).isSome = true) : RightP f ∧ ∃ C : Nat, c = C ∧ laneI f.s C := by
  unfold zoneP at h
  split at h
  · rename_i hb
    unfold isB at hb
    simp only [Bool.and_eq_true, decide_eq_true_eq, beq_iff_eq] at hb
    obtain ⟨⟨⟨h1, h2⟩, h3⟩, h4⟩ := hb
    exact ⟨rightB_iff.1 h4, c.toNat, by omega, by omega, by omega⟩
  · simp at h
structure BkL (f : Flr) (X Y : List Int) (a b c : Nat) : Prop where
  lx : X.length = f.s.size
  ly : Y.length = f.s.size
  at_ : a < f.s.size ∧ b < f.s.size ∧ c < f.s.size
  vals : ∃ d u v : Int, X[b]? = some d ∧ Y[a]? = some d ∧ X[c]? = some u ∧ Y[c]? = some v ∧ 0 ≤ d ∧ u ≤ d + v ∧ 0 ≤ v ∧ d < f.s.size ∧ v < f.s.size
theorem ptOk_lane {f : Flr} (r : RightP f) {a : Nat} (h : laneI f.s a) : ptOk f a = true := by
  unfold ptOk
  rw [rightB_iff.2 r]
  have := h.1
  have h35 : bt f.s a ≠ 35 := fun e => by have h2 := h.2; unfold kdS at h2; rw [e] at h2; exact absurd h2 (by decide)
  simp [h35]; exact this
theorem distP_lane {f : Flr} (r : RightP f) {a : Nat} (h : laneI f.s a) : distP f a [] = distL (stL f) a f.s.size := by
  unfold distP
  rw [if_pos (ptOk_lane r h)]
  have e : ((a : Int)).toNat = a := by omega
  rw [e, stL_eq h]
theorem back_law {f : Flr} (r : RightP f) {a b c : Nat} (ha : laneI f.s a) (hb : laneI f.s b) (hc : laneI f.s c) : BkL f (distP f a []) (distP f b []) a b c := by
  rw [distP_lane r ha, distP_lane r hb]
  obtain ⟨j, hj⟩ := conn_wk r ha (r.join.2 a b ha hb)
  obtain ⟨k, hk⟩ := conn_wk r hb (r.join.2 b c hb hc)
  obtain ⟨d, e1, w1⟩ := dst_wk (dst_le hj).1
  obtain ⟨v, e2, w2⟩ := dst_wk (dst_le hk).1
  have h1 := dst_le (w1.trans w2)
  have h2 := dst_le (wkL_symm r ha w1 hb)
  obtain ⟨g, e3, w3⟩ := dst_wk h2.1
  have h3 := dst_le (wkL_symm r hb w3 ha)
  have s1 := dst_small (c := b) ha.1 (stL_lt r)
  have s2 := dst_small (c := c) hb.1 (stL_lt r)
  refine ⟨distL_len _ _ _, distL_len _ _ _, ⟨ha.1, hb.1, hc.1⟩, dst (stL f) a b, dst (stL f) a c, dst (stL f) b c, distL_get hb.1, ?_, distL_get hc.1, distL_get hc.1, by omega, by omega, by omega, s1, s2⟩
  rw [distL_get ha.1]
  congr 1
  omega
end Go.Proofs.YthchoknhkhfdnaaDoor

namespace Go.Proofs.YthchoknhkhfdnaaDoor
set_option linter.unusedVariables false
set_option linter.unusedSimpArgs false
open Go.RowKit

structure StpL (f : Flr) (fr : Int) (B D : List Int) : Prop where
  len : D.length ≤ f.s.size
  sz : ∀ (k c : Nat) x, D[k]? = some x → c ∈ nearP f k → c < D.length
  up : ∀ (k c : Nat) x y, D[k]? = some x → c ∈ nearP f k → D[c]? = some y → 0 ≤ x → ((zoneP f k).isSome = true ∨ (k : Int) = fr) → ¬ (c : Int) ∈ B → 0 ≤ y ∧ y ≤ x + 1
  down : ∀ (k : Nat) x, D[k]? = some x → 0 < x → ∃ c ∈ nearP f k, D[c]? = some (x - 1)
  z : ∀ (k : Nat) x, D[k]? = some x → (x = 0 ↔ (k : Int) = fr)
  rng : ∀ (k : Nat) x, D[k]? = some x → -1 ≤ x ∧ x < D.length
theorem near_flip {f : Flr} (r : RightP f) {u c : Nat} (hu : u < f.s.size) (hk : kdS f.s u ≠ 1) (h : c ∈ nearP f u) : u ∈ nearP f c := by
  obtain ⟨h1, h2⟩ := r.wh
  have hb := near_beside h
  have hc := near_sz r hu h
  refine near_of r hc ?_ (beside_symm h1 (by rw [← h2]; exact hu) hb.1) hk
  have h0 := r.kinds c hc
  have : kdS f.s c = 0 ∨ kdS f.s c = 1 ∨ kdS f.s c = 2 ∨ kdS f.s c = 3 := by
    unfold kdS kindB
    repeat' split
    all_goals simp
  rcases this with e | e | e | e
  · exact absurd e h0
  · exact absurd e hb.2
  · exact .inl e
  · exact .inr e
theorem wkP_lt {f : Flr} (r : RightP f) {fr : Nat} {B : List Int} {k c : Nat} (ha : fr < f.s.size) (h : Wk (stepsP f fr B) fr k c) : c < f.s.size := by
  induction h with
  | nil => exact ha
  | step _ hc ih => exact steps_sz r ih hc
theorem steps_near {f : Flr} {fr : Nat} {B : List Int} {u c : Nat} (h : c ∈ stepsP f fr B u) : c ∈ nearP f u ∧ ¬ (c : Int) ∈ B := by
  unfold stepsP at h
  split at h
  · simp at h
  · have := List.mem_filter.1 h
    exact ⟨this.1, by simpa using this.2⟩
theorem ptOk_ne1 {f : Flr} {fr : Nat} (h : ptOk f fr = true) : kdS f.s fr ≠ 1 := by
  unfold ptOk at h
  simp only [Bool.and_eq_true, decide_eq_true_eq, bne_iff_ne, Int.toNat_natCast] at h
  exact fun e => h.2 (kd_wall e)
theorem steps_law (f : Flr) (fr : Int) (B : List Int) : StpL f fr B (distP f fr B) := by
  cases hok : ptOk f fr with
  | false =>
    have e : distP f fr B = [] := by unfold distP; rw [hok]; simp
    rw [e]
    exact ⟨by simp, fun k c x h => by simp at h, fun k c x y h => by simp at h, fun k x h => by simp at h, fun k x h => by simp at h, fun k x h => by simp at h⟩
  | true =>
    obtain ⟨s, rfl, hs, r⟩ := ptOk_nat hok
    have e : distP f (s : Int) B = distL (stepsP f s B) s f.s.size := by unfold distP; rw [hok]; simp
    rw [e]
    have get : ∀ (k : Nat) x, (distL (stepsP f s B) s f.s.size)[k]? = some x → k < f.s.size ∧ x = dst (stepsP f s B) s k := fun k x h => by
      have hl := (List.getElem?_eq_some_iff.1 h).1
      rw [distL_len] at hl
      rw [distL_get hl] at h
      exact ⟨hl, (Option.some.inj h).symm⟩
    refine ⟨by rw [distL_len]; exact Nat.le_refl _, fun k c x h hc => ?_, fun k c x y h hc hy h0 hz hB => ?_, fun k x h h0 => ?_, fun k x h => ?_, fun k x h => ?_⟩
    · rw [distL_len]; exact near_sz r (get k x h).1 hc
    · obtain ⟨hk, rfl⟩ := get k x h
      obtain ⟨hcl, rfl⟩ := get c y hy
      obtain ⟨j, e1, w1⟩ := dst_wk h0
      have hst : c ∈ stepsP f s B k := by
        unfold stepsP
        rw [if_neg]
        · exact List.mem_filter.2 ⟨hc, by simpa using hB⟩
        · rintro ⟨a, b⟩
          rcases hz with hz | hz
          · obtain ⟨_, C, hC, hl⟩ := zone_lane hz
            obtain rfl : k = C := by omega
            exact b hl.2
          · omega
      have := dst_le (Wk.step w1 hst)
      omega
    · obtain ⟨hk, rfl⟩ := get k x h
      obtain ⟨j, e1, w1⟩ := dst_wk (st := stepsP f s B) (s := s) (c := k) (by omega)
      cases w1 with
      | nil => omega
      | step hw hc =>
        rename_i j u
        have hu := wkP_lt r hs hw
        have hn := steps_near hc
        have hu1 : kdS f.s u ≠ 1 := by
          rcases steps_of hc with rfl | h2
          · exact ptOk_ne1 hok
          · rw [h2]; decide
        refine ⟨u, near_flip r hu hu1 hn.1, ?_⟩
        rw [distL_get hu]
        congr 1
        have h1 := dst_le hw
        obtain ⟨i, e2, w2⟩ := dst_wk h1.1
        have h3 := dst_le (Wk.step w2 hc)
        omega
    · obtain ⟨hk, rfl⟩ := get k x h
      constructor
      · intro e0
        obtain ⟨j, e1, w1⟩ := dst_wk (st := stepsP f s B) (s := s) (c := k) (by omega)
        obtain rfl : j = 0 := by omega
        cases w1; rfl
      · intro e0
        obtain rfl : k = s := by omega
        exact dst_self _ _
    · obtain ⟨hk, rfl⟩ := get k x h
      rw [distL_len]
      refine ⟨?_, dst_small hs fun u c hu hc => steps_sz r hu hc⟩
      rcases dst_isD (stepsP f s B) s k with ⟨e, _⟩ | ⟨j, e, _⟩ <;> omega
end Go.Proofs.YthchoknhkhfdnaaDoor

namespace Go.Proofs.YthchoknhkhfdnaaDoor
set_option linter.unusedVariables false
set_option linter.unusedSimpArgs false
open Go.RowKit

set_option maxRecDepth 100000 in
/-- few: one value, in whatever world. -/
theorem few05_at {v : Value} {l : List Int} {w : World} (h : Rd IK w v l) : ∃ v', Rd IK w v' (l.take 50) ∧ ∀ wx, Calls Tryd.prog 14 #[v] wx fun e w' => e = .returned v' ∧ w' = wx := by
  have hl := h.lenI
  obtain ⟨v2, hr, h2, h3⟩ := h.upto elI (min l.length 50) (by omega) (min (l.length : Int) 50) (by omega)
  rw [show l.take (min l.length 50) = l.take 50 by rw [Nat.min_comm, ← List.take_take, List.take_length]] at h2
  refine ⟨v2, h2, fun wx => ?_⟩
  obtain ⟨A, c, rfl⟩ := h.shape
  obtain ⟨n, hn⟩ : ∃ n, n = l.length := ⟨_, rfl⟩
  rw [← hn] at hr hl ⊢
  unfold maxLen at hl
  clear h h2 h3 hn
  go_enter Tryd.func14, Tryd.ntmps14
  go_wp2_with fail
  go_ret
  exact ⟨rfl, rfl⟩
structure StW (f : Flr) (bf bm : Nat) (w0 w : World) (L : List Int) : Prop where
  bx : BxW f bf w0 w
  st : SetI w bm L
  ge : w0.heap.size ≤ bm
  ne : bm ≠ bf
theorem StW.no {f : Flr} {bf bm : Nat} {w0 w w' : World} {L : List Int} (h : StW f bf bm w0 w L) (hk : Kp No w w') : StW f bf bm w0 w' L := ⟨h.bx.no hk, h.st.kp hk (no_no _), h.ge, h.ne⟩
theorem StW.add {f : Flr} {bf bm : Nat} {w0 w : World} {L : List Int} (h : StW f bf bm w0 w L) (c : Int) : ∃ w', (Instr.mapUpdate 36 (.map (some bm)) (.int .i64 c) (.bool true)).run Tryd.prog w = .ok () w' ∧ StW f bf bm w0 w' (addS L c) := by
  obtain ⟨w', h1, h2, h3⟩ := h.st.add mapB c
  refine ⟨w', h1, ⟨h3.blk h.bx.box (fun e => h.ne e.symm), h.bx.kp.trans' h3 fun j hj e => ?_⟩, h2, h.ge, h.ne⟩
  have := h.ge; omega
theorem mem_addS {L : List Int} {c x : Int} : x ∈ addS L c ↔ x ∈ L ∨ x = c := by
  unfold addS
  split
  · constructor
    · exact .inl
    · rintro (h | rfl)
      · exact h
      · assumption
  · simp
def nrB (D : List Int) (x : Int) (N : List Nat) (j : Nat) : Bool := decide (x ≤ 0) || (N.take j).any fun c => decide (D[c]? = some (x - 1))
theorem nrB_z (D : List Int) (x : Int) (N : List Nat) : nrB D x N 0 = decide (x ≤ 0) := by simp [nrB]
theorem nrB_s {D : List Int} {x y : Int} {N : List Nat} {j c : Nat} (h : N[j]? = some c) (hy : D[c]? = some y) : nrB D x N (j + 1) = (nrB D x N j || decide (y = x - 1)) := by
  unfold nrB
  rw [List.take_add_one, h, List.any_append]
  simp [hy, Bool.or_assoc]

set_option maxHeartbeats 4000000 in
set_option maxRecDepth 100000 in
theorem steps_row (f : Flr) (hsz : f.s.size ≤ 9223372036854775807) (fr : Int) {bv : Value} {B : List Int} {w : World} (hB : Rd IK w bv B) : Calls Tryd.prog 6 #[f.val, .int .i64 fr, bv] w (LawR w) := by
  unfold LawR
  have HSH := Lib.hid shown05_any
  have HBX := Lib.hid (BxW.new f w)
  obtain ⟨t, ht⟩ : ∃ t, t = decide (f.s.size ≤ 80) := ⟨_, rfl⟩
  have SM := Lib.hid (fun w => small05_any f hsz t ht w)
  obtain ⟨v5, hr5, FB⟩ := few05_at hB
  have hl5 : (B.take 50).length ≤ 50 := by rw [List.length_take]; omega
  obtain ⟨B5, hB5⟩ : ∃ l, l = B.take 50 := ⟨_, rfl⟩
  rw [← hB5] at hr5 hl5
  have FB := Lib.hid FB
  obtain ⟨A5, c5, rfl⟩ := hr5.shape
  obtain ⟨n5, hn5⟩ : ∃ n, n = B5.length := ⟨_, rfl⟩
  rw [← hn5] at hr5 FB hl5
  have HN5 := Lib.hid hn5
  have R5 := Lib.hid hr5
  have PD := Lib.hid (fun (h80 : f.s.size ≤ 80) wx (h : Rd IK wx (.slice A5 n5 c5) B5) => ptDist_any f (by omega) fr h)
  have SL := Lib.hid (steps_law f fr B5)
  have ZN := Lib.hid (fun (h80 : f.s.size ≤ 80) (k : Nat) (hk : k < 80) z (hz : zoneP f k = z) V (hV : ZVal z = V) w => zone_at f (by omega) k (by omega) z hz V hV w)
  have NE := Lib.hid (fun (h80 : f.s.size ≤ 80) (k : Nat) (hk : k < 80) L (hL : nearP f k = L) w => near_at f (by omega) k (by omega) L hL w)
  have H80 := Lib.hid (show t = true → f.s.size ≤ 80 by intro e; rw [ht] at e; simpa using e)
  obtain ⟨D, hD⟩ : ∃ D, D = distP f fr B5 := ⟨_, rfl⟩
  rw [← hD] at PD SL
  obtain ⟨F, hF⟩ : ∃ F, F = f := ⟨_, rfl⟩
  have HF := Lib.hid hF
  rw [← hF] at SL
  obtain ⟨n, hn⟩ : ∃ n, n = D.length := ⟨_, rfl⟩
  have HN := Lib.hid hn
  obtain ⟨X, Y, s⟩ := f
  unfold Flr.val at SM PD ZN NE ⊢
  have BX0 := Lib.hid (show BxW F w.heap.size w (w.alloc (.cells #[.int .i64 X, .int .i64 Y, .string s] 23)) by rw [HF.out]; exact HBX.out)
  clear ht hsz hB hF hD hn hB5 hr5 hn5
  cases t with
  | false =>
    go_enter Tryd.func6, Tryd.ntmps6
    go_wp2_with fail
    refine (HSH.out _).mono ?_
    rintro e w1 ⟨rfl, k1⟩
    have B1 := Lib.hid (HBX.out.no k1)
    have hb0 : w1.cell? ⟨w.heap.size, 0, none⟩ = some (.int .i64 X) := B1.out.c0
    have hb1 : w1.cell? ⟨w.heap.size, 1, none⟩ = some (.int .i64 Y) := B1.out.c1
    have hb2 : w1.cell? ⟨w.heap.size, 2, none⟩ = some (.string s) := B1.out.c2
    clear k1
    go_wp2_with fail
    refine (SM.out _).mono ?_
    rintro e w2 ⟨rfl, k2⟩
    have K2 := Lib.hid (B1.out.kp.no k2)
    clear k2
    go_wp2_with fail
    go_ret
    exact ⟨rfl, K2.out⟩
  | true =>
    have h80 := H80.out rfl
    have hn80 : n ≤ 80 := by have := SL.out.len; rw [HF.out, ← HN.out] at this; omega
    have N80 := Lib.hid hn80
    have PD2 := Lib.hid (PD.out h80)
    have ZN2 := Lib.hid (fun (k : Nat) (hk : k < n) => ZN.out h80 k (by omega))
    have NE2 := Lib.hid (fun (k : Nat) (hk : k < n) => NE.out h80 k (by omega))
    clear PD ZN NE H80 h80 hn80
    go_enter Tryd.func6, Tryd.ntmps6
    go_wp2_with fail
    refine (HSH.out _).mono ?_
    rintro e w1 ⟨rfl, k1⟩
    have B1 := Lib.hid (HBX.out.no k1)
    have hb0 : w1.cell? ⟨w.heap.size, 0, none⟩ = some (.int .i64 X) := B1.out.c0
    have hb1 : w1.cell? ⟨w.heap.size, 1, none⟩ = some (.int .i64 Y) := B1.out.c1
    have hb2 : w1.cell? ⟨w.heap.size, 2, none⟩ = some (.string s) := B1.out.c2
    clear k1
    go_wp2_with fail
    refine (SM.out _).mono ?_
    rintro e w2 ⟨rfl, k2⟩
    have B2 := Lib.hid (show BxW F w.heap.size w w2 by rw [HF.out]; exact (B1.out.no k2))
    clear k2 hb0 hb1 hb2 B1
    have LB := Lib.hid (show ∀ bf wx, BxW F bf w wx → wx.cell? ⟨bf, 0, none⟩ = some (.int .i64 X) ∧ wx.cell? ⟨bf, 1, none⟩ = some (.int .i64 Y) ∧ wx.cell? ⟨bf, 2, none⟩ = some (.string s) from fun bf wx h => by rw [HF.out] at h; exact ⟨h.c0, h.c1, h.c2⟩)
    have hmm := @run_makeMap Tryd.prog
    go_upto_region 5 with fail
    clear hmm
    obtain ⟨w3, hw3⟩ : ∃ w3, w3 = w2.alloc (.map #[] 0) := ⟨_, rfl⟩
    obtain ⟨bm, hbm⟩ : ∃ b, b = w2.heap.size := ⟨_, rfl⟩
    obtain ⟨bf, hbf⟩ : ∃ b, b = w.heap.size := ⟨_, rfl⟩
    have S3 := Lib.hid (show StW F bf bm w w3 [] by
      have := lt_of_block B2.out.box
      rw [hw3, hbm, hbf]
      exact ⟨B2.out.no ((Kp.refl _ _).alloc _), SetI.made w2, B2.out.kp.size, by omega⟩)
    rw [← hbf] at B2
    rw [← hw3, ← hbm, ← hbf]
    clear hw3 hbm hbf
    go_wp2_with fail
    refine (FB.out _).mono ?_
    rintro e w4 ⟨rfl, hw4⟩
    obtain rfl : w4 = w3 := hw4
    go_wp2_with fail
    go_loopg [27] (n5 + 1) (fun g_ iv wx => ∃ (i : Nat) (Li : List Int), g_ = n5 + 1 - i ∧ iv = .int .i64 i ∧ i ≤ n5 ∧ (∀ x, x ∈ Li ↔ x ∈ B5.take i) ∧ StW F bf bm w wx Li)
    case atStart => exact ⟨0, [], rfl, rfl, by omega, by simp, S3.out⟩
    case round =>
      obtain ⟨i, Li, hg, rfl, hi, hmem, sw⟩ := hrel
      have SW := Lib.hid sw; have MM := Lib.hid hmem
      clear sw hmem S3 B2
      by_cases hlt : i < n5
      · have hltI : (i : Int) < (n5 : Int) := by omega
        have hwi : IntKind.i64.wrap ((i : Int) + 1) = (i : Int) + 1 := IntWalk.i64_in _ (by omega)
        obtain ⟨x, hx⟩ : ∃ x, B5[i]? = some x := ⟨_, List.getElem?_eq_getElem (by rw [← HN5.out]; exact hlt)⟩
        have hrd := R5.out.kpNo SW.out.bx.kp
        rcases hrd with ⟨_, he⟩ | ⟨g, o, cap', hv, _⟩
        · rw [he] at hx; simp at hx
        simp only [Value.slice.injEq] at hv
        obtain ⟨rfl, hzz, rfl⟩ := hv
        have hcx : wr.cell? ⟨g, o + i, none⟩ = some (.int .i64 x) := (R5.out.kpNo SW.out.bx.kp).intAt hx
        obtain ⟨w5, hup, s5⟩ := SW.out.add x
        have S5 := Lib.hid s5
        have M5 := Lib.hid (show ∀ y, y ∈ addS Li x ↔ y ∈ B5.take (i + 1) by
          intro y
          rw [mem_addS, MM.out, List.take_add_one, hx, List.mem_append]
          simp)
        clear hx hlt hzz s5
        go_wp2_with fail
        go_roundg (n5 + 1 - (i + 1))
        case measure => omega
        case rel => exact ⟨i + 1, _, rfl, by go_num, by omega, M5.out, S5.out⟩
      · obtain rfl : i = n5 := by omega
        have hd0 : ¬ (i : Int) < (i : Int) := by omega
        have MB := Lib.hid (show ∀ y, y ∈ Li ↔ y ∈ B5 by
          intro y; rw [MM.out, HN5.out, List.take_length])
        clear hlt MM
        obtain ⟨r0, r1, r2⟩ := LB.out bf wr.drew (SW.out.bx.no (Kp.refl _ _).drew)
        go_upto_region 10 with fail
        go_cut [11, 34, 35, 36, 37, 38] (fun v11 _ _ _ _ _ wx => ∃ A c, v11 = .slice A n c ∧ Rd IK wx (.slice A n c) D ∧ (∀ g, (Value.slice A n c).ownBlock = some g → bm < g) ∧ StW F bf bm w wx Li)
        case first =>
          go_region_law (first
            | (go_simp; go_at_call 14; refine (FB.out _).mono ?_; rintro e w6 ⟨rfl, rfl⟩)
            | (go_simp; go_at_call 13; refine (PD2.out _ (R5.out.kpNo (SW.out.bx.kp.drew))).mono ?_; rintro e w7 ⟨v7, rfl, n7⟩; have N7 := Lib.hid n7; clear n7))
          all_goals
            go_wp2_with fail
            go_meet
            obtain ⟨A, c, h1⟩ := N7.out.own.rd.shape
            rw [← HN.out] at h1
            exact ⟨A, c, h1, by rw [← h1]; exact N7.out.own.rd, fun g hg => by rw [← h1] at hg; have := N7.out.ge g hg; have := SW.out.st.lt; simp at *; omega, (SW.out.no (Kp.refl _ _).drew).no N7.out.kp⟩
        case rest =>
          obtain ⟨A, c, rfl, rd, ng, sw⟩ := hcut
          obtain ⟨wq, hwq⟩ : ∃ x : World, x = wc := ⟨_, rfl⟩
          rw [← hwq] at rd sw ⊢
          clear hwq r0 r1 r2
          have RD := Lib.hid rd; have S6 := Lib.hid sw
          clear rd sw SW
          go_wp2_with fail
          go_loopg [41] (n + 1) (fun g_ iv wx => ∃ (k : Nat), g_ = n + 1 - k ∧ iv = .int .i64 k ∧ k ≤ n ∧ Kp No wq wx)
          case atStart => exact ⟨0, rfl, rfl, by omega, Kp.refl _ _⟩
          case round =>
            obtain ⟨k, hg, rfl, hk, kp⟩ := hrel
            have SW := Lib.hid (S6.out.no kp); have KP := Lib.hid kp
            clear kp
            by_cases hlt : k < n
            · have hltI : (k : Int) < (n : Int) := by omega
              have hwi : IntKind.i64.wrap ((k : Int) + 1) = (k : Int) + 1 := IntWalk.i64_in _ (by have := N80.out; omega)
              obtain ⟨x, hx⟩ : ∃ x, D[k]? = some x := ⟨_, List.getElem?_eq_getElem (by rw [← HN.out]; exact hlt)⟩
              have HX := Lib.hid hx
              obtain ⟨gD, oD, rfl, hcD⟩ : ∃ g o, A = some ⟨g, o, none⟩ ∧ ∀ wx, Kp No wq wx → ∀ (i : Nat) y, D[i]? = some y → wx.cell? ⟨g, o + i, none⟩ = some (.int .i64 y) := by
                rcases RD.out with ⟨_, he⟩ | ⟨g, o, cap', hv, _⟩
                · rw [he] at hx; simp at hx
                simp only [Value.slice.injEq] at hv
                obtain ⟨rfl, hzz, rfl⟩ := hv
                exact ⟨g, o, rfl, fun wx hk i y hy => (RD.out.kpNo hk).intAt hy⟩
              have CD := Lib.hid hcD
              obtain ⟨z, hz⟩ : ∃ z, zoneP F k = z := ⟨_, rfl⟩
              have ZC := Lib.hid (ZN2.out k hlt z (by rw [← HF.out]; exact hz) (.tuple #[.int .i64 ((z.getD 0 : Nat) : Int), .bool z.isSome]) rfl)
              obtain ⟨N, hNe⟩ : ∃ N, nearP F k = N := ⟨_, rfl⟩
              have NC := Lib.hid (NE2.out k hlt N (by rw [← HF.out]; exact hNe))
              obtain ⟨la, hla⟩ : ∃ la, z.isSome = la := ⟨_, rfl⟩
              obtain ⟨ii, hii⟩ : ∃ b, ((k : Int) == fr) = b := ⟨_, rfl⟩
              obtain ⟨g1, hg1⟩ : ∃ b, decide (x ≥ 0) = b := ⟨_, rfl⟩
              obtain ⟨nr0, hnr⟩ : ∃ b, decide (x ≤ 0) = b := ⟨_, rfl⟩
              have hx0 : (x == 0) = ii := by
                have := SL.out.z k x hx
                rw [← hii]
                by_cases e : x = 0
                · rw [show ((k : Int) == fr) = true by simpa using this.1 e]; simp [e]
                · rw [show ((k : Int) == fr) = false by simpa using fun h => e (this.2 h)]; simp [e]
              have hxr := SL.out.rng k x hx
              rw [← HN.out] at hxr
              have UP := Lib.hid (show ∀ (c : Nat) y, c ∈ N → D[c]? = some y → g1 = true → (la = true ∨ ii = true) → ¬ (c : Int) ∈ Li → decide (y < 0) = false ∧ decide (y > x + 1) = false from fun c y hc hy h1 h2 h3 => by
                have := SL.out.up k c x y hx (by rw [hNe]; exact hc) hy (by rw [h1] at hg1; simpa using hg1) (by
                  rcases h2 with h2 | h2
                  · left; rw [hz, hla, h2]
                  · right; rw [h2] at hii; simpa using hii) (fun e => h3 ((MB.out _).2 e))
                simp; omega)
              have SZ := Lib.hid (show ∀ c : Nat, c ∈ N → c < n from fun c hc => by have := SL.out.sz k c x hx (by rw [hNe]; exact hc); rwa [← HN.out] at this)
              have DO := Lib.hid (show nrB D x N N.length = true by
                unfold nrB
                rw [List.take_length]
                by_cases h : x ≤ 0
                · simp [h]
                · obtain ⟨c, h1, h2⟩ := SL.out.down k x hx (by omega)
                  rw [hNe] at h1
                  rw [Bool.or_eq_true]
                  exact .inr (List.any_eq_true.2 ⟨c, h1, by simpa using h2⟩))
              have hw1 : IntKind.i64.wrap (x + 1) = x + 1 := IntWalk.i64_in _ (by have := N80.out; omega)
              have hw2 : IntKind.i64.wrap (x - 1) = x - 1 := IntWalk.i64_in _ (by have := N80.out; omega)
              have NR0 := Lib.hid (show nr0 = nrB D x N 0 by rw [nrB_z, hnr])
              rw [hla] at ZC
              obtain ⟨zd, hzd⟩ : ∃ zd : Int, ((z.getD 0 : Nat) : Int) = zd := ⟨_, rfl⟩
              rw [hzd] at ZC
              have hcx := hcD wr KP.out k x hx
              obtain ⟨r0, r1, r2⟩ := LB.out bf wr SW.out.bx
              have HW1 := Lib.hid hw1; have HW2 := Lib.hid hw2; have HII := Lib.hid hii; have HG1 := Lib.hid hg1; have HX0 := Lib.hid hx0
              have HWI := Lib.hid hwi
              clear hx hz hNe hla hii hg1 hxr hlt hcD hw1 hw2 hzd hx0 hwi
              go_wp2_with fail
              refine (ZC.out _).mono ?_
              rintro e w8 ⟨rfl, k8⟩
              have K8 := Lib.hid (KP.out.no k8)
              have S8 := Lib.hid (S6.out.no K8.out)
              have hcx8 := CD.out w8 K8.out k x HX.out
              clear k8 r0 r1 r2 hcx
              obtain ⟨r0, r1, r2⟩ := LB.out bf w8 S8.out.bx
              go_wp2_with fail
              refine (NC.out _).mono ?_
              rintro e w9 ⟨A9, q9, rfl, n9⟩
              obtain ⟨nN, hnN⟩ : ∃ m, m = N.length := ⟨_, rfl⟩
              rw [← hnN] at n9 ⊢
              have HNN := Lib.hid hnN
              have N9 := Lib.hid n9.own.rd
              have K9 := Lib.hid (K8.out.no n9.kp)
              have hn4 : nN ≤ maxLen := by have := n9.own.rd.lenI; rw [ints_len, ← hnN] at this; exact this
              unfold maxLen at hn4
              have H4 := Lib.hid hn4
              clear n9 r0 r1 r2 hcx8 hnN hn4
              clear hnr
              go_wp2_with fail
              go_loopg [59, 15] (nN + 1) (fun g_ iv rv wx => ∃ (j : Nat) (nr : Bool), g_ = nN + 1 - j ∧ iv = .int .i64 j ∧ j ≤ nN ∧ rv = .bool nr ∧ nr = nrB D x N j ∧ Kp No w9 wx)
              case atStart => exact ⟨0, nr0, rfl, rfl, by omega, rfl, NR0.out, Kp.refl _ _⟩
              case round =>
                obtain ⟨j, nr, hg, rfl, hj, rfl, hnr, kp⟩ := hrel
                have KJ := Lib.hid kp; have NR := Lib.hid hnr
                clear kp hnr
                by_cases hlt : j < nN
                · have hltJ : (j : Int) < (nN : Int) := by omega
                  have hwj : IntKind.i64.wrap ((j : Int) + 1) = (j : Int) + 1 := IntWalk.i64_in _ (by have := H4.out; omega)
                  have HWJ := Lib.hid hwj
                  obtain ⟨c, hc⟩ : ∃ c, N[j]? = some c := ⟨_, List.getElem?_eq_getElem (by rw [← HNN.out]; exact hlt)⟩
                  have hcm : c ∈ N := List.mem_of_getElem? hc
                  have hcn := SZ.out c hcm
                  obtain ⟨y, hy⟩ : ∃ y, D[c]? = some y := ⟨_, List.getElem?_eq_getElem (by rw [← HN.out]; exact hcn)⟩
                  have hrd := N9.out.kpNo KJ.out
                  rcases hrd with ⟨_, he⟩ | ⟨g, o, cap', hv, _⟩
                  · rw [show N = [] by unfold ints at he; simpa using he] at hc; simp at hc
                  simp only [Value.slice.injEq] at hv
                  obtain ⟨rfl, hzz, rfl⟩ := hv
                  have hcb : wr.cell? ⟨g, o + j, none⟩ = some (.int .i64 (c : Int)) := (N9.out.kpNo KJ.out).intAt (ints_get hc)
                  have hcy := CD.out wr (K9.out.no KJ.out) c y hy
                  have hcx := CD.out wr (K9.out.no KJ.out) k x HX.out
                  obtain ⟨st, hst⟩ : ∃ b, decide ((c : Int) ∈ Li) = b := ⟨_, rfl⟩
                  have hlook : ∀ m, (Instr.lookup 36 (.map (some bm)) (.int .i64 (c : Int)) false).run Tryd.prog (wr.drewN m) = .ok (.bool st) (wr.drewN m) := fun m => by
                    rw [← hst]; exact SetI.look mapB ((S6.out.no (K9.out.no KJ.out)).st.kp ((Kp.refl No _).drewN m) (no_no _)) (c : Int)
                  have UPC := Lib.hid (fun h1 h2 (h3 : st = false) => UP.out c y hcm hy h1 h2 (by rw [h3] at hst; simpa using hst))
                  obtain ⟨eq, heq⟩ : ∃ b, (y == x - 1) = b := ⟨_, rfl⟩
                  have NR1 := Lib.hid (show (nr || eq) = nrB D x N (j + 1) by
                    rw [nrB_s hc hy, NR.out, ← heq]
                    congr 1)
                  have hcnI : ¬ (c : Int) ≥ (n : Int) := by omega
                  have hc0 : ¬ (c : Int) < 0 := by omega
                  have hclt : (c : Int) < (n : Int) := by omega
                  have hwx1 := HW1.out; have hwx2 := HW2.out; have hi3 := HII.out; have hgg := HG1.out
                  have HCY := Lib.hid hy
                  clear hc hcm hy hzz hlt hst hcn hwj
                  go_upto_region 21 with fail
                  go_cut [71, 72, 73, 74, 75, 76, 77, 78, 79, 80, 81, 82, 83, 84, 85, 86, 87, 88, 89, 90, 91, 92, 93, 94, 95, 96, 97, 98, 99, 100, 101, 102, 103, 104, 105, 106, 107, 108] (fun _ _ _ _ _ _ _ _ _ _ _ _ _ _ _ _ _ _ _ _ _ _ _ _ _ _ _ _ _ _ _ _ _ _ _ _ _ v108 wx => v108 = .bool false ∧ Kp No w9 wx)
                  case first =>
                    have hcases : g1 = false ∨ (g1 = true ∧ la = true ∧ st = true) ∨ (g1 = true ∧ la = true ∧ st = false ∧ decide (y < 0) = false ∧ decide (y > x + 1) = false) ∨ (g1 = true ∧ la = false ∧ ii = false) ∨ (g1 = true ∧ la = false ∧ ii = true ∧ st = true) ∨ (g1 = true ∧ la = false ∧ ii = true ∧ st = false ∧ decide (y < 0) = false ∧ decide (y > x + 1) = false) := by
                      have := UPC.out
                      cases g1 <;> cases la <;> cases ii <;> cases st <;> simp at this ⊢ <;> exact this
                    rcases hcases with rfl | ⟨rfl, rfl, rfl⟩ | ⟨rfl, rfl, rfl, q1, q2⟩ | ⟨rfl, rfl, rfl⟩ | ⟨rfl, rfl, rfl, rfl⟩ | ⟨rfl, rfl, rfl, rfl, q1, q2⟩
                    all_goals
                      go_quiet (fail)
                      go_wp2_with fail
                      go_meet
                      exact ⟨rfl, KJ.out.drewN _⟩
                  case rest =>
                    obtain ⟨rfl, kc⟩ := hcut
                    obtain ⟨wp, hwp⟩ : ∃ x : World, x = wc := ⟨_, rfl⟩
                    rw [← hwp] at kc ⊢
                    have KC := Lib.hid kc
                    have hcy := CD.out wp (K9.out.no kc) c y HCY.out
                    have hcx := CD.out wp (K9.out.no kc) k x HX.out
                    have hwj := HWJ.out
                    clear hwp kc hlook hcb
                    cases nr with
                    | true =>
                      go_wp2_with fail
                      go_quiet (fail)
                      go_wp2_with fail
                      go_roundg (nN + 1 - (j + 1))
                      case measure => omega
                      case rel => exact ⟨j + 1, true, rfl, by go_num, by omega, rfl, by rw [← NR1.out]; rfl, KC.out.drewN _⟩
                    | false =>
                      go_wp2_with fail
                      go_quiet (fail)
                      go_wp2_with fail
                      go_roundg (nN + 1 - (j + 1))
                      case measure => omega
                      case rel => exact ⟨j + 1, eq, rfl, by go_num, by omega, rfl, by rw [← NR1.out]; rfl, KC.out.drewN _⟩
                · obtain rfl : j = nN := by omega
                  have hd0 : ¬ (j : Int) < (j : Int) := by omega
                  have hnr : nr = true := by rw [NR.out, HNN.out]; exact DO.out
                  subst hnr
                  have hcx := CD.out wr (K9.out.no KJ.out) k x HX.out
                  have hxx := HX0.out
                  have hi3 := HII.out
                  have hwi := HWI.out
                  clear hlt
                  cases ii with
                  | true =>
                    go_wp2_with fail
                    go_roundg (n + 1 - (k + 1))
                    case measure => omega
                    case rel => exact ⟨k + 1, rfl, by go_num, by omega, K9.out.no KJ.out⟩
                  | false =>
                    go_wp2_with fail
                    go_roundg (n + 1 - (k + 1))
                    case measure => omega
                    case rel => exact ⟨k + 1, rfl, by go_num, by omega, K9.out.no KJ.out⟩
            · obtain rfl : k = n := by omega
              have hd0 : ¬ (k : Int) < (k : Int) := by omega
              clear hlt
              go_wp2_with fail
              go_ret
              exact ⟨rfl, SW.out.bx.kp⟩
end Go.Proofs.YthchoknhkhfdnaaDoor

namespace Go.Proofs.YthchoknhkhfdnaaDoor
set_option linter.unusedVariables false
set_option linter.unusedSimpArgs false
open Go.RowKit

def FdR (Q : List Nat) (er : Int) (w : World) (e : Ending) (w' : World) : Prop := ∃ A q, e = .returned (.tuple #[.slice A Q.length q, .int .i64 er]) ∧ NewS IK 3 w w' (.slice A Q.length q) (ints Q)
theorem fdR_nil {er : Int} {w w' : World} (hk : Kp No w w') : FdR [] er w (.returned (.tuple #[.slice none 0 0, .int .i64 er])) w' := ⟨none, 0, rfl, ⟨Own.nil _ _ _, by simp [Value.ownBlock], hk⟩⟩
theorem finds_both (f : Flr) (hsz : f.s.size ≤ 1000000) (fr g : Int) {bv : Value} {B : List Int} {w : World} (hB : Rd IK w bv B) :
    Calls Tryd.prog 16 #[f.val, .int .i64 fr, .int .i64 g, bv] w fun e w' => ∃ Q er, FdR Q er w e w' ∧ ∀ wx bv', Rd IK wx bv' B → Calls Tryd.prog 17 #[f.val, .int .i64 fr, .int .i64 g, bv'] wx (FdR Q er wx) := by
  by_cases h : ptOk f fr = false ∨ opB f g = false
  · refine (ptFind_arg f hsz fr g hB h).mono ?_
    rintro e w' ⟨rfl, hk⟩
    refine ⟨[], 1, fdR_nil hk, fun wx bv' hr => (q5Find_arg f hsz fr g (bv := bv') ?_).mono ?_⟩
    · rcases h with h | h
      · exact .inl h
      · right
        unfold opB at h
        unfold ptOk
        cases h1 : decide (0 ≤ g) <;> cases h2 : decide (g < (f.s.size : Int)) <;> simp [h1, h2] at h ⊢
        intro _; exact h
    · rintro e w2 ⟨rfl, hk2⟩; exact fdR_nil hk2
  · have hok : ptOk f fr = true := by simpa using fun h1 => h (.inl h1)
    have hop : opB f g = true := by simpa using fun h1 => h (.inr h1)
    obtain ⟨k, rfl, hk, hr⟩ := ptOk_nat hok
    have hog : ptOk f g = true := by
      unfold opB at hop
      unfold ptOk
      rw [rightB_iff.2 hr]
      simpa using hop
    obtain ⟨c, rfl, _, _⟩ := ptOk_nat hog
    refine (ptFind_any f hsz k c hB hok hop).mono ?_
    rintro e w' (⟨h0, rfl, hk⟩ | ⟨Q, A, q, hd, hf, rfl, ns⟩)
    · refine ⟨[], 2, fdR_nil hk, fun wx bv' hr2 => (q5Find_any f hsz k c hok hog hr2 _ rfl [] (.inl h0)).mono ?_⟩
      rintro e w2 (⟨_, rfl, hk2⟩ | ⟨A, q, hd, _⟩)
      · exact fdR_nil hk2
      · simp at hd; omega
    · refine ⟨Q, 0, ⟨A, q, rfl, ns⟩, fun wx bv' hr2 => (q5Find_any f hsz k c hok hog hr2 _ rfl Q (.inr ⟨hf, hd⟩)).mono ?_⟩
      rintro e w2 (⟨h0, _⟩ | ⟨A, q, _, rfl, ns2⟩)
      · omega
      · exact ⟨A, q, rfl, ns2⟩
end Go.Proofs.YthchoknhkhfdnaaDoor

namespace Go.Proofs.YthchoknhkhfdnaaDoor
set_option linter.unusedVariables false
set_option linter.unusedSimpArgs false
open Go.RowKit

inductive ShL (f : Flr) (fr g : Int) (B D : List Int) (Q : List Nat) (er : Int) : Prop
  | arg : er = 1 → Q = [] → (D.length = 0 ∨ g < 0 ∨ g ≥ D.length ∨ ∃ x, D[g.toNat]? = some x ∧ x < 0) → ShL f fr g B D Q er
  | no (x : Int) : er = 2 → Q = [] → 0 ≤ g → g < D.length → D[g.toNat]? = some x → x < 0 → ShL f fr g B D Q er
  | ok : er = 0 → 0 ≤ g → g < D.length → D[g.toNat]? = some (Q.length : Int) → isP f fr (ints Q) B = true → (∀ (k : Nat) c, (ints Q)[k]? = some c → c ∉ fr :: (ints Q).take k) → ((Q.length : Int) = 0 ↔ fr = g) → (∀ y, (ints Q)[Q.length - 1]? = some y → y = g) → ShL f fr g B D Q er
theorem wayAt_nd (s : Nat) (Q : List Nat) (k : Nat) : wayAt s (ints Q) k = nd s Q k := by
  cases k with
  | zero => rfl
  | succ k =>
    show ((ints Q).getD k 0).toNat = Q.getD k 0
    rw [List.getD_eq_getElem?_getD, List.getD_eq_getElem?_getD]
    unfold ints
    rw [List.getElem?_map]
    cases Q[k]? <;> simp
theorem ints_at {Q : List Nat} {k : Nat} {c : Int} (h : (ints Q)[k]? = some c) : ∃ b : Nat, Q[k]? = some b ∧ (b : Int) = c := by
  unfold ints at h
  rw [List.getElem?_map] at h
  cases hq : Q[k]? with
  | none => rw [hq] at h; simp at h
  | some b => rw [hq] at h; simp at h; exact ⟨b, rfl, h⟩
theorem nd_apart {st : Nat → List Nat} {s g : Nat} {Q : List Nat} (h : FstW st s g Q) (hd : dst st s g = (Q.length : Int)) {i k b : Nat} (hb : Q[k]? = some b) (hi : i ≤ k) : nd s Q i ≠ b := by
  intro e
  have hl := (List.getElem?_eq_some_iff.1 hb).1
  have w1 := h.walk i (by omega)
  rw [e] at w1
  have w2 := (h.at_ k b hb).1
  have := dst_le (w1.trans w2)
  omega
theorem short_law (f : Flr) (hsz : f.s.size ≤ 1000000) (fr g : Int) {bv : Value} {B : List Int} {w : World} (hB : Rd IK w bv B) :
    Calls Tryd.prog 16 #[f.val, .int .i64 fr, .int .i64 g, bv] w fun e w' => ∃ Q er, FdR Q er w e w' ∧ ShL f fr g B (distP f fr B) Q er := by
  by_cases h : ptOk f fr = false ∨ opB f g = false
  · refine (ptFind_arg f hsz fr g hB h).mono ?_
    rintro e w' ⟨rfl, hk⟩
    refine ⟨[], 1, fdR_nil hk, .arg rfl rfl ?_⟩
    cases hok : ptOk f fr with
    | false => left; unfold distP; rw [hok]; simp
    | true =>
      right
      have h2 : opB f g = false := by rcases h with h | h; rw [hok] at h; simp at h; exact h
      obtain ⟨s, rfl, hs, r⟩ := ptOk_nat hok
      have e : distP f (s : Int) B = distL (stepsP f s B) s f.s.size := by unfold distP; rw [hok]; simp
      rw [e, distL_len]
      by_cases h0 : g < 0
      · exact .inl h0
      by_cases h1 : g ≥ f.s.size
      · exact .inr (.inl h1)
      right; right
      have hgl : g.toNat < f.s.size := by omega
      refine ⟨_, distL_get hgl, ?_⟩
      have h35 : bt f.s g.toNat = 35 := by
        unfold opB at h2
        simp only [Bool.and_eq_false_iff, decide_eq_false_iff_not, bne_eq_false_iff_eq] at h2
        omega
      rcases Int.lt_or_le (dst (stepsP f s B) s g.toNat) 0 with hn | hn
      · exact hn
      · exfalso
        obtain ⟨j, _, w1⟩ := dst_wk hn
        have k1 : kdS f.s g.toNat = 1 := by unfold kdS; rw [h35]; rfl
        cases w1 with
        | nil => exact ptOk_ne1 hok k1
        | step hw hc => exact (near_beside (steps_near hc).1).2 k1
  · have hok : ptOk f fr = true := by simpa using fun h1 => h (.inl h1)
    have hop : opB f g = true := by simpa using fun h1 => h (.inr h1)
    obtain ⟨s, rfl, hs, r⟩ := ptOk_nat hok
    have e : distP f (s : Int) B = distL (stepsP f s B) s f.s.size := by unfold distP; rw [hok]; simp
    obtain ⟨c, rfl, hc⟩ : ∃ c : Nat, g = c ∧ c < f.s.size := by
      unfold opB at hop
      simp only [Bool.and_eq_true, decide_eq_true_eq, bne_iff_ne] at hop
      exact ⟨g.toNat, by omega, by omega⟩
    have ec : ((c : Int)).toNat = c := by omega
    refine (ptFind_any f hsz s c hB hok hop).mono ?_
    rintro e w' (⟨h0, rfl, hk⟩ | ⟨Q, A, q, hd, hf, rfl, ns⟩)
    · refine ⟨[], 2, fdR_nil hk, ?_⟩
      rw [e]
      exact .no _ rfl rfl (by omega) (by rw [distL_len]; omega) (by rw [ec]; exact distL_get hc) h0
    · refine ⟨Q, 0, ⟨A, q, rfl, ns⟩, ?_⟩
      rw [e]
      refine .ok rfl (by omega) (by rw [distL_len]; omega) (by rw [ec, distL_get hc, hd]) ?_ ?_ ?_ ?_
      · unfold isP
        rw [if_pos hok, wayB_at]
        intro k y hy
        have e2 : ((s : Int)).toNat = s := by omega
        rw [e2, wayAt_nd]
        obtain ⟨b, hb, rfl⟩ := ints_at hy
        obtain ⟨_, m, hm, _⟩ := hf.at_ k b hb
        exact ints_mem.2 (List.mem_of_getElem? hm)
      · intro k y hy hmem
        obtain ⟨b, hb, rfl⟩ := ints_at hy
        rcases List.mem_cons.1 hmem with h1 | h1
        · exact nd_apart hf hd hb (Nat.zero_le _) (by show s = b; omega)
        · obtain ⟨i, hi⟩ := List.mem_iff_getElem?.1 h1
          rw [List.getElem?_take] at hi
          split at hi
          · rename_i hik
            obtain ⟨b2, hb2, h3⟩ := ints_at hi
            obtain rfl : b2 = b := by omega
            exact nd_apart hf hd hb (i := i + 1) (by omega) (nd_succ hb2)
          · simp at hi
      · constructor
        · intro h1
          have : Q.length = 0 := by omega
          have h2 := hf.en
          rw [this] at h2
          have h2 : s = c := h2
          omega
        · intro h1
          obtain rfl : s = c := by omega
          rw [dst_self] at hd
          omega
      · intro y hy
        obtain ⟨b, hb, rfl⟩ := ints_at hy
        have hl := (List.getElem?_eq_some_iff.1 hb).1
        have h2 := hf.en
        have h3 := nd_succ (s := s) hb
        rw [show Q.length - 1 + 1 = Q.length by omega, h2] at h3
        omega
end Go.Proofs.YthchoknhkhfdnaaDoor
