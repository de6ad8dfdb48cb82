/- carfaxref05: Map.Find; carfaxref05: Dist, Find, Is; path.Is; carfaxref05: Is; carfaxlaw05: shown, small, few; PathBlocked, PathSteps, PathBack, plain. No function of the program; PathBlocked, the walk; Arguments that are slices of rows: what they read as. No function of the program; Arguments: floors; Arguments: slices of ints. No condition. -/
import Derived.Test.YthchoknhkhfdnaaDoorM6
import Derived.Deep.RegionHeld3
import Derived.OpenShut
import Derived.Lib.SmallJoins
import Derived.Test.YthchoknhkhfdnaaDoorM5
import Derived.Test.YthchoknhkhfdnaaDoorM1
import Derived.Test.YthchoknhkhfdnaaDoorM4
import Derived.Deep.RegionLaw
import Derived.Deep.Slices
import Derived.ProofKit

namespace Go.Proofs.YthchoknhkhfdnaaDoor
set_option linter.unusedVariables false
set_option linter.unusedSimpArgs false
open Go.RowKit

set_option maxHeartbeats 1000000 in
set_option maxRecDepth 100000 in
theorem q5MFind_arg {f : Flr} {n : Nat} {M : MpC} {Vs : List SlC} {w : World} {bv : Value} (h : MpW f n M Vs w) (hn : n ≤ 1000) (fr g : Int) (hx : ptOk f fr = false ∨ ptOk f g = false) :
    Calls Tryd.prog 28 #[M.val n, .int .i64 fr, .int .i64 g, bv] w fun e w' => e = .returned (.tuple #[.slice none 0 0, .int .i64 1]) ∧ Kp No w w' := by
  obtain ⟨w1, hw1⟩ : ∃ w1, w1 = w.alloc (.cells #[.slice M.A1 n M.q1, .slice M.A2 n M.q2, .slice M.A3 n M.q3] 51) := ⟨_, rfl⟩
  have K1 := Lib.hid (show Kp No w w1 by rw [hw1]; exact (Kp.refl _ _).alloc _)
  have BX := Lib.hid (show w1.heap[w.heap.size]? = some (.cells #[.slice M.A1 n M.q1, .slice M.A2 n M.q2, .slice M.A3 n M.q3] 51 (0, 0)) by rw [hw1]; exact blk_new w _)
  have HW1 := Lib.hid hw1
  clear hw1
  have H := Lib.hid (h.no K1.out)
  have lb : ∀ wx, Kp No w1 wx → wx.cell? ⟨w.heap.size, 0, none⟩ = some (.slice M.A1 n M.q1) ∧ wx.cell? ⟨w.heap.size, 1, none⟩ = some (.slice M.A2 n M.q2) ∧ wx.cell? ⟨w.heap.size, 2, none⟩ = some (.slice M.A3 n M.q3) := fun wx hk => by
    have := hk.blk BX.out (no_no _)
    exact ⟨blk_cell this 0, blk_cell this 1, blk_cell this 2⟩
  have LB := Lib.hid lb
  clear lb
  obtain ⟨b1, hb1⟩ : ∃ b, ptOk f fr = b := ⟨_, rfl⟩
  obtain ⟨b2, hb2⟩ : ∃ b, ptOk f g = b := ⟨_, rfl⟩
  have Q1 := Lib.hid (q5open_any H.out (by omega) fr b1 hb1)
  have Q2 := Lib.hid (fun wx (hk : Kp No w1 wx) => q5open_any (H.out.no hk) (by omega) g b2 hb2)
  obtain ⟨hc0, hc1, hc2⟩ := LB.out w1 (Kp.refl _ _)
  obtain ⟨A1, q1, A2, q2, A3, q3⟩ := M
  unfold MpC.val at Q1 Q2 ⊢
  simp only at hc0 hc1 hc2 HW1 Q1 Q2 LB ⊢
  rw [hb1, hb2] at hx
  clear h H BX hb1 hb2
  cases b1 with
  | false =>
    go_enter Tryd.func28, Tryd.ntmps28
    go_upto_region 1 with fail
    rw [← HW1.out]
    go_wp2_with fail
    refine Q1.out.mono ?_
    rintro e w2 ⟨rfl, kp2⟩
    have K2 := Lib.hid (K1.out.no kp2)
    clear kp2
    go_wp2_with fail
    go_ret2
    exact ⟨rfl, K2.out⟩
  | true =>
    obtain rfl : b2 = false := by rcases hx with h | h; simp at h; exact h
    clear hx
    go_enter Tryd.func28, Tryd.ntmps28
    go_upto_region 1 with fail
    rw [← HW1.out]
    go_wp2_with fail
    refine Q1.out.mono ?_
    rintro e w2 ⟨rfl, kp2⟩
    have K2 := Lib.hid kp2
    clear kp2 hc0 hc1 hc2
    obtain ⟨hc0, hc1, hc2⟩ := LB.out w2 K2.out
    go_wp2_with fail
    refine (Q2.out w2 K2.out).mono ?_
    rintro e w3 ⟨rfl, kp3⟩
    have K3 := Lib.hid (K1.out.no (K2.out.no kp3))
    clear kp3
    go_wp2_with fail
    go_ret2
    exact ⟨rfl, K3.out⟩
set_option maxHeartbeats 2000000 in
set_option maxRecDepth 100000 in
theorem q5MFind_any {f : Flr} {n : Nat} {M : MpC} {Vs : List SlC} {w : World} {bv : Value} {B : List Int} (h : MpW f n M Vs w) (hn : n ≤ 1000) (fr g : Nat) (hok : ptOk f fr = true) (hog : ptOk f g = true) (hB : Rd IK w bv B) (d : Int) (hd : d = dst (stepsP f fr B) fr g) (Q : List Nat) (hQ : d < 0 ∨ FstW (stepsP f fr B) fr g Q ∧ d = Q.length) :
    Calls Tryd.prog 28 #[M.val n, .int .i64 (fr : Int), .int .i64 (g : Int), bv] w fun e w' => (d < 0 ∧ e = .returned (.tuple #[.slice none 0 0, .int .i64 2]) ∧ Kp No w w') ∨ ∃ A q, d = (List.length Q : Int) ∧ e = .returned (.tuple #[.slice A Q.length q, .int .i64 0]) ∧ NewS IK 3 w w' (.slice A Q.length q) (ints Q) := by
  obtain ⟨w1, hw1⟩ : ∃ w1, w1 = w.alloc (.cells #[.slice M.A1 n M.q1, .slice M.A2 n M.q2, .slice M.A3 n M.q3] 51) := ⟨_, rfl⟩
  have K1 := Lib.hid (show Kp No w w1 by rw [hw1]; exact (Kp.refl _ _).alloc _)
  have BX := Lib.hid (show w1.heap[w.heap.size]? = some (.cells #[.slice M.A1 n M.q1, .slice M.A2 n M.q2, .slice M.A3 n M.q3] 51 (0, 0)) by rw [hw1]; exact blk_new w _)
  have HW1 := Lib.hid hw1
  clear hw1
  have H := Lib.hid (h.no K1.out); have HB := Lib.hid (hB.kpNo K1.out)
  have lb : ∀ wx, Kp No w1 wx → wx.cell? ⟨w.heap.size, 0, none⟩ = some (.slice M.A1 n M.q1) ∧ wx.cell? ⟨w.heap.size, 1, none⟩ = some (.slice M.A2 n M.q2) ∧ wx.cell? ⟨w.heap.size, 2, none⟩ = some (.slice M.A3 n M.q3) := fun wx hk => by
    have := hk.blk BX.out (no_no _)
    exact ⟨blk_cell this 0, blk_cell this 1, blk_cell this 2⟩
  have LB := Lib.hid lb
  clear lb
  obtain ⟨k, hk1, hk2, hr⟩ := ptOk_nat hok
  obtain rfl : fr = k := by omega
  obtain ⟨k', hk1', hk2', _⟩ := ptOk_nat hog
  obtain rfl : g = k' := by omega
  have hnf : n = f.s.size := by rw [h.hn]; unfold mpN; rw [if_pos (rightB_iff.2 hr)]
  have hfn : fr < n := by omega
  have hgn : g < n := by omega
  obtain ⟨st, hst⟩ : ∃ st, st = stepsP f fr B := ⟨_, rfl⟩
  rw [← hst] at hd hQ
  have HSZ := Lib.hid (show ∀ u c, u < n → c ∈ st u → c < n by
    intro u c hu hc
    rw [hst] at hc
    have := steps_sz hr (show u < f.s.size by omega) hc
    omega)
  have SL := Lib.hid (show ∀ u, (st u).length ≤ 4 by intro u; rw [hst]; exact steps_len f fr B u)
  have Q1 := Lib.hid (q5open_any H.out (by omega) (fr : Int) true hok)
  have Q2 := Lib.hid (fun wx (hk : Kp No w1 wx) => q5open_any (H.out.no hk) (by omega) (g : Int) true hog)
  have F0 := Lib.hid (fun wx (hk : Kp No w1 wx) => q5far_any (H.out.no hk) hn fr fr g hok hfn hgn (HB.out.kpNo hk) d (by rw [hd, far_self, hst]))
  have FA := Lib.hid (fun wx (hk : Kp No w1 wx) u (hu : u < n) x hx => q5far_any (H.out.no hk) hn u fr g hok hu hgn (HB.out.kpNo hk) x hx)
  have FI := Lib.hid (fun a l i e (hn : dst (stepsP f fr B) fr g = ((List.length Q : Nat) : Int)) => far_iff (a := a) (l := l) (i := i) (d := e) hn)
  rw [← hst] at FI
  have QS := Lib.hid (fun u (hu : u < n) wx (hk : Kp No w1 wx) => show Calls Tryd.prog 35 #[M.val n, .int .i64 (u : Int), .int .i64 (fr : Int), bv] wx fun e w' => ∃ v, e = .returned v ∧ NewS IK 3 wx w' v (ints (st u)) by
    rw [hst]; exact q5Steps_any (H.out.no hk) (by omega) u fr hu (HB.out.kpNo hk))
  obtain ⟨hc0, hc1, hc2⟩ := LB.out w1 (Kp.refl _ _)
  obtain ⟨A1, q1, A2, q2, A3, q3⟩ := M
  unfold MpC.val at Q1 Q2 F0 FA QS ⊢
  simp only at hc0 hc1 hc2 HW1 Q1 Q2 F0 FA QS LB ⊢
  have HD := Lib.hid hd; have HQ := Lib.hid hQ; have HFN := Lib.hid hfn
  clear h H BX HB hB hok hog hk1 hk2 hr hk1' hk2' hst hd hnf hfn hgn
  go_enter Tryd.func28, Tryd.ntmps28
  go_upto_region 1 with fail
  rw [← HW1.out]
  go_wp2_with fail
  refine Q1.out.mono ?_
  rintro e w2 ⟨rfl, kp2⟩
  have K2 := Lib.hid kp2
  clear kp2 hc0 hc1 hc2
  obtain ⟨hc0, hc1, hc2⟩ := LB.out w2 K2.out
  go_wp2_with fail
  refine (Q2.out w2 K2.out).mono ?_
  rintro e w3 ⟨rfl, kp3⟩
  have K3 := Lib.hid (K2.out.no kp3)
  clear kp3 hc0 hc1 hc2
  obtain ⟨hc0, hc1, hc2⟩ := LB.out w3 K3.out
  go_wp2_with fail
  refine (F0.out w3 K3.out).mono ?_
  rintro e w4 ⟨rfl, kp4⟩
  have K4 := Lib.hid (K3.out.no kp4)
  clear kp4 hc0 hc1 hc2 Q1 Q2
  by_cases h0 : d < 0
  · clear hQ
    go_wp2_with fail
    go_ret2
    exact .inl ⟨h0, rfl, K1.out.no K4.out⟩
  · obtain ⟨fs, hdl⟩ := hQ.resolve_left h0
    have FS := Lib.hid fs
    obtain ⟨qn, hqn⟩ : ∃ qn, qn = Q.length := ⟨_, rfl⟩
    have HQN := Lib.hid hqn
    have hdq : d = (qn : Int) := by rw [hdl, hqn]
    have HDQ := Lib.hid hdq
    have hq1 : qn ≤ 1000 := by
      rcases dst_isD st fr g with ⟨h1, _⟩ | ⟨k, h1, h2, h3⟩
      · have := HD.out; omega
      · have := short_lt HFN.out HSZ.out h2 h3
        have := HD.out; omega
    subst hdq
    have HSL := Lib.hid (show ∀ k a, Wk st fr k a → a < n from fun k a hw => by
      induction hw with
      | nil => exact HFN.out
      | step _ hc ih => exact HSZ.out _ _ ih hc)
    clear hQ fs hdl hqn
    go_wp2_with fail
    go_loopg [10, 11, 12] (qn + 1) (fun g_ nv ov av wx => ∃ (i : Nat) (A : Option Addr) (q : Nat), g_ = qn + 1 - i ∧ i ≤ qn ∧ av = .int .i64 (nd fr Q i : Nat) ∧ ov = .slice A i q ∧ nv = .int .i64 ((qn : Int) - (i : Int)) ∧ NewS IK 3 w4 wx (.slice A i q) (ints (Q.take i)))
    case atStart => exact ⟨0, none, 0, rfl, by omega, rfl, rfl, by simp, NewS.nil _ _ _⟩
    case round =>
      obtain ⟨i, A, q, hg, hi, rfl, rfl, rfl, ns⟩ := hrel
      have NS := Lib.hid ns
      have HI := Lib.hid hi
      clear ns
      by_cases hlt : i < qn
      · have hpos : (0 : Int) < (qn : Int) - (i : Int) := by omega
        have HI := Lib.hid hlt
        obtain ⟨b, hb⟩ : ∃ b, Q[i]? = some b := ⟨_, List.getElem?_eq_getElem (by rw [← HQN.out]; exact hlt)⟩
        obtain ⟨hwb, m, hm, hno⟩ := FS.out.at_ i b hb
        have hwa := FS.out.walk i (by rw [← HQN.out]; exact hi)
        have NDS := Lib.hid (nd_succ (s := fr) hb)
        have HT := Lib.hid (show Q.take (i + 1) = Q.take i ++ [b] by rw [List.take_add_one, hb]; rfl)
        obtain ⟨a, ha⟩ : ∃ a, a = nd fr Q i := ⟨_, rfl⟩
        rw [← ha] at hm hno hwa ⊢
        have han := HSL.out _ _ hwa
        have S5 := Lib.hid (QS.out a han wr (K4.out.no NS.out.kp))
        obtain ⟨hc0, hc1, hc2⟩ := LB.out wr (K4.out.no NS.out.kp)
        have HM := Lib.hid hm; have HNO := Lib.hid hno; have HWA := Lib.hid hwa; have HWB := Lib.hid hwb; have HAN := Lib.hid han
        have hwn : IntKind.i64.wrap ((qn : Int) - (i : Int) - 1) = (qn : Int) - (i : Int) - 1 := IntWalk.i64_in _ (by omega)
        clear hb hwb hm hno hwa ha han hlt hi
        go_wp2_with fail
        refine S5.out.mono ?_
        rintro e w5 ⟨vL, rfl, n5⟩
        obtain ⟨AL, qL, rfl⟩ := n5.own.rd.shape
        rw [ints_len] at n5 ⊢
        obtain ⟨nL, hnL⟩ : ∃ nL, nL = (st a).length := ⟨_, rfl⟩
        have hL4 : nL ≤ 4 := by rw [hnL]; exact SL.out a
        rw [← hnL] at n5 ⊢
        have hml : m < nL := by rw [hnL]; exact (List.getElem?_eq_some_iff.1 HM.out).1
        have HNL := Lib.hid hnL
        have NS5 := Lib.hid (NS.out.kpNo n5.kp)
        rcases n5.own.b with ⟨hv, _⟩ | ⟨gL, capL, hv, _, _, _⟩
        · simp only [Value.slice.injEq] at hv; omega
        simp only [Value.slice.injEq] at hv
        obtain ⟨rfl, hzz, rfl⟩ := hv
        clear hzz
        have OL := Lib.hid n5.own
        have K5 := Lib.hid (K4.out.no NS5.out.kp)
        clear n5 hnL hc0 hc1 hc2 S5
        have hwl : IntKind.i64.wrap ((nL : Int) - 1) = (nL : Int) - 1 := IntWalk.i64_in _ (by omega)
        have CL := Lib.hid (fun (j c : Nat) (wx : World) (hc : (st a)[j]? = some c) (hk : Kp No w5 wx) => show wx.cell? ⟨gL, j, none⟩ = some (.int .i64 (c : Int)) by have := (OL.out.kpNo hk).rd.intAt (ints_get hc); simpa using this)
        go_wp2_with fail
        go_loopg [14] (m + 1) (fun g_ jv wx => ∃ j : Nat, g_ = m + 1 - j ∧ jv = .int .i64 j ∧ j ≤ m ∧ Kp No w5 wx)
        case atStart => exact ⟨0, rfl, rfl, by omega, Kp.refl _ _⟩
        case round =>
          obtain ⟨j, hgj, rfl, hj, kj⟩ := hrel
          have KJ := Lib.hid kj
          clear kj
          obtain ⟨c, hc⟩ : ∃ c, (st a)[j]? = some c := ⟨_, List.getElem?_eq_getElem (by rw [← HNL.out]; omega)⟩
          have hcc := CL.out j c wr hc KJ.out
          have hjI : (j : Int) < (nL : Int) := by omega
          have hcn := HSZ.out _ _ HAN.out (List.mem_of_getElem? hc)
          obtain ⟨hc0, hc1, hc2⟩ := LB.out wr (K5.out.no KJ.out)
          have hwj : IntKind.i64.wrap ((j : Int) + 1) = (j : Int) + 1 := IntWalk.i64_in _ (by omega)
          obtain ⟨x, hx⟩ : ∃ x, x = farP f fr B c g := ⟨_, rfl⟩
          have FC := Lib.hid (FA.out wr.drew (K5.out.no KJ.out).drew c hcn x hx)
          obtain ⟨dd, hdd⟩ : ∃ dd, dd = qn - 1 - i := ⟨_, rfl⟩
          have hfi := FI.out a c i dd (by rw [← HD.out, HQN.out]) HWA.out (List.mem_of_getElem? hc) (by rw [← HQN.out]; have := HI.out; omega)
          by_cases hjm : j < m
          · have hjl : (j : Int) < (nL : Int) - 1 := by omega
            have HJM := Lib.hid hjm
            have hne : (x != (qn : Int) - (i : Int) - 1) = true := by
              have h1 := HNO.out j c hjm hc
              rw [← HQN.out, ← hdd] at h1
              have h2 : x ≠ (dd : Int) := by rw [hx]; exact fun e => h1 (hfi.1 e)
              have h3 := HI.out
              simp; omega
            clear hc hx hfi hcn hdd hjm
            go_wp2_with fail
            have r0 : wr.drew.cell? ⟨w.heap.size, 0, none⟩ = some (.slice A1 n q1) := hc0
            have r1 : wr.drew.cell? ⟨w.heap.size, 1, none⟩ = some (.slice A2 n q2) := hc1
            have r2 : wr.drew.cell? ⟨w.heap.size, 2, none⟩ = some (.slice A3 n q3) := hc2
            have r3 : wr.drew.cell? ⟨gL, j, none⟩ = some (.int .i64 (c : Int)) := hcc
            go_region_held3 (fun w' => w'.cell? ⟨w.heap.size, 0, none⟩ = some (.slice A1 n q1) ∧ w'.cell? ⟨w.heap.size, 1, none⟩ = some (.slice A2 n q2) ∧ w'.cell? ⟨w.heap.size, 2, none⟩ = some (.slice A3 n q3) ∧ w'.cell? ⟨gL, j, none⟩ = some (.int .i64 (c : Int)))
              (first | exact ⟨by assumption, by assumption, by assumption, by assumption⟩ | exact ⟨r0, r1, r2, r3⟩)
              (first
                | (go_at_call 47; refine FC.out.mono ?_; rintro e w6 ⟨rfl, k6⟩; have t0 := k6.cellS r0 (no_no _); have t1 := k6.cellS r1 (no_no _); have t2 := k6.cellS r2 (no_no _); have t3 := k6.cellS r3 (no_no _); have K6 := Lib.hid (KJ.out.no ((Kp.refl No wr).drew.no k6)); clear k6))
            clear r0 r1 r2 r3 t0 t1 t2 t3
            go_wp2_with fail
            go_roundg (m + 1 - (j + 1))
            case measure => omega
            case rel => exact ⟨j + 1, rfl, by go_num, by have := HJM.out; omega, K6.out.no ((Kp.refl No _).drewN 0)⟩
          · obtain rfl : j = m := by omega
            obtain rfl : b = c := by have := HM.out; rw [hc] at this; exact (Option.some.inj this).symm
            have HC := Lib.hid hc
            by_cases hml2 : (j : Int) < (nL : Int) - 1
            · have hne : (x != (qn : Int) - (i : Int) - 1) = false := by
                have h1 := HWB.out
                rw [← HQN.out, ← hdd] at h1
                have h2 : x = (dd : Int) := by rw [hx]; exact hfi.2 h1
                have h3 := HI.out
                simp; omega
              clear hc hx hfi hcn hdd hjm
              go_wp2_with fail
              have r0 : wr.drew.cell? ⟨w.heap.size, 0, none⟩ = some (.slice A1 n q1) := hc0
              have r1 : wr.drew.cell? ⟨w.heap.size, 1, none⟩ = some (.slice A2 n q2) := hc1
              have r2 : wr.drew.cell? ⟨w.heap.size, 2, none⟩ = some (.slice A3 n q3) := hc2
              have r3 : wr.drew.cell? ⟨gL, j, none⟩ = some (.int .i64 (b : Int)) := hcc
              go_region_held3 (fun w' => w'.cell? ⟨w.heap.size, 0, none⟩ = some (.slice A1 n q1) ∧ w'.cell? ⟨w.heap.size, 1, none⟩ = some (.slice A2 n q2) ∧ w'.cell? ⟨w.heap.size, 2, none⟩ = some (.slice A3 n q3) ∧ w'.cell? ⟨gL, j, none⟩ = some (.int .i64 (b : Int)))
                (first | exact ⟨by assumption, by assumption, by assumption, by assumption⟩ | exact ⟨r0, r1, r2, r3⟩)
                (first
                  | (go_at_call 47; refine FC.out.mono ?_; rintro e w6 ⟨rfl, k6⟩; have t0 := k6.cellS r0 (no_no _); have t1 := k6.cellS r1 (no_no _); have t2 := k6.cellS r2 (no_no _); have t3 := k6.cellS r3 (no_no _); have K6 := Lib.hid (KJ.out.no ((Kp.refl No wr).drew.no k6)); clear k6))
              clear r0 r1 r2 r3 t0 t1 t2
              go_wp2_with (at_builtin; refine wpl_snocI (m := i) rfl (.tmp 66) (.tmp 68) rfl rfl rfl rfl (NS5.out.kpNo (K6.out.no ((Kp.refl No _).drewN 0))) (by rw [List.length_take]; have := HQN.out; have := HI.out; omega) (by have := HI.out; omega) ?_; intro A8 q8 w8 n8 k8 _; have N8 := Lib.hid n8; clear n8 k8)
              go_roundg (qn + 1 - (i + 1))
              case measure => have := HI.out; omega
              case rel => exact ⟨i + 1, A8, q8, rfl, by have := HI.out; omega, by rw [NDS.out], rfl, by simp; omega, by rw [HT.out]; exact N8.out⟩
            · have hcc6 := hcc
              have hml3 : decide ((j : Int) < (nL : Int) - 1) = false := by simpa using hml2
              clear hc hx hfi hcn hdd hjm
              go_wp2_with fail
              go_quiet (fail)
              go_wp2_with (at_builtin; refine wpl_snocI (m := i) rfl (.tmp 66) (.tmp 68) rfl rfl rfl rfl (NS5.out.kpNo (KJ.out.no ((Kp.refl No _).drewN _))) (by rw [List.length_take]; have := HQN.out; have := HI.out; omega) (by have := HI.out; omega) ?_; intro A8 q8 w8 n8 k8 _; have N8 := Lib.hid n8; clear n8 k8)
              go_roundg (qn + 1 - (i + 1))
              case measure => have := HI.out; omega
              case rel => exact ⟨i + 1, A8, q8, rfl, by have := HI.out; omega, by rw [NDS.out], rfl, by simp; omega, by rw [HT.out]; exact N8.out⟩
      · obtain rfl : i = qn := by omega
        have hd0 : ¬ (0 : Int) < (i : Int) - (i : Int) := by omega
        have HE := Lib.hid (show Q.take i = Q by rw [HQN.out, List.take_length])
        clear hlt
        go_wp2_with fail
        go_ret2
        exact .inr ⟨by rw [HQN.out], A, q, by rw [← HQN.out]; rfl, by
          have := NS.out
          rw [HE.out] at this
          rw [← HQN.out]
          exact this.from_ (K1.out.no K4.out)⟩
end Go.Proofs.YthchoknhkhfdnaaDoor

namespace Go.Proofs.YthchoknhkhfdnaaDoor
set_option linter.unusedVariables false
set_option linter.unusedSimpArgs false
open Go.RowKit

theorem mpN_le (f : Flr) : mpN f ≤ 256 := by
  unfold mpN
  split
  · rename_i h; exact (rightB_iff.1 h).s256
  · omega
set_option maxRecDepth 100000 in
theorem q5Dist_any (f : Flr) (hsz : f.s.size ≤ 1000000) (fr : Int) {bv : Value} {B : List Int} {w : World} (hB : Rd IK w bv B) :
    Calls Tryd.prog 15 #[f.val, .int .i64 fr, bv] w fun e w' => ∃ v, e = .returned v ∧ NewS IK 3 w w' v (distP f fr B) := by
  have HBX := Lib.hid (BxW.new f w)
  have HO := Lib.hid (q5Of_any f hsz (w.alloc (.cells #[.int .i64 f.W, .int .i64 f.H, .string f.s] 23)))
  have HN := Lib.hid (mpN_le f)
  have HB := Lib.hid (hB.kpNo HBX.out.kp)
  obtain ⟨F, hF⟩ : ∃ F, F = f := ⟨_, rfl⟩
  have HF := Lib.hid hF
  rw [show distP f fr B = distP F fr B by rw [hF]]
  obtain ⟨X, Y, s⟩ := f
  unfold Flr.val at HO ⊢
  clear hsz hB hF
  go_enter Tryd.func15, Tryd.ntmps15
  go_wp2_with fail
  refine HO.out.mono ?_
  rintro e w1 ⟨A1, q1, A2, q2, A3, q3, Vs, rfl, mw, kp1⟩
  have K1 := Lib.hid (HBX.out.kp.no kp1)
  have QD := Lib.hid (q5MDist_any mw (by have := HN.out; omega) fr (HB.out.kpNo kp1))
  rw [show distP ⟨X, Y, s⟩ fr B = distP F fr B by rw [HF.out]] at QD
  unfold MpC.val at QD
  simp only at QD
  clear mw kp1
  go_wp2_with fail
  refine QD.out.mono ?_
  rintro e w2 ⟨v, rfl, ns⟩
  have NS := Lib.hid (ns.from_ K1.out)
  clear ns
  go_wp2_with fail
  go_ret
  exact ⟨_, rfl, NS.out⟩
set_option maxRecDepth 100000 in
theorem q5Find_arg (f : Flr) (hsz : f.s.size ≤ 1000000) (fr g : Int) {bv : Value} {w : World} (hx : ptOk f fr = false ∨ ptOk f g = false) :
    Calls Tryd.prog 17 #[f.val, .int .i64 fr, .int .i64 g, bv] w fun e w' => e = .returned (.tuple #[.slice none 0 0, .int .i64 1]) ∧ Kp No w w' := by
  have HBX := Lib.hid (BxW.new f w)
  have HO := Lib.hid (q5Of_any f hsz (w.alloc (.cells #[.int .i64 f.W, .int .i64 f.H, .string f.s] 23)))
  have HN := Lib.hid (mpN_le f)
  have HX := Lib.hid hx
  obtain ⟨X, Y, s⟩ := f
  unfold Flr.val at HO ⊢
  clear hsz hx
  go_enter Tryd.func17, Tryd.ntmps17
  go_wp2_with fail
  refine HO.out.mono ?_
  rintro e w1 ⟨A1, q1, A2, q2, A3, q3, Vs, rfl, mw, kp1⟩
  have K1 := Lib.hid (HBX.out.kp.no kp1)
  have QD := Lib.hid (q5MFind_arg (bv := bv) mw (by have := HN.out; omega) fr g HX.out)
  unfold MpC.val at QD
  simp only at QD
  clear mw kp1
  go_wp2_with fail
  refine QD.out.mono ?_
  rintro e w2 ⟨rfl, kp2⟩
  have K2 := Lib.hid (K1.out.no kp2)
  clear kp2
  go_wp2_with fail
  go_ret2
  exact ⟨rfl, K2.out⟩
set_option maxRecDepth 100000 in
theorem q5Find_any (f : Flr) (hsz : f.s.size ≤ 1000000) (fr g : Nat) (hok : ptOk f fr = true) (hog : ptOk f g = true) {bv : Value} {B : List Int} {w : World} (hB : Rd IK w bv B) (d : Int) (hd : d = dst (stepsP f fr B) fr g) (Q : List Nat) (hQ : d < 0 ∨ FstW (stepsP f fr B) fr g Q ∧ d = Q.length) :
    Calls Tryd.prog 17 #[f.val, .int .i64 (fr : Int), .int .i64 (g : Int), bv] w fun e w' => (d < 0 ∧ e = .returned (.tuple #[.slice none 0 0, .int .i64 2]) ∧ Kp No w w') ∨ ∃ A q, d = (List.length Q : Int) ∧ e = .returned (.tuple #[.slice A Q.length q, .int .i64 0]) ∧ NewS IK 3 w w' (.slice A Q.length q) (ints Q) := by
  have HBX := Lib.hid (BxW.new f w)
  have HO := Lib.hid (q5Of_any f hsz (w.alloc (.cells #[.int .i64 f.W, .int .i64 f.H, .string f.s] 23)))
  have HN := Lib.hid (mpN_le f)
  have HB := Lib.hid (hB.kpNo HBX.out.kp)
  have H1 := Lib.hid hok; have H2 := Lib.hid hog; have H3 := Lib.hid hd; have H4 := Lib.hid hQ
  obtain ⟨X, Y, s⟩ := f
  unfold Flr.val at HO ⊢
  clear hsz hok hog hB hd hQ
  go_enter Tryd.func17, Tryd.ntmps17
  go_wp2_with fail
  refine HO.out.mono ?_
  rintro e w1 ⟨A1, q1, A2, q2, A3, q3, Vs, rfl, mw, kp1⟩
  have K1 := Lib.hid (HBX.out.kp.no kp1)
  have QD := Lib.hid (q5MFind_any mw (by have := HN.out; omega) fr g H1.out H2.out (HB.out.kpNo kp1) d H3.out Q H4.out)
  unfold MpC.val at QD
  simp only at QD
  clear mw kp1
  go_wp2_with fail
  refine QD.out.mono ?_
  rintro e w2 (⟨h0, rfl, kp2⟩ | ⟨A, q, hdl, rfl, ns⟩)
  · have K2 := Lib.hid (K1.out.no kp2)
    have H0 := Lib.hid h0
    clear kp2 h0
    go_wp2_with fail
    go_ret2
    exact .inl ⟨H0.out, rfl, K2.out⟩
  · have NS := Lib.hid (ns.from_ K1.out)
    have HDL := Lib.hid hdl
    clear ns hdl
    go_wp2_with fail
    go_ret2
    exact .inr ⟨A, q, HDL.out, rfl, NS.out⟩
end Go.Proofs.YthchoknhkhfdnaaDoor

namespace Go.Proofs.YthchoknhkhfdnaaDoor
set_option linter.unusedVariables false
set_option linter.unusedSimpArgs false
open Go.RowKit

/-- Are cells a way? -/
def wayB (st : Nat → List Nat) : Nat → List Int → Bool
  | _, [] => true
  | a, c :: cs => decide (c ∈ ints (st a)) && wayB st c.toNat cs
/-- The cell behind the first k. -/
def wayAt (a : Nat) (way : List Int) (k : Nat) : Nat := match k with
  | 0 => a
  | k + 1 => (way.getD k 0).toNat
theorem wayB_at (st : Nat → List Nat) : ∀ (way : List Int) (a : Nat), wayB st a way = true ↔ ∀ (k : Nat) c, way[k]? = some c → c ∈ ints (st (wayAt a way k)) := by
  intro way
  induction way with
  | nil => intro a; simp [wayB]
  | cons c cs ih =>
    intro a
    unfold wayB
    rw [Bool.and_eq_true, decide_eq_true_eq, ih]
    constructor
    · rintro ⟨h1, h2⟩ k d hd
      cases k with
      | zero => simp at hd; subst hd; exact h1
      | succ k =>
        have := h2 k d (by simpa using hd)
        cases k with
        | zero => exact this
        | succ k => simpa [wayAt] using this
    · intro h
      refine ⟨h 0 c rfl, fun k d hd => ?_⟩
      have := h (k + 1) d (by simpa using hd)
      cases k with
      | zero => exact this
      | succ k => simpa [wayAt] using this
noncomputable def isP (f : Flr) (fr : Int) (way B : List Int) : Bool := if ptOk f fr = true then wayB (stepsP f fr.toNat B) fr.toNat way else false

set_option maxHeartbeats 1000000 in
set_option maxRecDepth 100000 in
theorem ptIs_any (f : Flr) (hsz : f.s.size ≤ 1000000) (fr : Int) {wv bv : Value} {way B : List Int} {w : World} (hW : Rd IK w wv way) (hB : Rd IK w bv B) (b : Bool) (hb : isP f fr way B = b) :
    Calls Tryd.prog 20 #[f.val, .int .i64 fr, wv, bv] w fun e w' => e = .returned (.bool b) ∧ Kp No w w' := by
  have HBX := Lib.hid (BxW.new f w)
  cases hok : ptOk f fr with
  | false =>
    have HO := Lib.hid (ptof_no f hsz fr bv hok)
    have HD := Lib.hid (show b = false by rw [← hb]; unfold isP; rw [hok]; simp)
    obtain ⟨X, Y, s⟩ := f
    unfold Flr.val at HO ⊢
    clear hok hsz hB hb hW
    go_enter Tryd.func20, Tryd.ntmps20
    go_wp2_with (go_at_call 23; refine (HO.out _).mono ?_; rintro e w1 ⟨rfl, kp1⟩; have K1 := Lib.hid kp1; clear kp1)
    go_ret
    exact ⟨by rw [HD.out]; rfl, HBX.out.kp.no K1.out⟩
  | true =>
    obtain ⟨k, rfl, hk, hr⟩ := ptOk_nat hok
    have HO := Lib.hid (ptof_ok f hsz k (w := w.alloc (.cells #[.int .i64 f.W, .int .i64 f.H, .string f.s] 23)) (hB.alloc _) hok)
    have HD := Lib.hid (show b = wayB (stepsP f k B) k way by rw [← hb]; unfold isP; rw [hok]; simp)
    have HK := Lib.hid hk; have HR := Lib.hid hr
    obtain ⟨F, hF⟩ : ∃ F, F = f := ⟨_, rfl⟩
    have HF := Lib.hid hF
    rw [← hF] at HD HK HR
    have hlW := hW.lenI
    obtain ⟨AW, cW, rfl⟩ := hW.shape
    obtain ⟨n, hn⟩ : ∃ n, n = way.length := ⟨_, rfl⟩
    rw [← hn] at hW hlW ⊢
    unfold maxLen at hlW
    have HW := Lib.hid hW; have HN := Lib.hid hn
    obtain ⟨X, Y, s⟩ := f
    unfold Flr.val at HO ⊢
    clear hok hsz hB hk hr hF hb hW hn
    go_enter Tryd.func20, Tryd.ntmps20
    go_wp2_with fail
    refine HO.out.mono ?_
    rintro e w1 ⟨p, g1, g2, g3, Vs, rfl, pl, kp1⟩
    have PL := Lib.hid (show PlW F k (blkB F.s.size B) p g1 g2 g3 Vs w1 by rw [HF.out]; exact pl)
    have K1 := Lib.hid (HBX.out.kp.no kp1)
    clear pl kp1
    go_wp2_with fail
    go_loopg [11, 26] (n + 1) (fun g_ av iv wx => ∃ i : Nat, g_ = n + 1 - i ∧ iv = .int .i64 i ∧ i ≤ n ∧ av = .int .i64 (wayAt k way i : Nat) ∧ (∀ (j : Nat) c, j < i → way[j]? = some c → c ∈ ints (stepsP F k B (wayAt k way j))) ∧ wayAt k way i < F.s.size ∧ Kp No w1 wx)
    case atStart => exact ⟨0, rfl, rfl, by omega, rfl, fun j c hj => by omega, HK.out, Kp.refl _ _⟩
    case round =>
      obtain ⟨i, hg, rfl, hi, rfl, hall, hat, kp⟩ := hrel
      have ALL := Lib.hid hall; have KP := Lib.hid kp; have AT := Lib.hid hat
      obtain ⟨a, ha⟩ : ∃ a, a = wayAt k way i := ⟨_, rfl⟩
      rw [← ha] at AT ⊢
      have HA := Lib.hid ha
      clear hall kp hat ha
      by_cases hlt : i < n
      · have hltI : (i : Int) < (n : Int) := by omega
        have hwi : IntKind.i64.wrap ((i : Int) + 1) = (i : Int) + 1 := IntWalk.i64_in _ (by omega)
        obtain ⟨y, hy⟩ : ∃ y, way[i]? = some y := ⟨_, List.getElem?_eq_getElem (by rw [← HN.out]; exact hlt)⟩
        rcases HW.out with ⟨_, he⟩ | ⟨g, o, cap', hv, _⟩
        · have := HN.out; rw [he, List.length_nil] at this; omega
        simp only [Value.slice.injEq] at hv
        obtain ⟨rfl, hzz, rfl⟩ := hv
        clear hzz
        have hc := (HW.out.kpNo (K1.out.no KP.out)).intAt hy
        have SP := Lib.hid (ptsteps_any HR.out (PL.out.no KP.out) a AT.out)
        obtain ⟨t, ht⟩ : ∃ t, t = decide (y ∈ ints (stepsP F k B a)) := ⟨_, rfl⟩
        have HT := Lib.hid ht
        have HY := Lib.hid hy
        clear hy hlt ht
        go_wp2_with fail
        refine SP.out.mono ?_
        rintro e w2 ⟨v, rfl, ns⟩
        have CO := Lib.hid (conI_any ns.own.rd y t HT.out)
        have K2 := Lib.hid (KP.out.no ns.kp)
        clear ns hc
        go_wp2_with fail
        refine CO.out.mono ?_
        rintro e w3 ⟨rfl, kp3⟩
        have K3 := Lib.hid (K2.out.no kp3)
        clear kp3
        cases t with
        | false =>
          have HE := Lib.hid (show b = false by
            rw [HD.out]
            cases hw : wayB (stepsP F k B) k way with
            | false => rfl
            | true =>
              have h2 := HT.out
              have := (wayB_at _ _ _).1 hw i y HY.out
              rw [← HA.out] at this
              simp [this] at h2)
          go_wp2_with fail
          go_ret
          exact ⟨by rw [HE.out]; rfl, K1.out.no K3.out⟩
        | true =>
          have hm : y ∈ ints (stepsP F k B a) := by have := HT.out; simpa using this.symm
          obtain ⟨c, hcm, rfl⟩ : ∃ c : Nat, c ∈ stepsP F k B a ∧ (c : Int) = y := by
            unfold ints at hm; rw [List.mem_map] at hm; exact hm
          have hcs := steps_sz HR.out AT.out hcm
          have HA2 := Lib.hid (show wayAt k way (i + 1) = c by
            show (way.getD i 0).toNat = c
            rw [List.getD_eq_getElem?_getD, HY.out]; simp)
          have ALL2 := Lib.hid (show ∀ (j : Nat) d, j < i + 1 → way[j]? = some d → d ∈ ints (stepsP F k B (wayAt k way j)) from fun j d hj hd => by
            rcases Nat.lt_or_ge j i with h | h
            · exact ALL.out j d h hd
            · obtain rfl : j = i := by omega
              rw [HY.out] at hd; cases hd
              rw [← HA.out]; exact hm)
          have HCS := Lib.hid hcs
          clear hm hcm hcs
          go_wp2_with fail
          go_roundg (n + 1 - (i + 1))
          case measure => omega
          case rel => exact ⟨i + 1, rfl, by go_num, by omega, by rw [HA2.out], ALL2.out, by rw [HA2.out]; exact HCS.out, K3.out⟩
      · obtain rfl : i = n := by omega
        have hd0 : ¬ (i : Int) < (i : Int) := by omega
        have HE := Lib.hid (show b = true by
          rw [HD.out, wayB_at]
          intro j c hc
          exact ALL.out j c (by rw [HN.out]; exact (List.getElem?_eq_some_iff.1 hc).1) hc)
        clear hlt
        go_wp2_with fail
        go_ret
        exact ⟨by rw [HE.out]; rfl, K1.out.no KP.out⟩
end Go.Proofs.YthchoknhkhfdnaaDoor

namespace Go.Proofs.YthchoknhkhfdnaaDoor
set_option linter.unusedVariables false
set_option linter.unusedSimpArgs false
open Go.RowKit

set_option maxHeartbeats 1000000 in
set_option maxRecDepth 100000 in
theorem q5Is_any (f : Flr) (hsz : f.s.size ≤ 1000000) (fr : Int) {wv bv : Value} {way B : List Int} {w : World} (hW : Rd IK w wv way) (hB : Rd IK w bv B) (b : Bool) (hb : isP f fr way B = b) :
    Calls Tryd.prog 21 #[f.val, .int .i64 fr, wv, bv] w fun e w' => e = .returned (.bool b) ∧ Kp No w w' := by
  have HBX := Lib.hid (BxW.new f w)
  have HO := Lib.hid (q5Of_any f hsz (w.alloc (.cells #[.int .i64 f.W, .int .i64 f.H, .string f.s] 23)))
  have HN := Lib.hid (mpN_le f)
  have HB := Lib.hid (hB.kpNo HBX.out.kp)
  have hlW := hW.lenI
  obtain ⟨AW, cW, rfl⟩ := hW.shape
  obtain ⟨nW, hnW⟩ : ∃ n, n = way.length := ⟨_, rfl⟩
  rw [← hnW] at hW hlW ⊢
  unfold maxLen at hlW
  have HNW := Lib.hid hnW
  have HW := Lib.hid (hW.kpNo HBX.out.kp)
  obtain ⟨F, hF⟩ : ∃ F, F = f := ⟨_, rfl⟩
  have HF := Lib.hid hF
  rw [← hF] at hb
  have HBE := Lib.hid hb
  obtain ⟨X, Y, s⟩ := f
  unfold Flr.val at HO ⊢
  clear hsz hB hF hW hnW hb
  go_enter Tryd.func21, Tryd.ntmps21
  go_wp2_with fail
  refine HO.out.mono ?_
  rw [← HF.out]
  rintro e w1 ⟨A1, q1, A2, q2, A3, q3, Vs, rfl, mw, kp1⟩
  obtain ⟨n, hn⟩ : ∃ n, n = mpN F := ⟨_, rfl⟩
  rw [← hn] at mw ⊢
  have hn256 : n ≤ 256 := by rw [hn, HF.out]; exact HN.out
  have HNN := Lib.hid hn
  obtain ⟨w2, hw2⟩ : ∃ w2, w2 = w1.alloc (.cells #[.slice A1 n q1, .slice A2 n q2, .slice A3 n q3] 51) := ⟨_, rfl⟩
  have K2 := Lib.hid (show Kp No w w2 by rw [hw2]; exact (HBX.out.kp.no kp1).alloc _)
  have BX := Lib.hid (show w2.heap[w1.heap.size]? = some (.cells #[.slice A1 n q1, .slice A2 n q2, .slice A3 n q3] 51 (0, 0)) by rw [hw2]; exact boxM w1 _ _ _)
  have MW := Lib.hid (show MpW F n ⟨A1, q1, A2, q2, A3, q3⟩ Vs w2 by rw [hw2]; exact mw.no ((Kp.refl _ _).alloc _))
  have W2 := Lib.hid (show Rd IK w2 (.slice AW nW cW) way by rw [hw2]; exact (HW.out.kpNo kp1).alloc _)
  have B2 := Lib.hid (show Rd IK w2 bv B by rw [hw2]; exact (HB.out.kpNo kp1).alloc _)
  have HW2 := Lib.hid hw2
  have lb : ∀ wx, Kp No w2 wx → wx.cell? ⟨w1.heap.size, 0, none⟩ = some (.slice A1 n q1) ∧ wx.cell? ⟨w1.heap.size, 1, none⟩ = some (.slice A2 n q2) ∧ wx.cell? ⟨w1.heap.size, 2, none⟩ = some (.slice A3 n q3) := fun wx hk => by
    have := hk.blk BX.out (no_no _)
    exact ⟨blk_cell this 0, blk_cell this 1, blk_cell this 2⟩
  have LB := Lib.hid lb
  obtain ⟨ok, hok⟩ : ∃ b, ptOk F fr = b := ⟨_, rfl⟩
  have QO := Lib.hid (q5open_any MW.out (by omega) fr ok hok)
  have HOK := Lib.hid hok
  obtain ⟨hc0, hc1, hc2⟩ := lb w2 (Kp.refl _ _)
  unfold MpC.val at QO
  simp only at QO
  clear mw kp1 lb hok hw2 hn
  go_upto_region 2 with fail
  rw [← HW2.out]
  go_wp2_with fail
  refine QO.out.mono ?_
  rintro e w3 ⟨rfl, k3⟩
  have K3 := Lib.hid k3
  clear k3 hc0 hc1 hc2 QO
  cases ok with
  | false =>
    have HE := Lib.hid (show b = false by rw [← HBE.out]; unfold isP; rw [HOK.out]; simp)
    go_wp2_with fail
    go_ret
    exact ⟨by rw [HE.out]; rfl, K2.out.no K3.out⟩
  | true =>
    obtain ⟨k, rfl, hk, hr⟩ := ptOk_nat HOK.out
    have hnf : n = F.s.size := by rw [HNN.out]; unfold mpN; rw [if_pos (rightB_iff.2 hr)]
    have HD := Lib.hid (show b = wayB (stepsP F k B) k way by rw [← HBE.out]; unfold isP; rw [HOK.out]; simp)
    have HR := Lib.hid hr
    have HKN := Lib.hid (show k < n by omega)
    have HNF := Lib.hid hnf
    have QS := Lib.hid (fun u (hu : u < n) wx (hk : Kp No w2 wx) => show Calls Tryd.prog 35 #[.agg #[.slice A1 n q1, .slice A2 n q2, .slice A3 n q3], .int .i64 (u : Int), .int .i64 (k : Int), bv] wx fun e w' => ∃ v, e = .returned v ∧ NewS IK 3 wx w' v (ints (stepsP F k B u)) from
      q5Steps_any (MW.out.no hk) (by omega) u k hu (B2.out.kpNo hk))
    clear hk hr hnf
    go_wp2_with fail
    go_loopg [10, 11] (nW + 1) (fun g_ av iv wx => ∃ i : Nat, g_ = nW + 1 - i ∧ iv = .int .i64 i ∧ i ≤ nW ∧ av = .int .i64 (wayAt k way i : Nat) ∧ (∀ (j : Nat) c, j < i → way[j]? = some c → c ∈ ints (stepsP F k B (wayAt k way j))) ∧ wayAt k way i < n ∧ Kp No w2 wx)
    case atStart => exact ⟨0, rfl, rfl, by omega, rfl, fun j c hj => by omega, HKN.out, K3.out⟩
    case round =>
      obtain ⟨i, hg, rfl, hi, rfl, hall, hat, kp⟩ := hrel
      have ALL := Lib.hid hall; have KP := Lib.hid kp; have AT := Lib.hid hat
      obtain ⟨a, ha⟩ : ∃ a, a = wayAt k way i := ⟨_, rfl⟩
      rw [← ha] at AT ⊢
      have HA := Lib.hid ha
      clear hall kp hat ha
      by_cases hlt : i < nW
      · have hltI : (i : Int) < (nW : Int) := by omega
        have hwi : IntKind.i64.wrap ((i : Int) + 1) = (i : Int) + 1 := IntWalk.i64_in _ (by omega)
        obtain ⟨y, hy⟩ : ∃ y, way[i]? = some y := ⟨_, List.getElem?_eq_getElem (by rw [← HNW.out]; exact hlt)⟩
        rcases W2.out with ⟨_, he⟩ | ⟨g, o, cap', hv, _⟩
        · have := HNW.out; rw [he, List.length_nil] at this; omega
        simp only [Value.slice.injEq] at hv
        obtain ⟨rfl, hzz, rfl⟩ := hv
        clear hzz
        have hc := (W2.out.kpNo KP.out).intAt hy
        have SP := Lib.hid (QS.out a AT.out wr.drew KP.out.drew)
        obtain ⟨t, ht⟩ : ∃ t, t = decide (y ∈ ints (stepsP F k B a)) := ⟨_, rfl⟩
        have HT := Lib.hid ht
        have HY := Lib.hid hy
        obtain ⟨hc0, hc1, hc2⟩ := LB.out wr KP.out
        have r0 : wr.drew.cell? ⟨w1.heap.size, 0, none⟩ = some (.slice A1 n q1) := hc0
        have r1 : wr.drew.cell? ⟨w1.heap.size, 1, none⟩ = some (.slice A2 n q2) := hc1
        have r2 : wr.drew.cell? ⟨w1.heap.size, 2, none⟩ = some (.slice A3 n q3) := hc2
        have r3 : wr.drew.cell? ⟨g, o + i, none⟩ = some (.int .i64 y) := hc
        clear hy hlt ht
        go_wp2_with fail
        go_region_held3 (fun w' => w'.cell? ⟨w1.heap.size, 0, none⟩ = some (.slice A1 n q1) ∧ w'.cell? ⟨w1.heap.size, 1, none⟩ = some (.slice A2 n q2) ∧ w'.cell? ⟨w1.heap.size, 2, none⟩ = some (.slice A3 n q3) ∧ w'.cell? ⟨g, o + i, none⟩ = some (.int .i64 y))
          (first | exact ⟨by assumption, by assumption, by assumption, by assumption⟩ | exact ⟨r0, r1, r2, r3⟩)
          (first
            | (go_at_call 35; refine SP.out.mono ?_; rintro e w6 ⟨v6, rfl, n6⟩; have t0 := n6.kp.cellS r0 (no_no _); have t1 := n6.kp.cellS r1 (no_no _); have t2 := n6.kp.cellS r2 (no_no _); have t3 := n6.kp.cellS r3 (no_no _); have QI := Lib.hid (q5in_any n6.own.rd y t HT.out); have K6 := Lib.hid (KP.out.no ((Kp.refl No wr).drew.no n6.kp)); clear n6)
            | (go_at_call 34; refine QI.out.mono ?_; rintro e w7 ⟨rfl, k7⟩; have s0 := k7.cellS t0 (no_no _); have s1 := k7.cellS t1 (no_no _); have s2 := k7.cellS t2 (no_no _); have s3 := k7.cellS t3 (no_no _); have K7 := Lib.hid (K6.out.no k7); clear k7))
        clear r0 r1 r2 r3 t0 t1 t2 hc0 hc1 hc2 hc t3
        cases t with
        | false =>
          have HE := Lib.hid (show b = false by
            rw [HD.out]
            cases hw : wayB (stepsP F k B) k way with
            | false => rfl
            | true =>
              have h2 := HT.out
              have := (wayB_at _ _ _).1 hw i y HY.out
              rw [← HA.out] at this
              simp [this] at h2)
          go_wp2_with fail
          go_ret
          exact ⟨by rw [HE.out]; rfl, K2.out.no (K7.out.no ((Kp.refl No _).drewN 0))⟩
        | true =>
          have hm : y ∈ ints (stepsP F k B a) := by have := HT.out; simpa using this.symm
          obtain ⟨c, hcm, rfl⟩ : ∃ c : Nat, c ∈ stepsP F k B a ∧ (c : Int) = y := by
            unfold ints at hm; rw [List.mem_map] at hm; exact hm
          have hcs := steps_sz HR.out (show a < F.s.size by rw [← HNF.out]; exact AT.out) hcm
          rw [← HNF.out] at hcs
          have HA2 := Lib.hid (show wayAt k way (i + 1) = c by
            show (way.getD i 0).toNat = c
            rw [List.getD_eq_getElem?_getD, HY.out]; simp)
          have ALL2 := Lib.hid (show ∀ (j : Nat) d, j < i + 1 → way[j]? = some d → d ∈ ints (stepsP F k B (wayAt k way j)) from fun j d hj hd => by
            rcases Nat.lt_or_ge j i with h | h
            · exact ALL.out j d h hd
            · obtain rfl : j = i := by omega
              rw [HY.out] at hd; cases hd
              rw [← HA.out]; exact hm)
          have HCS := Lib.hid hcs
          clear hm hcm hcs
          go_wp2_with fail
          go_roundg (nW + 1 - (i + 1))
          case measure => omega
          case rel => exact ⟨i + 1, rfl, by go_num, by omega, by rw [HA2.out], ALL2.out, by rw [HA2.out]; exact HCS.out, K7.out.no ((Kp.refl No _).drewN 0)⟩
      · obtain rfl : i = nW := by omega
        have hd0 : ¬ (i : Int) < (i : Int) := by omega
        have HE := Lib.hid (show b = true by
          rw [HD.out, wayB_at]
          intro j c hc
          exact ALL.out j c (by rw [HNW.out]; exact (List.getElem?_eq_some_iff.1 hc).1) hc)
        clear hlt
        go_wp2_with fail
        go_ret
        exact ⟨by rw [HE.out]; rfl, K2.out.no KP.out⟩
end Go.Proofs.YthchoknhkhfdnaaDoor

namespace Go.Proofs.YthchoknhkhfdnaaDoor
set_option linter.unusedVariables false
set_option linter.unusedSimpArgs false
open Go.RowKit

theorem find_of {B : List Int} {g : Nat} {R : List Nat} (hg : opB fS g = true) (hd : dst (stepsP fS 0 B) 0 g = (R.length : Int)) (hf : FstW (stepsP fS 0 B) 0 g R) {w : World} {bv : Value} (hB : Rd IK w bv B) :
    Calls Tryd.prog 16 #[fS.val, .int .i64 0, .int .i64 (g : Int), bv] w fun e w' => ∃ A q, e = .returned (.tuple #[.slice A R.length q, .int .i64 0]) ∧ NewS IK 3 w w' (.slice A R.length q) (ints R) := by
  refine (ptFind_any fS (by decide) 0 g hB ok_S hg).mono ?_
  rintro e w' (⟨h, _⟩ | ⟨Q, A, q, h1, h2, rfl, h4⟩)
  · omega
  · have hl : Q.length = R.length := by omega
    obtain rfl := h2.uniq hf hl
    exact ⟨A, q, rfl, h4⟩
theorem len_S : fS.s.size = 15 := by decide
set_option maxHeartbeats 1000000 in
set_option maxRecDepth 100000 in
theorem shown05_any (w : World) : Calls Tryd.prog 10 #[] w fun e w' => e = .returned (.bool true) ∧ Kp No w w' := by
  have hpS := Lib.hid (parse_at _ (by decide) _ parse_S (.tuple #[.agg #[.int .i64 5, .int .i64 3, .string fS.s], .int .i64 0, .int .i64 0]) rfl)
  have FA := Lib.hid (fun w => find_of op_S ds_a fw_a (Rd.nil IK w))
  have FB := Lib.hid (fun w => find_of op_S ds_b fw_b (w := w.alloc (.cells #[.int .i64 2] 3)) (Rd.litAt IK 3 w _ [2] rfl (by unfold maxLen; simp) _ _ rfl rfl))
  have DA := Lib.hid (fun w => ptDist_any fS (by decide) 0 (Rd.nil IK w))
  have HD := Lib.hid (show distP fS 0 [] = distL (stepsP fS 0 []) 0 15 by unfold distP; rw [ok_S]; rfl)
  unfold Flr.val at FA FB DA
  simp only [fS] at hpS
  obtain ⟨S, hS⟩ : ∃ S, S = fS.s := ⟨_, rfl⟩
  have e1 : fS.W = 5 := rfl
  have e2 : fS.H = 3 := rfl
  rw [e1, e2, ← hS] at FA FB DA
  rw [show (⟨#[48, 97, 97, 98, 49, 35, 99, 35, 100, 35, 50, 101, 101, 102, 102]⟩ : ByteArray) = S from hS.symm] at hpS
  have L4 : ([1, 2, 3, 4] : List Nat).length = 4 := rfl
  have L8 : ([1, 6, 11, 12, 13, 8, 3, 4] : List Nat).length = 8 := rfl
  rw [L4] at FA
  rw [L8] at FB
  clear hS
  go_enter Tryd.func10, Tryd.ntmps10
  go_wp2_with fail
  refine (hpS.out _).mono ?_
  rintro e w1 ⟨rfl, k1⟩
  have K1 := Lib.hid (k1.alloc (.cells #[.int .i64 5, .int .i64 3, .string S] 23))
  obtain ⟨b1, hb1⟩ : ∃ b1, b1 = w1.heap.size := ⟨_, rfl⟩
  obtain ⟨w2, hw2⟩ : ∃ w2, w2 = w1.alloc (.cells #[.int .i64 5, .int .i64 3, .string S] 23) := ⟨_, rfl⟩
  have BX := Lib.hid (show w2.heap[b1]? = some (.cells #[.int .i64 5, .int .i64 3, .string S] 23 (0, 0)) by rw [hw2, hb1]; exact blk_new w1 _)
  rw [← hw2] at K1
  have HW2 := Lib.hid hw2; have HB1 := Lib.hid hb1
  clear k1 hw2 hb1
  have lb : ∀ wx, Kp No w2 wx → wx.cell? ⟨b1, 0, none⟩ = some (.int .i64 5) ∧ wx.cell? ⟨b1, 1, none⟩ = some (.int .i64 3) ∧ wx.cell? ⟨b1, 2, none⟩ = some (.string S) := fun wx hk => by
    have := hk.blk BX.out (no_no _)
    exact ⟨blk_cell this 0, blk_cell this 1, blk_cell this 2⟩
  have LB := Lib.hid lb
  clear lb
  go_upto_region 2 with fail
  rw [← HW2.out, ← HB1.out]
  obtain ⟨hc0, hc1, hc2⟩ := LB.out w2 (Kp.refl _ _)
  go_wp2_with fail
  refine (FA.out _).mono ?_
  rintro e w3 ⟨A3, q3, rfl, n3⟩
  have N3 := Lib.hid n3
  clear n3 hc0 hc1 hc2
  obtain ⟨hc0, hc1, hc2⟩ := LB.out w3 N3.out.kp
  have hc := fun o => LB.out (w3.alloc o) (N3.out.kp.alloc o)
  go_wp2_with fail
  refine (FB.out _).mono ?_
  rintro e w4 ⟨A4, q4, rfl, n4⟩
  have N4 := Lib.hid n4
  have K4 := Lib.hid ((N3.out.kp.alloc _).no n4.kp)
  have N3' := Lib.hid ((N3.out.alloc (.cells #[.int .i64 2] 3)).kpNo n4.kp)
  clear n4 hc0 hc1 hc2 hc
  obtain ⟨hc0, hc1, hc2⟩ := LB.out w4 K4.out
  go_wp2_with fail
  refine (DA.out _).mono ?_
  rintro e w5 ⟨v5, rfl, n5⟩
  rw [HD.out] at n5
  obtain ⟨A5, q5, rfl⟩ := n5.own.rd.shape
  rw [distL_len] at n5 ⊢
  have K5 := Lib.hid (K1.out.no (K4.out.no n5.kp))
  have R3 := Lib.hid ((N3'.out.kpNo n5.kp).own.rd)
  have R4 := Lib.hid ((N4.out.kpNo n5.kp).own.rd)
  have R5 := Lib.hid n5.own.rd
  obtain ⟨g5, o5, rfl⟩ := n5.own.rd.some_ (by omega)
  clear n5 hc0 hc1 hc2
  go_wp2_with fail
  have l4 := Lib.hid (show Rd IK (w5.alloc (.cells #[.int .i64 1, .int .i64 2, .int .i64 3, .int .i64 4] 3)) (.slice (some ⟨w5.heap.size, 0, none⟩) 4 4) [1, 2, 3, 4] from Rd.litAt IK 3 w5 _ [1, 2, 3, 4] rfl (by unfold maxLen; simp) _ _ rfl rfl)
  refine (sameInts_any (R3.out.alloc _) l4.out true (by decide)).mono ?_
  rintro e w6 ⟨rfl, k6⟩
  have K6 := Lib.hid (K5.out.no (((Kp.refl No _).alloc _).no k6))
  have R46 := Lib.hid ((R4.out.alloc (.cells #[.int .i64 1, .int .i64 2, .int .i64 3, .int .i64 4] 3)).kpNo k6)
  have R56 := Lib.hid ((R5.out.alloc (.cells #[.int .i64 1, .int .i64 2, .int .i64 3, .int .i64 4] 3)).kpNo k6)
  clear k6
  go_wp2_with fail
  have l8 := Lib.hid (show Rd IK (w6.alloc (.cells #[.int .i64 1, .int .i64 6, .int .i64 11, .int .i64 12, .int .i64 13, .int .i64 8, .int .i64 3, .int .i64 4] 3)) (.slice (some ⟨w6.heap.size, 0, none⟩) 8 8) [1, 6, 11, 12, 13, 8, 3, 4] from Rd.litAt IK 3 w6 _ [1, 6, 11, 12, 13, 8, 3, 4] rfl (by unfold maxLen; simp) _ _ rfl rfl)
  refine (sameInts_any (R46.out.alloc _) l8.out true (by decide)).mono ?_
  rintro e w7 ⟨rfl, k7⟩
  have K7 := Lib.hid (K6.out.no (((Kp.refl No _).alloc _).no k7))
  have hcd : w7.cell? ⟨g5, o5 + 10, none⟩ = some (.int .i64 4) := by
    have := ((R56.out.alloc (.cells #[.int .i64 1, .int .i64 6, .int .i64 11, .int .i64 12, .int .i64 13, .int .i64 8, .int .i64 3, .int .i64 4] 3)).kpNo k7).intAt (distL_get (st := stepsP fS 0 []) (s := 0) (show 10 < 15 by omega))
    rw [ds_d] at this
    exact this
  clear k7
  go_wp2_with fail
  go_ret
  exact ⟨rfl, K7.out⟩
set_option maxRecDepth 100000 in
theorem small05_any (f : Flr) (hsz : f.s.size ≤ 9223372036854775807) (b : Bool) (hb : b = decide (f.s.size ≤ 80)) (w : World) : Calls Tryd.prog 11 #[f.val] w fun e w' => e = .returned (.bool b) ∧ Kp No w w' := by
  have HBX := Lib.hid (BxW.new f w)
  have HB := Lib.hid hb
  obtain ⟨X, Y, s⟩ := f
  obtain ⟨n, hn⟩ : ∃ n, n = s.size := ⟨_, rfl⟩
  have hnI : ((s.size : Nat) : Int) = (n : Int) := by omega
  have HE := Lib.hid (show decide ((n : Int) ≤ 80) = b by
    rw [hb, decide_eq_decide]
    show (n : Int) ≤ 80 ↔ s.size ≤ 80
    omega)
  unfold Flr.val
  clear hb hn hsz
  go_enter Tryd.func11, Tryd.ntmps11
  go_wp2_with fail
  go_ret
  exact ⟨by have := HE.out; simp at this ⊢; exact this, HBX.out.kp⟩
set_option maxRecDepth 100000 in
theorem few05_any {v : Value} {l : List Int} {w : World} (h : Rd IK w v l) : Calls Tryd.prog 14 #[v] w fun e w' => ∃ v', e = .returned v' ∧ Rd IK w' v' (l.take 50) ∧ (∀ g, v'.ownBlock = some g → v.ownBlock = some g) ∧ Kp No w w' := by
  have hl := h.lenI
  obtain ⟨v2, hr, h2, h3⟩ := h.upto elI (min l.length 50) (by omega) (min (l.length : Int) 50) (by omega)
  rw [show l.take (min l.length 50) = l.take 50 by rw [Nat.min_comm, ← List.take_take, List.take_length]] at h2
  obtain ⟨A, c, rfl⟩ := h.shape
  obtain ⟨n, hn⟩ : ∃ n, n = l.length := ⟨_, rfl⟩
  rw [← hn] at hr hl h3 ⊢
  have H2 := Lib.hid h2; have H3 := Lib.hid h3
  unfold maxLen at hl
  clear h h2 h3 hn
  go_enter Tryd.func14, Tryd.ntmps14
  go_wp2_with fail
  go_ret
  exact ⟨_, rfl, H2.out, H3.out, Kp.refl _ _⟩
end Go.Proofs.YthchoknhkhfdnaaDoor

namespace Go.Proofs.YthchoknhkhfdnaaDoor
set_option linter.unusedVariables false
set_option linter.unusedSimpArgs false
open Go.RowKit

theorem dst_mono {st st' : Nat → List Nat} (hs : ∀ u c, c ∈ st' u → c ∈ st u) {s c : Nat} (h : 0 ≤ dst st' s c) : 0 ≤ dst st s c ∧ dst st s c ≤ dst st' s c := by
  rcases dst_isD st' s c with ⟨e, _⟩ | ⟨k, e, hw, _⟩
  · omega
  · have hw2 := hw.sub hs
    rcases dst_isD st s c with ⟨_, h2⟩ | ⟨j, e2, _, h3⟩
    · exact absurd hw2 (h2 k)
    · have := h3 k hw2; omega
theorem steps_more {f : Flr} {fr : Nat} {B C : List Int} : ∀ u c, c ∈ stepsP f fr (B ++ C) u → c ∈ stepsP f fr B u := by
  intro u c h
  unfold stepsP at h ⊢
  split at h
  · simp at h
  · rename_i hx
    rw [if_neg hx]
    rw [List.mem_filter] at h ⊢
    refine ⟨h.1, ?_⟩
    have h2 := h.2
    simp at h2 ⊢
    exact h2.1
theorem dist_len (f : Flr) (fr : Int) (B C : List Int) : (distP f fr B).length = (distP f fr C).length := by
  unfold distP
  split
  · rw [distL_len, distL_len]
  · rfl
theorem dist_less {f : Flr} {fr : Int} {B C : List Int} {i : Nat} {a b : Int} (ha : (distP f fr B)[i]? = some a) (hb : (distP f fr (B ++ C))[i]? = some b) (h0 : 0 ≤ b) : 0 ≤ a ∧ a ≤ b := by
  unfold distP at ha hb
  by_cases hok : ptOk f fr = true
  · rw [if_pos hok] at ha hb
    have hl := (List.getElem?_eq_some_iff.1 ha).1
    rw [distL_len] at hl
    rw [distL_get hl] at ha hb
    cases ha; cases hb
    exact dst_mono steps_more h0
  · rw [if_neg hok] at ha; simp at ha
end Go.Proofs.YthchoknhkhfdnaaDoor

namespace Go.Proofs.YthchoknhkhfdnaaDoor
set_option linter.unusedVariables false
set_option linter.unusedSimpArgs false
open Go.RowKit

set_option maxRecDepth 100000 in
/-- few, the world as it was. -/
theorem few05_same {v : Value} {l : List Int} {w : World} (h : Rd IK w v l) : Calls Tryd.prog 14 #[v] w fun e w' => ∃ v', e = .returned v' ∧ Rd IK w v' (l.take 50) ∧ (∀ g, v'.ownBlock = some g → v.ownBlock = some g) ∧ w' = w := by
  have hl := h.lenI
  obtain ⟨v2, hr, h2, h3⟩ := h.upto elI (min l.length 50) (by omega) (min (l.length : Int) 50) (by omega)
  rw [show l.take (min l.length 50) = l.take 50 by rw [Nat.min_comm, ← List.take_take, List.take_length]] at h2
  obtain ⟨A, c, rfl⟩ := h.shape
  obtain ⟨n, hn⟩ : ∃ n, n = l.length := ⟨_, rfl⟩
  rw [← hn] at hr hl h3 ⊢
  have H2 := Lib.hid h2; have H3 := Lib.hid h3
  unfold maxLen at hl
  clear h h2 h3 hn
  go_enter Tryd.func14, Tryd.ntmps14
  go_wp2_with fail
  go_ret
  exact ⟨_, rfl, H2.out, H3.out, rfl⟩
set_option maxHeartbeats 2000000 in
set_option maxRecDepth 100000 in
theorem blocked_row (f : Flr) (hsz : f.s.size ≤ 9223372036854775807) (fr : Int) {bv cv : Value} {B C : List Int} {w : World} (hB : Rd IK w bv B) (hC : Rd IK w cv C) : Calls Tryd.prog 5 #[f.val, .int .i64 fr, bv, cv] w (LawR w) := by
  unfold LawR
  have HSH := Lib.hid shown05_any
  have HBX := Lib.hid (BxW.new f w)
  have HB := Lib.hid hB; have HC := Lib.hid hC
  obtain ⟨t, ht⟩ : ∃ t, t = decide (f.s.size ≤ 80) := ⟨_, rfl⟩
  have SM := Lib.hid (fun w => small05_any f hsz t ht w)
  have PD := Lib.hid (fun (h80 : f.s.size ≤ 80) wx bv' L (h : Rd IK wx bv' L) => ptDist_any f (by omega) fr h)
  obtain ⟨B5, hB5⟩ : ∃ l, l = B.take 50 := ⟨_, rfl⟩
  obtain ⟨C5, hC5⟩ : ∃ l, l = C.take 50 := ⟨_, rfl⟩
  have FB := Lib.hid (fun wx (h : Kp No w wx) => few05_same (w := wx) (hB.kpNo h))
  have FC := Lib.hid (fun wx (h : Kp No w wx) => few05_same (w := wx) (hC.kpNo h))
  have LB5 := Lib.hid (show B5.length ≤ 50 by rw [hB5, List.length_take]; omega)
  have LC5 := Lib.hid (show C5.length ≤ 50 by rw [hC5, List.length_take]; omega)
  rw [← hB5] at FB
  rw [← hC5] at FC
  have DL := Lib.hid (fun (i : Nat) a b => dist_less (f := f) (fr := fr) (B := B5) (C := C5) (i := i) (a := a) (b := b))
  have DN := Lib.hid (dist_len f fr B5 (B5 ++ C5))
  obtain ⟨N1, hN1⟩ : ∃ N, N = distP f fr B5 := ⟨_, rfl⟩
  obtain ⟨N2, hN2⟩ : ∃ N, N = distP f fr (B5 ++ C5) := ⟨_, rfl⟩
  rw [← hN1, ← hN2] at DL DN
  have P1 := Lib.hid (fun h80 wx bv' h => show Calls Tryd.prog 13 #[f.val, .int .i64 fr, bv'] wx fun e w' => ∃ v, e = .returned v ∧ NewS IK 3 wx w' v N1 by rw [hN1]; exact PD.out h80 wx bv' B5 h)
  have P2 := Lib.hid (fun h80 wx bv' h => show Calls Tryd.prog 13 #[f.val, .int .i64 fr, bv'] wx fun e w' => ∃ v, e = .returned v ∧ NewS IK 3 wx w' v N2 by rw [hN2]; exact PD.out h80 wx bv' (B5 ++ C5) h)
  have H80 := Lib.hid (show t = true → f.s.size ≤ 80 by intro e; rw [ht] at e; simpa using e)
  obtain ⟨n, hn⟩ : ∃ n, n = N1.length := ⟨_, rfl⟩
  have HN1 := Lib.hid hn.symm
  have HN2 := Lib.hid (show N2.length = n by rw [hn, DN.out])
  obtain ⟨X, Y, s⟩ := f
  unfold Flr.val at SM P1 P2 ⊢
  clear ht hsz hB hC PD hN1 hN2 HB HC hB5 hC5 hn DN
  cases t with
  | false =>
    go_enter Tryd.func5, Tryd.ntmps5
    go_wp2_with fail
    refine (HSH.out _).mono ?_
    rintro e w1 ⟨rfl, k1⟩
    have B1 := Lib.hid (HBX.out.no k1)
    have hb0 : w1.cell? ⟨w.heap.size, 0, none⟩ = some (.int .i64 X) := B1.out.c0
    have hb1 : w1.cell? ⟨w.heap.size, 1, none⟩ = some (.int .i64 Y) := B1.out.c1
    have hb2 : w1.cell? ⟨w.heap.size, 2, none⟩ = some (.string s) := B1.out.c2
    clear k1
    go_wp2_with fail
    refine (SM.out _).mono ?_
    rintro e w2 ⟨rfl, k2⟩
    have K2 := Lib.hid (B1.out.kp.no k2)
    clear k2
    go_wp2_with fail
    go_ret
    exact ⟨rfl, K2.out⟩
  | true =>
    have h80 := H80.out rfl
    have PD1 := Lib.hid (P1.out h80)
    have PD2 := Lib.hid (P2.out h80)
    clear P1 P2 H80 h80
    go_enter Tryd.func5, Tryd.ntmps5
    go_wp2_with fail
    refine (HSH.out _).mono ?_
    rintro e w1 ⟨rfl, k1⟩
    have B1 := Lib.hid (HBX.out.no k1)
    have hb0 : w1.cell? ⟨w.heap.size, 0, none⟩ = some (.int .i64 X) := B1.out.c0
    have hb1 : w1.cell? ⟨w.heap.size, 1, none⟩ = some (.int .i64 Y) := B1.out.c1
    have hb2 : w1.cell? ⟨w.heap.size, 2, none⟩ = some (.string s) := B1.out.c2
    clear k1
    go_wp2_with fail
    refine (SM.out _).mono ?_
    rintro e w2 ⟨rfl, k2⟩
    have B2 := Lib.hid (B1.out.no k2)
    clear k2 hb0 hb1 hb2
    have lb : ∀ wx, Kp No w2 wx → wx.cell? ⟨w.heap.size, 0, none⟩ = some (.int .i64 X) ∧ wx.cell? ⟨w.heap.size, 1, none⟩ = some (.int .i64 Y) ∧ wx.cell? ⟨w.heap.size, 2, none⟩ = some (.string s) := fun wx hk => ⟨(B2.out.no hk).c0, (B2.out.no hk).c1, (B2.out.no hk).c2⟩
    have LB := Lib.hid lb
    clear lb
    obtain ⟨r0, r1, r2⟩ := LB.out w2.drew (Kp.refl _ _).drew
    go_wp2_with fail
    go_cut [10, 18, 19, 20, 21, 22] (fun v10 _ _ _ _ _ wx => ∃ A c, v10 = .slice A n c ∧ Rd IK wx (.slice A n c) N1 ∧ Kp No w2 wx)
    case first =>
      go_region_law (first
        | (go_simp; go_at_call 14; refine (FB.out w2.drew B2.out.kp.drew).mono ?_; rintro e w3 ⟨v3, rfl, f3, _, rfl⟩; have F3 := Lib.hid f3; clear f3)
        | (go_simp; go_at_call 13; refine (PD1.out _ _ F3.out).mono ?_; rintro e w4 ⟨v4, rfl, n4⟩; have N4 := Lib.hid n4; clear n4))
      all_goals
        go_wp2_with fail
        go_meet
        obtain ⟨A4, c4, h4⟩ := N4.out.own.rd.shape
        rw [HN1.out] at h4
        exact ⟨A4, c4, h4, by rw [← h4]; exact N4.out.own.rd, (Kp.refl No w2).drew.no N4.out.kp⟩
    case rest =>
      obtain ⟨A, c, rfl, ra, ka⟩ := hcut
      have RA := Lib.hid ra; have KA := Lib.hid ka
      have hl63 : n ≤ maxLen := by have := ra.lenI; rw [HN1.out] at this; exact this
      unfold maxLen at hl63
      clear ra ka r0 r1 r2 PD1
      obtain ⟨wp, hwp⟩ : ∃ x : World, x = wc := ⟨_, rfl⟩
      rw [← hwp] at RA KA ⊢
      clear hwp
      obtain ⟨r0, r1, r2⟩ := LB.out wp.drew KA.out.drew
      have rb0 := fun o => (LB.out _ (KA.out.alloc o)).1
      have rb1 := fun o => (LB.out _ (KA.out.alloc o)).2.1
      have rb2 := fun o => (LB.out _ (KA.out.alloc o)).2.2
      have hb1 : ([] : List Int).length + B5.length ≤ maxLen ∧ ([] : List Int).length + B5.length ≤ 50 := by have := LB5.out; unfold maxLen; simp; omega
      have hb2 : B5.length + C5.length ≤ maxLen ∧ B5.length + C5.length ≤ 100 := by have := LB5.out; have := LC5.out; unfold maxLen; omega
      obtain ⟨M, hM⟩ : ∃ M, M = B5 ++ C5 := ⟨_, rfl⟩
      rw [← hM] at PD2
      have HM := Lib.hid hM
      clear hM
      have HB1 := Lib.hid hb1; have HB2 := Lib.hid hb2
      clear hb1 hb2
      go_upto_region 5 with fail
      go_cut [11, 23, 24, 25, 26, 27, 28, 29, 30, 31, 32] (fun v11 _ _ _ _ _ _ _ _ _ _ wx => ∃ A c, v11 = .slice A n c ∧ Rd IK wx (.slice A n c) N2 ∧ Kp No wp wx)
      case first =>
        go_region_law (first
          | (refine stp_app elI rfl (.tmp 28) (.tmp 30) rfl rfl rfl (l := B5) (m := C5) N5.out.own G3.out HB2.out.1 (by have := HB2.out.2; omega) ?_; intro v7 w7 m1 m2 m3; rw [← HM.out] at m1; have n7 := NewS.app N5.out (Kp.refl No _) m1 m2 m3 (Nat.le_refl _); obtain ⟨A7, c7, rfl⟩ := m1.rd.shape; obtain ⟨u0, u1, u2⟩ := LB.out w7 (KA.out.drew.no n7.kp); have N7 := Lib.hid n7; clear m1 m2 m3 n7)
          | (refine stp_app elI rfl (.tmp 25) (.tmp 27) rfl rfl rfl (l := []) (m := B5) (NewS.empty IK 3 wp.drew).own (F3.out.kpNo (by first | exact (Kp.refl _ _) | exact (Kp.refl _ _).alloc _)) HB1.out.1 (by have := HB1.out.2; omega) ?_; intro v5 w5 m1 m2 m3; rw [List.nil_append] at m1; have n5 := NewS.app (NewS.empty IK 3 wp.drew) (Kp.refl No _) m1 m2 m3 (by simp); obtain ⟨A5, c5, rfl⟩ := m1.rd.shape; obtain ⟨x0, x1, x2⟩ := LB.out w5 (KA.out.drew.no n5.kp); have N5 := Lib.hid n5; clear m1 m2 m3 n5)
          | (go_simp; go_at_call 14; refine (FC.out w5 (B2.out.kp.no (KA.out.drew.no N5.out.kp))).mono ?_; rintro e w6 ⟨v6, rfl, g3, _, rfl⟩; have G3 := Lib.hid g3; clear g3)
          | (go_simp; go_at_call 14; refine (FB.out _ (by first | exact B2.out.kp.no KA.out.drew | exact B2.out.kp.no (KA.out.drew.alloc _))).mono ?_; rintro e w3 ⟨v3, rfl, f3, _, rfl⟩; have F3 := Lib.hid f3; clear f3)
          | (go_simp; go_at_call 13; refine (PD2.out _ _ N7.out.own.rd).mono ?_; rintro e w8 ⟨v8, rfl, n8⟩; have N8 := Lib.hid n8; clear n8))
        all_goals
          go_wp2_with fail
          go_meet
          obtain ⟨A4, c4, h4⟩ := N8.out.own.rd.shape
          rw [HN2.out] at h4
          exact ⟨A4, c4, h4, by rw [← h4]; exact N8.out.own.rd, ((Kp.refl No wp).drew.no N7.out.kp).no N8.out.kp⟩
      case rest =>
        obtain ⟨A', c', rfl, ra', ka'⟩ := hcut
        have RB := Lib.hid ra'
        have RA2 := Lib.hid (RA.out.kpNo ka')
        have KB := Lib.hid (B2.out.kp.no (KA.out.no ka'))
        clear ra' ka' r0 r1 r2 rb0 rb1 rb2 PD2 RA
        have hnn : ((n : Int) != (n : Int)) = false := by simp
        obtain ⟨wq, hwq⟩ : ∃ x : World, x = wc := ⟨_, rfl⟩
        rw [← hwq] at RA2 RB KB ⊢
        clear hwq
        go_wp2_with fail
        go_loopg [40, 12] (n + 1) (fun g_ iv _ wx => ∃ i : Nat, g_ = n + 1 - i ∧ iv = .int .i64 i ∧ i ≤ n ∧ Kp No wq wx)
        case atStart => exact ⟨0, rfl, rfl, by omega, Kp.refl _ _⟩
        case round =>
          obtain ⟨i, hg, rfl, hi, kp⟩ := hrel
          have KP := Lib.hid kp
          clear kp
          by_cases hlt : i < n
          · have hltI : (i : Int) < (n : Int) := by omega
            have h0 : (0 : Int) ≤ (i : Int) := by omega
            have hwi : IntKind.i64.wrap ((i : Int) + 1) = (i : Int) + 1 := IntWalk.i64_in _ (by omega)
            obtain ⟨a, ha⟩ : ∃ a, N1[i]? = some a := ⟨_, List.getElem?_eq_getElem (by rw [HN1.out]; exact hlt)⟩
            obtain ⟨b, hb⟩ : ∃ b, N2[i]? = some b := ⟨_, List.getElem?_eq_getElem (by rw [HN2.out]; exact hlt)⟩
            rcases RA2.out with ⟨_, he⟩ | ⟨g, o, cap', hv, _⟩
            · rw [he] at ha; simp at ha
            simp only [Value.slice.injEq] at hv
            obtain ⟨rfl, hz1, rfl⟩ := hv
            rcases RB.out with ⟨_, he⟩ | ⟨g', o', cap'', hv, _⟩
            · rw [he] at hb; simp at hb
            simp only [Value.slice.injEq] at hv
            obtain ⟨rfl, hz2, rfl⟩ := hv
            clear hz1 hz2
            have hca := (RA2.out.kpNo KP.out).intAt ha
            have hcb := (RB.out.kpNo KP.out).intAt hb
            have DD := Lib.hid (DL.out i a b ha hb)
            clear ha hb hlt
            by_cases hb0 : b ≥ 0
            · have hga : ¬ a < 0 := by have := DD.out hb0; omega
              have hgb : ¬ a > b := by have := DD.out hb0; omega
              have e1 : decide (b ≥ 0) = true := by simpa using hb0
              have e2 : decide (a < 0) = false := by simpa using hga
              have e3 : decide (a > b) = false := by simpa using hgb
              clear hga hgb hb0
              go_wp2_with fail
              go_quiet (fail)
              go_wp2_with fail
              go_roundg (n + 1 - (i + 1))
              case measure => omega
              case rel => exact ⟨i + 1, rfl, by go_num, by omega, KP.out.drewN _⟩
            · have e1 : decide (b ≥ 0) = false := by simpa using hb0
              clear hb0
              go_wp2_with fail
              go_quiet (fail)
              go_wp2_with fail
              go_roundg (n + 1 - (i + 1))
              case measure => omega
              case rel => exact ⟨i + 1, rfl, by go_num, by omega, KP.out.drewN _⟩
          · obtain rfl : i = n := by omega
            have hd0 : ¬ (i : Int) < (i : Int) := by omega
            clear hlt
            go_wp2_with fail
            go_ret
            exact ⟨rfl, KB.out.no KP.out⟩
end Go.Proofs.YthchoknhkhfdnaaDoor

namespace Go.Proofs.YthchoknhkhfdnaaDoor
set_option linter.unusedVariables false
set_option linter.unusedSimpArgs false
open Go.RowKit

/-- v, that came in, reads as l. -/
def RdA {α : Type} (K : Kd α) (w : World) (v : Value) (l : List α) : Prop :=
  ∃ A cap, v = .slice A l.length cap ∧ ∀ i x, l[i]? = some x → ∃ g o, A = some ⟨g, o, none⟩ ∧ ∀ j u, (K.enc x)[j]? = some u → w.cell? ⟨g, o + i * K.sz + j, none⟩ = some u

theorem Rd.a {α : Type} {K : Kd α} {w : World} {v : Value} {l : List α} (h : Rd K w v l) : RdA K w v l := by
  have h' := h
  rcases h with ⟨⟨A, c, rfl⟩, rfl⟩ | ⟨g, o, cap, rfl, _⟩
  · exact ⟨A, c, rfl, by simp⟩
  · exact ⟨_, cap, rfl, fun i x hx => ⟨g, o, rfl, fun j u hu => h'.at rfl hx hu⟩⟩
theorem RdA.kpNo {α : Type} {K : Kd α} {w w' : World} {v : Value} {l : List α} (h : RdA K w v l) (hk : Kp No w w') : RdA K w' v l :=
  let ⟨A, cap, hv, hc⟩ := h
  ⟨A, cap, hv, fun i x hx => let ⟨g, o, hA, hu⟩ := hc i x hx; ⟨g, o, hA, fun j u hj => hk.cellS (hu j u hj) (no_no _)⟩⟩
theorem RdA.shape {α : Type} {K : Kd α} {w : World} {v : Value} {l : List α} (h : RdA K w v l) : ∃ A cap, v = .slice A l.length cap := let ⟨A, cap, hv, _⟩ := h; ⟨A, cap, hv⟩
theorem RdA.take {α : Type} {K : Kd α} {w : World} {A : Option Addr} {n cap : Nat} {l : List α} (h : RdA K w (.slice A n cap) l) (m : Nat) : RdA K w (.slice A (min m n) cap) (l.take m) := by
  obtain ⟨A', cap', hv, hc⟩ := h
  simp only [Value.slice.injEq] at hv
  obtain ⟨rfl, rfl, rfl⟩ := hv
  refine ⟨A, cap, by simp, fun i x hx => ?_⟩
  rw [List.getElem?_take] at hx
  split at hx
  · exact hc i x hx
  · cases hx
theorem RdA.at {α : Type} {K : Kd α} {w : World} {A : Option Addr} {n cap : Nat} {l : List α} (h : RdA K w (.slice A n cap) l) {i : Nat} {x : α} (hx : l[i]? = some x) :
    ∃ g o, A = some ⟨g, o, none⟩ ∧ ∀ j u, (K.enc x)[j]? = some u → w.cell? ⟨g, o + i * K.sz + j, none⟩ = some u := by
  obtain ⟨A', cap', hv, hc⟩ := h
  simp only [Value.slice.injEq] at hv
  obtain ⟨rfl, rfl, rfl⟩ := hv
  exact hc i x hx

/-- 's[:hi]' of whatever came in. -/
theorem run_slice_hiA {α : Type} {K : Kd α} {P : Program} {t e : TypeId} {bytes : Nat} (E : ElT P t e K bytes) (A : Option Addr) (n cap hi : Nat) (h : hi ≤ cap) (x : Int) (hx : x = hi) (w : World) :
    (Instr.slice t (.slice A n cap) none (some (.int .i64 x)) none).run P w = .ok (.slice A hi cap) w := by
  subst hx
  obtain ⟨ht, i, z, hi', hz, hsize, hby, hzs⟩ := E
  have hA : (if cap = 0 then A else A.map (·.add (0 * i.size))) = A := by
    split
    · rfl
    · cases A <;> simp [Addr.add]
  simp only [Nat.zero_mul] at hA
  simp [Instr.slice, Instr.sliceBounds, Instr.sliceBound, run_underlying ht, sizeOf, typeInfo, hi', asIntOf, h, hA]

theorem list_of {α : Type} (Q : Nat → α → Prop) : ∀ n, (∀ i, i < n → ∃ x, Q i x) → ∃ l : List α, l.length = n ∧ ∀ i x, l[i]? = some x → Q i x
  | 0, _ => ⟨[], rfl, by simp⟩
  | n + 1, h => by
    obtain ⟨l, hl, hq⟩ := list_of Q n fun i hi => h i (by omega)
    obtain ⟨x, hx⟩ := h n (by omega)
    refine ⟨l ++ [x], by simp [hl], fun i y hy => ?_⟩
    rw [List.getElem?_append] at hy
    split at hy
    · exact hq i y hy
    · rename_i hi
      have : i = l.length := by
        have := (List.getElem?_eq_some_iff.1 hy).1
        simp at this; omega
      subst this
      simp at hy
      subst hy
      rw [hl]; exact hx

theorem open_rows {α : Type} {K : Kd α} {H : Type} {enc : TypeId × Value → H} {P : Program} {w : World} {base : Nat} {spare : Nat → Bool} {held : Bool} {t e : TypeId} {fuel : Nat} {v : Value} {x : DataW H × List MemPlace} (Good : α → Prop)
    (ht : P.underlying t = some (.slice e)) (hC : P.cellsOf e = K.sz) (dec : ∀ n cs' y, DataW.trod enc P w base spare held n e cs' = some y → ∃ x : α, cs' = K.enc x ∧ Good x)
    (h : DataW.trod enc P w base spare held fuel t [v] = some x) : ∃ l : List α, RdA K w v l ∧ (∀ x ∈ l, Good x) ∧ ∃ A cap, v = .slice A l.length cap ∧ l.length ≤ cap ∧ cap ≤ maxLen := by
  rcases Go.Deep.open_slice ht h with ⟨h0, _⟩ | ⟨a, len, cap, m, n, D, Pl, hcs, hb, hl, hm, hmm, hx, hi⟩
  · simp at h0
    exact ⟨[], ⟨none, 0, h0, by simp⟩, by simp, none, 0, h0, by simp, by simp⟩
  · simp at hcs
    have hml : len ≤ m := by rw [hmm]; split <;> omega
    have hsp : 0 < len → a = ⟨a.block, a.off, none⟩ := by
      intro h0
      obtain ⟨cs', hc, ht'⟩ := hi 0 (by omega)
      obtain ⟨y, rfl, _⟩ := dec n cs' _ ht'
      obtain ⟨_, hcl, hat⟩ := World.cells?_some hc
      have h1 := hat 0 (by rw [hC]; exact K.pos)
      rw [List.getElem?_eq_getElem (by rw [K.len y]; exact K.pos), Nat.zero_mul] at h1
      have := World.cell?_spot h1
      simp only [Addr.add, if_true] at this
      obtain ⟨b, o, sp⟩ := a
      simp only at this
      rw [this]
    obtain ⟨l, hll, hq⟩ := list_of (fun i (x : α) => Good x ∧ ∃ g o, some a = some (⟨g, o, none⟩ : Addr) ∧ ∀ j u, (K.enc x)[j]? = some u → w.cell? ⟨g, o + i * K.sz + j, none⟩ = some u) len fun i hil => by
      obtain ⟨cs', hc, ht'⟩ := hi i (by omega)
      obtain ⟨y, rfl, hg⟩ := dec n cs' _ ht'
      obtain ⟨_, hcl, hat⟩ := World.cells?_some hc
      rw [hC] at hat
      have ha := hsp (by omega)
      refine ⟨y, hg, a.block, a.off, congrArg some ha, fun j u hj => ?_⟩
      have hjl : j < K.sz := by rw [← K.len y]; exact (List.getElem?_eq_some_iff.1 hj).1
      have := hat j hjl
      rw [ha] at this
      simp only [Addr.add_lit] at this
      rw [this, hj]
    subst hll
    exact ⟨l, ⟨some a, cap, hcs, fun i x hx => (hq i x hx).2⟩, fun x hx => by obtain ⟨i, hil, rfl⟩ := List.getElem_of_mem hx; exact (hq i _ (List.getElem?_eq_getElem hil)).1, some a, cap, hcs, hl, hm⟩
end Go.Proofs.YthchoknhkhfdnaaDoor

namespace Go.Proofs.YthchoknhkhfdnaaDoor
set_option linter.unusedVariables false
set_option linter.unusedSimpArgs false
open Go.ChangeShapes Go.WideShapes Go.ChangeAt Go.RowKit Go.Joins

section
variable {H : Type} {enc : TypeId × Value → H} {w : World} {base : Nat} {spare : Nat → Bool} {held : Bool}
set_option maxRecDepth 100000 in
theorem open_floor {v : Value} {d : DataW H} {p : List MemPlace} {r : Reach} {b0 : Nat} (hv : Value.okWide Tryd.prog w r b0 23 v) (h : DataW.Trod enc Tryd.prog w base spare held 23 v d p) :
    ∃ f : Flr, v = f.val ∧ f.s.size ≤ 9223372036854775807 := by
  obtain ⟨v0, v1, v2, y0, y1, y2, n, rfl, _, _, h0, h1, h2⟩ := open_agg3 Tryd.underlying23 (by kernel_rfl) (by kernel_rfl) hv h
  obtain ⟨a, e0, _, _⟩ := DataW.trod_int Tryd.underlying3 h0
  obtain ⟨b, e1, _, _⟩ := DataW.trod_int Tryd.underlying3 h1
  obtain ⟨s, e2, _, hs⟩ := DataW.trod_string Tryd.underlying9 h2
  simp at e0 e1 e2
  subst e0 e1 e2
  exact ⟨⟨a, b, s⟩, rfl, hs⟩
end
end Go.Proofs.YthchoknhkhfdnaaDoor

namespace Go.Proofs.YthchoknhkhfdnaaDoor
set_option linter.unusedVariables false
set_option linter.unusedSimpArgs false
open Go.ChangeShapes Go.WideShapes Go.ChangeAt Go.RowKit Go.Joins
section
variable {H : Type} {enc : TypeId × Value → H} {w : World} {base : Nat} {spare : Nat → Bool} {held : Bool}
theorem int_dec {n : Nat} {cs : List Value} {y : DataW H × List MemPlace} (h : DataW.trod enc Tryd.prog w base spare held n 3 cs = some y) : ∃ x : Int, cs = IK.enc x ∧ True := by
  obtain ⟨k, e0, _, wk⟩ := DataW.trod_int Tryd.underlying3 h
  exact ⟨k, by rw [e0]; rfl, trivial⟩
theorem RdA.rd' {α : Type} {K : Kd α} {w : World} {A : Option Addr} {cap : Nat} {l : List α} (h : RdA K w (.slice A l.length cap) l) (h3 : l.length ≤ cap) (h4 : cap ≤ maxLen) : Rd K w (.slice A l.length cap) l := by
  obtain ⟨A', cap', e, hi⟩ := h
  simp only [Value.slice.injEq] at e
  obtain ⟨rfl, _, rfl⟩ := e
  by_cases h0 : l = []
  · subst h0; exact .inl ⟨⟨A, cap, rfl⟩, rfl⟩
  · obtain ⟨x, hx⟩ : ∃ x, l[0]? = some x := ⟨_, List.getElem?_eq_getElem (by cases l with | nil => exact absurd rfl h0 | cons _ _ => simp)⟩
    obtain ⟨g, o, rfl, _⟩ := hi 0 x hx
    refine .inr ⟨g, o, cap, rfl, h3, h4, fun j u hu => ?_⟩
    have hjl : j < l.length * K.sz := by rw [← K.length_encs]; exact (List.getElem?_eq_some_iff.1 hu).1
    have hp := K.pos
    have hq : j / K.sz < l.length := Nat.div_lt_of_lt_mul (by rw [Nat.mul_comm]; exact hjl)
    obtain ⟨y, hy⟩ : ∃ y, l[j / K.sz]? = some y := ⟨_, List.getElem?_eq_getElem hq⟩
    obtain ⟨g', o', e2, hc⟩ := hi _ y hy
    simp only [Option.some.injEq, Addr.mk.injEq] at e2
    obtain ⟨rfl, rfl, _⟩ := e2
    have hm : j % K.sz < K.sz := Nat.mod_lt _ hp
    have he := K.encs_get l (j / K.sz) (j % K.sz) y hy hm
    have hj : j / K.sz * K.sz + j % K.sz = j := Nat.div_add_mod' j K.sz
    rw [hj, hu] at he
    have := hc _ u he.symm
    rw [Nat.add_assoc, hj] at this
    exact this
set_option maxRecDepth 100000 in
theorem open_ints {v : Value} {d : DataW H} {p : List MemPlace} {r : Reach} {b0 : Nat} (hv : Value.okWide Tryd.prog w r b0 24 v) (h : DataW.Trod enc Tryd.prog w base spare held 24 v d p) : ∃ l : List Int, Rd IK w v l := by
  obtain ⟨a0, len, cap, rfl⟩ := okWide_slice Tryd.underlying24 hv
  obtain ⟨fuel, hf⟩ := h
  obtain ⟨l, h1, h2, A, cap, e, h3, h4⟩ := open_rows (K := IK) (fun _ : Int => True) Tryd.underlying24 (by kernel_rfl) (fun n cs' y hy => int_dec hy) hf
  rw [e] at h1 ⊢
  exact ⟨l, h1.rd' h3 h4⟩
end
end Go.Proofs.YthchoknhkhfdnaaDoor
