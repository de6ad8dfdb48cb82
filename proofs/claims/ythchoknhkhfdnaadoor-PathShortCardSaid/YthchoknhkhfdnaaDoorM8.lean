/- PathShort, the walk; Arguments that are slices of rows: what they read as. No function of the program; Arguments: floors; Arguments: slices of ints. No condition. -/
import Derived.Test.YthchoknhkhfdnaaDoorM7
import Derived.Test.YthchoknhkhfdnaaDoorM1
import Derived.Deep.Slices
import Derived.ProofKit
import Derived.OpenShut
import Derived.Lib.SmallJoins

namespace Go.Proofs.YthchoknhkhfdnaaDoor
set_option linter.unusedVariables false
set_option linter.unusedSimpArgs false
open Go.RowKit

set_option maxHeartbeats 4000000 in
set_option maxRecDepth 100000 in
theorem short_row (f : Flr) (hsz : f.s.size ≤ 9223372036854775807) (fr g : Int) {bv : Value} {B : List Int} {w : World} (hB : Rd IK w bv B) : Calls Tryd.prog 9 #[f.val, .int .i64 fr, .int .i64 g, bv] w (LawR w) := by
  unfold LawR
  have HSH := Lib.hid shown05_any
  have HBX := Lib.hid (BxW.new f w)
  obtain ⟨t, ht⟩ : ∃ t, t = decide (f.s.size ≤ 80) := ⟨_, rfl⟩
  have SM := Lib.hid (fun w => small05_any f hsz t ht w)
  obtain ⟨v5, hr5, FB⟩ := few05_at hB
  have hl5 : (B.take 50).length ≤ 50 := by rw [List.length_take]; omega
  obtain ⟨B5, hB5⟩ : ∃ l, l = B.take 50 := ⟨_, rfl⟩
  rw [← hB5] at hr5 hl5
  have FB := Lib.hid FB
  obtain ⟨A5, c5, rfl⟩ := hr5.shape
  obtain ⟨n5, hn5⟩ : ∃ n, n = B5.length := ⟨_, rfl⟩
  rw [← hn5] at hr5 FB hl5
  have HN5 := Lib.hid hn5
  have R5 := Lib.hid hr5
  have PD := Lib.hid (fun (h80 : f.s.size ≤ 80) wx (h : Rd IK wx (.slice A5 n5 c5) B5) => ptDist_any f (by omega) fr h)
  have SF := Lib.hid (fun (h80 : f.s.size ≤ 80) wx (h : Rd IK wx (.slice A5 n5 c5) B5) => short_law f (by omega) fr g h)
  have SI := Lib.hid (fun (h80 : f.s.size ≤ 80) Q (hi : isP f fr (ints Q) B5 = true) wx wv (hW : Rd IK wx wv (ints Q)) (h : Rd IK wx (.slice A5 n5 c5) B5) => ptIs_any f (by omega) fr hW h true hi)
  have DLen := Lib.hid (show (distP f fr B5).length ≤ f.s.size from (steps_law f fr B5).len)
  have H80 := Lib.hid (show t = true → f.s.size ≤ 80 by intro e; rw [ht] at e; simpa using e)
  obtain ⟨D, hD⟩ : ∃ D, D = distP f fr B5 := ⟨_, rfl⟩
  rw [← hD] at PD SF DLen
  obtain ⟨F, hF⟩ : ∃ F, F = f := ⟨_, rfl⟩
  have HF := Lib.hid hF
  have SF := Lib.hid (fun (h80 : F.s.size ≤ 80) wx h => show Calls Tryd.prog 16 #[f.val, .int .i64 fr, .int .i64 g, .slice A5 n5 c5] wx (fun e w' => ∃ Q er, FdR Q er wx e w' ∧ ShL F fr g B5 D Q er) by rw [hF]; exact SF.out (by rw [← hF]; exact h80) wx h)
  have SI := Lib.hid (fun (h80 : F.s.size ≤ 80) Q (hi : isP F fr (ints Q) B5 = true) => by rw [hF] at h80 hi; exact SI.out h80 Q hi)
  obtain ⟨n, hn⟩ : ∃ n, n = D.length := ⟨_, rfl⟩
  have HN := Lib.hid hn
  obtain ⟨X, Y, s⟩ := f
  unfold Flr.val at SM PD SF SI ⊢
  have BX0 := Lib.hid (show BxW F w.heap.size w (w.alloc (.cells #[.int .i64 X, .int .i64 Y, .string s] 23)) by rw [HF.out]; exact HBX.out)
  clear ht hsz hB hF hD hn hB5 hr5 hn5
  cases t with
  | false =>
    go_enter Tryd.func9, Tryd.ntmps9
    go_wp2_with fail
    refine (HSH.out _).mono ?_
    rintro e w1 ⟨rfl, k1⟩
    have B1 := Lib.hid (HBX.out.no k1)
    have hb0 : w1.cell? ⟨w.heap.size, 0, none⟩ = some (.int .i64 X) := B1.out.c0
    have hb1 : w1.cell? ⟨w.heap.size, 1, none⟩ = some (.int .i64 Y) := B1.out.c1
    have hb2 : w1.cell? ⟨w.heap.size, 2, none⟩ = some (.string s) := B1.out.c2
    clear k1
    go_wp2_with fail
    refine (SM.out _).mono ?_
    rintro e w2 ⟨rfl, k2⟩
    have K2 := Lib.hid (B1.out.kp.no k2)
    clear k2
    go_wp2_with fail
    go_ret
    exact ⟨rfl, K2.out⟩
  | true =>
    have h80 := H80.out rfl
    have N80 := Lib.hid (show n ≤ 80 by have := DLen.out; rw [← HN.out] at this; omega)
    have PD2 := Lib.hid (PD.out h80)
    have SF2 := Lib.hid (SF.out (by rw [HF.out]; exact h80))
    have SI2 := Lib.hid (SI.out (by rw [HF.out]; exact h80))
    clear PD SF SI H80 h80 DLen
    go_enter Tryd.func9, Tryd.ntmps9
    go_wp2_with fail
    refine (HSH.out _).mono ?_
    rintro e w1 ⟨rfl, k1⟩
    have B1 := Lib.hid (HBX.out.no k1)
    have hb0 : w1.cell? ⟨w.heap.size, 0, none⟩ = some (.int .i64 X) := B1.out.c0
    have hb1 : w1.cell? ⟨w.heap.size, 1, none⟩ = some (.int .i64 Y) := B1.out.c1
    have hb2 : w1.cell? ⟨w.heap.size, 2, none⟩ = some (.string s) := B1.out.c2
    clear k1
    go_wp2_with fail
    refine (SM.out _).mono ?_
    rintro e w2 ⟨rfl, k2⟩
    have B2 := Lib.hid (show BxW F w.heap.size w w2 by rw [HF.out]; exact (B1.out.no k2))
    clear k2 hb0 hb1 hb2 B1
    have LB := Lib.hid (show ∀ bf wx, BxW F bf w wx → wx.cell? ⟨bf, 0, none⟩ = some (.int .i64 X) ∧ wx.cell? ⟨bf, 1, none⟩ = some (.int .i64 Y) ∧ wx.cell? ⟨bf, 2, none⟩ = some (.string s) from fun bf wx h => by rw [HF.out] at h; exact ⟨h.c0, h.c1, h.c2⟩)
    obtain ⟨r0, r1, r2⟩ := LB.out _ w2.drew (B2.out.no (Kp.refl _ _).drew)
    go_upto_region 4 with fail
    go_cut [10, 11, 21, 22, 23, 24, 25, 26, 27, 28, 29] (fun v10 v11 _ _ _ _ _ _ _ _ _ wx => ∃ Q er A q, v10 = .slice A (List.length Q) q ∧ v11 = .int .i64 er ∧ Rd IK wx (.slice A Q.length q) (ints Q) ∧ ShL F fr g B5 D Q er ∧ Kp No w2 wx)
    case first =>
      go_region_law (first
        | (go_simp; go_at_call 14; refine (FB.out _).mono ?_; rintro e w3 ⟨rfl, rfl⟩)
        | (go_simp; go_at_call 16; refine (SF2.out _ (R5.out.kpNo B2.out.kp.drew)).mono ?_; rintro e w4 ⟨Q, er, ⟨A4, q4, rfl, n4⟩, hq⟩; have N4 := Lib.hid n4; have HQ := Lib.hid hq; clear n4 hq))
      all_goals
        go_wp2_with fail
        go_meet
        exact ⟨Q, er, A4, q4, rfl, rfl, N4.out.own.rd, HQ.out, (Kp.refl _ _).drew.no N4.out.kp⟩
    case rest =>
      obtain ⟨Q, er, A4, q4, rfl, rfl, rq, sh, k4⟩ := hcut
      obtain ⟨m, hm⟩ : ∃ m, m = Q.length := ⟨_, rfl⟩
      rw [← hm] at rq ⊢
      have HM := Lib.hid hm; have RQ := Lib.hid rq; have SH := Lib.hid sh
      have K4 := Lib.hid k4
      obtain ⟨wp, hwp⟩ : ∃ x : World, x = wc := ⟨_, rfl⟩
      rw [← hwp] at RQ K4 ⊢
      clear hwp hm rq sh k4 r0 r1 r2 SF2
      obtain ⟨r0, r1, r2⟩ := LB.out _ wp.drew (B2.out.no K4.out.drew)
      go_upto_region 5 with fail
      go_cut [12, 30, 31, 32, 33, 34] (fun v12 _ _ _ _ _ wx => ∃ A c, v12 = .slice A n c ∧ Rd IK wx (.slice A n c) D ∧ Kp No wp wx)
      case first =>
        go_region_law (first
          | (go_simp; go_at_call 14; refine (FB.out _).mono ?_; rintro e w6 ⟨rfl, rfl⟩)
          | (go_simp; go_at_call 13; refine (PD2.out _ (R5.out.kpNo (B2.out.kp.no K4.out.drew))).mono ?_; rintro e w7 ⟨v7, rfl, n7⟩; have N7 := Lib.hid n7; clear n7))
        all_goals
          go_wp2_with fail
          go_meet
          obtain ⟨A, c, h1⟩ := N7.out.own.rd.shape
          rw [← HN.out] at h1
          exact ⟨A, c, h1, by rw [← h1]; exact N7.out.own.rd, (Kp.refl _ _).drew.no N7.out.kp⟩
      case rest =>
        obtain ⟨A, c, rfl, rd, k5⟩ := hcut
        obtain ⟨wq, hwq⟩ : ∃ x : World, x = wc := ⟨_, rfl⟩
        rw [← hwq] at rd k5 ⊢
        have RQ5 := Lib.hid (RQ.out.kpNo k5)
        have RD := Lib.hid rd
        have K5 := Lib.hid (K4.out.no k5)
        clear hwq r0 r1 r2 RQ K4 rd k5 PD2
        have CD := Lib.hid (show ∀ wx, Kp No wq wx → ∀ x, 0 ≤ g → D[g.toNat]? = some x → ∃ gD oD, A = some ⟨gD, oD, none⟩ ∧ wx.cell? ⟨gD, oD + g.toNat, none⟩ = some (.int .i64 x) from fun wx hk x h0 hx => by
          rcases RD.out with ⟨_, he⟩ | ⟨g, o, cap', hv, _⟩
          · rw [he] at hx; simp at hx
          simp only [Value.slice.injEq] at hv
          obtain ⟨rfl, hzz, rfl⟩ := hv
          exact ⟨g, o, rfl, (RD.out.kpNo hk).intAt hx⟩)
        rcases SH.out with ⟨rfl, rfl, hor⟩ | ⟨x, rfl, rfl, h0, hg, hx, hneg⟩ | ⟨rfl, h0, hg, hx, hisp, hnod, hz, hlast⟩
        · have hm0 : m = 0 := HM.out
          subst hm0
          have hc5 : (g < 0 ∧ n = 0) ∨ (g < 0 ∧ n ≠ 0) ∨ (0 ≤ g ∧ g ≥ n ∧ n = 0) ∨ (0 ≤ g ∧ g ≥ n ∧ n ≠ 0) ∨ (0 ≤ g ∧ g < n ∧ n ≠ 0 ∧ ∃ x, D[g.toNat]? = some x ∧ x < 0) := by
            rw [← HN.out] at hor
            rcases hor with h | h | h | h
            · omega
            · omega
            · omega
            · by_cases hg0 : 0 ≤ g
              · by_cases hgn : g < n
                · exact .inr (.inr (.inr (.inr ⟨hg0, hgn, by omega, h⟩)))
                · omega
              · omega
          clear hor
          have KR := Lib.hid (B2.out.no K5.out).kp
          rcases hc5 with ⟨hg, hn⟩ | ⟨hg, hn⟩ | ⟨hg, hgn, hn⟩ | ⟨hg, hgn, hn⟩ | ⟨hg, hgn, hn, x, hx, hneg⟩
          · have e1 : decide (g < 0) = true := by simpa using hg
            have e2 : ((n : Int) == 0) = true := by simp [hn]
            clear hg hn
            go_wp2_with fail
            go_ret
            exact ⟨by simp, KR.out⟩
          · have e1 : decide (g < 0) = true := by simpa using hg
            have e2 : ((n : Int) == 0) = false := by simp; omega
            clear hg hn
            go_wp2_with fail
            go_ret
            exact ⟨by simp, KR.out⟩
          · have e1 : decide (g < 0) = false := by simp; omega
            have e3 : decide (g ≥ (n : Int)) = true := by simpa using hgn
            have e2 : ((n : Int) == 0) = true := by simp [hn]
            clear hg hn hgn
            go_wp2_with fail
            go_ret
            exact ⟨by simp, KR.out⟩
          · have e1 : decide (g < 0) = false := by simp; omega
            have e3 : decide (g ≥ (n : Int)) = true := by simpa using hgn
            have e2 : ((n : Int) == 0) = false := by simp; omega
            clear hg hn hgn
            go_wp2_with fail
            go_ret
            exact ⟨by simp, KR.out⟩
          · have e1 : decide (g < 0) = false := by simp; omega
            have e3 : decide (g ≥ (n : Int)) = false := by simpa using hgn
            have e2 : ((n : Int) == 0) = false := by simp; omega
            have e4 : decide (x < 0) = true := by simpa using hneg
            obtain ⟨gD, oD, rfl, hcx⟩ := CD.out wq (Kp.refl _ _) x hg hx
            clear hn hneg hx
            go_wp2_with fail
            go_ret
            exact ⟨by simp, KR.out⟩
        · have hm0 : m = 0 := HM.out
          subst hm0
          have KR := Lib.hid (B2.out.no K5.out).kp
          rw [← HN.out] at hg
          have e1 : decide (g < 0) = false := by simp; omega
          have e3 : decide (g ≥ (n : Int)) = false := by simpa using hg
          have e4 : decide (x < 0) = true := by simpa using hneg
          obtain ⟨gD, oD, rfl, hcx⟩ := CD.out wq (Kp.refl _ _) x h0 hx
          clear hneg hx
          go_wp2_with fail
          go_ret
          exact ⟨by simp, KR.out⟩
        · rw [← HN.out] at hg
          have e1 : decide (g < 0) = false := by simp; omega
          have e3 : decide (g ≥ (n : Int)) = false := by simpa using hg
          obtain ⟨gD, oD, rfl, _⟩ := CD.out wq (Kp.refl _ _) _ h0 hx
          have CD2 := Lib.hid (show ∀ wx, Kp No wq wx → wx.cell? ⟨gD, oD + g.toNat, none⟩ = some (.int .i64 (m : Int)) from fun wx hk => by
            obtain ⟨g', o', he, h⟩ := CD.out wx hk _ h0 hx
            simp only [Option.some.injEq, Addr.mk.injEq] at he
            obtain ⟨rfl, rfl, _⟩ := he
            rw [HM.out]; exact h)
          have NOD := Lib.hid hnod; have HZ := Lib.hid (show (m : Int) = 0 ↔ fr = g by rw [HM.out]; exact hz); have HLA := Lib.hid (show ∀ y, (ints Q)[m - 1]? = some y → y = g by rw [HM.out]; exact hlast); have HI := Lib.hid (fun wx wv hW => SI2.out Q hisp wx wv hW)
          clear hnod hz hlast hisp CD SI2 hx
          have hmm := @run_makeMap Tryd.prog
          obtain ⟨w5, hup, s5⟩ := StW.add (f := F) (bf := w.heap.size) (bm := wq.heap.size) (w0 := w) (w := wq.alloc (.map #[] 0)) (L := []) (by
            have b := B2.out.no K5.out
            have := lt_of_block b.box
            exact ⟨b.no ((Kp.refl _ _).alloc _), SetI.made wq, b.kp.size, by omega⟩) fr
          have K5b := Lib.hid (show Kp No wq w5 by
            obtain ⟨w', h1, h2, h3⟩ := (SetI.made wq).add mapB fr
            rw [hup] at h1; cases h1
            exact ((Kp.refl No wq).alloc _).trans' h3 (fun j hj e => by have e : j = wq.heap.size := e; have hj : j < wq.heap.size := hj; omega))
          have S5 := Lib.hid s5
          obtain ⟨bm, hbm⟩ : ∃ b, b = wq.heap.size := ⟨_, rfl⟩
          clear s5
          go_upto_region 11 with fail
          rw [← hbm] at S5 ⊢
          have HBM := Lib.hid hbm
          obtain ⟨bf, hbf⟩ : ∃ b, b = w.heap.size := ⟨_, rfl⟩
          rw [← hbf] at S5 B2 ⊢
          clear hup hbm hbf hmm
          go_wp2_with fail
          go_loopg [103] (m + 1) (fun g_ iv wx => ∃ (k : Nat) (Li : List Int), g_ = m + 1 - k ∧ iv = .int .i64 k ∧ k ≤ m ∧ (∀ x, x ∈ Li ↔ x ∈ fr :: (ints Q).take k) ∧ StW F bf bm w wx Li ∧ Kp No wq wx)
          case atStart => exact ⟨0, _, rfl, rfl, by omega, fun x => by rw [mem_addS]; simp, S5.out, K5b.out⟩
          case round =>
            obtain ⟨k, Li, hgk, rfl, hk, hmem, sw, kq⟩ := hrel
            have SW := Lib.hid sw; have MM := Lib.hid hmem; have KQ := Lib.hid kq
            clear sw hmem kq S5 K5b
            by_cases hlt : k < m
            · have hltI : (k : Int) < (m : Int) := by omega
              have hwk : IntKind.i64.wrap ((k : Int) + 1) = (k : Int) + 1 := IntWalk.i64_in _ (by
                have := RQ5.out.lenI; rw [ints_len, ← HM.out] at this; unfold maxLen at this; omega)
              obtain ⟨c, hc⟩ : ∃ c, (ints Q)[k]? = some c := ⟨_, List.getElem?_eq_getElem (by rw [ints_len, ← HM.out]; exact hlt)⟩
              have hnm := NOD.out k c hc
              rcases RQ5.out with ⟨_, he⟩ | ⟨gW, oW, cap', hv, _⟩
              · rw [he] at hc; simp at hc
              simp only [Value.slice.injEq] at hv
              obtain ⟨rfl, hzz, rfl⟩ := hv
              have hcb : wr.cell? ⟨gW, oW + k, none⟩ = some (.int .i64 c) := (RQ5.out.kpNo KQ.out).intAt hc
              have hlook := SW.out.st.look mapB c
              rw [decide_eq_false (fun e => hnm ((MM.out c).1 e))] at hlook
              obtain ⟨w6, hup, st6, k6⟩ := SW.out.st.add mapB c
              have S6 := Lib.hid (show StW F bf bm w w6 (addS Li c) from ⟨⟨k6.blk SW.out.bx.box (fun e => SW.out.ne e.symm), SW.out.bx.kp.trans' k6 fun j hj e => by have e : j = bm := e; have := SW.out.ge; omega⟩, st6, SW.out.ge, SW.out.ne⟩)
              have K6 := Lib.hid (show Kp No wq w6 from KQ.out.trans' k6 fun j hj e => by have e : j = bm := e; have := HBM.out; omega)
              have M6 := Lib.hid (show ∀ x, x ∈ addS Li c ↔ x ∈ fr :: (ints Q).take (k + 1) by
                intro x
                rw [mem_addS, MM.out, List.take_add_one, hc]
                simp [or_assoc])
              clear hc hnm hzz st6 k6 hlt
              go_wp2_with fail
              go_roundg (m + 1 - (k + 1))
              case measure => omega
              case rel => exact ⟨k + 1, _, rfl, by go_num, by omega, M6.out, S6.out, K6.out⟩
            · obtain rfl : k = m := by omega
              have hd0 : ¬ (k : Int) < (k : Int) := by omega
              clear hlt MM
              obtain ⟨r0, r1, r2⟩ := LB.out _ wr.drew (SW.out.bx.no (Kp.refl _ _).drew)
              by_cases hk0 : k = 0
              · have e6 : (fr == g) = true := by simpa using HZ.out.1 (by omega)
                have hcx : wr.drew.cell? ⟨gD, oD + g.toNat, none⟩ = some (.int .i64 0) := by have := CD2.out wr.drew KQ.out.drew; rw [hk0] at this; exact this
                have CD3 := Lib.hid (show ∀ wx, Kp No wq wx → wx.cell? ⟨gD, oD + g.toNat, none⟩ = some (.int .i64 0) from fun wx hk => by have := CD2.out wx hk; rw [hk0] at this; exact this)
                subst hk0
                go_wp2_with fail
                refine wp_region_any (by kernel_rfl) ?_
                (try (change wpAny _ _ _ _ _ _ _ (World.drew _)))
                refine wpAny_take (i := 0) (v := ?v0) rfl (by kernel_rfl) (by kernel_rfl) (by kernel_rfl) (fun _ _ _ h => h) (Or.inl ⟨by kernel_rfl, ?y0⟩) ?_
                case y0 => (intro w; go_simp; try with_reducible rfl)
                refine wpAny_take (i := 1) (v := ?v1) rfl (by kernel_rfl) (by kernel_rfl) (by kernel_rfl) (fun _ _ _ h => h) (Or.inl ⟨by kernel_rfl, ?y1⟩) ?_
                case y1 => (intro w; go_simp; try with_reducible rfl)
                refine wpAny_take (i := 3) (v := ?v3) rfl (by kernel_rfl) (by kernel_rfl) (by kernel_rfl) (fun _ _ _ h => h) (Or.inl ⟨by kernel_rfl, ?y3⟩) ?_
                case y3 => (intro w; go_simp; try with_reducible rfl)
                refine wpAny_take (i := 4) (v := ?v4) rfl (by kernel_rfl) (by kernel_rfl) (by kernel_rfl) (fun _ _ _ h => h) (Or.inl ⟨by kernel_rfl, ?y4⟩) ?_
                case y4 => (intro w; go_simp; try with_reducible rfl)
                refine wpAny_take (i := 5) (v := ?v5) rfl (by kernel_rfl) (by kernel_rfl) (by kernel_rfl) (fun _ _ _ h => h) (Or.inl ⟨by kernel_rfl, ?y5⟩) ?_
                case y5 => (intro w; go_simp; try with_reducible rfl)
                refine wpAny_ready (rs := [2, 6]) (by kernel_rfl) (by simp) ?_
                refine AllReady.cons rfl (fun K hK => ?_) (AllReady.cons rfl (fun K hK => ?_) AllReady.nil)
                · (go_simp; refine hK _ _ ?_; clear hK K)
                  refine wpAny_ready (rs := [6]) (by kernel_rfl) (by simp) ?_
                  refine AllReady.cons rfl (fun K hK => ?_) AllReady.nil
                  (go_simp; go_at_call 14; refine (FB.out _).mono ?_; rintro e w8 ⟨rfl, rfl⟩; (try go_simp); refine hK _ _ ?_; clear hK K)
                  refine wpAny_ready (rs := [7]) (by kernel_rfl) (by simp) ?_
                  refine AllReady.cons rfl (fun K hK => ?_) AllReady.nil
                  (go_simp; go_at_call 20; refine (HI.out _ _ (RQ5.out.kpNo KQ.out.drew) (R5.out.kpNo SW.out.bx.kp.drew)).mono ?_; rintro e w9 ⟨rfl, k9⟩; have K9 := Lib.hid (SW.out.bx.kp.drew.no k9); have hcx9 := CD3.out w9 (KQ.out.drew.no k9); clear k9; (try go_simp); refine hK _ _ ?_; clear hK K)
                  refine wpAny_take (i := 8) (v := ?v8) rfl (by kernel_rfl) (by kernel_rfl) (by kernel_rfl) (fun _ _ _ h => h) (Or.inl ⟨by kernel_rfl, ?y8⟩) ?_
                  case y8 => (intro w; go_simp; try with_reducible rfl)
                  refine wpAny_take (i := 9) (v := ?v9) rfl (by kernel_rfl) (by kernel_rfl) (by kernel_rfl) (fun _ _ _ h => h) (Or.inl ⟨by kernel_rfl, ?y9⟩) ?_
                  case y9 => (intro w; go_simp; try with_reducible rfl)
                  refine wpAny_take (i := 10) (v := ?v10) rfl (by kernel_rfl) (by kernel_rfl) (by kernel_rfl) (fun _ _ _ h => h) (Or.inl ⟨by kernel_rfl, ?y10⟩) ?_
                  case y10 => (intro w; go_simp; try with_reducible rfl)
                  refine wpAny_take (i := 11) (v := ?v11) rfl (by kernel_rfl) (by kernel_rfl) (by kernel_rfl) (fun _ _ _ h => h) (Or.inl ⟨by kernel_rfl, ?y11⟩) ?_
                  case y11 => (intro w; go_simp; try with_reducible rfl)
                  refine wpAny_take (i := 12) (v := ?v12) rfl (by kernel_rfl) (by kernel_rfl) (by kernel_rfl) (fun _ _ _ h => h) (Or.inl ⟨by kernel_rfl, ?y12⟩) ?_
                  case y12 => (intro w; go_simp; try with_reducible rfl)
                  refine wpAny_take (i := 13) (v := ?v13) rfl (by kernel_rfl) (by kernel_rfl) (by kernel_rfl) (fun _ _ _ h => h) (Or.inl ⟨by kernel_rfl, ?y13⟩) ?_
                  case y13 => (intro w; go_simp; try with_reducible rfl)
                  refine wpAny_take (i := 14) (v := ?v14) rfl (by kernel_rfl) (by kernel_rfl) (by kernel_rfl) (fun _ _ _ h => h) (Or.inl ⟨by kernel_rfl, ?y14⟩) ?_
                  case y14 => (intro w; go_simp; try with_reducible rfl)
                  refine wpAny_ready (rs := [15]) (by kernel_rfl) (by simp) ?_
                  refine AllReady.cons rfl (fun K hK => ?_) AllReady.nil
                  (go_simp; refine hK _ _ ?_; clear hK K)
                  refine wpAny_take (i := 16) (v := ?v16) rfl (by kernel_rfl) (by kernel_rfl) (by kernel_rfl) (fun _ _ _ h => h) (Or.inl ⟨by kernel_rfl, ?y16⟩) ?_
                  case y16 => (intro w; go_simp; try with_reducible rfl)
                  refine wpAny_take (i := 17) (v := ?v17) rfl (by kernel_rfl) (by kernel_rfl) (by kernel_rfl) (fun _ _ _ h => h) (Or.inl ⟨by kernel_rfl, ?y17⟩) ?_
                  case y17 => (intro w; go_simp; try with_reducible rfl)
                  refine wpAny_take (i := 18) (v := ?v18) rfl (by kernel_rfl) (by kernel_rfl) (by kernel_rfl) (fun _ _ _ h => h) (Or.inl ⟨by kernel_rfl, ?y18⟩) ?_
                  case y18 => (intro w; go_simp; try with_reducible rfl)
                  refine wpAny_take (i := 19) (v := ?v19) rfl (by kernel_rfl) (by kernel_rfl) (by kernel_rfl) (fun _ _ _ h => h) (Or.inl ⟨by kernel_rfl, ?y19⟩) ?_
                  case y19 => (intro w; go_simp; try with_reducible rfl)
                  refine wpAny_take (i := 20) (v := ?v20) rfl (by kernel_rfl) (by kernel_rfl) (by kernel_rfl) (fun _ _ _ h => h) (Or.inl ⟨by kernel_rfl, ?y20⟩) ?_
                  case y20 => (intro w; go_simp; try with_reducible rfl)
                  refine wpAny_take (i := 21) (v := ?v21) rfl (by kernel_rfl) (by kernel_rfl) (by kernel_rfl) (fun _ _ _ h => h) (Or.inl ⟨by kernel_rfl, ?y21⟩) ?_
                  case y21 => (intro w; go_simp; try with_reducible rfl)
                  refine wpAny_take (i := 22) (v := ?v22) rfl (by kernel_rfl) (by kernel_rfl) (by kernel_rfl) (fun _ _ _ h => h) (Or.inl ⟨by kernel_rfl, ?y22⟩) ?_
                  case y22 => (intro w; go_simp; try with_reducible rfl)
                  refine wpAny_take (i := 23) (v := ?v23) rfl (by kernel_rfl) (by kernel_rfl) (by kernel_rfl) (fun _ _ _ h => h) (Or.inl ⟨by kernel_rfl, ?y23⟩) ?_
                  case y23 => (intro w; go_simp; try with_reducible rfl)
                  refine wpAny_take (i := 24) (v := ?v24) rfl (by kernel_rfl) (by kernel_rfl) (by kernel_rfl) (fun _ _ _ h => h) (Or.inl ⟨by kernel_rfl, ?y24⟩) ?_
                  case y24 => (intro w; go_simp; try with_reducible rfl)
                  refine wpAny_take (i := 25) (v := ?v25) rfl (by kernel_rfl) (by kernel_rfl) (by kernel_rfl) (fun _ _ _ h => h) (Or.inl ⟨by kernel_rfl, ?y25⟩) ?_
                  case y25 => (intro w; go_simp; try with_reducible rfl)
                  refine wpAny_take (i := 26) (v := ?v26) rfl (by kernel_rfl) (by kernel_rfl) (by kernel_rfl) (fun _ _ _ h => h) (Or.inl ⟨by kernel_rfl, ?y26⟩) ?_
                  case y26 => (intro w; go_simp; try with_reducible rfl)
                  refine wpAny_take (i := 27) (v := ?v27) rfl (by kernel_rfl) (by kernel_rfl) (by kernel_rfl) (fun _ _ _ h => h) (Or.inl ⟨by kernel_rfl, ?y27⟩) ?_
                  case y27 => (intro w; go_simp; try with_reducible rfl)
                  refine wpAny_take (i := 28) (v := ?v28) rfl (by kernel_rfl) (by kernel_rfl) (by kernel_rfl) (fun _ _ _ h => h) (Or.inl ⟨by kernel_rfl, ?y28⟩) ?_
                  case y28 => (intro w; go_simp; try with_reducible rfl)
                  refine wpAny_take (i := 29) (v := ?v29) rfl (by kernel_rfl) (by kernel_rfl) (by kernel_rfl) (fun _ _ _ h => h) (Or.inl ⟨by kernel_rfl, ?y29⟩) ?_
                  case y29 => (intro w; go_simp; try with_reducible rfl)
                  refine wpAny_take (i := 30) (v := ?v30) rfl (by kernel_rfl) (by kernel_rfl) (by kernel_rfl) (fun _ _ _ h => h) (Or.inl ⟨by kernel_rfl, ?y30⟩) ?_
                  case y30 => (intro w; go_simp; try with_reducible rfl)
                  refine wpAny_take (i := 31) (v := ?v31) rfl (by kernel_rfl) (by kernel_rfl) (by kernel_rfl) (fun _ _ _ h => h) (Or.inl ⟨by kernel_rfl, ?y31⟩) ?_
                  case y31 => (intro w; go_simp; try with_reducible rfl)
                  refine wpAny_take (i := 32) (v := undef) rfl (by kernel_rfl) (by kernel_rfl) (by kernel_rfl) (fun _ _ _ h => h) (Or.inr ⟨by kernel_rfl, rfl⟩) ?_
                  refine wpAny_take (i := 33) (v := undef) rfl (by kernel_rfl) (by kernel_rfl) (by kernel_rfl) (fun _ _ _ h => h) (Or.inr ⟨by kernel_rfl, rfl⟩) ?_
                  refine wpAny_take (i := 34) (v := undef) rfl (by kernel_rfl) (by kernel_rfl) (by kernel_rfl) (fun _ _ _ h => h) (Or.inr ⟨by kernel_rfl, rfl⟩) ?_
                  refine wpAny_take (i := 35) (v := undef) rfl (by kernel_rfl) (by kernel_rfl) (by kernel_rfl) (fun _ _ _ h => h) (Or.inr ⟨by kernel_rfl, rfl⟩) ?_
                  refine wpAny_take (i := 36) (v := undef) rfl (by kernel_rfl) (by kernel_rfl) (by kernel_rfl) (fun _ _ _ h => h) (Or.inr ⟨by kernel_rfl, rfl⟩) ?_
                  refine wpAny_take (i := 37) (v := undef) rfl (by kernel_rfl) (by kernel_rfl) (by kernel_rfl) (fun _ _ _ h => h) (Or.inr ⟨by kernel_rfl, rfl⟩) ?_
                  refine wpAny_take (i := 38) (v := undef) rfl (by kernel_rfl) (by kernel_rfl) (by kernel_rfl) (fun _ _ _ h => h) (Or.inr ⟨by kernel_rfl, rfl⟩) ?_
                  refine wpAny_take (i := 39) (v := undef) rfl (by kernel_rfl) (by kernel_rfl) (by kernel_rfl) (fun _ _ _ h => h) (Or.inr ⟨by kernel_rfl, rfl⟩) ?_
                  refine wpAny_take (i := 40) (v := ?v40) rfl (by kernel_rfl) (by kernel_rfl) (by kernel_rfl) (fun _ _ _ h => h) (Or.inl ⟨by kernel_rfl, ?y40⟩) ?_
                  case y40 => (intro w; go_simp; try with_reducible rfl)
                  refine wpAny_take (i := 41) (v := ?v41) rfl (by kernel_rfl) (by kernel_rfl) (by kernel_rfl) (fun _ _ _ h => h) (Or.inl ⟨by kernel_rfl, ?y41⟩) ?_
                  case y41 => (intro w; go_simp; try with_reducible rfl)
                  refine wpAny_take (i := 42) (v := ?v42) rfl (by kernel_rfl) (by kernel_rfl) (by kernel_rfl) (fun _ _ _ h => h) (Or.inl ⟨by kernel_rfl, ?y42⟩) ?_
                  case y42 => (intro w; go_simp; try with_reducible rfl)
                  refine wpAny_done (by kernel_rfl) ?_ _
                  go_wp2_with fail
                  go_ret
                  exact ⟨by kernel_rfl, K9.out⟩
                · (go_simp; go_at_call 14; refine (FB.out _).mono ?_; rintro e w8 ⟨rfl, rfl⟩; (try go_simp); refine hK _ _ ?_; clear hK K)
                  refine wpAny_ready (rs := [2]) (by kernel_rfl) (by simp) ?_
                  refine AllReady.cons rfl (fun K hK => ?_) AllReady.nil
                  (go_simp; refine hK _ _ ?_; clear hK K)
                  refine wpAny_ready (rs := [7]) (by kernel_rfl) (by simp) ?_
                  refine AllReady.cons rfl (fun K hK => ?_) AllReady.nil
                  (go_simp; go_at_call 20; refine (HI.out _ _ (RQ5.out.kpNo KQ.out.drew) (R5.out.kpNo SW.out.bx.kp.drew)).mono ?_; rintro e w9 ⟨rfl, k9⟩; have K9 := Lib.hid (SW.out.bx.kp.drew.no k9); have hcx9 := CD3.out w9 (KQ.out.drew.no k9); clear k9; (try go_simp); refine hK _ _ ?_; clear hK K)
                  refine wpAny_take (i := 8) (v := ?v8) rfl (by kernel_rfl) (by kernel_rfl) (by kernel_rfl) (fun _ _ _ h => h) (Or.inl ⟨by kernel_rfl, ?y8⟩) ?_
                  case y8 => (intro w; go_simp; try with_reducible rfl)
                  refine wpAny_take (i := 9) (v := ?v9) rfl (by kernel_rfl) (by kernel_rfl) (by kernel_rfl) (fun _ _ _ h => h) (Or.inl ⟨by kernel_rfl, ?y9⟩) ?_
                  case y9 => (intro w; go_simp; try with_reducible rfl)
                  refine wpAny_take (i := 10) (v := ?v10) rfl (by kernel_rfl) (by kernel_rfl) (by kernel_rfl) (fun _ _ _ h => h) (Or.inl ⟨by kernel_rfl, ?y10⟩) ?_
                  case y10 => (intro w; go_simp; try with_reducible rfl)
                  refine wpAny_take (i := 11) (v := ?v11) rfl (by kernel_rfl) (by kernel_rfl) (by kernel_rfl) (fun _ _ _ h => h) (Or.inl ⟨by kernel_rfl, ?y11⟩) ?_
                  case y11 => (intro w; go_simp; try with_reducible rfl)
                  refine wpAny_take (i := 12) (v := ?v12) rfl (by kernel_rfl) (by kernel_rfl) (by kernel_rfl) (fun _ _ _ h => h) (Or.inl ⟨by kernel_rfl, ?y12⟩) ?_
                  case y12 => (intro w; go_simp; try with_reducible rfl)
                  refine wpAny_take (i := 13) (v := ?v13) rfl (by kernel_rfl) (by kernel_rfl) (by kernel_rfl) (fun _ _ _ h => h) (Or.inl ⟨by kernel_rfl, ?y13⟩) ?_
                  case y13 => (intro w; go_simp; try with_reducible rfl)
                  refine wpAny_take (i := 14) (v := ?v14) rfl (by kernel_rfl) (by kernel_rfl) (by kernel_rfl) (fun _ _ _ h => h) (Or.inl ⟨by kernel_rfl, ?y14⟩) ?_
                  case y14 => (intro w; go_simp; try with_reducible rfl)
                  refine wpAny_ready (rs := [15]) (by kernel_rfl) (by simp) ?_
                  refine AllReady.cons rfl (fun K hK => ?_) AllReady.nil
                  (go_simp; refine hK _ _ ?_; clear hK K)
                  refine wpAny_take (i := 16) (v := ?v16) rfl (by kernel_rfl) (by kernel_rfl) (by kernel_rfl) (fun _ _ _ h => h) (Or.inl ⟨by kernel_rfl, ?y16⟩) ?_
                  case y16 => (intro w; go_simp; try with_reducible rfl)
                  refine wpAny_take (i := 17) (v := ?v17) rfl (by kernel_rfl) (by kernel_rfl) (by kernel_rfl) (fun _ _ _ h => h) (Or.inl ⟨by kernel_rfl, ?y17⟩) ?_
                  case y17 => (intro w; go_simp; try with_reducible rfl)
                  refine wpAny_take (i := 18) (v := ?v18) rfl (by kernel_rfl) (by kernel_rfl) (by kernel_rfl) (fun _ _ _ h => h) (Or.inl ⟨by kernel_rfl, ?y18⟩) ?_
                  case y18 => (intro w; go_simp; try with_reducible rfl)
                  refine wpAny_take (i := 19) (v := ?v19) rfl (by kernel_rfl) (by kernel_rfl) (by kernel_rfl) (fun _ _ _ h => h) (Or.inl ⟨by kernel_rfl, ?y19⟩) ?_
                  case y19 => (intro w; go_simp; try with_reducible rfl)
                  refine wpAny_take (i := 20) (v := ?v20) rfl (by kernel_rfl) (by kernel_rfl) (by kernel_rfl) (fun _ _ _ h => h) (Or.inl ⟨by kernel_rfl, ?y20⟩) ?_
                  case y20 => (intro w; go_simp; try with_reducible rfl)
                  refine wpAny_take (i := 21) (v := ?v21) rfl (by kernel_rfl) (by kernel_rfl) (by kernel_rfl) (fun _ _ _ h => h) (Or.inl ⟨by kernel_rfl, ?y21⟩) ?_
                  case y21 => (intro w; go_simp; try with_reducible rfl)
                  refine wpAny_take (i := 22) (v := ?v22) rfl (by kernel_rfl) (by kernel_rfl) (by kernel_rfl) (fun _ _ _ h => h) (Or.inl ⟨by kernel_rfl, ?y22⟩) ?_
                  case y22 => (intro w; go_simp; try with_reducible rfl)
                  refine wpAny_take (i := 23) (v := ?v23) rfl (by kernel_rfl) (by kernel_rfl) (by kernel_rfl) (fun _ _ _ h => h) (Or.inl ⟨by kernel_rfl, ?y23⟩) ?_
                  case y23 => (intro w; go_simp; try with_reducible rfl)
                  refine wpAny_take (i := 24) (v := ?v24) rfl (by kernel_rfl) (by kernel_rfl) (by kernel_rfl) (fun _ _ _ h => h) (Or.inl ⟨by kernel_rfl, ?y24⟩) ?_
                  case y24 => (intro w; go_simp; try with_reducible rfl)
                  refine wpAny_take (i := 25) (v := ?v25) rfl (by kernel_rfl) (by kernel_rfl) (by kernel_rfl) (fun _ _ _ h => h) (Or.inl ⟨by kernel_rfl, ?y25⟩) ?_
                  case y25 => (intro w; go_simp; try with_reducible rfl)
                  refine wpAny_take (i := 26) (v := ?v26) rfl (by kernel_rfl) (by kernel_rfl) (by kernel_rfl) (fun _ _ _ h => h) (Or.inl ⟨by kernel_rfl, ?y26⟩) ?_
                  case y26 => (intro w; go_simp; try with_reducible rfl)
                  refine wpAny_take (i := 27) (v := ?v27) rfl (by kernel_rfl) (by kernel_rfl) (by kernel_rfl) (fun _ _ _ h => h) (Or.inl ⟨by kernel_rfl, ?y27⟩) ?_
                  case y27 => (intro w; go_simp; try with_reducible rfl)
                  refine wpAny_take (i := 28) (v := ?v28) rfl (by kernel_rfl) (by kernel_rfl) (by kernel_rfl) (fun _ _ _ h => h) (Or.inl ⟨by kernel_rfl, ?y28⟩) ?_
                  case y28 => (intro w; go_simp; try with_reducible rfl)
                  refine wpAny_take (i := 29) (v := ?v29) rfl (by kernel_rfl) (by kernel_rfl) (by kernel_rfl) (fun _ _ _ h => h) (Or.inl ⟨by kernel_rfl, ?y29⟩) ?_
                  case y29 => (intro w; go_simp; try with_reducible rfl)
                  refine wpAny_take (i := 30) (v := ?v30) rfl (by kernel_rfl) (by kernel_rfl) (by kernel_rfl) (fun _ _ _ h => h) (Or.inl ⟨by kernel_rfl, ?y30⟩) ?_
                  case y30 => (intro w; go_simp; try with_reducible rfl)
                  refine wpAny_take (i := 31) (v := ?v31) rfl (by kernel_rfl) (by kernel_rfl) (by kernel_rfl) (fun _ _ _ h => h) (Or.inl ⟨by kernel_rfl, ?y31⟩) ?_
                  case y31 => (intro w; go_simp; try with_reducible rfl)
                  refine wpAny_take (i := 32) (v := undef) rfl (by kernel_rfl) (by kernel_rfl) (by kernel_rfl) (fun _ _ _ h => h) (Or.inr ⟨by kernel_rfl, rfl⟩) ?_
                  refine wpAny_take (i := 33) (v := undef) rfl (by kernel_rfl) (by kernel_rfl) (by kernel_rfl) (fun _ _ _ h => h) (Or.inr ⟨by kernel_rfl, rfl⟩) ?_
                  refine wpAny_take (i := 34) (v := undef) rfl (by kernel_rfl) (by kernel_rfl) (by kernel_rfl) (fun _ _ _ h => h) (Or.inr ⟨by kernel_rfl, rfl⟩) ?_
                  refine wpAny_take (i := 35) (v := undef) rfl (by kernel_rfl) (by kernel_rfl) (by kernel_rfl) (fun _ _ _ h => h) (Or.inr ⟨by kernel_rfl, rfl⟩) ?_
                  refine wpAny_take (i := 36) (v := undef) rfl (by kernel_rfl) (by kernel_rfl) (by kernel_rfl) (fun _ _ _ h => h) (Or.inr ⟨by kernel_rfl, rfl⟩) ?_
                  refine wpAny_take (i := 37) (v := undef) rfl (by kernel_rfl) (by kernel_rfl) (by kernel_rfl) (fun _ _ _ h => h) (Or.inr ⟨by kernel_rfl, rfl⟩) ?_
                  refine wpAny_take (i := 38) (v := undef) rfl (by kernel_rfl) (by kernel_rfl) (by kernel_rfl) (fun _ _ _ h => h) (Or.inr ⟨by kernel_rfl, rfl⟩) ?_
                  refine wpAny_take (i := 39) (v := undef) rfl (by kernel_rfl) (by kernel_rfl) (by kernel_rfl) (fun _ _ _ h => h) (Or.inr ⟨by kernel_rfl, rfl⟩) ?_
                  refine wpAny_take (i := 40) (v := ?v40) rfl (by kernel_rfl) (by kernel_rfl) (by kernel_rfl) (fun _ _ _ h => h) (Or.inl ⟨by kernel_rfl, ?y40⟩) ?_
                  case y40 => (intro w; go_simp; try with_reducible rfl)
                  refine wpAny_take (i := 41) (v := ?v41) rfl (by kernel_rfl) (by kernel_rfl) (by kernel_rfl) (fun _ _ _ h => h) (Or.inl ⟨by kernel_rfl, ?y41⟩) ?_
                  case y41 => (intro w; go_simp; try with_reducible rfl)
                  refine wpAny_take (i := 42) (v := ?v42) rfl (by kernel_rfl) (by kernel_rfl) (by kernel_rfl) (fun _ _ _ h => h) (Or.inl ⟨by kernel_rfl, ?y42⟩) ?_
                  case y42 => (intro w; go_simp; try with_reducible rfl)
                  refine wpAny_done (by kernel_rfl) ?_ _
                  go_wp2_with fail
                  go_ret
                  exact ⟨by kernel_rfl, K9.out⟩
              · have e5 : ((k : Int) == 0) = false := by simp; omega
                have e6 : (fr == g) = false := by
                  rw [beq_eq_false_iff_ne]; intro e; have := HZ.out.2 e; omega
                have hwk : IntKind.i64.wrap ((k : Int) - 1) = (k : Int) - 1 := IntWalk.i64_in _ (by
                  have := RQ5.out.lenI; rw [ints_len, ← HM.out] at this; unfold maxLen at this; omega)
                obtain ⟨c, hc⟩ : ∃ c, (ints Q)[k - 1]? = some c := ⟨_, List.getElem?_eq_getElem (by rw [ints_len, ← HM.out]; omega)⟩
                obtain rfl := HLA.out c hc
                obtain ⟨k1, hk1⟩ : ∃ k1, k1 = k - 1 := ⟨_, rfl⟩
                have hk1I : (k : Int) - 1 = (k1 : Int) := by omega
                have hk1l : (k1 : Int) < (k : Int) := by omega
                rw [← hk1] at hc
                rw [hk1I] at hwk
                rcases RQ5.out with ⟨_, he⟩ | ⟨gW, oW, cap', hv, _⟩
                · rw [he] at hc; simp at hc
                simp only [Value.slice.injEq] at hv
                obtain ⟨rfl, hzz, rfl⟩ := hv
                have LST := Lib.hid (show ∀ wx, Kp No wq wx → wx.cell? ⟨gW, oW + k1, none⟩ = some (.int .i64 c) from fun wx hk => (RQ5.out.kpNo hk).intAt hc)
                have hcx := CD2.out wr.drew KQ.out.drew
                have hcl := LST.out wr.drew KQ.out.drew
                clear hk0 hc hzz hk1
                go_wp2_with fail
                go_region_held3 (fun w' => w'.cell? ⟨bf, 0, none⟩ = some (.int .i64 X) ∧ w'.cell? ⟨bf, 1, none⟩ = some (.int .i64 Y) ∧ w'.cell? ⟨bf, 2, none⟩ = some (.string s) ∧ w'.cell? ⟨gD, oD + c.toNat, none⟩ = some (.int .i64 (k : Int)) ∧ w'.cell? ⟨gW, oW + k1, none⟩ = some (.int .i64 c))
                  (first | exact ⟨by assumption, by assumption, by assumption, by assumption, by assumption⟩ | exact ⟨r0, r1, r2, hcx, hcl⟩)
                  (first
                    | (go_at_call 14; refine (FB.out _).mono ?_; rintro e w8 ⟨rfl, rfl⟩)
                    | (go_at_call 20; refine (HI.out _ _ (RQ5.out.kpNo KQ.out.drew) (R5.out.kpNo SW.out.bx.kp.drew)).mono ?_; rintro e w9 ⟨rfl, k9⟩; have K9 := Lib.hid (SW.out.bx.kp.drew.no k9); obtain ⟨s0, s1, s2⟩ := LB.out _ w9 ((SW.out.bx.no (Kp.refl _ _).drew).no k9); have hcx9 := CD2.out w9 (KQ.out.drew.no k9); have hcl9 := LST.out w9 (KQ.out.drew.no k9); clear k9))
                go_wp2_with fail
                go_ret
                exact ⟨by simp, K9.out.drewN 0⟩
end Go.Proofs.YthchoknhkhfdnaaDoor

namespace Go.Proofs.YthchoknhkhfdnaaDoor
set_option linter.unusedVariables false
set_option linter.unusedSimpArgs false
open Go.RowKit

/-- v, that came in, reads as l. -/
def RdA {α : Type} (K : Kd α) (w : World) (v : Value) (l : List α) : Prop :=
  ∃ A cap, v = .slice A l.length cap ∧ ∀ i x, l[i]? = some x → ∃ g o, A = some ⟨g, o, none⟩ ∧ ∀ j u, (K.enc x)[j]? = some u → w.cell? ⟨g, o + i * K.sz + j, none⟩ = some u

theorem Rd.a {α : Type} {K : Kd α} {w : World} {v : Value} {l : List α} (h : Rd K w v l) : RdA K w v l := by
  have h' := h
  rcases h with ⟨⟨A, c, rfl⟩, rfl⟩ | ⟨g, o, cap, rfl, _⟩
  · exact ⟨A, c, rfl, by simp⟩
  · exact ⟨_, cap, rfl, fun i x hx => ⟨g, o, rfl, fun j u hu => h'.at rfl hx hu⟩⟩
theorem RdA.kpNo {α : Type} {K : Kd α} {w w' : World} {v : Value} {l : List α} (h : RdA K w v l) (hk : Kp No w w') : RdA K w' v l :=
  let ⟨A, cap, hv, hc⟩ := h
  ⟨A, cap, hv, fun i x hx => let ⟨g, o, hA, hu⟩ := hc i x hx; ⟨g, o, hA, fun j u hj => hk.cellS (hu j u hj) (no_no _)⟩⟩
theorem RdA.shape {α : Type} {K : Kd α} {w : World} {v : Value} {l : List α} (h : RdA K w v l) : ∃ A cap, v = .slice A l.length cap := let ⟨A, cap, hv, _⟩ := h; ⟨A, cap, hv⟩
theorem RdA.take {α : Type} {K : Kd α} {w : World} {A : Option Addr} {n cap : Nat} {l : List α} (h : RdA K w (.slice A n cap) l) (m : Nat) : RdA K w (.slice A (min m n) cap) (l.take m) := by
  obtain ⟨A', cap', hv, hc⟩ := h
  simp only [Value.slice.injEq] at hv
  obtain ⟨rfl, rfl, rfl⟩ := hv
  refine ⟨A, cap, by simp, fun i x hx => ?_⟩
  rw [List.getElem?_take] at hx
  split at hx
  · exact hc i x hx
  · cases hx
theorem RdA.at {α : Type} {K : Kd α} {w : World} {A : Option Addr} {n cap : Nat} {l : List α} (h : RdA K w (.slice A n cap) l) {i : Nat} {x : α} (hx : l[i]? = some x) :
    ∃ g o, A = some ⟨g, o, none⟩ ∧ ∀ j u, (K.enc x)[j]? = some u → w.cell? ⟨g, o + i * K.sz + j, none⟩ = some u := by
  obtain ⟨A', cap', hv, hc⟩ := h
  simp only [Value.slice.injEq] at hv
  obtain ⟨rfl, rfl, rfl⟩ := hv
  exact hc i x hx

/-- 's[:hi]' of whatever came in. -/
theorem run_slice_hiA {α : Type} {K : Kd α} {P : Program} {t e : TypeId} {bytes : Nat} (E : ElT P t e K bytes) (A : Option Addr) (n cap hi : Nat) (h : hi ≤ cap) (x : Int) (hx : x = hi) (w : World) :
    (Instr.slice t (.slice A n cap) none (some (.int .i64 x)) none).run P w = .ok (.slice A hi cap) w := by
  subst hx
  obtain ⟨ht, i, z, hi', hz, hsize, hby, hzs⟩ := E
  have hA : (if cap = 0 then A else A.map (·.add (0 * i.size))) = A := by
    split
    · rfl
    · cases A <;> simp [Addr.add]
  simp only [Nat.zero_mul] at hA
  simp [Instr.slice, Instr.sliceBounds, Instr.sliceBound, run_underlying ht, sizeOf, typeInfo, hi', asIntOf, h, hA]

theorem list_of {α : Type} (Q : Nat → α → Prop) : ∀ n, (∀ i, i < n → ∃ x, Q i x) → ∃ l : List α, l.length = n ∧ ∀ i x, l[i]? = some x → Q i x
  | 0, _ => ⟨[], rfl, by simp⟩
  | n + 1, h => by
    obtain ⟨l, hl, hq⟩ := list_of Q n fun i hi => h i (by omega)
    obtain ⟨x, hx⟩ := h n (by omega)
    refine ⟨l ++ [x], by simp [hl], fun i y hy => ?_⟩
    rw [List.getElem?_append] at hy
    split at hy
    · exact hq i y hy
    · rename_i hi
      have : i = l.length := by
        have := (List.getElem?_eq_some_iff.1 hy).1
        simp at this; omega
      subst this
      simp at hy
      subst hy
      rw [hl]; exact hx

theorem open_rows {α : Type} {K : Kd α} {H : Type} {enc : TypeId × Value → H} {P : Program} {w : World} {base : Nat} {spare : Nat → Bool} {held : Bool} {t e : TypeId} {fuel : Nat} {v : Value} {x : DataW H × List MemPlace} (Good : α → Prop)
    (ht : P.underlying t = some (.slice e)) (hC : P.cellsOf e = K.sz) (dec : ∀ n cs' y, DataW.trod enc P w base spare held n e cs' = some y → ∃ x : α, cs' = K.enc x ∧ Good x)
    (h : DataW.trod enc P w base spare held fuel t [v] = some x) : ∃ l : List α, RdA K w v l ∧ (∀ x ∈ l, Good x) ∧ ∃ A cap, v = .slice A l.length cap ∧ l.length ≤ cap ∧ cap ≤ maxLen := by
  rcases Go.Deep.open_slice ht h with ⟨h0, _⟩ | ⟨a, len, cap, m, n, D, Pl, hcs, hb, hl, hm, hmm, hx, hi⟩
  · simp at h0
    exact ⟨[], ⟨none, 0, h0, by simp⟩, by simp, none, 0, h0, by simp, by simp⟩
  · simp at hcs
    have hml : len ≤ m := by rw [hmm]; split <;> omega
    have hsp : 0 < len → a = ⟨a.block, a.off, none⟩ := by
      intro h0
      obtain ⟨cs', hc, ht'⟩ := hi 0 (by omega)
      obtain ⟨y, rfl, _⟩ := dec n cs' _ ht'
      obtain ⟨_, hcl, hat⟩ := World.cells?_some hc
      have h1 := hat 0 (by rw [hC]; exact K.pos)
      rw [List.getElem?_eq_getElem (by rw [K.len y]; exact K.pos), Nat.zero_mul] at h1
      have := World.cell?_spot h1
      simp only [Addr.add, if_true] at this
      obtain ⟨b, o, sp⟩ := a
      simp only at this
      rw [this]
    obtain ⟨l, hll, hq⟩ := list_of (fun i (x : α) => Good x ∧ ∃ g o, some a = some (⟨g, o, none⟩ : Addr) ∧ ∀ j u, (K.enc x)[j]? = some u → w.cell? ⟨g, o + i * K.sz + j, none⟩ = some u) len fun i hil => by
      obtain ⟨cs', hc, ht'⟩ := hi i (by omega)
      obtain ⟨y, rfl, hg⟩ := dec n cs' _ ht'
      obtain ⟨_, hcl, hat⟩ := World.cells?_some hc
      rw [hC] at hat
      have ha := hsp (by omega)
      refine ⟨y, hg, a.block, a.off, congrArg some ha, fun j u hj => ?_⟩
      have hjl : j < K.sz := by rw [← K.len y]; exact (List.getElem?_eq_some_iff.1 hj).1
      have := hat j hjl
      rw [ha] at this
      simp only [Addr.add_lit] at this
      rw [this, hj]
    subst hll
    exact ⟨l, ⟨some a, cap, hcs, fun i x hx => (hq i x hx).2⟩, fun x hx => by obtain ⟨i, hil, rfl⟩ := List.getElem_of_mem hx; exact (hq i _ (List.getElem?_eq_getElem hil)).1, some a, cap, hcs, hl, hm⟩
end Go.Proofs.YthchoknhkhfdnaaDoor

namespace Go.Proofs.YthchoknhkhfdnaaDoor
set_option linter.unusedVariables false
set_option linter.unusedSimpArgs false
open Go.ChangeShapes Go.WideShapes Go.ChangeAt Go.RowKit Go.Joins

section
variable {H : Type} {enc : TypeId × Value → H} {w : World} {base : Nat} {spare : Nat → Bool} {held : Bool}
set_option maxRecDepth 100000 in
theorem open_floor {v : Value} {d : DataW H} {p : List MemPlace} {r : Reach} {b0 : Nat} (hv : Value.okWide Tryd.prog w r b0 23 v) (h : DataW.Trod enc Tryd.prog w base spare held 23 v d p) :
    ∃ f : Flr, v = f.val ∧ f.s.size ≤ 9223372036854775807 := by
  obtain ⟨v0, v1, v2, y0, y1, y2, n, rfl, _, _, h0, h1, h2⟩ := open_agg3 Tryd.underlying23 (by kernel_rfl) (by kernel_rfl) hv h
  obtain ⟨a, e0, _, _⟩ := DataW.trod_int Tryd.underlying3 h0
  obtain ⟨b, e1, _, _⟩ := DataW.trod_int Tryd.underlying3 h1
  obtain ⟨s, e2, _, hs⟩ := DataW.trod_string Tryd.underlying9 h2
  simp at e0 e1 e2
  subst e0 e1 e2
  exact ⟨⟨a, b, s⟩, rfl, hs⟩
end
end Go.Proofs.YthchoknhkhfdnaaDoor

namespace Go.Proofs.YthchoknhkhfdnaaDoor
set_option linter.unusedVariables false
set_option linter.unusedSimpArgs false
open Go.ChangeShapes Go.WideShapes Go.ChangeAt Go.RowKit Go.Joins
section
variable {H : Type} {enc : TypeId × Value → H} {w : World} {base : Nat} {spare : Nat → Bool} {held : Bool}
theorem int_dec {n : Nat} {cs : List Value} {y : DataW H × List MemPlace} (h : DataW.trod enc Tryd.prog w base spare held n 3 cs = some y) : ∃ x : Int, cs = IK.enc x ∧ True := by
  obtain ⟨k, e0, _, wk⟩ := DataW.trod_int Tryd.underlying3 h
  exact ⟨k, by rw [e0]; rfl, trivial⟩
theorem RdA.rd' {α : Type} {K : Kd α} {w : World} {A : Option Addr} {cap : Nat} {l : List α} (h : RdA K w (.slice A l.length cap) l) (h3 : l.length ≤ cap) (h4 : cap ≤ maxLen) : Rd K w (.slice A l.length cap) l := by
  obtain ⟨A', cap', e, hi⟩ := h
  simp only [Value.slice.injEq] at e
  obtain ⟨rfl, _, rfl⟩ := e
  by_cases h0 : l = []
  · subst h0; exact .inl ⟨⟨A, cap, rfl⟩, rfl⟩
  · obtain ⟨x, hx⟩ : ∃ x, l[0]? = some x := ⟨_, List.getElem?_eq_getElem (by cases l with | nil => exact absurd rfl h0 | cons _ _ => simp)⟩
    obtain ⟨g, o, rfl, _⟩ := hi 0 x hx
    refine .inr ⟨g, o, cap, rfl, h3, h4, fun j u hu => ?_⟩
    have hjl : j < l.length * K.sz := by rw [← K.length_encs]; exact (List.getElem?_eq_some_iff.1 hu).1
    have hp := K.pos
    have hq : j / K.sz < l.length := Nat.div_lt_of_lt_mul (by rw [Nat.mul_comm]; exact hjl)
    obtain ⟨y, hy⟩ : ∃ y, l[j / K.sz]? = some y := ⟨_, List.getElem?_eq_getElem hq⟩
    obtain ⟨g', o', e2, hc⟩ := hi _ y hy
    simp only [Option.some.injEq, Addr.mk.injEq] at e2
    obtain ⟨rfl, rfl, _⟩ := e2
    have hm : j % K.sz < K.sz := Nat.mod_lt _ hp
    have he := K.encs_get l (j / K.sz) (j % K.sz) y hy hm
    have hj : j / K.sz * K.sz + j % K.sz = j := Nat.div_add_mod' j K.sz
    rw [hj, hu] at he
    have := hc _ u he.symm
    rw [Nat.add_assoc, hj] at this
    exact this
set_option maxRecDepth 100000 in
theorem open_ints {v : Value} {d : DataW H} {p : List MemPlace} {r : Reach} {b0 : Nat} (hv : Value.okWide Tryd.prog w r b0 24 v) (h : DataW.Trod enc Tryd.prog w base spare held 24 v d p) : ∃ l : List Int, Rd IK w v l := by
  obtain ⟨a0, len, cap, rfl⟩ := okWide_slice Tryd.underlying24 hv
  obtain ⟨fuel, hf⟩ := h
  obtain ⟨l, h1, h2, A, cap, e, h3, h4⟩ := open_rows (K := IK) (fun _ : Int => True) Tryd.underlying24 (by kernel_rfl) (fun n cs' y hy => int_dec hy) hf
  rw [e] at h1 ⊢
  exact ⟨l, h1.rd' h3 h4⟩
end
end Go.Proofs.YthchoknhkhfdnaaDoor
