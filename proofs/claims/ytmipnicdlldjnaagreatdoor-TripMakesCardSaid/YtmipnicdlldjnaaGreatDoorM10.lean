/- TripMakes: the walk (written by bin/gen_l10.py). No condition. -/
import Derived.Test.YtmipnicdlldjnaaGreatDoorM7
import Derived.Test.YtmipnicdlldjnaaGreatDoorM9

namespace Go.Proofs.YtmipnicdlldjnaaGreatDoor
set_option linter.unusedVariables false
set_option linter.unusedSimpArgs false
open Go.RowKit

theorem made_len {f : Flr} {robot pod fr tg : Int} {B : List Int} {out : List ActT} {er : Int} (h : MadeR f robot pod fr tg B out er) : out.length ≤ 1000 := by
  cases h with
  | arg _ => simp
  | no _ _ _ _ _ _ _ _ _ _ => simp
  | ok d a b m1 m2 m3 h1 h2 h3 h4 h5 h6 h7 =>
    obtain ⟨a, b, d, Q1, Q2, Q3, _, _, hout, tw⟩ := made_trip (.ok d a b m1 m2 m3 h1 h2 h3 h4 h5 h6 h7) rfl
    rw [hout, tripT_len]
    have := tw.lens
    omega
set_option maxHeartbeats 4000000 in
set_option maxRecDepth 100000 in
theorem makes_row (x : Cb) {w : World} (hx : x.Ok w) : Calls Tryz.prog 3 #[x.val] w fun e w' => e = .returned (.bool true) ∧ Kp No w w' := by
  have HSH := Lib.hid shown10_any
  obtain ⟨t, ht⟩ : ∃ t, t = (decide (x.f.s.size ≤ 60) && decide (x.B.length ≤ 30)) := ⟨_, rfl⟩
  have SM := Lib.hid (small10_any x hx t ht)
  have H60 := Lib.hid (show t = true → x.f.s.size ≤ 60 ∧ x.B.length ≤ 30 by intro e; rw [ht] at e; simpa using e)
  obtain ⟨f, rb, pod, fr, tg, bv, B⟩ := x
  obtain ⟨hsz, hrb, hfr, htg, hB⟩ := hx
  simp only at hsz hrb hfr htg hB H60
  unfold Cb.val at SM ⊢
  simp only at SM ⊢
  obtain ⟨F, hF⟩ : ∃ F, F = f := ⟨_, rfl⟩
  have HF := Lib.hid hF
  rw [← hF] at H60
  have MK := Lib.hid (fun (h60 : F.s.size ≤ 60) wx (hk : Kp No w wx) => tpMake_any F (by omega) rb pod fr tg hrb hfr htg (hB.kpNo hk))
  have QM := Lib.hid (fun (h60 : F.s.size ≤ 60) wx (hk : Kp No w wx) => q10Make_any F (by omega) rb pod fr tg hrb hfr htg (hB.kpNo hk))
  obtain ⟨X, Y, s⟩ := f
  simp only at SM ⊢
  have HV := Lib.hid (show F.val = .agg #[.int .i64 X, .int .i64 Y, .string s] by rw [hF]; rfl)
  rw [HV.out] at MK QM
  obtain ⟨w1, hw1⟩ : ∃ y : World, y = w.alloc (.cells #[.int .i64 X, .int .i64 Y, .string s, .int .i64 rb, .int .i64 pod, .int .i64 fr, .int .i64 tg, bv] 26) := ⟨_, rfl⟩
  have BX := Lib.hid (show w1.heap[w.heap.size]? = some (.cells #[.int .i64 X, .int .i64 Y, .string s, .int .i64 rb, .int .i64 pod, .int .i64 fr, .int .i64 tg, bv] 26 (0, 0)) by rw [hw1]; exact blk_new w _)
  have KB := Lib.hid (show Kp No w w1 by rw [hw1]; exact (Kp.refl _ _).alloc _)
  have HB := Lib.hid (fun wx (hk : Kp No w1 wx) => hB.kpNo (KB.out.no hk))
  have HW1 := Lib.hid hw1
  have LB := Lib.hid (fun wx (hk : Kp No w1 wx) => case10_cells BX.out hk)
  clear hsz hrb hfr htg hB ht hF hw1
  go_enter Tryz.func3, Tryz.ntmps3
  go_upto_region 1 with fail
  rw [← HW1.out]
  go_wp2_with fail
  refine (HSH.out _).mono ?_
  rintro e w2 ⟨rfl, k2⟩
  have K2 := Lib.hid k2
  clear k2
  obtain ⟨c0, c1, c2, c3, c4, c5, c6, c7⟩ := LB.out w2 K2.out
  go_wp2_with fail
  refine (SM.out _).mono ?_
  rintro e w3 ⟨rfl, k3⟩
  have K3 := Lib.hid (K2.out.no k3)
  clear k3 c0 c1 c2 c3 c4 c5 c6 c7
  cases t with
  | false =>
    go_wp2_with fail
    go_ret
    exact ⟨rfl, KB.out.no K3.out⟩
  | true =>
    obtain ⟨h60, h30⟩ := H60.out (by first | rfl | trivial)
    have HC := Lib.hid h60
    have HC30 := Lib.hid h30
    clear h60 h30
    obtain ⟨c0, c1, c2, c3, c4, c5, c6, c7⟩ := LB.out w3 K3.out
    go_wp2_with fail
    refine (MK.out HC.out _ (KB.out.no K3.out)).mono ?_
    rintro e w4 ⟨out, Ao, qo, er, hm, rfl, no⟩
    have NO := Lib.hid no
    have HM := Lib.hid hm
    have K4 := Lib.hid (K3.out.no no.kp)
    have HER := Lib.hid (show er = 0 ∨ (er = 1 ∧ out = []) ∨ (er = 2 ∧ out = []) by cases hm <;> simp)
    clear hm no c0 c1 c2 c3 c4 c5 c6 c7
    have ML := Lib.hid (made_len HM.out)
    obtain ⟨n, hn⟩ : ∃ z, z = out.length := ⟨_, rfl⟩
    have HN := Lib.hid hn
    have OW := Lib.hid (show Rd AcK w4 (.slice Ao n qo) out by rw [hn]; exact NO.out.own.rd)
    rw [← hn]
    obtain ⟨c0, c1, c2, c3, c4, c5, c6, c7⟩ := LB.out w4 K4.out
    clear hn
    go_wp2_with fail
    refine (QM.out HC.out _ (KB.out.no K4.out)).mono ?_
    rintro e w5 ⟨out2, Ar, qr, er2, hm2, rfl, no2⟩
    obtain ⟨rfl, rfl⟩ := made_uniq HM.out hm2
    have N2 := Lib.hid no2
    have K5 := Lib.hid (K4.out.no no2.kp)
    rw [← HN.out] at N2 ⊢
    have OW5 := Lib.hid (OW.out.kpNo N2.out.kp)
    have SA := Lib.hid (same10_any OW5.out N2.out.own.rd (by have := ML.out; omega) (by have := ML.out; omega) true (by simp))
    clear no2 hm2 c0 c1 c2 c3 c4 c5 c6 c7
    go_wp2_with fail
    refine SA.out.mono ?_
    rintro e w6 ⟨rfl, k6⟩
    have K6 := Lib.hid (K5.out.no k6)
    clear k6
    go_wp2_with fail
    go_ret
    exact ⟨by simp, KB.out.no K6.out⟩
end Go.Proofs.YtmipnicdlldjnaaGreatDoor
