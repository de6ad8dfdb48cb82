/- FloorAsks, the walk. -/
import Derived.Test.YtolkkinophklcaaDoorFlSw
import Derived.Test.YtolkkinophklcaaDoorFlQm
import Derived.Test.YtolkkinophklcaaDoorLaw
import Derived.Deep.RegionHeld3
import Derived.OpenShut
import Derived.Lib.SmallJoins
namespace Go.Proofs.YtolkkinophklcaaDoor
set_option linter.unusedVariables false
set_option linter.unusedSimpArgs false
open Go.RowKit

theorem ZVal_shape (o : Option Nat) : ∃ (a : Nat) (b : Bool), ZVal o = .tuple #[.int .i64 (a : Int), .bool b] := ⟨_, _, rfl⟩
set_option maxHeartbeats 2000000 in
set_option maxRecDepth 100000 in
theorem asks_row (f : Flr) (hs : f.s.size ≤ 9223372036854775807) (c : Int) (hc : c ≤ 9223372036854775807) (w : World) : Calls Tryd.prog 5 #[f.val, .int .i64 c] w (LawR w) := by
  unfold LawR
  have HSH := Lib.hid shown_any
  have HBX := Lib.hid (BxW.new f w)
  obtain ⟨X, Y, s⟩ := f
  simp only at hs
  obtain ⟨n, hn⟩ : ∃ n, n = s.size := ⟨_, rfl⟩
  have hnI : ((s.size : Nat) : Int) = (n : Int) := by omega
  by_cases h : 2000 < n
  · have hI : (2000 : Int) < (n : Int) := by omega
    unfold Flr.val
    clear hn h
    go_enter Tryd.func5, Tryd.ntmps5
    go_wp2_with fail
    refine (HSH.out _).mono ?_
    rintro e w1 ⟨rfl, k1⟩
    have B1 := Lib.hid (HBX.out.no k1)
    have hb2 : w1.cell? ⟨w.heap.size, 2, none⟩ = some (.string s) := B1.out.c2
    clear k1
    go_wp2_with fail
    go_ret
    exact ⟨rfl, B1.out.kp⟩
  · have hI : ¬ (2000 : Int) < (n : Int) := by omega
    obtain ⟨f, hf⟩ : ∃ f : Flr, f = ⟨X, Y, s⟩ := ⟨_, rfl⟩
    obtain ⟨d, db, hd⟩ := ZVal_shape (dockP f c)
    obtain ⟨z, zb, hz⟩ := ZVal_shape (zoneP f c)
    have hfs : f.s.size ≤ 9223372036854775807 := by rw [hf]; exact hs
    have H1 := Lib.hid (dock_any f hfs c hc)
    have H2 := Lib.hid (qdockOf_any f hfs c)
    have H3 := Lib.hid (zone_any f hfs c hc)
    have H4 := Lib.hid (qzone_any f hfs c hc)
    rw [hd] at H1 H2
    rw [hz] at H3 H4
    have H5 := Lib.hid (robots_any f hfs)
    have H6 := Lib.hid (qrobots_any f hfs)
    obtain ⟨rb, hrb⟩ : ∃ rb, rb = robotsP f := ⟨_, rfl⟩
    rw [← hrb] at H5 H6
    have H7 := Lib.hid (near_any f hfs c hc)
    have H8 := Lib.hid (qnear_any f hfs c hc)
    obtain ⟨N, hN⟩ : ∃ N, N = nearP f c := ⟨_, rfl⟩
    rw [← hN] at H7 H8
    have H9 := Lib.hid (lanes_any f hfs)
    have H10 := Lib.hid (qlanes_any f hfs)
    obtain ⟨L, hL⟩ : ∃ L, L = lanesP f := ⟨_, rfl⟩
    rw [← hL] at H9 H10
    rw [hf] at H1 H2 H3 H4 H5 H6 H7 H8 H9 H10
    unfold Flr.val at H1 H2 H3 H4 H5 H6 H7 H8 H9 H10 ⊢
    clear hd hz hf hrb hN hL hfs hn h hs
    go_enter Tryd.func5, Tryd.ntmps5
    go_wp2_with fail
    refine (HSH.out _).mono ?_
    rintro e w1 ⟨rfl, k1⟩
    have B1 := Lib.hid (HBX.out.no k1)
    have hb0 : w1.cell? ⟨w.heap.size, 0, none⟩ = some (.int .i64 X) := B1.out.c0
    have hb1 : w1.cell? ⟨w.heap.size, 1, none⟩ = some (.int .i64 Y) := B1.out.c1
    have hb2 : w1.cell? ⟨w.heap.size, 2, none⟩ = some (.string s) := B1.out.c2
    clear k1
    go_wp2_with fail
    refine (H1.out _).mono ?_
    rintro e w2 ⟨rfl, k2⟩
    have B2 := Lib.hid (B1.out.no k2)
    clear k2 hb0 hb1 hb2
    have hb0 : w2.cell? ⟨w.heap.size, 0, none⟩ = some (.int .i64 X) := B2.out.c0
    have hb1 : w2.cell? ⟨w.heap.size, 1, none⟩ = some (.int .i64 Y) := B2.out.c1
    have hb2 : w2.cell? ⟨w.heap.size, 2, none⟩ = some (.string s) := B2.out.c2
    go_wp2_with fail
    refine (H2.out _).mono ?_
    rintro e w3 ⟨rfl, k3⟩
    have B3 := Lib.hid (B2.out.no k3)
    clear k3 hb0 hb1 hb2
    have hb0 : w3.cell? ⟨w.heap.size, 0, none⟩ = some (.int .i64 X) := B3.out.c0
    have hb1 : w3.cell? ⟨w.heap.size, 1, none⟩ = some (.int .i64 Y) := B3.out.c1
    have hb2 : w3.cell? ⟨w.heap.size, 2, none⟩ = some (.string s) := B3.out.c2
    go_wp2_with fail
    refine (H3.out _).mono ?_
    rintro e w4 ⟨rfl, k4⟩
    have B4 := Lib.hid (B3.out.no k4)
    clear k4 hb0 hb1 hb2
    have hb0 : w4.cell? ⟨w.heap.size, 0, none⟩ = some (.int .i64 X) := B4.out.c0
    have hb1 : w4.cell? ⟨w.heap.size, 1, none⟩ = some (.int .i64 Y) := B4.out.c1
    have hb2 : w4.cell? ⟨w.heap.size, 2, none⟩ = some (.string s) := B4.out.c2
    go_wp2_with fail
    refine (H4.out _).mono ?_
    rintro e we ⟨rfl, k5⟩
    have B5 := Lib.hid (B4.out.no k5)
    clear k5 hb0 hb1 hb2
    have SALL : Hid (∀ w', Kp No we w' → (w'.cell? ⟨w.heap.size, 0, none⟩ = some (.int .i64 X) ∧ w'.cell? ⟨w.heap.size, 1, none⟩ = some (.int .i64 Y) ∧ w'.cell? ⟨w.heap.size, 2, none⟩ = some (.string s))) := Lib.hid fun w' hk =>
      ⟨(B5.out.no hk).c0, (B5.out.no hk).c1, (B5.out.no hk).c2⟩
    obtain ⟨s1, s2, s3⟩ := SALL.out we.drew (Kp.refl No we).drew
    go_wp2_with fail
    go_region_held3 (fun w' => w'.cell? ⟨w.heap.size, 0, none⟩ = some (.int .i64 X) ∧ w'.cell? ⟨w.heap.size, 1, none⟩ = some (.int .i64 Y) ∧ w'.cell? ⟨w.heap.size, 2, none⟩ = some (.string s))
      (first | exact ⟨by assumption, by assumption, by assumption⟩ | exact ⟨s1, s2, s3⟩)
      (first
        | (go_at_call 20; refine (sameInts_any (N14.out.own.kpNo N15.out.kp).rd N15.out.own.rd true (by simp)).mono ?_; rintro e w16 ⟨rfl, k16⟩; have K16 := Lib.hid (K15.out.trans k16); obtain ⟨t1, t2, t3⟩ := SALL.out w16 K16.out; clear k16)
        | (go_at_call 23; refine (H10.out _).mono ?_; rintro e w15 ⟨v15, rfl, n15⟩; obtain ⟨A15, q15, rfl⟩ := n15.own.rd.shape; have N15 := Lib.hid n15; have K15 := Lib.hid (K14.out.trans n15.kp); obtain ⟨t1, t2, t3⟩ := SALL.out w15 K15.out; clear n15)
        | (go_at_call 22; refine (H9.out _).mono ?_; rintro e w14 ⟨v14, rfl, n14⟩; obtain ⟨A14, q14, rfl⟩ := n14.own.rd.shape; have N14 := Lib.hid n14; have K14 := Lib.hid (K13.out.trans n14.kp); obtain ⟨t1, t2, t3⟩ := SALL.out w14 K14.out; clear n14)
        | (go_at_call 20; refine (sameInts_any (N11.out.own.kpNo N12.out.kp).rd N12.out.own.rd true (by simp)).mono ?_; rintro e w13 ⟨rfl, k13⟩; have K13 := Lib.hid (K12.out.trans k13); obtain ⟨t1, t2, t3⟩ := SALL.out w13 K13.out; clear k13)
        | (go_at_call 21; refine (H8.out _).mono ?_; rintro e w12 ⟨v12, rfl, n12⟩; obtain ⟨A12, q12, rfl⟩ := n12.own.rd.shape; have N12 := Lib.hid n12; have K12 := Lib.hid (K11.out.trans n12.kp); obtain ⟨t1, t2, t3⟩ := SALL.out w12 K12.out; clear n12)
        | (go_at_call 13; refine (H7.out _).mono ?_; rintro e w11 ⟨v11, rfl, n11⟩; obtain ⟨A11, q11, rfl⟩ := n11.own.rd.shape; have N11 := Lib.hid n11; have K11 := Lib.hid (K10.out.trans n11.kp); obtain ⟨t1, t2, t3⟩ := SALL.out w11 K11.out; clear n11)
        | (go_at_call 19; refine (H6.out _).mono ?_; rintro e w10 ⟨rfl, k10⟩; have K10 := Lib.hid (K9.out.trans k10); obtain ⟨t1, t2, t3⟩ := SALL.out w10 K10.out; clear k10)
        | (go_at_call 18; refine (H5.out we.drew).mono ?_; rintro e w9 ⟨rfl, k9⟩; have K9 := Lib.hid ((Kp.refl No we).drew.trans k9); obtain ⟨t1, t2, t3⟩ := SALL.out w9 K9.out; clear k9))
    go_wp2_with fail
    go_ret
    exact ⟨rfl, B5.out.kp.no K16.out⟩
end Go.Proofs.YtolkkinophklcaaDoor
