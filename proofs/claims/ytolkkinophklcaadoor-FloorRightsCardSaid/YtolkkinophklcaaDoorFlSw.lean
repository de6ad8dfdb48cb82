/- carfaxlaw03.shown. -/
import Derived.Test.YtolkkinophklcaaDoorFlSh
import Derived.Test.YtolkkinophklcaaDoorFlT
namespace Go.Proofs.YtolkkinophklcaaDoor
set_option linter.unusedVariables false
set_option linter.unusedSimpArgs false
open Go.RowKit

def fA : Flr := ⟨2, 2, ⟨#[48, 97, 35, 98]⟩⟩
theorem fA_right : rightB fA = true := rightC_ok (W := 2) (H := 2) (by kernel_rfl)
theorem parse_A : parseP ⟨#[48, 97, 10, 35, 98, 10]⟩ = (fA, 0, 0) := parseP_of (W := 2) (H := 2) (R := [⟨#[48, 97]⟩, ⟨#[35, 98]⟩]) (by kernel_rfl) (by kernel_rfl) (by kernel_rfl) (by kernel_rfl) (by kernel_rfl) (by kernel_rfl)
theorem fB_wrong : rightB ⟨2, 2, ⟨#[48, 97, 98, 49]⟩⟩ = false := rightB_f fun r => by
  have h1 : laneI ⟨#[48, 97, 98, 49]⟩ 1 := by unfold laneI; exact ⟨by decide, by kernel_rfl⟩
  have h2 : laneI ⟨#[48, 97, 98, 49]⟩ 2 := by unfold laneI; exact ⟨by decide, by kernel_rfl⟩
  have hc := r.join.2 1 2 h1 h2
  have := hc.closed (p := fun j => j = 1) rfl fun j k hj hk hl => by
    subst hj
    have hb : besideP (2 : Int).toNat (2 : Int).toNat 1 = [3, 0] := by kernel_rfl
    rw [show (Flr.mk 2 2 ⟨#[48, 97, 98, 49]⟩).W = 2 from rfl, show (Flr.mk 2 2 ⟨#[48, 97, 98, 49]⟩).H = 2 from rfl, hb] at hk
    simp at hk
    rcases hk with rfl | rfl
    · have := hl.2; exact absurd this (by unfold kdS; decide)
    · have := hl.2; exact absurd this (by unfold kdS; decide)
  simp at this
theorem parse_B : parseP ⟨#[48, 97, 10, 98, 49, 10]⟩ = (Flr.zero, 2, 30) := parseP_not (W := 2) (H := 2) (R := [⟨#[48, 97]⟩, ⟨#[98, 49]⟩]) (S := ⟨#[48, 97, 98, 49]⟩) (by kernel_rfl) (by kernel_rfl) (by kernel_rfl) (by kernel_rfl) (by kernel_rfl) fB_wrong
theorem robots_A : robotsP fA = 1 := by unfold robotsP; rw [if_pos fA_right]; kernel_rfl
theorem dock_A : dockP fA 0 = some 0 := by unfold dockP; rw [if_pos ⟨fA_right, by decide⟩]; kernel_rfl
theorem lanes_A : lanesP fA = [1, 3] := by unfold lanesP; rw [if_pos fA_right]; kernel_rfl
theorem near_A : nearP fA (1 : Nat) = [3, 0] := by rw [nearP_at (W := 2) (H := 2) fA_right (by decide) rfl rfl (.inl (by kernel_rfl))]; kernel_rfl

theorem parse_at (s : ByteArray) (hs : s.size ≤ 1000000) (r : Flr × Nat × Nat) (hr : parseP s = r) (V : Value) (hV : PVal r = V) (w : World) : Calls Tryd.prog 11 #[.string s] w fun e w' => e = .returned V ∧ Kp No w w' := by
  subst hr hV; exact parse_any s hs w
theorem dock_at (f : Flr) (hs : f.s.size ≤ 1000000) (c : Int) (hc : c ≤ 1000000) (r : Option Nat) (hr : dockP f c = r) (V : Value) (hV : ZVal r = V) (w : World) : Calls Tryd.prog 14 #[f.val, .int .i64 c] w fun e w' => e = .returned V ∧ Kp No w w' := by
  subst hr hV; exact dock_any f (by omega) c (by omega) w
theorem zone_at (f : Flr) (hs : f.s.size ≤ 1000000) (c : Int) (hc : c ≤ 1000000) (r : Option Nat) (hr : zoneP f c = r) (V : Value) (hV : ZVal r = V) (w : World) : Calls Tryd.prog 16 #[f.val, .int .i64 c] w fun e w' => e = .returned V ∧ Kp No w w' := by
  subst hr hV; exact zone_any f (by omega) c (by omega) w
theorem robots_at (f : Flr) (hs : f.s.size ≤ 1000000) (n : Nat) (hn : robotsP f = n) (w : World) : Calls Tryd.prog 18 #[f.val] w fun e w' => e = .returned (.int .i64 (n : Int)) ∧ Kp No w w' := by
  subst hn; exact robots_any f (by omega) w
def RetI (L : List Nat) (w : World) (e : Ending) (w' : World) : Prop := ∃ A q, e = .returned (.slice A L.length q) ∧ NewS IK 3 w w' (.slice A L.length q) (ints L)
theorem RetI.of {L : List Nat} {w w' : World} {e : Ending} (h : ∃ v, e = .returned v ∧ NewS IK 3 w w' v (ints L)) : RetI L w e w' := by
  obtain ⟨v, rfl, ns⟩ := h
  obtain ⟨A, q, rfl⟩ := ns.own.rd.shape
  rw [ints_len] at ns ⊢
  exact ⟨A, q, rfl, ns⟩
theorem lanes_at (f : Flr) (hs : f.s.size ≤ 1000000) (L : List Nat) (hL : lanesP f = L) (w : World) : Calls Tryd.prog 22 #[f.val] w (RetI L w) := by
  subst hL; exact (lanes_any f (by omega) w).mono fun _ _ h => .of h
theorem near_at (f : Flr) (hs : f.s.size ≤ 1000000) (c : Int) (hc : c ≤ 1000000) (L : List Nat) (hL : nearP f c = L) (w : World) : Calls Tryd.prog 13 #[f.val, .int .i64 c] w (RetI L w) := by
  subst hL; exact (near_any f (by omega) c (by omega) w).mono fun _ _ h => .of h

set_option maxHeartbeats 1000000 in
set_option maxRecDepth 100000 in
theorem shown_any (w : World) : Calls Tryd.prog 10 #[] w fun e w' => e = .returned (.bool true) ∧ Kp No w w' := by
  have hpA := Lib.hid (parse_at ⟨#[48, 97, 10, 35, 98, 10]⟩ (by decide) _ parse_A (.tuple #[.agg #[.int .i64 2, .int .i64 2, .string ⟨#[48, 97, 35, 98]⟩], .int .i64 0, .int .i64 0]) rfl)
  have hpB := Lib.hid (parse_at ⟨#[48, 97, 10, 98, 49, 10]⟩ (by decide) _ parse_B (.tuple #[.agg #[.int .i64 0, .int .i64 0, .string ⟨#[]⟩], .int .i64 2, .int .i64 30]) rfl)
  have hD := Lib.hid (dock_at fA (by decide) 0 (by decide) _ dock_A (.tuple #[.int .i64 0, .bool true]) rfl)
  have hR := Lib.hid (robots_at fA (by decide) 1 robots_A)
  have hL := Lib.hid (lanes_at fA (by decide) _ lanes_A)
  have hN := Lib.hid (near_at fA (by decide) (1 : Nat) (by decide) _ near_A)
  go_enter Tryd.func10, Tryd.ntmps10
  go_wp2_with fail
  refine (hpA.out _).mono ?_
  rintro e w1 ⟨rfl, k1⟩
  have K1 := Lib.hid k1
  clear k1
  go_wp2_with fail
  obtain ⟨b1, hb1⟩ : ∃ b1, b1 = w1.heap.size := ⟨_, rfl⟩
  obtain ⟨w2, hw2⟩ : ∃ w2, w2 = w1.alloc (.cells #[.int .i64 2, .int .i64 2, .string ⟨#[48, 97, 35, 98]⟩] 24) := ⟨_, rfl⟩
  have B2 := Lib.hid (show BxW fA b1 w w2 by rw [hw2, hb1]; exact ⟨blk_new w1 _, K1.out.alloc _⟩)
  rw [← hw2, ← hb1]
  clear hw2 hb1 K1
  refine (hpB.out _).mono ?_
  rintro e w3 ⟨rfl, k3⟩
  have B3 := Lib.hid (B2.out.no (k3.alloc (.cells #[.int .i64 0, .int .i64 0, .string ⟨#[]⟩] 24)))
  clear k3
  obtain ⟨w4, hw4⟩ : ∃ w4, w4 = w3.alloc (.cells #[.int .i64 0, .int .i64 0, .string ⟨#[]⟩] 24) := ⟨_, rfl⟩
  rw [← hw4] at B3
  have hb0 : w4.cell? ⟨b1, 0, none⟩ = some (.int .i64 2) := B3.out.c0
  have hb1 : w4.cell? ⟨b1, 1, none⟩ = some (.int .i64 2) := B3.out.c1
  have hb2 : w4.cell? ⟨b1, 2, none⟩ = some (.string ⟨#[48, 97, 35, 98]⟩) := B3.out.c2
  rw [hw4] at hb0 hb1 hb2
  go_wp2_with fail
  rw [← hw4]
  clear hw4 hb0 hb1 hb2
  refine (hD.out _).mono ?_
  rintro e w5 ⟨rfl, k5⟩
  have B5 := Lib.hid (B3.out.no k5)
  clear k5
  have hb0 : w5.cell? ⟨b1, 0, none⟩ = some (.int .i64 2) := B5.out.c0
  have hb1 : w5.cell? ⟨b1, 1, none⟩ = some (.int .i64 2) := B5.out.c1
  have hb2 : w5.cell? ⟨b1, 2, none⟩ = some (.string ⟨#[48, 97, 35, 98]⟩) := B5.out.c2
  go_wp2_with fail
  refine (hR.out _).mono ?_
  rintro e w6 ⟨rfl, k6⟩
  have B6 := Lib.hid (B5.out.no k6)
  clear k6 hb0 hb1 hb2
  have hb0 : w6.cell? ⟨b1, 0, none⟩ = some (.int .i64 2) := B6.out.c0
  have hb1 : w6.cell? ⟨b1, 1, none⟩ = some (.int .i64 2) := B6.out.c1
  have hb2 : w6.cell? ⟨b1, 2, none⟩ = some (.string ⟨#[48, 97, 35, 98]⟩) := B6.out.c2
  go_wp2_with fail
  refine (hL.out _).mono ?_
  rintro e w7 ⟨A7, q7, rfl, n7⟩
  have B7 := Lib.hid (B6.out.no n7.kp)
  have N7 := Lib.hid n7
  clear n7 hb0 hb1 hb2
  go_wp2_with fail
  have B8 := Lib.hid (B7.out.no ((Kp.refl _ _).alloc (.cells #[.int .i64 1, .int .i64 3] 3)))
  refine (sameInts_any (N7.out.own.rd.alloc _) (Rd.litAt IK 3 w7 #[.int .i64 1, .int .i64 3] (ints [1, 3]) rfl (by unfold maxLen; rw [ints_len]; simp) w7.heap.size 2 rfl rfl) true (by simp)).mono ?_
  rintro e w9 ⟨rfl, k9⟩
  have B9 := Lib.hid (B8.out.no k9)
  clear k9 N7 B7 B8
  have hb0 : w9.cell? ⟨b1, 0, none⟩ = some (.int .i64 2) := B9.out.c0
  have hb1 : w9.cell? ⟨b1, 1, none⟩ = some (.int .i64 2) := B9.out.c1
  have hb2 : w9.cell? ⟨b1, 2, none⟩ = some (.string ⟨#[48, 97, 35, 98]⟩) := B9.out.c2
  go_wp2_with fail
  refine (hN.out _).mono ?_
  rintro e w10 ⟨A10, q10, rfl, n10⟩
  have B10 := Lib.hid (B9.out.no n10.kp)
  have N10 := Lib.hid n10
  clear n10 hb0 hb1 hb2
  go_wp2_with fail
  have B11 := Lib.hid (B10.out.no ((Kp.refl _ _).alloc (.cells #[.int .i64 3, .int .i64 0] 3)))
  refine (sameInts_any (N10.out.own.rd.alloc _) (Rd.litAt IK 3 w10 #[.int .i64 3, .int .i64 0] (ints [3, 0]) rfl (by unfold maxLen; rw [ints_len]; simp) w10.heap.size 2 rfl rfl) true (by simp)).mono ?_
  rintro e w12 ⟨rfl, k12⟩
  have B12 := Lib.hid (B11.out.no k12)
  clear k12
  go_wp2_with fail
  go_ret
  exact ⟨rfl, B12.out.kp⟩
end Go.Proofs.YtolkkinophklcaaDoor
