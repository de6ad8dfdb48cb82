/- FloorParses, the walk. -/
import Derived.Test.YtolkkinophklcaaDoorFlSw
import Derived.Test.YtolkkinophklcaaDoorFlQp
import Derived.Test.YtolkkinophklcaaDoorLaw
import Derived.OpenShut
import Derived.Lib.SmallJoins
namespace Go.Proofs.YtolkkinophklcaaDoor
set_option linter.unusedVariables false
set_option linter.unusedSimpArgs false
open Go.RowKit

theorem eqFloor (a b : Int) (s : ByteArray) (w : World) : (binOp .eql 24 (.agg #[.int .i64 a, .int .i64 b, .string s]) (.agg #[.int .i64 a, .int .i64 b, .string s])).run Tryd.prog w = .ok (.bool true) w := by
  simp [binOp, Op.equal, Op.maxDepth, go_sem]
set_option maxHeartbeats 1000000 in
set_option maxRecDepth 100000 in
theorem parses_row (s : ByteArray) (hs : s.size ≤ 9223372036854775807) (w : World) : Calls Tryd.prog 3 #[.string s] w (LawR w) := by
  unfold LawR
  have HSH := Lib.hid shown_any
  obtain ⟨n, hn⟩ : ∃ n, n = s.size := ⟨_, rfl⟩
  have hnI : ((s.size : Nat) : Int) = (n : Int) := by omega
  rw [← hn] at hs
  by_cases h : 2000 < n
  · have hI : (2000 : Int) < (n : Int) := by omega
    clear hn h
    go_enter Tryd.func3, Tryd.ntmps3
    go_wp2_with fail
    refine (HSH.out _).mono ?_
    rintro e w1 ⟨rfl, k1⟩
    have K1 := Lib.hid k1
    clear k1
    go_wp2_with fail
    go_ret
    exact ⟨rfl, K1.out⟩
  · have hI : ¬ (2000 : Int) < (n : Int) := by omega
    obtain ⟨⟨⟨X, Y, S⟩, y, er⟩, hr⟩ : ∃ r, parseP s = r := ⟨_, rfl⟩
    have HP := Lib.hid (parse_at s (by omega) _ hr (.tuple #[.agg #[.int .i64 X, .int .i64 Y, .string S], .int .i64 (y : Int), .int .i64 (er : Int)]) rfl)
    have HQ := Lib.hid (fun w => (qparse_any s (by omega) w).mono (fun e w' (h : ParseR s w e w') => show e = .returned (.tuple #[.agg #[.int .i64 X, .int .i64 Y, .string S], .int .i64 (y : Int), .int .i64 (er : Int)]) ∧ Kp No w w' from ⟨by rw [h.1, hr]; rfl, h.2⟩))
    have hq := eqFloor X Y S
    clear hn h hr
    go_enter Tryd.func3, Tryd.ntmps3
    go_wp2_with fail
    refine (HSH.out _).mono ?_
    rintro e w1 ⟨rfl, k1⟩
    have K1 := Lib.hid k1
    clear k1
    go_wp2_with fail
    refine (HP.out _).mono ?_
    rintro e w2 ⟨rfl, k2⟩
    have K2 := Lib.hid (K1.out.no k2)
    clear k2
    go_wp2_with fail
    obtain ⟨b1, hb1⟩ : ∃ b1, b1 = w2.heap.size := ⟨_, rfl⟩
    obtain ⟨w3, hw3⟩ : ∃ w3, w3 = w2.alloc (.cells #[.int .i64 X, .int .i64 Y, .string S] 24) := ⟨_, rfl⟩
    have B3 := Lib.hid (show BxW (Flr.mk X Y S) b1 w w3 by rw [hw3, hb1]; exact ⟨blk_new w2 _, K2.out.alloc _⟩)
    rw [← hw3, ← hb1]
    clear hw3 hb1 K2
    refine (HQ.out _).mono ?_
    rintro e w4 ⟨rfl, k4⟩
    have B4 := Lib.hid (B3.out.no k4)
    clear k4
    have hb0 : ∀ o, (w4.alloc o).cell? ⟨b1, 0, none⟩ = some (.int .i64 X) := fun o => (B4.out.no ((Kp.refl _ _).alloc o)).c0
    have hb1 : ∀ o, (w4.alloc o).cell? ⟨b1, 1, none⟩ = some (.int .i64 Y) := fun o => (B4.out.no ((Kp.refl _ _).alloc o)).c1
    have hb2 : ∀ o, (w4.alloc o).cell? ⟨b1, 2, none⟩ = some (.string S) := fun o => (B4.out.no ((Kp.refl _ _).alloc o)).c2
    have KE := Lib.hid (B4.out.kp.alloc (.cells #[.int .i64 X, .int .i64 Y, .string S] 24))
    go_wp2_with fail
    go_ret
    exact ⟨rfl, KE.out⟩
end Go.Proofs.YtolkkinophklcaaDoor
