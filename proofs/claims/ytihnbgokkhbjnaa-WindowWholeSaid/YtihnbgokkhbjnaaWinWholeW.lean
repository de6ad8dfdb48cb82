/- WindowWhole: the walk. -/
import Derived.Test.YtihnbgokkhbjnaaWinU
namespace Go.Proofs.Ytihnbgokkhbjnaa
set_option linter.unusedVariables false
set_option linter.unusedSimpArgs false
open Go.RowKit

theorem ofInt_wrap (x : Int) : BitVec.ofInt 64 (IntKind.i64.wrap x) = BitVec.ofInt 64 x := by
  apply BitVec.eq_of_toNat_eq
  rw [BitVec.toNat_ofInt, BitVec.toNat_ofInt]
  congr 1
  have h : IntKind.i64.wrap x = (x + 9223372036854775808) % 18446744073709551616 - 9223372036854775808 := by
    simp [IntKind.wrap, IntKind.bits, IntKind.signed]
    try omega
  rw [h, show ((2 ^ 64 : Nat) : Int) = 18446744073709551616 from rfl]
  omega
theorem xor_ne (c : Int) : bits .xor .i64 c 1 ≠ c := by
  intro h
  have h2 : BitVec.ofInt 64 (bits .xor .i64 c 1) = BitVec.ofInt 64 c ^^^ 1#64 := by
    have : bits .xor .i64 c 1 = IntKind.i64.wrap ((BitVec.ofInt 64 c ^^^ BitVec.ofInt 64 1).toNat : Int) := rfl
    rw [this, ofInt_wrap, BitVec.ofInt_natCast, BitVec.ofNat_toNat, BitVec.setWidth_eq]
    rfl
  rw [h] at h2
  have h3 : BitVec.ofInt 64 c ^^^ BitVec.ofInt 64 c = BitVec.ofInt 64 c ^^^ (BitVec.ofInt 64 c ^^^ 1#64) := by rw [← h2]
  rw [← BitVec.xor_assoc] at h3
  simp at h3

theorem fresh_take (cell : Int) : (0 : Int) = takeE ((fun _ => [] : Int → List (Int × Int)) cell) 0 1048576 := by show (0 : Int) = takeE [] 0 1048576; decide
def TW (cell : Int) : Int → List (Int × Int) := takeT (fun _ => []) cell 0 1048576
theorem tw_cell (cell : Int) : TW cell cell = [(0, 1048576)] := by
  have : takeE [] 0 1048576 = 0 := by decide
  simp [TW, takeT, this, setT, insL, place]
theorem tw_other (cell c : Int) (h : c ≠ cell) : TW cell c = [] := by
  have : takeE [] 0 1048576 = 0 := by decide
  simp [TW, takeT, this, setT, h]
theorem tw_wf (cell : Int) : WFT (TW cell) := WFT.nil.take _ _ _
theorem tw_no (cell m : Int) : false = isF (TW cell cell) m := by
  rw [tw_cell]
  unfold isF place
  by_cases h : m < 1048576
  · have : ¬ (1048576 : Int) ≤ m := by omega
    by_cases h0 : 0 ≤ m
    · simp [this, h0, h]
    · simp [h0]
  · simp [h]
theorem tw_free (cell : Int) : freeL (TW cell cell) = [] := by rw [tw_cell]; decide
theorem tw_e1 (cell a b : Int) (h : ¬(0 ≤ a ∧ a < b ∧ b ≤ 1048576)) : (1 : Int) = takeE (TW cell cell) a b := by simp only [takeE, if_pos h]
theorem tw_e3 (cell a b : Int) (h : 0 ≤ a ∧ a < b ∧ b ≤ 1048576) : (3 : Int) = takeE (TW cell cell) a b := by
  have hp : ¬ (1048576 : Int) ≤ a := by omega
  have : (0 : Int) < b := by omega
  rw [takeE, if_neg (not_not_intro h), tw_cell]
  simp [place, hp, this]
theorem tw_same (cell a b r : Int) (hr : r = takeE (TW cell cell) a b) (h0 : r ≠ 0) : takeT (TW cell) cell a b = TW cell := by
  unfold takeT; rw [if_neg (by rw [← hr]; exact h0)]

set_option maxHeartbeats 8000000 in
set_option maxRecDepth 100000 in
theorem whole_any (cell a b m oth : Int) (w : World) (ho : bits BinOp.xor IntKind.i64 cell 1 = oth) (hn : oth ≠ cell) : Calls Try.prog 3 #[.int .i64 cell, .agg #[.int .i64 a, .int .i64 b], .int .i64 m] w fun e w' => e = .returned (.bool true) ∧ Kp No w w' := by
  have hr : ∃ (r : Int), r = takeE (TW cell cell) a b ∧ r ≠ 0 ∧ ((r = 3 ∧ 0 ≤ a ∧ a < b ∧ b ≤ 1048576) ∨ (r = 1 ∧ ¬ 0 ≤ a) ∨ (r = 1 ∧ 0 ≤ a ∧ ¬ a < b) ∨ (r = 1 ∧ 0 ≤ a ∧ a < b ∧ ¬ b ≤ 1048576)) := by
    by_cases h : 0 ≤ a ∧ a < b ∧ b ≤ 1048576
    · exact ⟨3, tw_e3 cell a b h, by decide, .inl ⟨rfl, h⟩⟩
    · exact ⟨1, tw_e1 cell a b h, by decide, by omega⟩
  obtain ⟨r, e1, e4, hr⟩ := hr
  have E1 := Lib.hid e1; have ES := Lib.hid (tw_same cell a b r e1 e4)
  clear e1 e4
  have HP : ((w.alloc (.cells #[.int .i64 a, .int .i64 b] 23)).heap[w.heap.size]? = some (.cells #[.int .i64 a, .int .i64 b] 23 (0, 0))) := blk_new _ _
  have HP := Lib.hid HP
  have HO := Lib.hid ho; have HN := Lib.hid hn
  clear ho hn
  rcases hr with ⟨rfl, g1, g2, g3⟩ | ⟨rfl, g1⟩ | ⟨rfl, g1, g2⟩ | ⟨rfl, g1, g2, g3⟩
  all_goals
    go_enter Try.func3, Try.ntmps3
    go_wp2_with fail
    refine (shown_any _).mono ?_
    rintro e w1 ⟨rfl, k1⟩
    have HP1 := Lib.hid (k1.blk HP.out (no_no _)); have K1 := Lib.hid k1; clear k1
    go_wp2_with fail
    refine (new_at _).mono ?_
    rintro e w2 ⟨bt, rfl, r2⟩
    have R2 := Lib.hid r2; have HP2 := Lib.hid (r2.kp.blk HP1.out (no_no _)); clear r2
    go_wp2_with fail
    refine (take_at R2.out WFT.nil cell 0 1048576 0 (fresh_take cell)).mono ?_
    rintro e w3 ⟨rfl, r3⟩
    have R3 : Hid (AtT w1 bt (TW cell) w3) := r3
    have hp1 := (blk_cell (r3.kp.blk HP1.out (no_no _)) 0).trans rfl
    have hp2 := (blk_cell (r3.kp.blk HP1.out (no_no _)) 1).trans rfl
    simp only [List.getElem?_toArray, List.getElem?_cons_zero, List.getElem?_cons_succ] at hp1 hp2
    clear r3
    go_wp2_with fail
    refine (take_at R3.out (tw_wf cell) cell a b _ E1.out).mono ?_
    rintro e w4 ⟨rfl, r4⟩
    have R4 : Hid (AtT w1 bt (TW cell) w4) := by rw [ES.out] at r4; exact r4
    clear r4
    go_wp2_with fail
    refine (is_at R4.out (tw_wf cell) cell m _ (tw_no cell m)).mono ?_
    rintro e w5 ⟨rfl, r5, k5⟩
    have R5 := Lib.hid r5
    clear r5 k5
    go_wp2_with fail
    refine (free_at R5.out (tw_wf cell) cell).mono ?_
    rintro e w6 ⟨v, rfl, a1, a2, a3, a4⟩
    have R6 := Lib.hid a4
    obtain ⟨A, cap, rfl⟩ := a1.rd.shape
    rw [tw_free]
    clear a1 a2 a3 a4
    go_wp2_with fail
    rw [show bits BinOp.xor IntKind.i64 cell 1 = oth from HO.out]
    have hm : ∃ q, q = isF (TW cell oth) m ∧ ((q = true ∧ 0 ≤ m ∧ m < 1048576) ∨ (q = false ∧ ¬ 0 ≤ m) ∨ (q = false ∧ 0 ≤ m ∧ ¬ m < 1048576)) := by
      refine ⟨_, rfl, ?_⟩
      rw [tw_other cell oth HN.out]
      by_cases m0 : 0 ≤ m <;> by_cases m1 : m < 1048576 <;> simp [isF, place, m0, m1]
    obtain ⟨q, hq, hm⟩ := hm
    refine (is_at R6.out (tw_wf cell) oth m q hq).mono ?_
    rintro e w7 ⟨rfl, r7, k7⟩
    have R7 := Lib.hid r7
    clear r7 k7 hq
    rcases hm with ⟨rfl, m0, m1⟩ | ⟨rfl, m0⟩ | ⟨rfl, m0, m1⟩
    all_goals
      go_wp2_with fail
      refine (taken_at R7.out (tw_wf cell) oth).mono ?_
      rintro e w8 ⟨v, rfl, a1, a2, a3, a4⟩
      have R8 := Lib.hid a4
      obtain ⟨A, cap, rfl⟩ := a1.rd.shape
      rw [tw_other cell oth HN.out]
      clear a1 a2 a3 a4
      go_wp2
      go_ret
      exact ⟨by first | rfl | (simp; omega), ((Kp.refl _ _).alloc _).no (K1.out.no R8.out.kp)⟩
end Go.Proofs.Ytihnbgokkhbjnaa
