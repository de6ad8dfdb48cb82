/- floor.beside. -/
import Derived.Test.YtolkkinophklcaaDoorFlK
import Derived.Test.YtolkkinophklcaaDoorNew
import Derived.Deep.LoopGhost
namespace Go.Proofs.YtolkkinophklcaaDoor
set_option linter.unusedVariables false
set_option linter.unusedSimpArgs false
open Go.RowKit

theorem dir_0 (w : World) : (Instr.index 73 (.agg #[.int .i64 0, .int .i64 (-1), .int .i64 1, .int .i64 0, .int .i64 0, .int .i64 1, .int .i64 (-1), .int .i64 0]) (.int .i64 0)).run Tryd.prog w = .ok (.agg #[.int .i64 0, .int .i64 (-1)]) w := by kernel_rfl
theorem dir_1 (w : World) : (Instr.index 73 (.agg #[.int .i64 0, .int .i64 (-1), .int .i64 1, .int .i64 0, .int .i64 0, .int .i64 1, .int .i64 (-1), .int .i64 0]) (.int .i64 1)).run Tryd.prog w = .ok (.agg #[.int .i64 1, .int .i64 0]) w := by kernel_rfl
theorem dir_2 (w : World) : (Instr.index 73 (.agg #[.int .i64 0, .int .i64 (-1), .int .i64 1, .int .i64 0, .int .i64 0, .int .i64 1, .int .i64 (-1), .int .i64 0]) (.int .i64 2)).run Tryd.prog w = .ok (.agg #[.int .i64 0, .int .i64 1]) w := by kernel_rfl
theorem dir_3 (w : World) : (Instr.index 73 (.agg #[.int .i64 0, .int .i64 (-1), .int .i64 1, .int .i64 0, .int .i64 0, .int .i64 1, .int .i64 (-1), .int .i64 0]) (.int .i64 3)).run Tryd.prog w = .ok (.agg #[.int .i64 (-1), .int .i64 0]) w := by kernel_rfl

def BsI (W H c : Nat) (f : ByteArray) (bf : Nat) (w0 : World) (v : Value) (k : Nat) (w : World) : Prop := w.heap[bf]? = some (.cells #[.int .i64 (W : Int), .int .i64 (H : Int), .string f] 24 (0, 0)) ∧ NewS IK 3 w0 w v (ints (bsA W H c k))

set_option maxHeartbeats 1000000 in
set_option maxRecDepth 100000 in
theorem beside_any (W H c : Nat) (s : ByteArray) (hW1 : 1 ≤ W) (hW : W ≤ 16) (hH1 : 1 ≤ H) (hH : H ≤ 16) (hc : c < W * H) (w : World) :
    Calls Tryd.prog 34 #[(Flr.mk W H s).val, .int .i64 (c : Int)] w fun e w' => ∃ v, e = .returned v ∧ NewS IK 3 w w' v (ints (besideP W H c)) := by
  unfold Flr.val
  obtain ⟨x, hx⟩ : ∃ x, x = c % W := ⟨_, rfl⟩
  obtain ⟨y, hy⟩ : ∃ y, y = c / W := ⟨_, rfl⟩
  have hxW : x < W := by rw [hx]; exact Nat.mod_lt _ hW1
  have hyH : y < H := by rw [hy]; exact Nat.div_lt_of_lt_mul hc
  have hcy : W * y + x = c := by rw [hx, hy]; exact Nat.div_add_mod c W
  have hc256 : c < 256 := Nat.lt_of_lt_of_le hc (Nat.mul_le_mul hW hH)
  have hxI : (c : Int).tmod (W : Int) = (x : Int) := by rw [Int.tmod_eq_emod_of_nonneg (by omega), hx]; rfl
  have hyI : (c : Int).tdiv (W : Int) = (y : Int) := by rw [Int.tdiv_eq_ediv_of_nonneg (by omega), hy]; rfl
  have hyW : IntKind.i64.wrap (y : Int) = (y : Int) := IntWalk.i64_in _ (by omega)
  have hW0 : (W : Int) ≠ 0 := by omega
  have hW0b : ((W : Int) == 0) = false := by simp; omega
  have HX := Lib.hid hx; have HY := Lib.hid hy; have HCY := Lib.hid hcy
  clear hx hy hcy hc
  go_enter Tryd.func34, Tryd.ntmps34
  go_wp2_with (go_quiet (fail))
  obtain ⟨bf, hbf⟩ : ∃ bf, bf = w.heap.size := ⟨_, rfl⟩
  obtain ⟨w0, hw0⟩ : ∃ w0, w0 = (w.alloc (.cells #[.int .i64 (W : Int), .int .i64 (H : Int), .string s] 24)).drewN nq := ⟨_, rfl⟩
  have K0 := Lib.hid (show Kp No w w0 by rw [hw0]; exact ((Kp.refl _ _).alloc _).drewN _)
  have B0 := Lib.hid (show w0.heap[bf]? = some (.cells #[.int .i64 (W : Int), .int .i64 (H : Int), .string s] 24 (0, 0)) by rw [hw0, hbf]; exact blk_new w _)
  rw [← hbf, ← hw0]
  go_loopg [7, 25] 5 (fun g2 v kk wr => ∃ k : Nat, g2 = 5 - k ∧ kk = .int .i64 k ∧ k ≤ 4 ∧ BsI W H c s bf w0 v k wr)
  case atStart => exact ⟨0, rfl, rfl, by omega, B0.out, NewS.nil _ _ _⟩
  case round =>
    obtain ⟨k, hgk, rfl, hk, hb, hv⟩ := hrel
    have hv2 := bsA_len W H c k
    obtain ⟨A, q, rfl⟩ := hv.own.rd.shape
    have HB := Lib.hid hb; have HV := Lib.hid hv
    have hb0 : wr.cell? ⟨bf, 0, none⟩ = some (.int .i64 (W : Int)) := blk_cell hb 0
    have hb1 : wr.cell? ⟨bf, 1, none⟩ = some (.int .i64 (H : Int)) := blk_cell hb 1
    have hn : (ints (bsA W H c k)).length ≤ 4 := by rw [ints_len]; omega
    clear hb hv hv2 hW0 hW0b hxI hyI hyW hbf hw0
    obtain rfl | rfl | rfl | rfl | rfl : k = 0 ∨ k = 1 ∨ k = 2 ∨ k = 3 ∨ k = 4 := by omega
    · have HA := Lib.hid (bsA_succ W H c 0)
      by_cases hd : 0 < y
      · obtain ⟨p, hp⟩ : ∃ p, p = x := ⟨_, rfl⟩
        obtain ⟨q1, hq⟩ : ∃ q1, q1 = y - 1 := ⟨_, rfl⟩
        have hwx : IntKind.i64.wrap ((x : Int)) = (p : Int) := by rw [IntWalk.i64_in _ (by omega)]; omega
        have hwy : IntKind.i64.wrap ((y : Int) + (-1)) = (q1 : Int) := by rw [IntWalk.i64_in _ (by omega)]; omega
        have hp0 : (0 : Int) ≤ (p : Int) := by omega
        have hpW : (p : Int) < (W : Int) := by omega
        have hq0 : (0 : Int) ≤ (q1 : Int) := by omega
        have hqH : (q1 : Int) < (H : Int) := by omega
        obtain ⟨vv, hvv⟩ : ∃ vv, vv = c - W := ⟨_, rfl⟩
        have hval : q1 * W + p = vv := by
          rw [hvv]
          have := HCY.out
          rw [Nat.mul_comm] at this
          have hle : 1 * W ≤ y * W := Nat.mul_le_mul_right W hd
          rw [hq, hp, Nat.sub_mul]; omega
        obtain ⟨m, hm⟩ : ∃ m, m = q1 * W := ⟨_, rfl⟩
        have hz1 : IntKind.i64.wrap ((q1 : Int) * (W : Int)) = (m : Int) := by rw [← Int.natCast_mul, ← hm, IntWalk.i64_in _ (by omega)]
        have hz2 : IntKind.i64.wrap ((m : Int) + (p : Int)) = (vv : Int) := by rw [IntWalk.i64_in _ (by omega)]; omega
        have HD := Lib.hid (show bsPart W H c 0 = [vv] by unfold bsPart; rw [← HX.out, ← HY.out, hvv] ; simp; omega)
        clear hp hq hd hval hm hvv
        have hix := dir_0
        go_wp2_with fail
        obtain ⟨wd, hwd⟩ : ∃ wd, wd = wr.alloc (.cells #[.int .i64 (0), .int .i64 (-1)] 72) := ⟨_, rfl⟩
        obtain ⟨bd, hbd⟩ : ∃ bd, bd = wr.heap.size := ⟨_, rfl⟩
        have e0 : wd.cell? ⟨bd, 0, none⟩ = some (.int .i64 (0)) := by rw [hwd, hbd]; exact blk_cell (blk_new wr _) 0
        have e1 : wd.cell? ⟨bd, 1, none⟩ = some (.int .i64 (-1)) := by rw [hwd, hbd]; exact blk_cell (blk_new wr _) 1
        have HBD := Lib.hid (show wd.heap[bf]? = some (.cells #[.int .i64 (W : Int), .int .i64 (H : Int), .string s] 24 (0, 0)) by rw [hwd]; exact blk_alloc HB.out _)
        have HVD := Lib.hid (show NewS IK 3 w0 wd _ _ by rw [hwd]; exact HV.out.alloc _)
        have b0 : wd.cell? ⟨bf, 0, none⟩ = some (.int .i64 (W : Int)) := blk_cell HBD.out 0
        have b1 : wd.cell? ⟨bf, 1, none⟩ = some (.int .i64 (H : Int)) := blk_cell HBD.out 1
        rw [← hwd, ← hbd]
        clear hwd hbd hb0 hb1 hix
        go_wp2_with (first | (at_builtin; refine wpl_append elI rfl (.tmp 54) (.tmp 61) rfl rfl rfl (l := ints (bsA W H c 0)) (m := [(vv : Int)]) ?c1 ?c2 ?c3 ?c4 ?c5) | go_quiet (fail))
        case c1 => exact (HVD.out.own.drewN _).alloc _
        case c2 => exact Rd.litAt IK 3 _ _ [(vv : Int)] rfl (by unfold maxLen; simp) _ _ rfl rfl
        case c3 => show (ints (bsA W H c 0)).length + 1 ≤ maxLen; unfold maxLen; omega
        case c4 => show ((ints (bsA W H c 0)).length + 1) * 8 ≤ _; omega
        case c5 =>
          intro v' w' k1 k2 k3
          have q := NewS.app2 k1 k2 k3 (((Kp.refl No wd).drewN _).alloc _) HVD.out (Nat.le_succ _)
          have hb2 := k2.blk (blk_alloc HBD.out _) (fun e => by have := HVD.out.ge _ e; have := lt_of_block B0.out; omega)
          have hE : ints (bsA W H c 0) ++ [(vv : Int)] = ints (bsA W H c (0 + 1)) := by rw [HA.out, HD.out, ints_app]; rfl
          rw [hE] at q
          obtain ⟨A5, c5, rfl⟩ := q.own.rd.shape
          have Q := Lib.hid q; have HB2 := Lib.hid hb2
          clear q k1 k2 k3 hb2 hE b0 b1 e0 e1
          go_wp2
          go_roundg (5 - (0 + 1))
          case measure => omega
          case rel => exact ⟨0 + 1, rfl, by go_num, by omega, HB2.out, Q.out⟩

      · have hwx : IntKind.i64.wrap (x : Int) = (x : Int) := IntWalk.i64_in _ (by omega)
        obtain rfl : y = 0 := by omega
        have hp0 : (0 : Int) ≤ (x : Int) := by omega
        have hpW : (x : Int) < (W : Int) := by omega
        have hwy : IntKind.i64.wrap (((0 : Nat) : Int) + (-1)) = -1 := by decide
        have HD := Lib.hid (show bsPart W H c 0 = [] by unfold bsPart; rw [← HX.out, ← HY.out] ; simp)
        clear hd
        have hix := dir_0
        go_wp2_with fail
        obtain ⟨wd, hwd⟩ : ∃ wd, wd = wr.alloc (.cells #[.int .i64 (0), .int .i64 (-1)] 72) := ⟨_, rfl⟩
        obtain ⟨bd, hbd⟩ : ∃ bd, bd = wr.heap.size := ⟨_, rfl⟩
        have e0 : wd.cell? ⟨bd, 0, none⟩ = some (.int .i64 (0)) := by rw [hwd, hbd]; exact blk_cell (blk_new wr _) 0
        have e1 : wd.cell? ⟨bd, 1, none⟩ = some (.int .i64 (-1)) := by rw [hwd, hbd]; exact blk_cell (blk_new wr _) 1
        have HBD := Lib.hid (show wd.heap[bf]? = some (.cells #[.int .i64 (W : Int), .int .i64 (H : Int), .string s] 24 (0, 0)) by rw [hwd]; exact blk_alloc HB.out _)
        have HVD := Lib.hid (show NewS IK 3 w0 wd _ _ by rw [hwd]; exact HV.out.alloc _)
        have b0 : wd.cell? ⟨bf, 0, none⟩ = some (.int .i64 (W : Int)) := blk_cell HBD.out 0
        have b1 : wd.cell? ⟨bf, 1, none⟩ = some (.int .i64 (H : Int)) := blk_cell HBD.out 1
        rw [← hwd, ← hbd]
        clear hwd hbd hb0 hb1 hix
        have HVE := Lib.hid (show NewS IK 3 w0 wd _ (ints (bsA W H c (0 + 1))) by rw [HA.out, HD.out, List.append_nil]; exact HVD.out)
        have hlen : (ints (bsA W H c 0)).length = (ints (bsA W H c (0 + 1))).length := by rw [HA.out, HD.out, List.append_nil]
        have HLN := Lib.hid hlen
        clear hlen
        go_wp2_with (go_quiet (fail))
        rw [HLN.out]
        go_roundg (5 - (0 + 1))
        case measure => omega
        case rel => exact ⟨0 + 1, rfl, by go_num, by omega, HBD.out, by rw [← HLN.out]; exact HVE.out.kpNo ((Kp.refl _ _).drewN _)⟩
    · have HA := Lib.hid (bsA_succ W H c 1)
      by_cases hd : x + 1 < W
      · obtain ⟨p, hp⟩ : ∃ p, p = x + 1 := ⟨_, rfl⟩
        obtain ⟨q1, hq⟩ : ∃ q1, q1 = y := ⟨_, rfl⟩
        have hwx : IntKind.i64.wrap ((x : Int) + (1)) = (p : Int) := by rw [IntWalk.i64_in _ (by omega)]; omega
        have hwy : IntKind.i64.wrap ((y : Int)) = (q1 : Int) := by rw [IntWalk.i64_in _ (by omega)]; omega
        have hp0 : (0 : Int) ≤ (p : Int) := by omega
        have hpW : (p : Int) < (W : Int) := by omega
        have hq0 : (0 : Int) ≤ (q1 : Int) := by omega
        have hqH : (q1 : Int) < (H : Int) := by omega
        obtain ⟨vv, hvv⟩ : ∃ vv, vv = c + 1 := ⟨_, rfl⟩
        have hval : q1 * W + p = vv := by
          rw [hvv]
          have := HCY.out
          rw [Nat.mul_comm] at this
          rw [hq, hp]; omega
        obtain ⟨m, hm⟩ : ∃ m, m = q1 * W := ⟨_, rfl⟩
        have hz1 : IntKind.i64.wrap ((q1 : Int) * (W : Int)) = (m : Int) := by rw [← Int.natCast_mul, ← hm, IntWalk.i64_in _ (by omega)]
        have hz2 : IntKind.i64.wrap ((m : Int) + (p : Int)) = (vv : Int) := by rw [IntWalk.i64_in _ (by omega)]; omega
        have HD := Lib.hid (show bsPart W H c 1 = [vv] by unfold bsPart; rw [← HX.out, ← HY.out, hvv] ; simp; omega)
        clear hp hq hd hval hm hvv
        have hix := dir_1
        go_wp2_with fail
        obtain ⟨wd, hwd⟩ : ∃ wd, wd = wr.alloc (.cells #[.int .i64 (1), .int .i64 (0)] 72) := ⟨_, rfl⟩
        obtain ⟨bd, hbd⟩ : ∃ bd, bd = wr.heap.size := ⟨_, rfl⟩
        have e0 : wd.cell? ⟨bd, 0, none⟩ = some (.int .i64 (1)) := by rw [hwd, hbd]; exact blk_cell (blk_new wr _) 0
        have e1 : wd.cell? ⟨bd, 1, none⟩ = some (.int .i64 (0)) := by rw [hwd, hbd]; exact blk_cell (blk_new wr _) 1
        have HBD := Lib.hid (show wd.heap[bf]? = some (.cells #[.int .i64 (W : Int), .int .i64 (H : Int), .string s] 24 (0, 0)) by rw [hwd]; exact blk_alloc HB.out _)
        have HVD := Lib.hid (show NewS IK 3 w0 wd _ _ by rw [hwd]; exact HV.out.alloc _)
        have b0 : wd.cell? ⟨bf, 0, none⟩ = some (.int .i64 (W : Int)) := blk_cell HBD.out 0
        have b1 : wd.cell? ⟨bf, 1, none⟩ = some (.int .i64 (H : Int)) := blk_cell HBD.out 1
        rw [← hwd, ← hbd]
        clear hwd hbd hb0 hb1 hix
        go_wp2_with (first | (at_builtin; refine wpl_append elI rfl (.tmp 54) (.tmp 61) rfl rfl rfl (l := ints (bsA W H c 1)) (m := [(vv : Int)]) ?c1 ?c2 ?c3 ?c4 ?c5) | go_quiet (fail))
        case c1 => exact (HVD.out.own.drewN _).alloc _
        case c2 => exact Rd.litAt IK 3 _ _ [(vv : Int)] rfl (by unfold maxLen; simp) _ _ rfl rfl
        case c3 => show (ints (bsA W H c 1)).length + 1 ≤ maxLen; unfold maxLen; omega
        case c4 => show ((ints (bsA W H c 1)).length + 1) * 8 ≤ _; omega
        case c5 =>
          intro v' w' k1 k2 k3
          have q := NewS.app2 k1 k2 k3 (((Kp.refl No wd).drewN _).alloc _) HVD.out (Nat.le_succ _)
          have hb2 := k2.blk (blk_alloc HBD.out _) (fun e => by have := HVD.out.ge _ e; have := lt_of_block B0.out; omega)
          have hE : ints (bsA W H c 1) ++ [(vv : Int)] = ints (bsA W H c (1 + 1)) := by rw [HA.out, HD.out, ints_app]; rfl
          rw [hE] at q
          obtain ⟨A5, c5, rfl⟩ := q.own.rd.shape
          have Q := Lib.hid q; have HB2 := Lib.hid hb2
          clear q k1 k2 k3 hb2 hE b0 b1 e0 e1
          go_wp2
          go_roundg (5 - (1 + 1))
          case measure => omega
          case rel => exact ⟨1 + 1, rfl, by go_num, by omega, HB2.out, Q.out⟩

      · have hwx : IntKind.i64.wrap ((x : Int) + 1) = (x : Int) + 1 := IntWalk.i64_in _ (by omega)
        have hwy : IntKind.i64.wrap (y : Int) = (y : Int) := IntWalk.i64_in _ (by omega)
        have hp0 : (0 : Int) ≤ (x : Int) + 1 := by omega
        have hpW : ¬ (x : Int) + 1 < (W : Int) := by omega
        have HD := Lib.hid (show bsPart W H c 1 = [] by unfold bsPart; rw [← HX.out, ← HY.out] ; simp; omega)
        clear hd
        have hix := dir_1
        go_wp2_with fail
        obtain ⟨wd, hwd⟩ : ∃ wd, wd = wr.alloc (.cells #[.int .i64 (1), .int .i64 (0)] 72) := ⟨_, rfl⟩
        obtain ⟨bd, hbd⟩ : ∃ bd, bd = wr.heap.size := ⟨_, rfl⟩
        have e0 : wd.cell? ⟨bd, 0, none⟩ = some (.int .i64 (1)) := by rw [hwd, hbd]; exact blk_cell (blk_new wr _) 0
        have e1 : wd.cell? ⟨bd, 1, none⟩ = some (.int .i64 (0)) := by rw [hwd, hbd]; exact blk_cell (blk_new wr _) 1
        have HBD := Lib.hid (show wd.heap[bf]? = some (.cells #[.int .i64 (W : Int), .int .i64 (H : Int), .string s] 24 (0, 0)) by rw [hwd]; exact blk_alloc HB.out _)
        have HVD := Lib.hid (show NewS IK 3 w0 wd _ _ by rw [hwd]; exact HV.out.alloc _)
        have b0 : wd.cell? ⟨bf, 0, none⟩ = some (.int .i64 (W : Int)) := blk_cell HBD.out 0
        have b1 : wd.cell? ⟨bf, 1, none⟩ = some (.int .i64 (H : Int)) := blk_cell HBD.out 1
        rw [← hwd, ← hbd]
        clear hwd hbd hb0 hb1 hix
        have HVE := Lib.hid (show NewS IK 3 w0 wd _ (ints (bsA W H c (1 + 1))) by rw [HA.out, HD.out, List.append_nil]; exact HVD.out)
        have hlen : (ints (bsA W H c 1)).length = (ints (bsA W H c (1 + 1))).length := by rw [HA.out, HD.out, List.append_nil]
        have HLN := Lib.hid hlen
        clear hlen
        go_wp2_with (go_quiet (fail))
        rw [HLN.out]
        go_roundg (5 - (1 + 1))
        case measure => omega
        case rel => exact ⟨1 + 1, rfl, by go_num, by omega, HBD.out, by rw [← HLN.out]; exact HVE.out.kpNo ((Kp.refl _ _).drewN _)⟩
    · have HA := Lib.hid (bsA_succ W H c 2)
      by_cases hd : y + 1 < H
      · obtain ⟨p, hp⟩ : ∃ p, p = x := ⟨_, rfl⟩
        obtain ⟨q1, hq⟩ : ∃ q1, q1 = y + 1 := ⟨_, rfl⟩
        have hwx : IntKind.i64.wrap ((x : Int)) = (p : Int) := by rw [IntWalk.i64_in _ (by omega)]; omega
        have hwy : IntKind.i64.wrap ((y : Int) + (1)) = (q1 : Int) := by rw [IntWalk.i64_in _ (by omega)]; omega
        have hp0 : (0 : Int) ≤ (p : Int) := by omega
        have hpW : (p : Int) < (W : Int) := by omega
        have hq0 : (0 : Int) ≤ (q1 : Int) := by omega
        have hqH : (q1 : Int) < (H : Int) := by omega
        obtain ⟨vv, hvv⟩ : ∃ vv, vv = c + W := ⟨_, rfl⟩
        have hval : q1 * W + p = vv := by
          rw [hvv]
          have := HCY.out
          rw [Nat.mul_comm] at this
          rw [hq, hp, Nat.add_mul]; omega
        obtain ⟨m, hm⟩ : ∃ m, m = q1 * W := ⟨_, rfl⟩
        have hz1 : IntKind.i64.wrap ((q1 : Int) * (W : Int)) = (m : Int) := by rw [← Int.natCast_mul, ← hm, IntWalk.i64_in _ (by omega)]
        have hz2 : IntKind.i64.wrap ((m : Int) + (p : Int)) = (vv : Int) := by rw [IntWalk.i64_in _ (by omega)]; omega
        have HD := Lib.hid (show bsPart W H c 2 = [vv] by unfold bsPart; rw [← HX.out, ← HY.out, hvv] ; simp; omega)
        clear hp hq hd hval hm hvv
        have hix := dir_2
        go_wp2_with fail
        obtain ⟨wd, hwd⟩ : ∃ wd, wd = wr.alloc (.cells #[.int .i64 (0), .int .i64 (1)] 72) := ⟨_, rfl⟩
        obtain ⟨bd, hbd⟩ : ∃ bd, bd = wr.heap.size := ⟨_, rfl⟩
        have e0 : wd.cell? ⟨bd, 0, none⟩ = some (.int .i64 (0)) := by rw [hwd, hbd]; exact blk_cell (blk_new wr _) 0
        have e1 : wd.cell? ⟨bd, 1, none⟩ = some (.int .i64 (1)) := by rw [hwd, hbd]; exact blk_cell (blk_new wr _) 1
        have HBD := Lib.hid (show wd.heap[bf]? = some (.cells #[.int .i64 (W : Int), .int .i64 (H : Int), .string s] 24 (0, 0)) by rw [hwd]; exact blk_alloc HB.out _)
        have HVD := Lib.hid (show NewS IK 3 w0 wd _ _ by rw [hwd]; exact HV.out.alloc _)
        have b0 : wd.cell? ⟨bf, 0, none⟩ = some (.int .i64 (W : Int)) := blk_cell HBD.out 0
        have b1 : wd.cell? ⟨bf, 1, none⟩ = some (.int .i64 (H : Int)) := blk_cell HBD.out 1
        rw [← hwd, ← hbd]
        clear hwd hbd hb0 hb1 hix
        go_wp2_with (first | (at_builtin; refine wpl_append elI rfl (.tmp 54) (.tmp 61) rfl rfl rfl (l := ints (bsA W H c 2)) (m := [(vv : Int)]) ?c1 ?c2 ?c3 ?c4 ?c5) | go_quiet (fail))
        case c1 => exact (HVD.out.own.drewN _).alloc _
        case c2 => exact Rd.litAt IK 3 _ _ [(vv : Int)] rfl (by unfold maxLen; simp) _ _ rfl rfl
        case c3 => show (ints (bsA W H c 2)).length + 1 ≤ maxLen; unfold maxLen; omega
        case c4 => show ((ints (bsA W H c 2)).length + 1) * 8 ≤ _; omega
        case c5 =>
          intro v' w' k1 k2 k3
          have q := NewS.app2 k1 k2 k3 (((Kp.refl No wd).drewN _).alloc _) HVD.out (Nat.le_succ _)
          have hb2 := k2.blk (blk_alloc HBD.out _) (fun e => by have := HVD.out.ge _ e; have := lt_of_block B0.out; omega)
          have hE : ints (bsA W H c 2) ++ [(vv : Int)] = ints (bsA W H c (2 + 1)) := by rw [HA.out, HD.out, ints_app]; rfl
          rw [hE] at q
          obtain ⟨A5, c5, rfl⟩ := q.own.rd.shape
          have Q := Lib.hid q; have HB2 := Lib.hid hb2
          clear q k1 k2 k3 hb2 hE b0 b1 e0 e1
          go_wp2
          go_roundg (5 - (2 + 1))
          case measure => omega
          case rel => exact ⟨2 + 1, rfl, by go_num, by omega, HB2.out, Q.out⟩

      · have hwx : IntKind.i64.wrap (x : Int) = (x : Int) := IntWalk.i64_in _ (by omega)
        have hwy : IntKind.i64.wrap ((y : Int) + 1) = (y : Int) + 1 := IntWalk.i64_in _ (by omega)
        have hp0 : (0 : Int) ≤ (x : Int) := by omega
        have hpW : (x : Int) < (W : Int) := by omega
        have hq0 : (0 : Int) ≤ (y : Int) + 1 := by omega
        have hqH : ¬ (y : Int) + 1 < (H : Int) := by omega
        have HD := Lib.hid (show bsPart W H c 2 = [] by unfold bsPart; rw [← HX.out, ← HY.out] ; simp; omega)
        clear hd
        have hix := dir_2
        go_wp2_with fail
        obtain ⟨wd, hwd⟩ : ∃ wd, wd = wr.alloc (.cells #[.int .i64 (0), .int .i64 (1)] 72) := ⟨_, rfl⟩
        obtain ⟨bd, hbd⟩ : ∃ bd, bd = wr.heap.size := ⟨_, rfl⟩
        have e0 : wd.cell? ⟨bd, 0, none⟩ = some (.int .i64 (0)) := by rw [hwd, hbd]; exact blk_cell (blk_new wr _) 0
        have e1 : wd.cell? ⟨bd, 1, none⟩ = some (.int .i64 (1)) := by rw [hwd, hbd]; exact blk_cell (blk_new wr _) 1
        have HBD := Lib.hid (show wd.heap[bf]? = some (.cells #[.int .i64 (W : Int), .int .i64 (H : Int), .string s] 24 (0, 0)) by rw [hwd]; exact blk_alloc HB.out _)
        have HVD := Lib.hid (show NewS IK 3 w0 wd _ _ by rw [hwd]; exact HV.out.alloc _)
        have b0 : wd.cell? ⟨bf, 0, none⟩ = some (.int .i64 (W : Int)) := blk_cell HBD.out 0
        have b1 : wd.cell? ⟨bf, 1, none⟩ = some (.int .i64 (H : Int)) := blk_cell HBD.out 1
        rw [← hwd, ← hbd]
        clear hwd hbd hb0 hb1 hix
        have HVE := Lib.hid (show NewS IK 3 w0 wd _ (ints (bsA W H c (2 + 1))) by rw [HA.out, HD.out, List.append_nil]; exact HVD.out)
        have hlen : (ints (bsA W H c 2)).length = (ints (bsA W H c (2 + 1))).length := by rw [HA.out, HD.out, List.append_nil]
        have HLN := Lib.hid hlen
        clear hlen
        go_wp2_with (go_quiet (fail))
        rw [HLN.out]
        go_roundg (5 - (2 + 1))
        case measure => omega
        case rel => exact ⟨2 + 1, rfl, by go_num, by omega, HBD.out, by rw [← HLN.out]; exact HVE.out.kpNo ((Kp.refl _ _).drewN _)⟩
    · have HA := Lib.hid (bsA_succ W H c 3)
      by_cases hd : 0 < x
      · obtain ⟨p, hp⟩ : ∃ p, p = x - 1 := ⟨_, rfl⟩
        obtain ⟨q1, hq⟩ : ∃ q1, q1 = y := ⟨_, rfl⟩
        have hwx : IntKind.i64.wrap ((x : Int) + (-1)) = (p : Int) := by rw [IntWalk.i64_in _ (by omega)]; omega
        have hwy : IntKind.i64.wrap ((y : Int)) = (q1 : Int) := by rw [IntWalk.i64_in _ (by omega)]; omega
        have hp0 : (0 : Int) ≤ (p : Int) := by omega
        have hpW : (p : Int) < (W : Int) := by omega
        have hq0 : (0 : Int) ≤ (q1 : Int) := by omega
        have hqH : (q1 : Int) < (H : Int) := by omega
        obtain ⟨vv, hvv⟩ : ∃ vv, vv = c - 1 := ⟨_, rfl⟩
        have hval : q1 * W + p = vv := by
          rw [hvv]
          have := HCY.out
          rw [Nat.mul_comm] at this
          rw [hq, hp]; omega
        obtain ⟨m, hm⟩ : ∃ m, m = q1 * W := ⟨_, rfl⟩
        have hz1 : IntKind.i64.wrap ((q1 : Int) * (W : Int)) = (m : Int) := by rw [← Int.natCast_mul, ← hm, IntWalk.i64_in _ (by omega)]
        have hz2 : IntKind.i64.wrap ((m : Int) + (p : Int)) = (vv : Int) := by rw [IntWalk.i64_in _ (by omega)]; omega
        have HD := Lib.hid (show bsPart W H c 3 = [vv] by unfold bsPart; rw [← HX.out, ← HY.out, hvv] ; simp; omega)
        clear hp hq hd hval hm hvv
        have hix := dir_3
        go_wp2_with fail
        obtain ⟨wd, hwd⟩ : ∃ wd, wd = wr.alloc (.cells #[.int .i64 (-1), .int .i64 (0)] 72) := ⟨_, rfl⟩
        obtain ⟨bd, hbd⟩ : ∃ bd, bd = wr.heap.size := ⟨_, rfl⟩
        have e0 : wd.cell? ⟨bd, 0, none⟩ = some (.int .i64 (-1)) := by rw [hwd, hbd]; exact blk_cell (blk_new wr _) 0
        have e1 : wd.cell? ⟨bd, 1, none⟩ = some (.int .i64 (0)) := by rw [hwd, hbd]; exact blk_cell (blk_new wr _) 1
        have HBD := Lib.hid (show wd.heap[bf]? = some (.cells #[.int .i64 (W : Int), .int .i64 (H : Int), .string s] 24 (0, 0)) by rw [hwd]; exact blk_alloc HB.out _)
        have HVD := Lib.hid (show NewS IK 3 w0 wd _ _ by rw [hwd]; exact HV.out.alloc _)
        have b0 : wd.cell? ⟨bf, 0, none⟩ = some (.int .i64 (W : Int)) := blk_cell HBD.out 0
        have b1 : wd.cell? ⟨bf, 1, none⟩ = some (.int .i64 (H : Int)) := blk_cell HBD.out 1
        rw [← hwd, ← hbd]
        clear hwd hbd hb0 hb1 hix
        go_wp2_with (first | (at_builtin; refine wpl_append elI rfl (.tmp 54) (.tmp 61) rfl rfl rfl (l := ints (bsA W H c 3)) (m := [(vv : Int)]) ?c1 ?c2 ?c3 ?c4 ?c5) | go_quiet (fail))
        case c1 => exact (HVD.out.own.drewN _).alloc _
        case c2 => exact Rd.litAt IK 3 _ _ [(vv : Int)] rfl (by unfold maxLen; simp) _ _ rfl rfl
        case c3 => show (ints (bsA W H c 3)).length + 1 ≤ maxLen; unfold maxLen; omega
        case c4 => show ((ints (bsA W H c 3)).length + 1) * 8 ≤ _; omega
        case c5 =>
          intro v' w' k1 k2 k3
          have q := NewS.app2 k1 k2 k3 (((Kp.refl No wd).drewN _).alloc _) HVD.out (Nat.le_succ _)
          have hb2 := k2.blk (blk_alloc HBD.out _) (fun e => by have := HVD.out.ge _ e; have := lt_of_block B0.out; omega)
          have hE : ints (bsA W H c 3) ++ [(vv : Int)] = ints (bsA W H c (3 + 1)) := by rw [HA.out, HD.out, ints_app]; rfl
          rw [hE] at q
          obtain ⟨A5, c5, rfl⟩ := q.own.rd.shape
          have Q := Lib.hid q; have HB2 := Lib.hid hb2
          clear q k1 k2 k3 hb2 hE b0 b1 e0 e1
          go_wp2
          go_roundg (5 - (3 + 1))
          case measure => omega
          case rel => exact ⟨3 + 1, rfl, by go_num, by omega, HB2.out, Q.out⟩

      · obtain rfl : x = 0 := by omega
        have hwx : IntKind.i64.wrap (((0 : Nat) : Int) + (-1)) = -1 := by decide
        have hwy : IntKind.i64.wrap (y : Int) = (y : Int) := IntWalk.i64_in _ (by omega)
        have HD := Lib.hid (show bsPart W H c 3 = [] by unfold bsPart; rw [← HX.out, ← HY.out] ; simp)
        clear hd
        have hix := dir_3
        go_wp2_with fail
        obtain ⟨wd, hwd⟩ : ∃ wd, wd = wr.alloc (.cells #[.int .i64 (-1), .int .i64 (0)] 72) := ⟨_, rfl⟩
        obtain ⟨bd, hbd⟩ : ∃ bd, bd = wr.heap.size := ⟨_, rfl⟩
        have e0 : wd.cell? ⟨bd, 0, none⟩ = some (.int .i64 (-1)) := by rw [hwd, hbd]; exact blk_cell (blk_new wr _) 0
        have e1 : wd.cell? ⟨bd, 1, none⟩ = some (.int .i64 (0)) := by rw [hwd, hbd]; exact blk_cell (blk_new wr _) 1
        have HBD := Lib.hid (show wd.heap[bf]? = some (.cells #[.int .i64 (W : Int), .int .i64 (H : Int), .string s] 24 (0, 0)) by rw [hwd]; exact blk_alloc HB.out _)
        have HVD := Lib.hid (show NewS IK 3 w0 wd _ _ by rw [hwd]; exact HV.out.alloc _)
        have b0 : wd.cell? ⟨bf, 0, none⟩ = some (.int .i64 (W : Int)) := blk_cell HBD.out 0
        have b1 : wd.cell? ⟨bf, 1, none⟩ = some (.int .i64 (H : Int)) := blk_cell HBD.out 1
        rw [← hwd, ← hbd]
        clear hwd hbd hb0 hb1 hix
        have HVE := Lib.hid (show NewS IK 3 w0 wd _ (ints (bsA W H c (3 + 1))) by rw [HA.out, HD.out, List.append_nil]; exact HVD.out)
        have hlen : (ints (bsA W H c 3)).length = (ints (bsA W H c (3 + 1))).length := by rw [HA.out, HD.out, List.append_nil]
        have HLN := Lib.hid hlen
        clear hlen
        go_wp2_with (go_quiet (fail))
        rw [HLN.out]
        go_roundg (5 - (3 + 1))
        case measure => omega
        case rel => exact ⟨3 + 1, rfl, by go_num, by omega, HBD.out, by rw [← HLN.out]; exact HVE.out.kpNo ((Kp.refl _ _).drewN _)⟩
    · have H4 := Lib.hid (show NewS IK 3 w0 wr _ (ints (besideP W H c)) by rw [← bsA_four]; exact HV.out)
      go_wp2
      go_ret
      exact ⟨_, rfl, H4.out.own, fun g hg => by have := H4.out.ge g hg; have := K0.out.size; omega, K0.out.trans H4.out.kp⟩
end Go.Proofs.YtolkkinophklcaaDoor
