/- carfaxref03.Text. -/
import Derived.Test.YtolkkinophklcaaDoorFlTp
import Derived.Test.YtolkkinophklcaaDoorFlQn
namespace Go.Proofs.YtolkkinophklcaaDoor
set_option linter.unusedVariables false
set_option linter.unusedSimpArgs false
open Go.RowKit

theorem mkB_app (a b : List UInt8) : mkB (a ++ b) = mkB a ++ mkB b := by unfold mkB; rw [ByteArray.mk_append_mk]
set_option maxHeartbeats 1000000 in
set_option maxRecDepth 100000 in
theorem qtext_any (f : Flr) (hsz : f.s.size ≤ 9223372036854775807) (w : World) :
    Calls Tryd.prog 27 #[f.val] w fun e w' => e = .returned (.string (textP f)) ∧ Kp No w w' := by
  have HBX := Lib.hid (BxW.new f w)
  obtain ⟨Z, hZ⟩ : ∃ Z, Z = textP f := ⟨_, rfl⟩
  rw [← hZ]
  unfold textP at hZ
  cases hb : rightB f with
  | true =>
    rw [if_pos hb] at hZ
    have HRT := Lib.hid (qright_at f hsz true hb)
    have hR := rightB_iff.1 hb
    have hs256 := hR.s256
    obtain ⟨X, Y, s⟩ := f
    obtain ⟨W, hW⟩ : ∃ W : Nat, X = W := ⟨X.toNat, by have := hR.w1; simp at this; omega⟩
    obtain ⟨H, hH⟩ : ∃ H : Nat, Y = H := ⟨Y.toNat, by have := hR.h1; simp at this; omega⟩
    subst hW hH
    simp only [Int.toNat_natCast] at hZ hs256
    have hWH : s.size = H * W := by have := hR.len; simp only at this; rw [Int.mul_comm] at this; exact_mod_cast this
    have hW16 : W ≤ 16 := by have := hR.w2; simp at this; omega
    have hH16 : H ≤ 16 := by have := hR.h2; simp at this; omega
    have HZ := Lib.hid hZ
    have HWH := Lib.hid hWH
    unfold Flr.val at HRT ⊢
    simp only at HRT ⊢
    clear hb hZ hsz hR hWH
    go_enter Tryd.func27, Tryd.ntmps27
    have B0 := Lib.hid HBX.out
    go_wp2_with fail
    go_loopg [3, 4] (H + 1) (fun g2 sv yv wx => ∃ (y : Nat) (T : ByteArray), g2 = H + 1 - y ∧ yv = .int .i64 y ∧ y ≤ H ∧ sv = .string T ∧ T = mkB (textTo s W y) ∧ BxW (Flr.mk W H s) w.heap.size w wx)
    case atStart => exact ⟨0, ⟨#[]⟩, rfl, rfl, by omega, rfl, rfl, B0.out⟩
    case round =>
      obtain ⟨y, T, hg2, rfl, hy, rfl, hT, bx⟩ := hrel
      have BX := Lib.hid bx; have HT := Lib.hid hT
      have hTs : T.size ≤ 272 := by rw [hT, mkB_size]; exact Nat.le_trans (textTo_len s W y) (Nat.le_trans (Nat.mul_le_mul (show y ≤ 16 by omega) (show W + 1 ≤ 17 by omega)) (by decide))
      have hb0 : wr.cell? ⟨w.heap.size, 0, none⟩ = some (.int .i64 (W : Int)) := bx.c0
      have hb1 : wr.cell? ⟨w.heap.size, 1, none⟩ = some (.int .i64 (H : Int)) := bx.c1
      have hb2 : wr.cell? ⟨w.heap.size, 2, none⟩ = some (.string s) := bx.c2
      clear bx hT
      by_cases hlt : y < H
      · have hltI : (y : Int) < (H : Int) := by omega
        have hwy : IntKind.i64.wrap ((y : Int) + 1) = (y : Int) + 1 := IntWalk.i64_in _ (by omega)
        obtain ⟨p, hp⟩ : ∃ p, p = y * W := ⟨_, rfl⟩
        obtain ⟨q, hq⟩ : ∃ q, q = (y + 1) * W := ⟨_, rfl⟩
        have hqp : q = p + W := by rw [hp, hq, Nat.add_mul]; omega
        have hpq : p ≤ q := by omega
        have hqs : q ≤ s.size := by rw [hq, HWH.out]; exact Nat.mul_le_mul_right _ (by omega)
        have hpI : (y : Int) * (W : Int) = (p : Int) := by rw [hp]; simp
        have hq256 : q ≤ 256 := by omega
        have hpw : IntKind.i64.wrap (p : Int) = (p : Int) := IntWalk.i64_in _ (by omega)
        have hqw : IntKind.i64.wrap ((p : Int) + (W : Int)) = (q : Int) := by rw [IntWalk.i64_in _ (by omega)]; omega
        have hqw2 : (p : Int) + (W : Int) = (q : Int) := by omega
        have HE := Lib.hid (show (s.extract p q).data.toList = rowL s W y by rw [hp, hq]; exact rowL_ext s W y)
        obtain ⟨E, hE⟩ : ∃ E, E = s.extract p q := ⟨_, rfl⟩
        have HEE := Lib.hid hE
        have HES : E.size ≤ 16 := by
          rw [hE, Lib.size_eq, HE.out]; unfold rowL; exact Nat.le_trans (List.length_take_le _ _) hW16
        have hqsI : (q : Int) ≤ ((s.size : Nat) : Int) := by omega
        have ha1 : T.size + E.size ≤ 9223372036854775807 := by omega
        have ha2 : (T ++ E).size + (ByteArray.mk #[10]).size ≤ 9223372036854775807 := by
          rw [ByteArray.size_append, show (ByteArray.mk #[10]).size = 1 from rfl]; omega
        have hop1 := fun w => run_string_add_sum (P := Tryd.prog) w T E ha1
        have hop2 := fun w => run_string_add_sum (P := Tryd.prog) w (T ++ E) ⟨#[10]⟩ ha2
        have ha3 : ¬ (9223372036854775807 < T.size + E.size) := by omega
        have ha4 : ¬ (9223372036854775807 < T.size + E.size + 1) := by omega
        have hEs := hE.symm
        have HT2 := Lib.hid (show T ++ E ++ ⟨#[10]⟩ = mkB (textTo s W (y + 1)) by
          rw [textTo_succ, mkB_app, mkB_app, ← HT.out, ← HE.out, ← HEE.out, mkB_data, ByteArray.append_assoc]; rfl)
        clear hp hq hlt hE hqp
        go_wp2_with fail
        refine (HRT.out _).mono ?_
        rintro e w1 ⟨rfl, k1⟩
        have B1 := Lib.hid (BX.out.no k1)
        clear k1 hb0 hb1 hb2
        have hb0 : w1.cell? ⟨w.heap.size, 0, none⟩ = some (.int .i64 (W : Int)) := B1.out.c0
        have hb1 : w1.cell? ⟨w.heap.size, 1, none⟩ = some (.int .i64 (H : Int)) := B1.out.c1
        have hb2 : w1.cell? ⟨w.heap.size, 2, none⟩ = some (.string s) := B1.out.c2
        go_wp2_with fail
        go_roundg (H + 1 - (y + 1))
        case measure => omega
        case rel => exact ⟨y + 1, _, rfl, by go_num, by omega, rfl, HT2.out, B1.out⟩
      · obtain rfl : y = H := by omega
        have hd0 : ¬ (y : Int) < (y : Int) := by omega
        clear hlt
        go_wp2_with fail
        go_ret
        exact ⟨by rw [HZ.out, HT.out]; rfl, BX.out.kp⟩
  | false =>
    have HRT := Lib.hid (qright_at f hsz false hb)
    have HZ := Lib.hid (show Z = ⟨#[]⟩ by rw [hZ, if_neg (by simp [hb])])
    obtain ⟨X, Y, s⟩ := f
    unfold Flr.val at HRT ⊢
    simp only at HRT ⊢
    clear hb hZ
    by_cases h0 : 0 < Y
    · go_enter Tryd.func27, Tryd.ntmps27
      have B0 := Lib.hid HBX.out
      go_wp2_with fail
      refine wp_loop_rounds 1 ?_
      rw [rounds_succ]
      go_wp2_with fail
      refine (HRT.out _).mono ?_
      rintro e w1 ⟨rfl, k1⟩
      have K1 := Lib.hid (B0.out.kp.no k1)
      clear k1
      go_wp2_with fail
      go_ret
      exact ⟨by rw [HZ.out]; rfl, K1.out⟩
    · have h0I : ¬ (0 : Int) < Y := h0
      go_enter Tryd.func27, Tryd.ntmps27
      have B0 := Lib.hid HBX.out
      go_wp2_with fail
      refine wp_loop_rounds 1 ?_
      rw [rounds_succ]
      go_wp2_with fail
      go_ret
      exact ⟨by rw [HZ.out]; rfl, B0.out.kp⟩
end Go.Proofs.YtolkkinophklcaaDoor
