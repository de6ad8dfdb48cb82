/- floor.Text. -/
import Derived.Test.YtolkkinophklcaaDoorFlTp
import Derived.Test.YtolkkinophklcaaDoorShelfB
namespace Go.Proofs.YtolkkinophklcaaDoor
set_option linter.unusedVariables false
set_option linter.unusedSimpArgs false
open Go.RowKit

structure TxW (f : Flr) (b1 bb : Nat) (w : World) (l : List UInt8) (wx : World) : Prop where
  bx : BxW f b1 w wx
  bf : LibA.IsBuffer 60 (fun _ => none) 5 bb bb 0 (Lib.byteCells l) wx
  lt : b1 < bb ∧ w.heap.size ≤ b1 ∧ bb ≤ wx.heap.size
theorem byteCells_app (a b : List UInt8) : Lib.byteCells (a ++ b) = Lib.byteCells a ++ Lib.byteCells b := by simp [Lib.byteCells]
theorem byteCells_one (l : List UInt8) : ∀ v ∈ Lib.byteCells l, v.oneCell' = true := by
  intro v hv
  simp only [Lib.byteCells, List.mem_map] at hv
  obtain ⟨c, _, rfl⟩ := hv
  rfl
theorem TxW.step {f : Flr} {b1 bb : Nat} {w wx w' : World} {l : List UInt8} (h : TxW f b1 bb w l wx) (m : List UInt8) (hb : LibA.IsBuffer 60 (fun _ => none) 5 bb bb 0 (Lib.byteCells l ++ Lib.byteCells m) w') (hl : Below bb wx w') : TxW f b1 bb w (l ++ m) w' := by
  have hk : Kp (fun k => bb ≤ k) wx w' := ⟨hl.os, hl.tape, hl.output, hl.size, fun k hk hn => hl.block k (by omega)⟩
  have hlt := h.lt
  exact ⟨⟨hk.blk h.bx.box (by omega), h.bx.kp.trans' hk (fun k hk e => by have e : bb ≤ k := e; omega)⟩, by rw [byteCells_app]; exact hb, hlt.1, hlt.2.1, Nat.le_trans hlt.2.2 hl.size⟩

set_option maxHeartbeats 1000000 in
set_option maxRecDepth 100000 in
theorem text_any (f : Flr) (hsz : f.s.size ≤ 9223372036854775807) (w : World) :
    Calls Tryd.prog 26 #[f.val] w fun e w' => e = .returned (.string (textP f)) ∧ Kp No w w' := by
  have HBX := Lib.hid (BxW.new f w)
  obtain ⟨Z, hZ⟩ : ∃ Z, Z = textP f := ⟨_, rfl⟩
  rw [← hZ]
  unfold textP at hZ
  cases hb : rightB f with
  | true =>
    rw [if_pos hb] at hZ
    have HRT := Lib.hid (right_at f hsz true hb)
    have hR := rightB_iff.1 hb
    have hs256 := hR.s256
    obtain ⟨X, Y, s⟩ := f
    obtain ⟨W, hW⟩ : ∃ W : Nat, X = W := ⟨X.toNat, by have := hR.w1; simp at this; omega⟩
    obtain ⟨H, hH⟩ : ∃ H : Nat, Y = H := ⟨Y.toNat, by have := hR.h1; simp at this; omega⟩
    subst hW hH
    simp only [Int.toNat_natCast] at hZ hs256
    have hWH : s.size = H * W := by have := hR.len; simp only at this; rw [Int.mul_comm] at this; exact_mod_cast this
    have hW16 : W ≤ 16 := by have := hR.w2; simp at this; omega
    have hH16 : H ≤ 16 := by have := hR.h2; simp at this; omega
    have HZ := Lib.hid hZ
    have HWH := Lib.hid hWH
    unfold Flr.val at HRT ⊢
    simp only at HRT ⊢
    clear hb hZ hsz hR hWH
    go_enter Tryd.func26, Tryd.ntmps26
    go_wp2_with fail
    refine (HRT.out _).mono ?_
    rintro e w3 ⟨rfl, kp1⟩
    have B3 := Lib.hid (HBX.out.no kp1)
    clear kp1
    obtain ⟨w4, hw4⟩ : ∃ w4, w4 = w3.alloc (.cells #[.slice none 0 0, .int .i64 0, .int .i8 0] 60) := ⟨_, rfl⟩
    obtain ⟨bb, hbb⟩ : ∃ bb, bb = w3.heap.size := ⟨_, rfl⟩
    have T4 := Lib.hid (show TxW (Flr.mk W H s) w.heap.size bb w [] w4 by
      have h1 := lt_of_block B3.out.box
      rw [hw4, hbb]
      exact ⟨B3.out.no ((Kp.refl _ _).alloc _), LibA.of_whole (Lib.fresh_isBuffer 60 5 w3), h1, Nat.le_refl _, by simp⟩)
    have hb1 : w4.cell? ⟨w.heap.size, 1, none⟩ = some (.int .i64 (H : Int)) := T4.out.bx.c1
    have hb1' := hb1
    rw [hw4] at hb1
    go_wp2_with fail
    rw [← hw4, ← hbb]
    clear hw4 hbb hb1 B3
    go_loopg [10] (H + 1) (fun g2 yv wx => ∃ y : Nat, g2 = H + 1 - y ∧ yv = .int .i64 y ∧ y ≤ H ∧ TxW (Flr.mk W H s) w.heap.size bb w (textTo s W y) wx)
    case atStart => exact ⟨0, rfl, rfl, by omega, T4.out⟩
    case round =>
      clear T4 hb1'
      obtain ⟨y, hg2, rfl, hy, tx⟩ := hrel
      have TX := Lib.hid tx
      have hb0 : wr.cell? ⟨w.heap.size, 0, none⟩ = some (.int .i64 (W : Int)) := tx.bx.c0
      have hb1 : wr.cell? ⟨w.heap.size, 1, none⟩ = some (.int .i64 (H : Int)) := tx.bx.c1
      have hb2 : wr.cell? ⟨w.heap.size, 2, none⟩ = some (.string s) := tx.bx.c2
      have HTL := Lib.hid (show (textTo s W y).length ≤ 272 from Nat.le_trans (textTo_len s W y) (Nat.le_trans (Nat.mul_le_mul (show y ≤ 16 by omega) (show W + 1 ≤ 17 by omega)) (by decide)))
      clear tx
      by_cases hlt : y < H
      · have hltI : (y : Int) < (H : Int) := by omega
        have hwy : IntKind.i64.wrap ((y : Int) + 1) = (y : Int) + 1 := IntWalk.i64_in _ (by omega)
        obtain ⟨p, hp⟩ : ∃ p, p = y * W := ⟨_, rfl⟩
        obtain ⟨q, hq⟩ : ∃ q, q = (y + 1) * W := ⟨_, rfl⟩
        have hpq : p ≤ q := by rw [hp, hq]; exact Nat.mul_le_mul_right _ (by omega)
        have hqs : q ≤ s.size := by rw [hq, HWH.out]; exact Nat.mul_le_mul_right _ (by omega)
        have hpI : (y : Int) * (W : Int) = (p : Int) := by rw [hp]; simp
        have hqI : ((y : Int) + 1) * (W : Int) = (q : Int) := by rw [hq]; simp
        have hq256 : q ≤ 256 := by omega
        have hpw : IntKind.i64.wrap (p : Int) = (p : Int) := IntWalk.i64_in _ (by omega)
        have hqw : IntKind.i64.wrap (q : Int) = (q : Int) := IntWalk.i64_in _ (by omega)
        have HE := Lib.hid (show (s.extract p q).data.toList = rowL s W y by rw [hp, hq]; exact rowL_ext s W y)
        have HES := Lib.hid (show (s.extract p q).size ≤ 16 by
          rw [Lib.size_eq, HE.out]; unfold rowL; exact Nat.le_trans (List.length_take_le _ _) hW16)
        have hqsI : (q : Int) ≤ ((s.size : Nat) : Int) := by omega
        clear hp hq hlt
        go_wp2_with fail
        refine (Tryd.Buffer_WriteString_at 60 (fun _ => none) bb bb 0 (Lib.byteCells (textTo s W y)) (s.extract p q) wr TX.out.bf TX.out.lt.2.2 (byteCells_one _) (by rw [Lib.byteCells_length]; have := HTL.out; have := HES.out; omega)).mono ?_
        rintro e w5 ⟨rfl, hbf, hbl, _⟩
        rw [HE.out] at hbf
        have T5 := Lib.hid (TX.out.step _ hbf hbl)
        clear hbf hbl hb0 hb1 hb2
        go_wp2_with fail
        refine (Tryd.Buffer_WriteByte_at 60 (fun _ => none) bb bb 0 (Lib.byteCells (textTo s W y ++ rowL s W y)) 10 w5 T5.out.bf T5.out.lt.2.2 (byteCells_one _) (by rw [Lib.byteCells_length, List.length_append, ← HE.out, ← Lib.size_eq]; have := HTL.out; have := HES.out; omega)).mono ?_
        rintro e w6 ⟨rfl, hbf, hbl, _⟩
        have T6 := Lib.hid (T5.out.step [10] hbf hbl)
        rw [List.append_assoc, ← textTo_succ] at T6
        clear hbf hbl
        go_wp2_with fail
        go_roundg (H + 1 - (y + 1))
        case measure => omega
        case rel => exact ⟨y + 1, rfl, by go_num, by omega, T6.out⟩
      · obtain rfl : y = H := by omega
        have hd0 : ¬ (y : Int) < (y : Int) := by omega
        clear hlt
        go_wp2_with fail
        refine (Tryd.Buffer_String_at 60 (fun _ => none) bb bb 0 (textTo s W y) wr TX.out.bf).mono ?_
        rintro e w5 ⟨rfl, n, rfl⟩
        go_wp2_with fail
        go_ret
        exact ⟨by rw [HZ.out]; rfl, TX.out.bx.kp.drewN n⟩
  | false =>
    have HRT := Lib.hid (right_at f hsz false hb)
    have HZ := Lib.hid (show Z = ⟨#[]⟩ by rw [hZ, if_neg (by simp [hb])])
    unfold Flr.val at HRT ⊢
    clear hb hZ
    go_enter Tryd.func26, Tryd.ntmps26
    go_wp2_with fail
    refine (HRT.out _).mono ?_
    rintro e w1 ⟨rfl, kp1⟩
    have B1 := Lib.hid (HBX.out.no kp1)
    clear kp1
    go_wp2_with fail
    go_ret
    exact ⟨by rw [HZ.out]; rfl, B1.out.kp⟩
end Go.Proofs.YtolkkinophklcaaDoor
