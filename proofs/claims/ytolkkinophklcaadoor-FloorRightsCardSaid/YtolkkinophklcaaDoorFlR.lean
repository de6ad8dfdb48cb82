/- floor.Right. -/
import Derived.Test.YtolkkinophklcaaDoorFlD
import Derived.Test.YtolkkinophklcaaDoorFlJw
namespace Go.Proofs.YtolkkinophklcaaDoor
set_option linter.unusedVariables false
set_option linter.unusedSimpArgs false
open Go.RowKit

def RightR (f : Flr) (w : World) (e : Ending) (w' : World) : Prop := e = .returned (.bool (rightB f)) ∧ Kp No w w'
def byTo (W H : Nat) (s : ByteArray) (c k : Nat) : Bool := ((besideP W H c).take k).any fun x => kdS s x == 2
theorem byTo_succ {W H : Nat} {s : ByteArray} {c k b : Nat} (h : (besideP W H c)[k]? = some b) : byTo W H s c (k + 1) = (byTo W H s c k || kdS s b == 2) := by
  unfold byTo; rw [List.take_add_one, h, List.any_append]; simp
theorem byTo_all {W H : Nat} {s : ByteArray} {c : Nat} (hW : 1 ≤ W) (hs : s.size = W * H) (hc : c < W * H) : byTo W H s c (besideP W H c).length = true ↔ ∃ j ∈ besideP W H c, laneI s j := by
  unfold byTo
  rw [List.take_length, List.any_eq_true]
  constructor
  · rintro ⟨x, hx, h⟩; exact ⟨x, hx, by rw [hs]; exact beside_lt hW hc hx, by simpa using h⟩
  · rintro ⟨x, hx, h⟩; exact ⟨x, hx, by simpa using h.2⟩
structure RtW (W H : Nat) (s : ByteArray) (bf : Nat) (w0 w : World) : Prop where
  box : w.heap[bf]? = some (.cells #[.int .i64 (W : Int), .int .i64 (H : Int), .string s] 24 (0, 0))
  kp : Kp No w0 w
theorem RtW.no {W H : Nat} {s : ByteArray} {bf : Nat} {w0 w w' : World} (h : RtW W H s bf w0 w) (hk : Kp No w w') : RtW W H s bf w0 w' := ⟨hk.blk h.box (no_no _), h.kp.no hk⟩
theorem right_no {f : Flr} (h : ¬ RightP f) : rightB f = false := rightB_f h

theorem right_dims (f : Flr) (w : World) (h : f.W < 1 ∨ 16 < f.W ∨ f.H < 1 ∨ 16 < f.H ∨ ((f.s.size : Int) ≠ f.W * f.H)) (hsz : f.s.size ≤ 9223372036854775807) :
    Calls Tryd.prog 24 #[f.val] w (RightR f w) := by
  have hR : rightB f = false := rightB_f fun r => by
    rcases h with h | h | h | h | h
    · exact absurd r.w1 (by omega)
    · exact absurd r.w2 (by omega)
    · exact absurd r.h1 (by omega)
    · exact absurd r.h2 (by omega)
    · exact h r.len
  have HR := Lib.hid hR
  unfold Flr.val
  obtain ⟨X, Y, s⟩ := f
  simp only at h hsz
  clear hR
  have K0 := Lib.hid ((Kp.refl No w).alloc (.cells #[.int .i64 X, .int .i64 Y, .string s] 24))
  by_cases h1 : X < 1
  · clear h
    go_enter Tryd.func24, Tryd.ntmps24
    go_wp2
    go_ret
    exact ⟨by rw [HR.out]; rfl, K0.out⟩
  by_cases h2 : 16 < X
  · clear h
    go_enter Tryd.func24, Tryd.ntmps24
    go_wp2
    go_ret
    exact ⟨by rw [HR.out]; rfl, K0.out⟩
  by_cases h3 : Y < 1
  · clear h
    go_enter Tryd.func24, Tryd.ntmps24
    go_wp2
    go_ret
    exact ⟨by rw [HR.out]; rfl, K0.out⟩
  by_cases h4 : 16 < Y
  · clear h
    go_enter Tryd.func24, Tryd.ntmps24
    go_wp2
    go_ret
    exact ⟨by rw [HR.out]; rfl, K0.out⟩
  · have h5 : (s.size : Int) ≠ X * Y := by rcases h with h | h | h | h | h <;> first | omega | exact h
    obtain ⟨P, hP⟩ : ∃ P, P = X * Y := ⟨_, rfl⟩
    have hP1 : 0 ≤ P := by rw [hP]; exact Int.mul_nonneg (by omega) (by omega)
    have hP2 : P ≤ 256 := by
      rw [hP]; exact Int.le_trans (Int.mul_le_mul_of_nonneg_right (show X ≤ 16 by omega) (by omega)) (by omega)
    have hw : IntKind.i64.wrap P = P := IntWalk.i64_in _ (by omega)
    rw [← hP] at h5
    obtain ⟨n, hn⟩ : ∃ n, n = s.size := ⟨_, rfl⟩
    have hnI : ((s.size : Nat) : Int) = (n : Int) := by omega
    rw [hnI] at h5
    have hb : ((n : Int) != P) = true := by simpa using h5
    have hP' := hP.symm
    clear h hP h5 hn hsz
    go_enter Tryd.func24, Tryd.ntmps24
    go_wp2
    go_ret
    exact ⟨by rw [HR.out]; rfl, K0.out⟩

set_option maxHeartbeats 2000000 in
set_option maxRecDepth 100000 in
theorem right_in (W H : Nat) (s : ByteArray) (hW1 : 1 ≤ W) (hW : W ≤ 16) (hH1 : 1 ≤ H) (hH : H ≤ 16) (hs : s.size = W * H) (w : World) :
    Calls Tryd.prog 24 #[(Flr.mk W H s).val] w (RightR (Flr.mk W H s) w) := by
  unfold RightR
  obtain ⟨R, hR⟩ : ∃ R, R = rightB (Flr.mk W H s) := ⟨_, rfl⟩
  rw [← hR]
  have HR := Lib.hid hR
  clear hR
  unfold Flr.val
  have hs256 : s.size ≤ 256 := by rw [hs]; exact Nat.mul_le_mul hW hH
  have HS := Lib.hid hs
  obtain ⟨n, hn⟩ : ∃ n, n = s.size := ⟨_, rfl⟩
  have hnI : ((s.size : Nat) : Int) = (n : Int) := by omega
  have hWH : (W : Int) * (H : Int) = (n : Int) := by rw [hn, hs]; simp
  have HN := Lib.hid hn
  have hn256 : n ≤ 256 := by omega
  have a1 : ¬ (W : Int) < 1 := by omega
  have a2 : ¬ (16 : Int) < (W : Int) := by omega
  have a3 : ¬ (H : Int) < 1 := by omega
  have a4 : ¬ (16 : Int) < (H : Int) := by omega
  clear hs hn hs256
  go_enter Tryd.func24, Tryd.ntmps24
  go_wp2
  obtain ⟨bf, hbf⟩ : ∃ bf, bf = w.heap.size := ⟨_, rfl⟩
  obtain ⟨w0, hw0⟩ : ∃ w0, w0 = w.alloc (.cells #[.int .i64 (W : Int), .int .i64 (H : Int), .string s] 24) := ⟨_, rfl⟩
  have R0 : Hid (RtW W H s bf w w0) := Lib.hid (by
    rw [hw0, hbf]
    exact ⟨blk_new w _, (Kp.refl _ _).alloc _⟩)
  rw [← hbf, ← hw0]
  clear hbf hw0 a1 a2 a3 a4
  go_loopg [43] (n + 1) (fun g2 kk wr => ∃ k : Nat, g2 = n + 1 - k ∧ kk = .int .i64 k ∧ k ≤ n ∧ (∀ i, i < k → kdS s i ≠ 0) ∧ RtW W H s bf w wr)
  case atStart => exact ⟨0, rfl, rfl, by omega, fun i hi => by omega, R0.out⟩
  case round =>
    obtain ⟨k, hgk, rfl, hk, hz, rw0⟩ := hrel
    have HZ := Lib.hid hz; have RW := Lib.hid rw0
    have hb2 : wr.cell? ⟨bf, 2, none⟩ = some (.string s) := blk_cell RW.out.box 2
    clear hz rw0
    by_cases hlt : k < n
    · have hltI : (k : Int) < (n : Int) := by omega
      have hwk : IntKind.i64.wrap ((k : Int) + 1) = (k : Int) + 1 := IntWalk.i64_in _ (by omega)
      have hks : k < s.size := by have := HN.out; omega
      have hksI : (k : Int) < ((s.size : Nat) : Int) := by omega
      have hbt := bt_at s k
      obtain ⟨K, hK⟩ : ∃ K, K = kindB (bt s k) := ⟨_, rfl⟩
      have hkd := fun w => kind_any (bt s k) w
      rw [← hK] at hkd
      have HK := Lib.hid (show K = kdS s k from hK)
      have HKD := Lib.hid hkd
      clear hK hkd
      by_cases h0 : K = 0
      · have h0b : ((K : Int) == 0) = true := by simp [h0]
        have hno : R = false := by rw [HR.out]; exact rightB_f fun r => r.kinds k hks (by rw [← HK.out, h0])
        have HNO := Lib.hid hno
        clear hno h0 hlt hks
        go_wp2_with (go_at_call 39; refine (HKD.out _).mono ?_; rintro e wz ⟨rfl, rfl⟩)
        go_ret
        exact ⟨by rw [HNO.out]; rfl, RW.out.kp⟩
      · have h0b : ((K : Int) == 0) = false := by simp; omega
        have HZ2 := Lib.hid (show ∀ i, i < k + 1 → kdS s i ≠ 0 by
          intro i hi
          rcases Nat.lt_or_ge i k with h | h
          · exact HZ.out i h
          · obtain rfl : i = k := by omega
            rw [← HK.out]; exact h0)
        clear h0 hlt hks
        go_wp2_with (go_at_call 39; refine (HKD.out _).mono ?_; rintro e wz ⟨rfl, rfl⟩)
        go_roundg (n + 1 - (k + 1))
        case measure => omega
        case rel => exact ⟨k + 1, rfl, by go_num, by omega, HZ2.out, RW.out⟩
    · obtain rfl : k = n := by omega
      have hd0 : ¬ (k : Int) < (k : Int) := by omega
      have hb0 : wr.cell? ⟨bf, 0, none⟩ = some (.int .i64 (W : Int)) := blk_cell RW.out.box 0
      have hb1 : wr.cell? ⟨bf, 1, none⟩ = some (.int .i64 (H : Int)) := blk_cell RW.out.box 1
      clear hlt
      go_wp2_with fail
      refine (docks_any (Flr.mk W H s) (by show s.size ≤ 2000; have := HN.out; omega) wr).mono ?_
      rintro e wd hdR
      rcases hdR with ⟨ds, vd, rfl, hds, nsd⟩ | ⟨rfl, hno, kpd⟩
      · have RD := Lib.hid (RW.out.no nsd.kp)
        have hb0 : wd.cell? ⟨bf, 0, none⟩ = some (.int .i64 (W : Int)) := blk_cell RD.out.box 0
        have hb1 : wd.cell? ⟨bf, 1, none⟩ = some (.int .i64 (H : Int)) := blk_cell RD.out.box 1
        have hb2 : wd.cell? ⟨bf, 2, none⟩ = some (.string s) := blk_cell RD.out.box 2
        have HDS := Lib.hid hds; have OD := Lib.hid nsd.own
        clear hds nsd
        go_wp2_with fail
        refine (joined_any W H s hW1 hW hH1 hH HS.out wd).mono ?_
        rintro e wj ⟨bj, rfl, hbj, kpj⟩
        have RJ := Lib.hid (RD.out.no kpj)
        have OJ := Lib.hid (OD.out.kpNo kpj)
        have HBJ := Lib.hid hbj
        clear hbj kpj
        cases bj with
        | false =>
          have hno : R = false := by rw [HR.out]; exact rightB_f fun r => by have := HBJ.out.2 r.join; simp at this
          have HNO := Lib.hid hno
          clear hno
          go_wp2_with fail
          go_ret
          exact ⟨by rw [HNO.out]; rfl, RJ.out.kp⟩
        | true =>
          obtain ⟨A, q, rfl⟩ := OD.out.rd.shape
          rw [ints_len] at OJ ⊢
          obtain ⟨m, hm⟩ : ∃ m, m = ds.length := ⟨_, rfl⟩
          rw [← hm] at OJ ⊢
          have HM := Lib.hid hm
          have hm8 : m ≤ 8 := by rw [hm]; exact HDS.out.len
          clear hm OD
          go_wp2_with fail
          obtain ⟨wo, rfl⟩ : ∃ wo : World, wo = wr := ⟨_, rfl⟩
          go_loopg [67] (m + 1) (fun g2 jj wx => ∃ j : Nat, g2 = m + 1 - j ∧ jj = .int .i64 j ∧ j ≤ m ∧ (∀ r d, r < j → ds[r]? = some d → ∃ x ∈ besideP W H d, laneI s x) ∧ RtW W H s bf w wx ∧ Own IK 3 wx (.slice A m q) (ints ds))
          case atStart => exact ⟨0, rfl, rfl, by omega, fun r d hr => by omega, RJ.out, OJ.out⟩
          case round =>
            obtain ⟨j, hgj, rfl, hj, hby, rx, ox⟩ := hrel
            have HBY := Lib.hid hby; have RX := Lib.hid rx; have OX := Lib.hid ox
            clear hby rx ox
            have hb0 : wr.cell? ⟨bf, 0, none⟩ = some (.int .i64 (W : Int)) := blk_cell RX.out.box 0
            have hb1 : wr.cell? ⟨bf, 1, none⟩ = some (.int .i64 (H : Int)) := blk_cell RX.out.box 1
            have hb2 : wr.cell? ⟨bf, 2, none⟩ = some (.string s) := blk_cell RX.out.box 2
            by_cases hlt : j < m
            · have hltI : (j : Int) < (m : Int) := by omega
              have hwj : IntKind.i64.wrap ((j : Int) + 1) = (j : Int) + 1 := IntWalk.i64_in _ (by omega)
              obtain ⟨d, hd⟩ : ∃ d, ds[j]? = some d := ⟨_, List.getElem?_eq_getElem (by rw [← HM.out]; exact hlt)⟩
              obtain ⟨hd1, hd2, hd3⟩ := HDS.out.at_ j d hd
              have hdW : d < W * H := by rw [← HS.out]; exact hd1
              rcases OX.out.b with ⟨hv, _⟩ | ⟨gB, capB, hv, _, _, _⟩
              · simp only [Value.slice.injEq] at hv; omega
              simp only [Value.slice.injEq] at hv
              obtain ⟨rfl, hzz, rfl⟩ := hv
              clear hzz
              have hcb : wr.cell? ⟨gB, j, none⟩ = some (.int .i64 (d : Int)) := by have := OX.out.rd.intAt (ints_get hd); simpa using this
              have HDJ := Lib.hid hd; have HDW := Lib.hid hdW; have HD1 := Lib.hid hd1; have HD2 := Lib.hid hd2
              clear hd hd1 hd2 hd3 hdW hlt
              go_wp2_with fail
              refine (beside_any W H d s hW1 hW hH1 hH HDW.out wr).mono ?_
              rintro e w3 ⟨vB, rfl, nb⟩
              obtain ⟨AB, qB, rfl⟩ := nb.own.rd.shape
              rw [ints_len] at nb ⊢
              obtain ⟨nB, hnB⟩ : ∃ nB, nB = (besideP W H d).length := ⟨_, rfl⟩
              have hB4 : nB ≤ 4 := by rw [hnB, ← bsA_four]; exact bsA_len W H d 4
              rw [← hnB] at nb ⊢
              have HNB := Lib.hid hnB
              have R3 := Lib.hid (RX.out.no nb.kp); have O3 := Lib.hid (OX.out.kpNo nb.kp); have NB := Lib.hid nb.own
              clear nb hnB hb0 hb1 hb2 hcb
              go_wp2_with fail
              obtain ⟨wc, rfl⟩ : ∃ wc : World, wc = wr := ⟨_, rfl⟩
              go_loopg [8, 75] (nB + 1) (fun g3 by_ ii wy => ∃ (i : Nat) (b : Bool), g3 = nB + 1 - i ∧ ii = .int .i64 i ∧ i ≤ nB ∧ by_ = .bool b ∧ b = byTo W H s d i ∧ RtW W H s bf w wy ∧ Own IK 3 wy (.slice (some ⟨gB, 0, none⟩) m q) (ints ds) ∧ Own IK 3 wy (.slice AB nB qB) (ints (besideP W H d)))
              case atStart => exact ⟨0, false, rfl, rfl, by omega, rfl, rfl, R3.out, O3.out, NB.out⟩
              case round =>
                obtain ⟨i, b, hgi, rfl, hi, rfl, hb, ry, oy, ob⟩ := hrel
                have HB := Lib.hid hb; have RY := Lib.hid ry; have OY := Lib.hid oy; have OB := Lib.hid ob
                clear hb ry oy ob
                by_cases hlt : i < nB
                · have hltI : (i : Int) < (nB : Int) := by omega
                  have hwi : IntKind.i64.wrap ((i : Int) + 1) = (i : Int) + 1 := IntWalk.i64_in _ (by omega)
                  obtain ⟨x, hx⟩ : ∃ x, (besideP W H d)[i]? = some x := ⟨_, List.getElem?_eq_getElem (by rw [← HNB.out]; exact hlt)⟩
                  have hxs : x < s.size := by rw [HS.out]; exact beside_lt hW1 HDW.out (List.mem_of_getElem? hx)
                  rcases OB.out.b with ⟨hv, _⟩ | ⟨gC, capC, hv, _, _, _⟩
                  · simp only [Value.slice.injEq] at hv; omega
                  simp only [Value.slice.injEq] at hv
                  obtain ⟨rfl, hzz, rfl⟩ := hv
                  clear hzz
                  have hcb : wr.cell? ⟨gC, i, none⟩ = some (.int .i64 (x : Int)) := by have := OB.out.rd.intAt (ints_get hx); simpa using this
                  have hb2 : wr.cell? ⟨bf, 2, none⟩ = some (.string s) := blk_cell RY.out.box 2
                  have hxsI : (x : Int) < ((s.size : Nat) : Int) := by omega
                  have hxn : x < k := by have := HN.out; omega
                  have hbt := bt_at s x
                  obtain ⟨K, hK⟩ : ∃ K, K = kindB (bt s x) := ⟨_, rfl⟩
                  have hkd := fun w => kind_any (bt s x) w
                  rw [← hK] at hkd
                  have HKD := Lib.hid hkd
                  obtain ⟨t, ht⟩ : ∃ t : Bool, t = ((K : Int) == 2) := ⟨_, rfl⟩
                  have htI := ht.symm
                  have HB2 := Lib.hid (show (b || t) = byTo W H s d (i + 1) by
                    rw [byTo_succ hx, ← HB.out, ht, hK]
                    congr 1
                    show _ = (kindB (bt s x) == 2)
                    rw [Bool.eq_iff_iff]; simp; omega)
                  clear hK hkd ht hx hlt
                  cases b with
                  | false =>
                    go_wp2_with (go_at_call 39; refine (HKD.out _).mono ?_; rintro e wz ⟨rfl, rfl⟩)
                    go_roundg (nB + 1 - (i + 1))
                    case measure => omega
                    case rel => exact ⟨i + 1, t, rfl, by go_num, by omega, rfl, by rw [← HB2.out]; simp, RY.out, OY.out, OB.out⟩
                  | true =>
                    go_wp2_with (go_at_call 39; refine (HKD.out _).mono ?_; rintro e wz ⟨rfl, rfl⟩)
                    go_roundg (nB + 1 - (i + 1))
                    case measure => omega
                    case rel => exact ⟨i + 1, true, rfl, by go_num, by omega, rfl, by rw [← HB2.out]; simp, RY.out, OY.out, OB.out⟩
                · obtain rfl : i = nB := by omega
                  have hd0 : ¬ (i : Int) < (i : Int) := by omega
                  have HBE := Lib.hid (show b = true ↔ ∃ j ∈ besideP W H d, laneI s j by rw [HB.out, HNB.out]; exact byTo_all hW1 HS.out HDW.out)
                  clear hlt
                  cases b with
                  | false =>
                    have hno : R = false := by rw [HR.out]; exact rightB_f fun r => by have := HBE.out.2 (r.by_ d HD1.out HD2.out); simp at this
                    have HNO := Lib.hid hno
                    clear hno
                    go_wp2_with fail
                    go_ret
                    exact ⟨by rw [HNO.out]; rfl, RY.out.kp⟩
                  | true =>
                    have HBY2 := Lib.hid (show ∀ r e, r < j + 1 → ds[r]? = some e → ∃ x ∈ besideP W H e, laneI s x by
                      intro r e hr he
                      rcases Nat.lt_or_ge r j with h | h
                      · exact HBY.out r e h he
                      · obtain rfl : r = j := by omega
                        rw [HDJ.out] at he
                        simp at he; subst he
                        exact HBE.out.1 rfl)
                    go_wp2_with fail
                    go_roundg (m + 1 - (j + 1))
                    case measure => omega
                    case rel => exact ⟨j + 1, rfl, by go_num, by omega, HBY2.out, RY.out, OY.out⟩
            · obtain rfl : j = m := by omega
              have hd0 : ¬ (j : Int) < (j : Int) := by omega
              have hyes : R = true := by
                rw [HR.out]
                refine rightB_t ⟨by simp; omega, by simp; omega, by simp; omega, by simp; omega, by simp [HS.out], fun i hi => HZ.out i (by have := HN.out; have hi : i < s.size := hi; omega), ⟨ds, HDS.out⟩, by have := HBJ.out; simpa using this, fun i hi h3 => ?_⟩
                have := HDS.out.all i hi h3
                have hl := (List.getElem?_eq_some_iff.1 this).1
                simpa using HBY.out _ i (by rw [HM.out]; exact hl) this
              have HYES := Lib.hid hyes
              clear hyes hlt
              go_wp2_with fail
              go_ret
              exact ⟨by rw [HYES.out]; rfl, RX.out.kp⟩
      · have hno : R = false := by rw [HR.out]; exact rightB_f fun r => hno r.docks
        have HNO := Lib.hid hno
        have KD := Lib.hid (RW.out.kp.no kpd)
        clear hno kpd
        go_wp2_with fail
        go_ret
        exact ⟨by rw [HNO.out]; rfl, KD.out⟩

theorem right_any (f : Flr) (hsz : f.s.size ≤ 9223372036854775807) (w : World) : Calls Tryd.prog 24 #[f.val] w (RightR f w) := by
  by_cases h : f.W < 1 ∨ 16 < f.W ∨ f.H < 1 ∨ 16 < f.H ∨ ((f.s.size : Int) ≠ f.W * f.H)
  · exact right_dims f w h hsz
  · obtain ⟨X, Y, s⟩ := f
    simp only at h
    obtain ⟨W, rfl⟩ : ∃ W : Nat, X = W := ⟨X.toNat, by omega⟩
    obtain ⟨H, rfl⟩ : ∃ H : Nat, Y = H := ⟨Y.toNat, by omega⟩
    refine right_in W H s (by omega) (by omega) (by omega) (by omega) ?_ w
    have : (s.size : Int) = W * H := by
      by_cases hh : (s.size : Int) = W * H
      · exact hh
      · exact absurd (Or.inr (Or.inr (Or.inr (Or.inr hh)))) h
    exact_mod_cast this
end Go.Proofs.YtolkkinophklcaaDoor
