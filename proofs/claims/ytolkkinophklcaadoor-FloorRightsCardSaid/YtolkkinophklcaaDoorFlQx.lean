/- carfaxref03.Right. -/
import Derived.Test.YtolkkinophklcaaDoorFlQr
import Derived.Test.YtolkkinophklcaaDoorFlQd
namespace Go.Proofs.YtolkkinophklcaaDoor
set_option linter.unusedVariables false
set_option linter.unusedSimpArgs false
open Go.RowKit

theorem qright_dims (f : Flr) (w : World) (h : f.W < 1 ∨ 16 < f.W ∨ f.H < 1 ∨ 16 < f.H ∨ ((f.s.size : Int) ≠ f.W * f.H)) (hsz : f.s.size ≤ 9223372036854775807) :
    Calls Tryd.prog 25 #[f.val] w (RightR f w) := by
  have hR : rightB f = false := rightB_f fun r => by
    rcases h with h | h | h | h | h
    · exact absurd r.w1 (by omega)
    · exact absurd r.w2 (by omega)
    · exact absurd r.h1 (by omega)
    · exact absurd r.h2 (by omega)
    · exact h r.len
  have HR := Lib.hid hR
  unfold Flr.val
  obtain ⟨X, Y, s⟩ := f
  simp only at h hsz
  clear hR
  have K0 := Lib.hid ((Kp.refl No w).alloc (.cells #[.int .i64 X, .int .i64 Y, .string s] 24))
  by_cases h1 : X < 1
  · clear h
    go_enter Tryd.func25, Tryd.ntmps25
    go_wp2
    go_ret
    exact ⟨by rw [HR.out]; rfl, K0.out⟩
  by_cases h2 : 16 < X
  · clear h
    go_enter Tryd.func25, Tryd.ntmps25
    go_wp2
    go_ret
    exact ⟨by rw [HR.out]; rfl, K0.out⟩
  by_cases h3 : Y < 1
  · clear h
    go_enter Tryd.func25, Tryd.ntmps25
    go_wp2
    go_ret
    exact ⟨by rw [HR.out]; rfl, K0.out⟩
  by_cases h4 : 16 < Y
  · clear h
    go_enter Tryd.func25, Tryd.ntmps25
    go_wp2
    go_ret
    exact ⟨by rw [HR.out]; rfl, K0.out⟩
  · have h5 : (s.size : Int) ≠ X * Y := by rcases h with h | h | h | h | h <;> first | omega | exact h
    obtain ⟨P, hP⟩ : ∃ P, P = X * Y := ⟨_, rfl⟩
    have hP1 : 0 ≤ P := by rw [hP]; exact Int.mul_nonneg (by omega) (by omega)
    have hP2 : P ≤ 256 := by
      rw [hP]; exact Int.le_trans (Int.mul_le_mul_of_nonneg_right (show X ≤ 16 by omega) (by omega)) (by omega)
    have hw : IntKind.i64.wrap P = P := IntWalk.i64_in _ (by omega)
    rw [← hP] at h5
    obtain ⟨n, hn⟩ : ∃ n, n = s.size := ⟨_, rfl⟩
    have hnI : ((s.size : Nat) : Int) = (n : Int) := by omega
    rw [hnI] at h5
    have hb : ((n : Int) != P) = true := by simpa using h5
    have hP' := hP.symm
    clear h hP h5 hn hsz
    go_enter Tryd.func25, Tryd.ntmps25
    go_wp2
    go_ret
    exact ⟨by rw [HR.out]; rfl, K0.out⟩

theorem orTC {t c : Bool} (h : ¬ (t = true ∧ c = false)) : t = false ∨ (t = true ∧ c = true) := by revert h; cases t <;> cases c <;> simp
def FsI (s : ByteArray) (k : Nat) (x : Int) : Prop := (x = -1 ∧ ∀ i, i < k → kdS s i ≠ 2) ∨ ∃ l : Nat, x = l ∧ l < k ∧ kdS s l = 2
theorem FsI.skip {s : ByteArray} {k : Nat} {x : Int} (h : FsI s k x) (hk : kdS s k ≠ 2) : FsI s (k + 1) x := by
  rcases h with ⟨h1, h2⟩ | ⟨l, h1, h2, h3⟩
  · refine .inl ⟨h1, fun i hi => ?_⟩
    rcases Nat.lt_or_ge i k with h | h
    · exact h2 i h
    · obtain rfl : i = k := by omega
      exact hk
  · exact .inr ⟨l, h1, by omega, h3⟩
theorem FsI.keep {s : ByteArray} {k : Nat} {x : Int} (h : FsI s k x) (hx : 0 ≤ x) : FsI s (k + 1) x := by
  rcases h with ⟨h1, h2⟩ | ⟨l, h1, h2, h3⟩
  · omega
  · exact .inr ⟨l, h1, by omega, h3⟩
set_option maxHeartbeats 2000000 in
set_option maxRecDepth 100000 in
theorem qright_in (W H : Nat) (s : ByteArray) (hW1 : 1 ≤ W) (hW : W ≤ 16) (hH1 : 1 ≤ H) (hH : H ≤ 16) (hs : s.size = W * H) (w : World) :
    Calls Tryd.prog 25 #[(Flr.mk W H s).val] w (RightR (Flr.mk W H s) w) := by
  unfold RightR
  obtain ⟨R, hR⟩ : ∃ R, R = rightB (Flr.mk W H s) := ⟨_, rfl⟩
  rw [← hR]
  have HR := Lib.hid hR
  clear hR
  unfold Flr.val
  have hs256 : s.size ≤ 256 := by rw [hs]; exact Nat.mul_le_mul hW hH
  have HS := Lib.hid hs
  obtain ⟨n, hn⟩ : ∃ n, n = s.size := ⟨_, rfl⟩
  have hnI : ((s.size : Nat) : Int) = (n : Int) := by omega
  have hWH : (W : Int) * (H : Int) = (n : Int) := by rw [hn, hs]; simp
  have HN := Lib.hid hn
  have hn256 : n ≤ 256 := by omega
  have a1 : ¬ (W : Int) < 1 := by omega
  have a2 : ¬ (16 : Int) < (W : Int) := by omega
  have a3 : ¬ (H : Int) < 1 := by omega
  have a4 : ¬ (16 : Int) < (H : Int) := by omega
  clear hs hn hs256
  go_enter Tryd.func25, Tryd.ntmps25
  go_wp2
  obtain ⟨bf, hbf⟩ : ∃ bf, bf = w.heap.size := ⟨_, rfl⟩
  obtain ⟨ba, hba⟩ : ∃ ba, ba = w.heap.size + 1 := ⟨_, rfl⟩
  obtain ⟨w0, hw0⟩ : ∃ w0, w0 = (w.alloc (.cells #[.int .i64 (W : Int), .int .i64 (H : Int), .string s] 24)).alloc (.cells #[.int .i64 0, .int .i64 0, .int .i64 0, .int .i64 0, .int .i64 0, .int .i64 0, .int .i64 0, .int .i64 0] 53) := ⟨_, rfl⟩
  have D0 : Hid (DkW (Flr.mk W H s) bf ba (List.replicate 8 0) w w0) := Lib.hid (by
    rw [hw0, hbf, hba]
    refine ⟨blk_alloc (blk_new w _) _, ?_, ((Kp.refl _ _).alloc _).alloc _, by omega, by omega, by omega⟩
    have := blk_new (w.alloc (.cells #[.int .i64 (W : Int), .int .i64 (H : Int), .string s] 24)) (.cells #[.int .i64 0, .int .i64 0, .int .i64 0, .int .i64 0, .int .i64 0, .int .i64 0, .int .i64 0, .int .i64 0] 53)
    show (_ : World).heap[_]? = some (Obj.cells #[.int .i64 0, .int .i64 0, .int .i64 0, .int .i64 0, .int .i64 0, .int .i64 0, .int .i64 0, .int .i64 0] 53 (0, 0))
    simpa using this)
  rw [← hba, ← hbf, ← hw0]
  clear hbf hba hw0 a1 a2 a3 a4 hWH
  go_loopg [4, 5, 6] (n + 1) (fun g2 dv fv kk wr => ∃ (k d : Nat) (fI : Int) (a : List Nat), g2 = n + 1 - k ∧ kk = .int .i64 k ∧ k ≤ n ∧ dv = .int .i64 d ∧ d ≤ k ∧ fv = .int .i64 fI ∧ FsI s k fI ∧ (∀ i, i < k → kdS s i ≠ 0) ∧ DkW (Flr.mk W H s) bf ba a w wr ∧ MnI s k a d)
  case atStart => exact ⟨0, 0, -1, _, rfl, rfl, by omega, rfl, by omega, rfl, .inl ⟨rfl, fun i hi => by omega⟩, fun i hi => by omega, D0.out, MnI.start _⟩
  case round =>
    obtain ⟨k, d, fI, a, hgk, rfl, hk, rfl, hdk, rfl, hfs, hz, dw, mi⟩ := hrel
    have HZ := Lib.hid hz; have DW := Lib.hid dw; have MI := Lib.hid mi; have FS := Lib.hid hfs
    have hb2 : wr.cell? ⟨bf, 2, none⟩ = some (.string s) := blk_cell DW.out.box 2
    clear hz dw mi hfs
    by_cases hlt : k < n
    · have hltI : (k : Int) < (n : Int) := by omega
      have hwk : IntKind.i64.wrap ((k : Int) + 1) = (k : Int) + 1 := IntWalk.i64_in _ (by omega)
      have hks : k < s.size := by have := HN.out; omega
      have hbt := bt_at s k
      have hbl := bt_lt s k
      obtain ⟨B, hB⟩ : ∃ B, B = bt s k := ⟨_, rfl⟩
      rw [← hB] at hbt hbl
      have hKB : kdS s k = kindB B := by rw [hB]; rfl
      obtain ⟨K, hK⟩ : ∃ K, K = kindB B := ⟨_, rfl⟩
      have hk3 := kindB_le B
      rw [← hK] at hKB hk3
      have HK := Lib.hid hKB
      have HB := Lib.hid hB
      clear hKB hB
      have hZ2 : K ≠ 0 → ∀ i, i < k + 1 → kdS s i ≠ 0 := fun h0 => by
        intro i hi
        rcases Nat.lt_or_ge i k with h | h
        · exact HZ.out i h
        · obtain rfl : i = k := by omega
          rw [HK.out]; exact h0
      have HZ2 := Lib.hid hZ2
      clear hZ2
      obtain rfl | rfl | rfl | rfl : K = 0 ∨ K = 1 ∨ K = 2 ∨ K = 3 := by omega
      · have QD := Lib.hid (fun w => qdock_any B false (by rw [← hK]; rfl) w)
        have QL := Lib.hid (fun w => qlane_any B false (by rw [← hK]; rfl) w)
        have h35 : ((B : Int) != 35) = true := by
          simp; intro e
          have e : B = 35 := by omega
          rw [e] at hK; simp [kindB] at hK
        have HNO := Lib.hid (show R = false by rw [HR.out]; exact rightB_f fun r => r.kinds k hks HK.out)
        clear hK hlt hks
        go_wp2_with (first | (go_at_call 36; refine (QD.out _).mono ?_; rintro e wz ⟨rfl, rfl⟩) | (go_at_call 37; refine (QL.out _).mono ?_; rintro e wz ⟨rfl, rfl⟩))
        go_ret
        exact ⟨by rw [HNO.out]; rfl, DW.out.kp⟩
      · have QD := Lib.hid (fun w => qdock_any B false (by rw [← hK]; rfl) w)
        have QL := Lib.hid (fun w => qlane_any B false (by rw [← hK]; rfl) w)
        have h35 : ((B : Int) != 35) = false := by
          have := kd_wall hK.symm
          simp [this]
        have M2 := Lib.hid (MI.out.skip (by rw [HK.out]; decide))
        have F2 := Lib.hid (FS.out.skip (by rw [HK.out]; decide))
        clear hK hlt hks
        go_wp2_with (first | (go_at_call 36; refine (QD.out _).mono ?_; rintro e wz ⟨rfl, rfl⟩) | (go_at_call 37; refine (QL.out _).mono ?_; rintro e wz ⟨rfl, rfl⟩))
        go_roundg (n + 1 - (k + 1))
        case measure => omega
        case rel => exact ⟨k + 1, d, fI, a, rfl, by go_num, by omega, rfl, by omega, rfl, F2.out, HZ2.out (by decide), DW.out, M2.out⟩
      · have QD := Lib.hid (fun w => qdock_any B false (by rw [← hK]; rfl) w)
        have QL := Lib.hid (fun w => qlane_any B true (by rw [← hK]; rfl) w)
        have M2 := Lib.hid (MI.out.skip (by rw [HK.out]; decide))
        clear hK hlt hks
        by_cases hf : fI < 0
        · have F2 := Lib.hid (show FsI s (k + 1) (k : Int) from .inr ⟨k, rfl, by omega, HK.out⟩)
          go_wp2_with (first | (go_at_call 36; refine (QD.out _).mono ?_; rintro e wz ⟨rfl, rfl⟩) | (go_at_call 37; refine (QL.out _).mono ?_; rintro e wz ⟨rfl, rfl⟩))
          go_roundg (n + 1 - (k + 1))
          case measure => omega
          case rel => exact ⟨k + 1, d, _, a, rfl, by go_num, by omega, rfl, by omega, rfl, F2.out, HZ2.out (by decide), DW.out, M2.out⟩
        · have F2 := Lib.hid (FS.out.keep (by omega))
          go_wp2_with (first | (go_at_call 36; refine (QD.out _).mono ?_; rintro e wz ⟨rfl, rfl⟩) | (go_at_call 37; refine (QL.out _).mono ?_; rintro e wz ⟨rfl, rfl⟩))
          go_roundg (n + 1 - (k + 1))
          case measure => omega
          case rel => exact ⟨k + 1, d, fI, a, rfl, by go_num, by omega, rfl, by omega, rfl, F2.out, HZ2.out (by decide), DW.out, M2.out⟩
      · have QD := Lib.hid (fun w => qdock_any B true (by rw [← hK]; rfl) w)
        have QL := Lib.hid (fun w => qlane_any B false (by rw [← hK]; rfl) w)
        have hdk := kd_dock hK.symm
        obtain ⟨r, hr⟩ : ∃ r, B = 48 + r := ⟨B - 48, by omega⟩
        have hsub : IntKind.u8.wrap ((B : Int) - 48) = (r : Int) := by rw [IntWalk.u8_in _ (by omega)]; omega
        have hr8 : (r : Int) < 8 := by omega
        have hra : r < a.length := by rw [MI.out.len]; omega
        obtain ⟨x, hx⟩ : ∃ x, a[r]? = some x := ⟨_, List.getElem?_eq_getElem hra⟩
        have hcx : wr.cell? ⟨ba, r, none⟩ = some (.int .i64 (x : Int)) := (blk_cell DW.out.arr r).trans (arr8_get hx)
        have hcf : wr.frozen? ⟨ba, r, none⟩ = false := blk_free DW.out.arr r
        have D2 := Lib.hid (DW.out.set r (x + 1))
        have M2 := Lib.hid (MI.out.take HK.out (by rw [← HB.out, hr]) hx)
        have F2 := Lib.hid (FS.out.skip (by rw [HK.out]; decide))
        have hx256 : x ≤ 256 := by
          have := MI.out.at_ r x hx
          have h2 : cntR s k r ≤ k := by unfold cntR; exact Nat.le_trans (List.length_filter_le _ _) (by simp)
          omega
        have hwx : IntKind.i64.wrap ((x : Int) + 1) = (x : Int) + 1 := IntWalk.i64_in _ (by omega)
        have hwd : IntKind.i64.wrap ((d : Int) + 1) = (d : Int) + 1 := IntWalk.i64_in _ (by omega)
        have hcast : ((x + 1 : Nat) : Int) = (x : Int) + 1 := by omega
        rw [hcast] at D2
        clear hK hlt hks hx hra hr hdk hcast
        go_wp2_with (first | (go_at_call 36; refine (QD.out _).mono ?_; rintro e wz ⟨rfl, rfl⟩) | (go_at_call 37; refine (QL.out _).mono ?_; rintro e wz ⟨rfl, rfl⟩))
        go_roundg (n + 1 - (k + 1))
        case measure => omega
        case rel => exact ⟨k + 1, d + 1, fI, _, rfl, by go_num, by omega, by go_num, by omega, rfl, F2.out, HZ2.out (by decide), D2.out, M2.out⟩
    · obtain rfl : k = n := by omega
      have hd0 : ¬ (k : Int) < (k : Int) := by omega
      have MS := Lib.hid (show MnI s s.size a d by rw [← HN.out]; exact MI.out)
      have KP := Lib.hid DW.out.kp
      clear hlt MI
      by_cases hbad : d < 1 ∨ 8 < d ∨ fI < 0
      · have HNO := Lib.hid (show R = false by
          rw [HR.out]
          refine rightB_f fun r => ?_
          rcases hbad with h | h | h
          · have := (MS.out.iff.1 r.docks).1; omega
          · have := (MS.out.iff.1 r.docks).2.1; omega
          · rcases FS.out with ⟨_, h2⟩ | ⟨l, h2, _⟩
            · obtain ⟨l, hl⟩ := r.join.1
              have hl1 : l < s.size := hl.1
              exact h2 l (by have := HN.out; omega) hl.2
            · omega)
        by_cases h1 : d < 1
        · have h1I : (d : Int) < 1 := by omega
          clear hbad h1
          go_wp2_with fail
          go_ret
          exact ⟨by rw [HNO.out]; rfl, KP.out⟩
        by_cases h2 : 8 < d
        · have h1I : ¬ (d : Int) < 1 := by omega
          have h2I : (8 : Int) < (d : Int) := by omega
          clear hbad h1 h2
          go_wp2_with fail
          go_ret
          exact ⟨by rw [HNO.out]; rfl, KP.out⟩
        · have h1I : ¬ (d : Int) < 1 := by omega
          have h2I : ¬ (8 : Int) < (d : Int) := by omega
          have h3I : fI < 0 := by omega
          clear hbad h1 h2
          go_wp2_with fail
          go_ret
          exact ⟨by rw [HNO.out]; rfl, KP.out⟩
      · have h1I : ¬ (d : Int) < 1 := by omega
        have h2I : ¬ (8 : Int) < (d : Int) := by omega
        have h3I : ¬ fI < 0 := by omega
        have hd8 : d ≤ 8 := by omega
        obtain ⟨l, rfl, hlk, hl2⟩ : ∃ l : Nat, fI = l ∧ l < k ∧ kdS s l = 2 := by
          rcases FS.out with ⟨h, _⟩ | h
          · omega
          · exact h
        have hls : l < s.size := by have := HN.out; omega
        have HL : Hid (laneI s l) := Lib.hid ⟨hls, hl2⟩
        have HLS := Lib.hid hls
        have HBD := Lib.hid (show 1 ≤ d ∧ d ≤ 8 by omega)
        clear hbad hlk hl2 FS hls
        go_wp2_with fail
        obtain ⟨wo, rfl⟩ : ∃ wo : World, wo = wr := ⟨_, rfl⟩
        go_loopg [8] (d + 1) (fun g2 jv wx => ∃ j : Nat, g2 = d + 1 - j ∧ jv = .int .i64 j ∧ j ≤ d ∧ (∀ r : Nat, r < j → a[r]? = some 1) ∧ DkW (Flr.mk W H s) bf ba a w wx)
        case atStart => exact ⟨0, rfl, rfl, by omega, fun r hr => by omega, DW.out⟩
        case round =>
          clear DW hb2
          obtain ⟨j, hg2, rfl, hj, ha1, dw⟩ := hrel
          have HA := Lib.hid ha1; have DW := Lib.hid dw
          clear ha1 dw
          by_cases hlt : j < d
          · have hltI : (j : Int) < (d : Int) := by omega
            have hwj : IntKind.i64.wrap ((j : Int) + 1) = (j : Int) + 1 := IntWalk.i64_in _ (by omega)
            obtain ⟨x, hx⟩ : ∃ x, a[j]? = some x := ⟨_, List.getElem?_eq_getElem (by rw [MS.out.len]; omega)⟩
            have hcx : wr.cell? ⟨ba, j, none⟩ = some (.int .i64 (x : Int)) := (blk_cell DW.out.arr j).trans (arr8_get hx)
            have hj8 : (j : Int) < 8 := by omega
            by_cases h1 : x = 1
            · have h1b : ((x : Int) != 1) = false := by simp [h1]
              have HA2 := Lib.hid (show ∀ r : Nat, r < j + 1 → a[r]? = some 1 by
                intro r hr
                rcases Nat.lt_or_ge r j with h | h
                · exact HA.out r h
                · obtain rfl : r = j := by omega
                  rw [hx, h1])
              clear hx h1 hlt
              go_wp2_with fail
              go_roundg (d + 1 - (j + 1))
              case measure => omega
              case rel => exact ⟨j + 1, rfl, by go_num, by omega, HA2.out, DW.out⟩
            · have h1b : ((x : Int) != 1) = true := by simp; omega
              have HNO := Lib.hid (show R = false by
                rw [HR.out]
                refine rightB_f fun r => ?_
                have := (MS.out.iff.1 r.docks).2.2 j hlt
                rw [hx] at this
                exact h1 (by simpa using this))
              clear hx h1 hlt
              go_wp2_with fail
              go_ret
              exact ⟨by rw [HNO.out]; rfl, DW.out.kp⟩
          · obtain rfl : j = d := by omega
            have hd0 : ¬ (j : Int) < (j : Int) := by omega
            have HDS := Lib.hid (MS.out.iff.2 ⟨HBD.out.1, HBD.out.2, HA.out⟩)
            have hb0 : wr.cell? ⟨bf, 0, none⟩ = some (.int .i64 (W : Int)) := blk_cell DW.out.box 0
            have hb1 : wr.cell? ⟨bf, 1, none⟩ = some (.int .i64 (H : Int)) := blk_cell DW.out.box 1
            have hb2 : wr.cell? ⟨bf, 2, none⟩ = some (.string s) := blk_cell DW.out.box 2
            clear hlt MS HA HBD h1I h2I h3I
            go_wp2_with fail
            refine (reached_any W H s l hW1 hW hH1 hH HS.out HLS.out wr).mono ?_
            rintro e w4 ⟨g, on, rfl, bl, hgw, kp4, hon, hcon⟩
            have B4 := Lib.hid (show BxW (Flr.mk W H s) bf w w4 from ⟨kp4.blk DW.out.box (no_no _), DW.out.kp.no kp4⟩)
            have BL := Lib.hid bl; have HON := Lib.hid hon; have HC := Lib.hid hcon
            clear bl hgw kp4 hon hcon hb0 hb1 hb2 DW
            go_wp2_with fail
            clear hnI
            have hnI : ((s.size : Nat) : Int) = (k : Int) := by have := HN.out; omega
            have hnN : s.size = k := HN.out.symm
            go_loopg [10] (k + 1) (fun g2 iv wx => ∃ i : Nat, g2 = k + 1 - i ∧ iv = .int .i64 i ∧ i ≤ k ∧ (∀ r : Nat, r < i → kdS s r = 2 → on[r]? = some true) ∧ (∀ r : Nat, r < i → kdS s r = 3 → ∃ x ∈ besideP W H r, laneI s x) ∧ Kp No w4 wx)
            case atStart => exact ⟨0, rfl, rfl, by omega, fun r hr => by omega, fun r hr => by omega, Kp.refl _ _⟩
            case round =>
              obtain ⟨i, hg2, rfl, hi, hp1, hp2, kp5⟩ := hrel
              have P1 := Lib.hid hp1; have P2 := Lib.hid hp2; have K5 := Lib.hid kp5
              have hb0 : wr.cell? ⟨bf, 0, none⟩ = some (.int .i64 (W : Int)) := (B4.out.no kp5).c0
              have hb1 : wr.cell? ⟨bf, 1, none⟩ = some (.int .i64 (H : Int)) := (B4.out.no kp5).c1
              have hb2 : wr.cell? ⟨bf, 2, none⟩ = some (.string s) := (B4.out.no kp5).c2
              clear hp1 hp2 kp5
              by_cases hlt : i < k
              · have hltI : (i : Int) < (k : Int) := by omega
                have hwi : IntKind.i64.wrap ((i : Int) + 1) = (i : Int) + 1 := IntWalk.i64_in _ (by omega)
                have hks : i < s.size := by have := HN.out; omega
                have hbt := bt_at s i
                obtain ⟨B, hB⟩ : ∃ B, B = bt s i := ⟨_, rfl⟩
                rw [← hB] at hbt
                have hKB : kdS s i = kindB B := by rw [hB]; rfl
                obtain ⟨tl, htl⟩ : ∃ tl, tl = (kindB B == 2) := ⟨_, rfl⟩
                obtain ⟨td, htd⟩ : ∃ td, td = (kindB B == 3) := ⟨_, rfl⟩
                have QL := Lib.hid (fun w => qlane_any B tl htl w)
                have QD := Lib.hid (fun w => qdock_any B td htd w)
                have HTL := Lib.hid (show tl = true ↔ kdS s i = 2 by rw [htl, hKB]; simp)
                have HTD := Lib.hid (show td = true ↔ kdS s i = 3 by rw [htd, hKB]; simp)
                obtain ⟨c, hc⟩ : ∃ c, on[i]? = some c := ⟨_, List.getElem?_eq_getElem (by rw [HON.out]; exact hks)⟩
                have hcx : wr.cell? ⟨g, i, none⟩ = some (.bool c) := (BL.out.kpNo K5.out).get hc
                have HCC := Lib.hid hc
                have HKS := Lib.hid hks
                have hiW : i < W * H := by have := HS.out; omega
                have HIW := Lib.hid hiW
                clear hc htl htd hKB hB hks hlt hiW
                by_cases hbad : tl = true ∧ c = false
                · obtain ⟨rfl, rfl⟩ := hbad
                  have HNO := Lib.hid (show R = false by
                    rw [HR.out]
                    refine rightB_f fun r => ?_
                    have hl : laneI s i := ⟨HKS.out, HTL.out.1 rfl⟩
                    have := (HC.out i hl).2 (by simpa using r.join.2 l i HL.out hl)
                    rw [HCC.out] at this; simp at this)
                  clear hnN
                  go_wp2_with (go_at_call 37; refine (QL.out _).mono ?_; rintro e wz ⟨rfl, rfl⟩)
                  go_ret
                  exact ⟨by rw [HNO.out]; rfl, B4.out.kp.no K5.out⟩
                · have hor : tl = false ∨ (tl = true ∧ c = true) := orTC hbad
                  have P12 := Lib.hid (show ∀ r : Nat, r < i + 1 → kdS s r = 2 → on[r]? = some true by
                    intro r hr h2
                    rcases Nat.lt_or_ge r i with h | h
                    · exact P1.out r h h2
                    · obtain rfl : r = i := by omega
                      have := HTL.out.2 h2
                      rcases hor with h | ⟨_, rfl⟩
                      · rw [h] at this; simp at this
                      · exact HCC.out)
                  clear hbad hnN HCC P1
                  rcases hor with rfl | ⟨rfl, rfl⟩
                  all_goals
                    go_wp2_with (go_at_call 37; refine (QL.out _).mono ?_; rintro e wz ⟨rfl, rfl⟩)
                    refine (qbeside_any W H i s hW1 hW hH1 hH HIW.out wz).mono ?_
                    rintro e w6 ⟨vB, rfl, nb⟩
                    obtain ⟨AB, qB, rfl⟩ := nb.own.rd.shape
                    rw [ints_len] at nb ⊢
                    obtain ⟨nB, hnB⟩ : ∃ nB, nB = (besideP W H i).length := ⟨_, rfl⟩
                    have hB4 : nB ≤ 4 := by rw [hnB]; exact besideP_len W H i
                    rw [← hnB] at nb ⊢
                    have HNB := Lib.hid hnB
                    have K6 := Lib.hid (K5.out.no nb.kp); have OB := Lib.hid nb.own
                    clear nb hnB hb0 hb1 hb2 hcx
                    go_wp2_with fail
                    go_loopg [12, 13] (nB + 1) (fun g3 by_ ii wy => ∃ (j : Nat) (b : Bool), g3 = nB + 1 - j ∧ ii = .int .i64 j ∧ j ≤ nB ∧ by_ = .bool b ∧ b = byTo W H s i j ∧ Kp No w6 wy)
                    case atStart => exact ⟨0, false, rfl, rfl, by omega, rfl, rfl, Kp.refl _ _⟩
                    case round =>
                      obtain ⟨j, b, hgj, rfl, hj, rfl, hb, kp7⟩ := hrel
                      have HBB := Lib.hid hb; have K7 := Lib.hid kp7
                      have hb2 : wr.cell? ⟨bf, 2, none⟩ = some (.string s) := (B4.out.no (K6.out.no kp7)).c2
                      clear hb kp7
                      by_cases hlt : j < nB
                      · have hltI : (j : Int) < (nB : Int) := by omega
                        have hwj : IntKind.i64.wrap ((j : Int) + 1) = (j : Int) + 1 := IntWalk.i64_in _ (by omega)
                        obtain ⟨x, hx⟩ : ∃ x, (besideP W H i)[j]? = some x := ⟨_, List.getElem?_eq_getElem (by rw [← HNB.out]; exact hlt)⟩
                        have hxs : x < s.size := by rw [HS.out]; exact beside_lt hW1 HIW.out (List.mem_of_getElem? hx)
                        rcases OB.out.b with ⟨hv, _⟩ | ⟨gC, capC, hv, _, _, _⟩
                        · simp only [Value.slice.injEq] at hv; omega
                        simp only [Value.slice.injEq] at hv
                        obtain ⟨rfl, hzz, rfl⟩ := hv
                        clear hzz
                        have hcb : wr.cell? ⟨gC, j, none⟩ = some (.int .i64 (x : Int)) := by have := (OB.out.kpNo K7.out).rd.intAt (ints_get hx); simpa using this
                        have hxsI : (x : Int) < ((s.size : Nat) : Int) := by omega
                        have hxn : (x : Int) < (k : Int) := by have := HN.out; omega
                        have hbt := bt_at s x
                        obtain ⟨X, hX⟩ : ∃ X, X = bt s x := ⟨_, rfl⟩
                        rw [← hX] at hbt
                        obtain ⟨t, ht⟩ : ∃ t, t = (kindB X == 2) := ⟨_, rfl⟩
                        have QX := Lib.hid (fun w => qlane_any X t ht w)
                        have HB2 := Lib.hid (show (b || t) = byTo W H s i (j + 1) by
                          rw [byTo_succ hx, ← HBB.out, ht, hX]; rfl)
                        clear hX ht hx hlt hxs
                        cases b with
                        | false =>
                          go_wp2_with fail
                          go_quiet ((go_at_call 37; exact Calls.quiet_of_same (QX.out _)))
                          go_wp2_with fail
                          go_roundg (nB + 1 - (j + 1))
                          case measure => omega
                          case rel => exact ⟨j + 1, t, rfl, by go_num, by omega, rfl, by rw [← HB2.out]; simp, K7.out.drewN _⟩
                        | true =>
                          go_wp2_with fail
                          go_quiet (fail)
                          go_wp2_with fail
                          go_roundg (nB + 1 - (j + 1))
                          case measure => omega
                          case rel => exact ⟨j + 1, true, rfl, by go_num, by omega, rfl, by rw [← HB2.out]; simp, K7.out.drewN _⟩
                      · obtain rfl : j = nB := by omega
                        have hd0 : ¬ (j : Int) < (j : Int) := by omega
                        have HBE := Lib.hid (show b = true ↔ ∃ j ∈ besideP W H i, laneI s j by rw [HBB.out, HNB.out]; exact byTo_all hW1 HS.out HIW.out)
                        have P22 : Hid (td = false ∨ b = true → ∀ r : Nat, r < i + 1 → kdS s r = 3 → ∃ x ∈ besideP W H r, laneI s x) := Lib.hid (by
                          intro hor r hr h3
                          rcases Nat.lt_or_ge r i with h | h
                          · exact P2.out r h h3
                          · obtain rfl : r = i := by omega
                            rcases hor with h | h
                            · have := HTD.out.2 h3; rw [h] at this; simp at this
                            · exact HBE.out.1 h)
                        clear hlt
                        cases td with
                        | false =>
                          have P23 := Lib.hid (P22.out (.inl rfl))
                          go_wp2_with (go_at_call 36; refine (QD.out _).mono ?_; rintro e wz ⟨rfl, rfl⟩)
                          go_roundg (k + 1 - (i + 1))
                          case measure => omega
                          case rel => exact ⟨i + 1, rfl, by go_num, by omega, P12.out, P23.out, K6.out.no K7.out⟩
                        | true =>
                          cases b with
                          | true =>
                            have P23 := Lib.hid (P22.out (.inr rfl))
                            go_wp2_with (go_at_call 36; refine (QD.out _).mono ?_; rintro e wz ⟨rfl, rfl⟩)
                            go_roundg (k + 1 - (i + 1))
                            case measure => omega
                            case rel => exact ⟨i + 1, rfl, by go_num, by omega, P12.out, P23.out, K6.out.no K7.out⟩
                          | false =>
                            have HNO := Lib.hid (show R = false by
                              rw [HR.out]
                              refine rightB_f fun r => ?_
                              have := HBE.out.2 (by simpa using r.by_ i HKS.out (HTD.out.1 rfl)); simp at this)
                            go_wp2_with (go_at_call 36; refine (QD.out _).mono ?_; rintro e wz ⟨rfl, rfl⟩)
                            go_ret
                            exact ⟨by rw [HNO.out]; rfl, B4.out.kp.no (K6.out.no K7.out)⟩
              · obtain rfl : i = k := by omega
                have hd0 : ¬ (i : Int) < (i : Int) := by omega
                have HYES := Lib.hid (show R = true by
                  rw [HR.out]
                  refine rightB_t ⟨by simp; omega, by simp; omega, by simp; omega, by simp; omega, by simp [HS.out], fun r hr => HZ.out r (by have hr : r < s.size := hr; omega), HDS.out, ?_, fun r hr h3 => by simpa using P2.out r (by have hr : r < s.size := hr; omega) h3⟩
                  refine (joined_one (by simpa using hW1) (by simpa using HS.out) HL.out).2 fun r hr => ?_
                  have := (HC.out r hr).1 (P1.out r (by have hr := hr.1; have hr : r < s.size := hr; omega) hr.2)
                  simpa using this)
                clear hlt hnN
                go_wp2_with fail
                go_ret
                exact ⟨by rw [HYES.out]; rfl, B4.out.kp.no K5.out⟩

theorem qright_any (f : Flr) (hsz : f.s.size ≤ 9223372036854775807) (w : World) : Calls Tryd.prog 25 #[f.val] w (RightR f w) := by
  by_cases h : f.W < 1 ∨ 16 < f.W ∨ f.H < 1 ∨ 16 < f.H ∨ ((f.s.size : Int) ≠ f.W * f.H)
  · exact qright_dims f w h hsz
  · obtain ⟨X, Y, s⟩ := f
    simp only at h
    obtain ⟨W, rfl⟩ : ∃ W : Nat, X = W := ⟨X.toNat, by omega⟩
    obtain ⟨H, rfl⟩ : ∃ H : Nat, Y = H := ⟨Y.toNat, by omega⟩
    refine qright_in W H s (by omega) (by omega) (by omega) (by omega) ?_ w
    have : (s.size : Int) = W * H := by
      by_cases hh : (s.size : Int) = W * H
      · exact hh
      · exact absurd (Or.inr (Or.inr (Or.inr (Or.inr hh)))) h
    exact_mod_cast this
end Go.Proofs.YtolkkinophklcaaDoor
