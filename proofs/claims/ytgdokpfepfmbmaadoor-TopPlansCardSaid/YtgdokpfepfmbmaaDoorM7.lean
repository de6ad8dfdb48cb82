/- carfaxref03.Right; carfaxref03.Robots, Dock, Zone, Near, Lanes; carfaxref05: the map in memory; in, open; carfaxref05: Steps; carfaxref05: Of, what it holds in memory; carfaxref05: Of; path, plain: the way that a search found. No function of the program; carfaxref05, plain: how far a cell on the way is. No function of the program; path, plain: the search by levels. No function of the program; PathBlocked, PathSteps, PathBack, plain. No function of the program. No condition. -/
import Derived.Test.YtgdokpfepfmbmaaDoorM6
import Derived.Test.YtgdokpfepfmbmaaDoorM4
import Derived.Deep.RegionLaw
import Derived.Deep.CutBlock
import Derived.Deep.DeepCutAuto
import Derived.Deep.Cut
import Derived.Deep.CutRange

namespace Go.Proofs.YtgdokpfepfmbmaaDoor
set_option linter.unusedVariables false
set_option linter.unusedSimpArgs false
open Go.RowKit

theorem qright_dims (f : Flr) (w : World) (h : f.W < 1 ∨ 16 < f.W ∨ f.H < 1 ∨ 16 < f.H ∨ ((f.s.size : Int) ≠ f.W * f.H)) (hsz : f.s.size ≤ 9223372036854775807) :
    Calls Tryd.prog 35 #[f.val] w (RightR f w) := by
  have hR : rightB f = false := rightB_f fun r => by
    rcases h with h | h | h | h | h
    · exact absurd r.w1 (by omega)
    · exact absurd r.w2 (by omega)
    · exact absurd r.h1 (by omega)
    · exact absurd r.h2 (by omega)
    · exact h r.len
  have HR := Lib.hid hR
  unfold Flr.val
  obtain ⟨X, Y, s⟩ := f
  simp only at h hsz
  clear hR
  have K0 := Lib.hid ((Kp.refl No w).alloc (.cells #[.int .i64 X, .int .i64 Y, .string s] 23))
  by_cases h1 : X < 1
  · clear h
    go_enter Tryd.func35, Tryd.ntmps35
    go_wp2
    go_ret
    exact ⟨by rw [HR.out]; rfl, K0.out⟩
  by_cases h2 : 16 < X
  · clear h
    go_enter Tryd.func35, Tryd.ntmps35
    go_wp2
    go_ret
    exact ⟨by rw [HR.out]; rfl, K0.out⟩
  by_cases h3 : Y < 1
  · clear h
    go_enter Tryd.func35, Tryd.ntmps35
    go_wp2
    go_ret
    exact ⟨by rw [HR.out]; rfl, K0.out⟩
  by_cases h4 : 16 < Y
  · clear h
    go_enter Tryd.func35, Tryd.ntmps35
    go_wp2
    go_ret
    exact ⟨by rw [HR.out]; rfl, K0.out⟩
  · have h5 : (s.size : Int) ≠ X * Y := by rcases h with h | h | h | h | h <;> first | omega | exact h
    obtain ⟨P, hP⟩ : ∃ P, P = X * Y := ⟨_, rfl⟩
    have hP1 : 0 ≤ P := by rw [hP]; exact Int.mul_nonneg (by omega) (by omega)
    have hP2 : P ≤ 256 := by
      rw [hP]; exact Int.le_trans (Int.mul_le_mul_of_nonneg_right (show X ≤ 16 by omega) (by omega)) (by omega)
    have hw : IntKind.i64.wrap P = P := IntWalk.i64_in _ (by omega)
    rw [← hP] at h5
    obtain ⟨n, hn⟩ : ∃ n, n = s.size := ⟨_, rfl⟩
    have hnI : ((s.size : Nat) : Int) = (n : Int) := by omega
    rw [hnI] at h5
    have hb : ((n : Int) != P) = true := by simpa using h5
    have hP' := hP.symm
    clear h hP h5 hn hsz
    go_enter Tryd.func35, Tryd.ntmps35
    go_wp2
    go_ret
    exact ⟨by rw [HR.out]; rfl, K0.out⟩

theorem orTC {t c : Bool} (h : ¬ (t = true ∧ c = false)) : t = false ∨ (t = true ∧ c = true) := by revert h; cases t <;> cases c <;> simp
def FsI (s : ByteArray) (k : Nat) (x : Int) : Prop := (x = -1 ∧ ∀ i, i < k → kdS s i ≠ 2) ∨ ∃ l : Nat, x = l ∧ l < k ∧ kdS s l = 2
theorem FsI.skip {s : ByteArray} {k : Nat} {x : Int} (h : FsI s k x) (hk : kdS s k ≠ 2) : FsI s (k + 1) x := by
  rcases h with ⟨h1, h2⟩ | ⟨l, h1, h2, h3⟩
  · refine .inl ⟨h1, fun i hi => ?_⟩
    rcases Nat.lt_or_ge i k with h | h
    · exact h2 i h
    · obtain rfl : i = k := by omega
      exact hk
  · exact .inr ⟨l, h1, by omega, h3⟩
theorem FsI.keep {s : ByteArray} {k : Nat} {x : Int} (h : FsI s k x) (hx : 0 ≤ x) : FsI s (k + 1) x := by
  rcases h with ⟨h1, h2⟩ | ⟨l, h1, h2, h3⟩
  · omega
  · exact .inr ⟨l, h1, by omega, h3⟩
set_option maxHeartbeats 2000000 in
set_option maxRecDepth 100000 in
theorem qright_in (W H : Nat) (s : ByteArray) (hW1 : 1 ≤ W) (hW : W ≤ 16) (hH1 : 1 ≤ H) (hH : H ≤ 16) (hs : s.size = W * H) (w : World) :
    Calls Tryd.prog 35 #[(Flr.mk W H s).val] w (RightR (Flr.mk W H s) w) := by
  unfold RightR
  obtain ⟨R, hR⟩ : ∃ R, R = rightB (Flr.mk W H s) := ⟨_, rfl⟩
  rw [← hR]
  have HR := Lib.hid hR
  clear hR
  unfold Flr.val
  have hs256 : s.size ≤ 256 := by rw [hs]; exact Nat.mul_le_mul hW hH
  have HS := Lib.hid hs
  obtain ⟨n, hn⟩ : ∃ n, n = s.size := ⟨_, rfl⟩
  have hnI : ((s.size : Nat) : Int) = (n : Int) := by omega
  have hWH : (W : Int) * (H : Int) = (n : Int) := by rw [hn, hs]; simp
  have HN := Lib.hid hn
  have hn256 : n ≤ 256 := by omega
  have a1 : ¬ (W : Int) < 1 := by omega
  have a2 : ¬ (16 : Int) < (W : Int) := by omega
  have a3 : ¬ (H : Int) < 1 := by omega
  have a4 : ¬ (16 : Int) < (H : Int) := by omega
  clear hs hn hs256
  go_enter Tryd.func35, Tryd.ntmps35
  go_wp2
  obtain ⟨bf, hbf⟩ : ∃ bf, bf = w.heap.size := ⟨_, rfl⟩
  obtain ⟨ba, hba⟩ : ∃ ba, ba = w.heap.size + 1 := ⟨_, rfl⟩
  obtain ⟨w0, hw0⟩ : ∃ w0, w0 = (w.alloc (.cells #[.int .i64 (W : Int), .int .i64 (H : Int), .string s] 23)).alloc (.cells #[.int .i64 0, .int .i64 0, .int .i64 0, .int .i64 0, .int .i64 0, .int .i64 0, .int .i64 0, .int .i64 0] 118) := ⟨_, rfl⟩
  have D0 : Hid (DkW (Flr.mk W H s) bf ba (List.replicate 8 0) w w0) := Lib.hid (by
    rw [hw0, hbf, hba]
    refine ⟨blk_alloc (blk_new w _) _, ?_, ((Kp.refl _ _).alloc _).alloc _, by omega, by omega, by omega⟩
    have := blk_new (w.alloc (.cells #[.int .i64 (W : Int), .int .i64 (H : Int), .string s] 23)) (.cells #[.int .i64 0, .int .i64 0, .int .i64 0, .int .i64 0, .int .i64 0, .int .i64 0, .int .i64 0, .int .i64 0] 118)
    show (_ : World).heap[_]? = some (Obj.cells #[.int .i64 0, .int .i64 0, .int .i64 0, .int .i64 0, .int .i64 0, .int .i64 0, .int .i64 0, .int .i64 0] 118 (0, 0))
    simpa using this)
  rw [← hba, ← hbf, ← hw0]
  clear hbf hba hw0 a1 a2 a3 a4 hWH
  go_loopg [4, 5, 6] (n + 1) (fun g2 dv fv kk wr => ∃ (k d : Nat) (fI : Int) (a : List Nat), g2 = n + 1 - k ∧ kk = .int .i64 k ∧ k ≤ n ∧ dv = .int .i64 d ∧ d ≤ k ∧ fv = .int .i64 fI ∧ FsI s k fI ∧ (∀ i, i < k → kdS s i ≠ 0) ∧ DkW (Flr.mk W H s) bf ba a w wr ∧ MnI s k a d)
  case atStart => exact ⟨0, 0, -1, _, rfl, rfl, by omega, rfl, by omega, rfl, .inl ⟨rfl, fun i hi => by omega⟩, fun i hi => by omega, D0.out, MnI.start _⟩
  case round =>
    obtain ⟨k, d, fI, a, hgk, rfl, hk, rfl, hdk, rfl, hfs, hz, dw, mi⟩ := hrel
    have HZ := Lib.hid hz; have DW := Lib.hid dw; have MI := Lib.hid mi; have FS := Lib.hid hfs
    have hb2 : wr.cell? ⟨bf, 2, none⟩ = some (.string s) := blk_cell DW.out.box 2
    clear hz dw mi hfs
    by_cases hlt : k < n
    · have hltI : (k : Int) < (n : Int) := by omega
      have hwk : IntKind.i64.wrap ((k : Int) + 1) = (k : Int) + 1 := IntWalk.i64_in _ (by omega)
      have hks : k < s.size := by have := HN.out; omega
      have hbt := bt_at s k
      have hbl := bt_lt s k
      obtain ⟨B, hB⟩ : ∃ B, B = bt s k := ⟨_, rfl⟩
      rw [← hB] at hbt hbl
      have hKB : kdS s k = kindB B := by rw [hB]; rfl
      obtain ⟨K, hK⟩ : ∃ K, K = kindB B := ⟨_, rfl⟩
      have hk3 := kindB_le B
      rw [← hK] at hKB hk3
      have HK := Lib.hid hKB
      have HB := Lib.hid hB
      clear hKB hB
      have hZ2 : K ≠ 0 → ∀ i, i < k + 1 → kdS s i ≠ 0 := fun h0 => by
        intro i hi
        rcases Nat.lt_or_ge i k with h | h
        · exact HZ.out i h
        · obtain rfl : i = k := by omega
          rw [HK.out]; exact h0
      have HZ2 := Lib.hid hZ2
      clear hZ2
      obtain rfl | rfl | rfl | rfl : K = 0 ∨ K = 1 ∨ K = 2 ∨ K = 3 := by omega
      · have QD := Lib.hid (fun w => qdock_any B false (by rw [← hK]; rfl) w)
        have QL := Lib.hid (fun w => qlane_any B false (by rw [← hK]; rfl) w)
        have h35 : ((B : Int) != 35) = true := by
          simp; intro e
          have e : B = 35 := by omega
          rw [e] at hK; simp [kindB] at hK
        have HNO := Lib.hid (show R = false by rw [HR.out]; exact rightB_f fun r => r.kinds k hks HK.out)
        clear hK hlt hks
        go_wp2_with (first | (go_at_call 63; refine (QD.out _).mono ?_; rintro e wz ⟨rfl, rfl⟩) | (go_at_call 64; refine (QL.out _).mono ?_; rintro e wz ⟨rfl, rfl⟩))
        go_ret
        exact ⟨by rw [HNO.out]; rfl, DW.out.kp⟩
      · have QD := Lib.hid (fun w => qdock_any B false (by rw [← hK]; rfl) w)
        have QL := Lib.hid (fun w => qlane_any B false (by rw [← hK]; rfl) w)
        have h35 : ((B : Int) != 35) = false := by
          have := kd_wall hK.symm
          simp [this]
        have M2 := Lib.hid (MI.out.skip (by rw [HK.out]; decide))
        have F2 := Lib.hid (FS.out.skip (by rw [HK.out]; decide))
        clear hK hlt hks
        go_wp2_with (first | (go_at_call 63; refine (QD.out _).mono ?_; rintro e wz ⟨rfl, rfl⟩) | (go_at_call 64; refine (QL.out _).mono ?_; rintro e wz ⟨rfl, rfl⟩))
        go_roundg (n + 1 - (k + 1))
        case measure => omega
        case rel => exact ⟨k + 1, d, fI, a, rfl, by go_num, by omega, rfl, by omega, rfl, F2.out, HZ2.out (by decide), DW.out, M2.out⟩
      · have QD := Lib.hid (fun w => qdock_any B false (by rw [← hK]; rfl) w)
        have QL := Lib.hid (fun w => qlane_any B true (by rw [← hK]; rfl) w)
        have M2 := Lib.hid (MI.out.skip (by rw [HK.out]; decide))
        clear hK hlt hks
        by_cases hf : fI < 0
        · have F2 := Lib.hid (show FsI s (k + 1) (k : Int) from .inr ⟨k, rfl, by omega, HK.out⟩)
          go_wp2_with (first | (go_at_call 63; refine (QD.out _).mono ?_; rintro e wz ⟨rfl, rfl⟩) | (go_at_call 64; refine (QL.out _).mono ?_; rintro e wz ⟨rfl, rfl⟩))
          go_roundg (n + 1 - (k + 1))
          case measure => omega
          case rel => exact ⟨k + 1, d, _, a, rfl, by go_num, by omega, rfl, by omega, rfl, F2.out, HZ2.out (by decide), DW.out, M2.out⟩
        · have F2 := Lib.hid (FS.out.keep (by omega))
          go_wp2_with (first | (go_at_call 63; refine (QD.out _).mono ?_; rintro e wz ⟨rfl, rfl⟩) | (go_at_call 64; refine (QL.out _).mono ?_; rintro e wz ⟨rfl, rfl⟩))
          go_roundg (n + 1 - (k + 1))
          case measure => omega
          case rel => exact ⟨k + 1, d, fI, a, rfl, by go_num, by omega, rfl, by omega, rfl, F2.out, HZ2.out (by decide), DW.out, M2.out⟩
      · have QD := Lib.hid (fun w => qdock_any B true (by rw [← hK]; rfl) w)
        have QL := Lib.hid (fun w => qlane_any B false (by rw [← hK]; rfl) w)
        have hdk := kd_dock hK.symm
        obtain ⟨r, hr⟩ : ∃ r, B = 48 + r := ⟨B - 48, by omega⟩
        have hsub : IntKind.u8.wrap ((B : Int) - 48) = (r : Int) := by rw [IntWalk.u8_in _ (by omega)]; omega
        have hr8 : (r : Int) < 8 := by omega
        have hra : r < a.length := by rw [MI.out.len]; omega
        obtain ⟨x, hx⟩ : ∃ x, a[r]? = some x := ⟨_, List.getElem?_eq_getElem hra⟩
        have hcx : wr.cell? ⟨ba, r, none⟩ = some (.int .i64 (x : Int)) := (blk_cell DW.out.arr r).trans (arr8_get hx)
        have hcf : wr.frozen? ⟨ba, r, none⟩ = false := blk_free DW.out.arr r
        have D2 := Lib.hid (DW.out.set r (x + 1))
        have M2 := Lib.hid (MI.out.take HK.out (by rw [← HB.out, hr]) hx)
        have F2 := Lib.hid (FS.out.skip (by rw [HK.out]; decide))
        have hx256 : x ≤ 256 := by
          have := MI.out.at_ r x hx
          have h2 : cntR s k r ≤ k := by unfold cntR; exact Nat.le_trans (List.length_filter_le _ _) (by simp)
          omega
        have hwx : IntKind.i64.wrap ((x : Int) + 1) = (x : Int) + 1 := IntWalk.i64_in _ (by omega)
        have hwd : IntKind.i64.wrap ((d : Int) + 1) = (d : Int) + 1 := IntWalk.i64_in _ (by omega)
        have hcast : ((x + 1 : Nat) : Int) = (x : Int) + 1 := by omega
        rw [hcast] at D2
        clear hK hlt hks hx hra hr hdk hcast
        go_wp2_with (first | (go_at_call 63; refine (QD.out _).mono ?_; rintro e wz ⟨rfl, rfl⟩) | (go_at_call 64; refine (QL.out _).mono ?_; rintro e wz ⟨rfl, rfl⟩))
        go_roundg (n + 1 - (k + 1))
        case measure => omega
        case rel => exact ⟨k + 1, d + 1, fI, _, rfl, by go_num, by omega, by go_num, by omega, rfl, F2.out, HZ2.out (by decide), D2.out, M2.out⟩
    · obtain rfl : k = n := by omega
      have hd0 : ¬ (k : Int) < (k : Int) := by omega
      have MS := Lib.hid (show MnI s s.size a d by rw [← HN.out]; exact MI.out)
      have KP := Lib.hid DW.out.kp
      clear hlt MI
      by_cases hbad : d < 1 ∨ 8 < d ∨ fI < 0
      · have HNO := Lib.hid (show R = false by
          rw [HR.out]
          refine rightB_f fun r => ?_
          rcases hbad with h | h | h
          · have := (MS.out.iff.1 r.docks).1; omega
          · have := (MS.out.iff.1 r.docks).2.1; omega
          · rcases FS.out with ⟨_, h2⟩ | ⟨l, h2, _⟩
            · obtain ⟨l, hl⟩ := r.join.1
              have hl1 : l < s.size := hl.1
              exact h2 l (by have := HN.out; omega) hl.2
            · omega)
        by_cases h1 : d < 1
        · have h1I : (d : Int) < 1 := by omega
          clear hbad h1
          go_wp2_with fail
          go_ret
          exact ⟨by rw [HNO.out]; rfl, KP.out⟩
        by_cases h2 : 8 < d
        · have h1I : ¬ (d : Int) < 1 := by omega
          have h2I : (8 : Int) < (d : Int) := by omega
          clear hbad h1 h2
          go_wp2_with fail
          go_ret
          exact ⟨by rw [HNO.out]; rfl, KP.out⟩
        · have h1I : ¬ (d : Int) < 1 := by omega
          have h2I : ¬ (8 : Int) < (d : Int) := by omega
          have h3I : fI < 0 := by omega
          clear hbad h1 h2
          go_wp2_with fail
          go_ret
          exact ⟨by rw [HNO.out]; rfl, KP.out⟩
      · have h1I : ¬ (d : Int) < 1 := by omega
        have h2I : ¬ (8 : Int) < (d : Int) := by omega
        have h3I : ¬ fI < 0 := by omega
        have hd8 : d ≤ 8 := by omega
        obtain ⟨l, rfl, hlk, hl2⟩ : ∃ l : Nat, fI = l ∧ l < k ∧ kdS s l = 2 := by
          rcases FS.out with ⟨h, _⟩ | h
          · omega
          · exact h
        have hls : l < s.size := by have := HN.out; omega
        have HL : Hid (laneI s l) := Lib.hid ⟨hls, hl2⟩
        have HLS := Lib.hid hls
        have HBD := Lib.hid (show 1 ≤ d ∧ d ≤ 8 by omega)
        clear hbad hlk hl2 FS hls
        go_wp2_with fail
        obtain ⟨wo, rfl⟩ : ∃ wo : World, wo = wr := ⟨_, rfl⟩
        go_loopg [8] (d + 1) (fun g2 jv wx => ∃ j : Nat, g2 = d + 1 - j ∧ jv = .int .i64 j ∧ j ≤ d ∧ (∀ r : Nat, r < j → a[r]? = some 1) ∧ DkW (Flr.mk W H s) bf ba a w wx)
        case atStart => exact ⟨0, rfl, rfl, by omega, fun r hr => by omega, DW.out⟩
        case round =>
          clear DW hb2
          obtain ⟨j, hg2, rfl, hj, ha1, dw⟩ := hrel
          have HA := Lib.hid ha1; have DW := Lib.hid dw
          clear ha1 dw
          by_cases hlt : j < d
          · have hltI : (j : Int) < (d : Int) := by omega
            have hwj : IntKind.i64.wrap ((j : Int) + 1) = (j : Int) + 1 := IntWalk.i64_in _ (by omega)
            obtain ⟨x, hx⟩ : ∃ x, a[j]? = some x := ⟨_, List.getElem?_eq_getElem (by rw [MS.out.len]; omega)⟩
            have hcx : wr.cell? ⟨ba, j, none⟩ = some (.int .i64 (x : Int)) := (blk_cell DW.out.arr j).trans (arr8_get hx)
            have hj8 : (j : Int) < 8 := by omega
            by_cases h1 : x = 1
            · have h1b : ((x : Int) != 1) = false := by simp [h1]
              have HA2 := Lib.hid (show ∀ r : Nat, r < j + 1 → a[r]? = some 1 by
                intro r hr
                rcases Nat.lt_or_ge r j with h | h
                · exact HA.out r h
                · obtain rfl : r = j := by omega
                  rw [hx, h1])
              clear hx h1 hlt
              go_wp2_with fail
              go_roundg (d + 1 - (j + 1))
              case measure => omega
              case rel => exact ⟨j + 1, rfl, by go_num, by omega, HA2.out, DW.out⟩
            · have h1b : ((x : Int) != 1) = true := by simp; omega
              have HNO := Lib.hid (show R = false by
                rw [HR.out]
                refine rightB_f fun r => ?_
                have := (MS.out.iff.1 r.docks).2.2 j hlt
                rw [hx] at this
                exact h1 (by simpa using this))
              clear hx h1 hlt
              go_wp2_with fail
              go_ret
              exact ⟨by rw [HNO.out]; rfl, DW.out.kp⟩
          · obtain rfl : j = d := by omega
            have hd0 : ¬ (j : Int) < (j : Int) := by omega
            have HDS := Lib.hid (MS.out.iff.2 ⟨HBD.out.1, HBD.out.2, HA.out⟩)
            have hb0 : wr.cell? ⟨bf, 0, none⟩ = some (.int .i64 (W : Int)) := blk_cell DW.out.box 0
            have hb1 : wr.cell? ⟨bf, 1, none⟩ = some (.int .i64 (H : Int)) := blk_cell DW.out.box 1
            have hb2 : wr.cell? ⟨bf, 2, none⟩ = some (.string s) := blk_cell DW.out.box 2
            clear hlt MS HA HBD h1I h2I h3I
            go_wp2_with fail
            refine (reached_any W H s l hW1 hW hH1 hH HS.out HLS.out wr).mono ?_
            rintro e w4 ⟨g, on, rfl, bl, hgw, kp4, hon, hcon⟩
            have B4 := Lib.hid (show BxW (Flr.mk W H s) bf w w4 from ⟨kp4.blk DW.out.box (no_no _), DW.out.kp.no kp4⟩)
            have BL := Lib.hid bl; have HON := Lib.hid hon; have HC := Lib.hid hcon
            clear bl hgw kp4 hon hcon hb0 hb1 hb2 DW
            go_wp2_with fail
            clear hnI
            have hnI : ((s.size : Nat) : Int) = (k : Int) := by have := HN.out; omega
            have hnN : s.size = k := HN.out.symm
            go_loopg [10] (k + 1) (fun g2 iv wx => ∃ i : Nat, g2 = k + 1 - i ∧ iv = .int .i64 i ∧ i ≤ k ∧ (∀ r : Nat, r < i → kdS s r = 2 → on[r]? = some true) ∧ (∀ r : Nat, r < i → kdS s r = 3 → ∃ x ∈ besideP W H r, laneI s x) ∧ Kp No w4 wx)
            case atStart => exact ⟨0, rfl, rfl, by omega, fun r hr => by omega, fun r hr => by omega, Kp.refl _ _⟩
            case round =>
              obtain ⟨i, hg2, rfl, hi, hp1, hp2, kp5⟩ := hrel
              have P1 := Lib.hid hp1; have P2 := Lib.hid hp2; have K5 := Lib.hid kp5
              have hb0 : wr.cell? ⟨bf, 0, none⟩ = some (.int .i64 (W : Int)) := (B4.out.no kp5).c0
              have hb1 : wr.cell? ⟨bf, 1, none⟩ = some (.int .i64 (H : Int)) := (B4.out.no kp5).c1
              have hb2 : wr.cell? ⟨bf, 2, none⟩ = some (.string s) := (B4.out.no kp5).c2
              clear hp1 hp2 kp5
              by_cases hlt : i < k
              · have hltI : (i : Int) < (k : Int) := by omega
                have hwi : IntKind.i64.wrap ((i : Int) + 1) = (i : Int) + 1 := IntWalk.i64_in _ (by omega)
                have hks : i < s.size := by have := HN.out; omega
                have hbt := bt_at s i
                obtain ⟨B, hB⟩ : ∃ B, B = bt s i := ⟨_, rfl⟩
                rw [← hB] at hbt
                have hKB : kdS s i = kindB B := by rw [hB]; rfl
                obtain ⟨tl, htl⟩ : ∃ tl, tl = (kindB B == 2) := ⟨_, rfl⟩
                obtain ⟨td, htd⟩ : ∃ td, td = (kindB B == 3) := ⟨_, rfl⟩
                have QL := Lib.hid (fun w => qlane_any B tl htl w)
                have QD := Lib.hid (fun w => qdock_any B td htd w)
                have HTL := Lib.hid (show tl = true ↔ kdS s i = 2 by rw [htl, hKB]; simp)
                have HTD := Lib.hid (show td = true ↔ kdS s i = 3 by rw [htd, hKB]; simp)
                obtain ⟨c, hc⟩ : ∃ c, on[i]? = some c := ⟨_, List.getElem?_eq_getElem (by rw [HON.out]; exact hks)⟩
                have hcx : wr.cell? ⟨g, i, none⟩ = some (.bool c) := (BL.out.kpNo K5.out).get hc
                have HCC := Lib.hid hc
                have HKS := Lib.hid hks
                have hiW : i < W * H := by have := HS.out; omega
                have HIW := Lib.hid hiW
                clear hc htl htd hKB hB hks hlt hiW
                by_cases hbad : tl = true ∧ c = false
                · obtain ⟨rfl, rfl⟩ := hbad
                  have HNO := Lib.hid (show R = false by
                    rw [HR.out]
                    refine rightB_f fun r => ?_
                    have hl : laneI s i := ⟨HKS.out, HTL.out.1 rfl⟩
                    have := (HC.out i hl).2 (by simpa using r.join.2 l i HL.out hl)
                    rw [HCC.out] at this; simp at this)
                  clear hnN
                  go_wp2_with (go_at_call 64; refine (QL.out _).mono ?_; rintro e wz ⟨rfl, rfl⟩)
                  go_ret
                  exact ⟨by rw [HNO.out]; rfl, B4.out.kp.no K5.out⟩
                · have hor : tl = false ∨ (tl = true ∧ c = true) := orTC hbad
                  have P12 := Lib.hid (show ∀ r : Nat, r < i + 1 → kdS s r = 2 → on[r]? = some true by
                    intro r hr h2
                    rcases Nat.lt_or_ge r i with h | h
                    · exact P1.out r h h2
                    · obtain rfl : r = i := by omega
                      have := HTL.out.2 h2
                      rcases hor with h | ⟨_, rfl⟩
                      · rw [h] at this; simp at this
                      · exact HCC.out)
                  clear hbad hnN HCC P1
                  rcases hor with rfl | ⟨rfl, rfl⟩
                  all_goals
                    go_wp2_with (go_at_call 64; refine (QL.out _).mono ?_; rintro e wz ⟨rfl, rfl⟩)
                    refine (qbeside_any W H i s hW1 hW hH1 hH HIW.out wz).mono ?_
                    rintro e w6 ⟨vB, rfl, nb⟩
                    obtain ⟨AB, qB, rfl⟩ := nb.own.rd.shape
                    rw [ints_len] at nb ⊢
                    obtain ⟨nB, hnB⟩ : ∃ nB, nB = (besideP W H i).length := ⟨_, rfl⟩
                    have hB4 : nB ≤ 4 := by rw [hnB]; exact besideP_len W H i
                    rw [← hnB] at nb ⊢
                    have HNB := Lib.hid hnB
                    have K6 := Lib.hid (K5.out.no nb.kp); have OB := Lib.hid nb.own
                    clear nb hnB hb0 hb1 hb2 hcx
                    go_wp2_with fail
                    go_loopg [12, 13] (nB + 1) (fun g3 by_ ii wy => ∃ (j : Nat) (b : Bool), g3 = nB + 1 - j ∧ ii = .int .i64 j ∧ j ≤ nB ∧ by_ = .bool b ∧ b = byTo W H s i j ∧ Kp No w6 wy)
                    case atStart => exact ⟨0, false, rfl, rfl, by omega, rfl, rfl, Kp.refl _ _⟩
                    case round =>
                      obtain ⟨j, b, hgj, rfl, hj, rfl, hb, kp7⟩ := hrel
                      have HBB := Lib.hid hb; have K7 := Lib.hid kp7
                      have hb2 : wr.cell? ⟨bf, 2, none⟩ = some (.string s) := (B4.out.no (K6.out.no kp7)).c2
                      clear hb kp7
                      by_cases hlt : j < nB
                      · have hltI : (j : Int) < (nB : Int) := by omega
                        have hwj : IntKind.i64.wrap ((j : Int) + 1) = (j : Int) + 1 := IntWalk.i64_in _ (by omega)
                        obtain ⟨x, hx⟩ : ∃ x, (besideP W H i)[j]? = some x := ⟨_, List.getElem?_eq_getElem (by rw [← HNB.out]; exact hlt)⟩
                        have hxs : x < s.size := by rw [HS.out]; exact beside_lt hW1 HIW.out (List.mem_of_getElem? hx)
                        rcases OB.out.b with ⟨hv, _⟩ | ⟨gC, capC, hv, _, _, _⟩
                        · simp only [Value.slice.injEq] at hv; omega
                        simp only [Value.slice.injEq] at hv
                        obtain ⟨rfl, hzz, rfl⟩ := hv
                        clear hzz
                        have hcb : wr.cell? ⟨gC, j, none⟩ = some (.int .i64 (x : Int)) := by have := (OB.out.kpNo K7.out).rd.intAt (ints_get hx); simpa using this
                        have hxsI : (x : Int) < ((s.size : Nat) : Int) := by omega
                        have hxn : (x : Int) < (k : Int) := by have := HN.out; omega
                        have hbt := bt_at s x
                        obtain ⟨X, hX⟩ : ∃ X, X = bt s x := ⟨_, rfl⟩
                        rw [← hX] at hbt
                        obtain ⟨t, ht⟩ : ∃ t, t = (kindB X == 2) := ⟨_, rfl⟩
                        have QX := Lib.hid (fun w => qlane_any X t ht w)
                        have HB2 := Lib.hid (show (b || t) = byTo W H s i (j + 1) by
                          rw [byTo_succ hx, ← HBB.out, ht, hX]; rfl)
                        clear hX ht hx hlt hxs
                        cases b with
                        | false =>
                          go_wp2_with fail
                          go_quiet ((go_at_call 64; exact Calls.quiet_of_same (QX.out _)))
                          go_wp2_with fail
                          go_roundg (nB + 1 - (j + 1))
                          case measure => omega
                          case rel => exact ⟨j + 1, t, rfl, by go_num, by omega, rfl, by rw [← HB2.out]; simp, K7.out.drewN _⟩
                        | true =>
                          go_wp2_with fail
                          go_quiet (fail)
                          go_wp2_with fail
                          go_roundg (nB + 1 - (j + 1))
                          case measure => omega
                          case rel => exact ⟨j + 1, true, rfl, by go_num, by omega, rfl, by rw [← HB2.out]; simp, K7.out.drewN _⟩
                      · obtain rfl : j = nB := by omega
                        have hd0 : ¬ (j : Int) < (j : Int) := by omega
                        have HBE := Lib.hid (show b = true ↔ ∃ j ∈ besideP W H i, laneI s j by rw [HBB.out, HNB.out]; exact byTo_all hW1 HS.out HIW.out)
                        have P22 : Hid (td = false ∨ b = true → ∀ r : Nat, r < i + 1 → kdS s r = 3 → ∃ x ∈ besideP W H r, laneI s x) := Lib.hid (by
                          intro hor r hr h3
                          rcases Nat.lt_or_ge r i with h | h
                          · exact P2.out r h h3
                          · obtain rfl : r = i := by omega
                            rcases hor with h | h
                            · have := HTD.out.2 h3; rw [h] at this; simp at this
                            · exact HBE.out.1 h)
                        clear hlt
                        cases td with
                        | false =>
                          have P23 := Lib.hid (P22.out (.inl rfl))
                          go_wp2_with (go_at_call 63; refine (QD.out _).mono ?_; rintro e wz ⟨rfl, rfl⟩)
                          go_roundg (k + 1 - (i + 1))
                          case measure => omega
                          case rel => exact ⟨i + 1, rfl, by go_num, by omega, P12.out, P23.out, K6.out.no K7.out⟩
                        | true =>
                          cases b with
                          | true =>
                            have P23 := Lib.hid (P22.out (.inr rfl))
                            go_wp2_with (go_at_call 63; refine (QD.out _).mono ?_; rintro e wz ⟨rfl, rfl⟩)
                            go_roundg (k + 1 - (i + 1))
                            case measure => omega
                            case rel => exact ⟨i + 1, rfl, by go_num, by omega, P12.out, P23.out, K6.out.no K7.out⟩
                          | false =>
                            have HNO := Lib.hid (show R = false by
                              rw [HR.out]
                              refine rightB_f fun r => ?_
                              have := HBE.out.2 (by simpa using r.by_ i HKS.out (HTD.out.1 rfl)); simp at this)
                            go_wp2_with (go_at_call 63; refine (QD.out _).mono ?_; rintro e wz ⟨rfl, rfl⟩)
                            go_ret
                            exact ⟨by rw [HNO.out]; rfl, B4.out.kp.no (K6.out.no K7.out)⟩
              · obtain rfl : i = k := by omega
                have hd0 : ¬ (i : Int) < (i : Int) := by omega
                have HYES := Lib.hid (show R = true by
                  rw [HR.out]
                  refine rightB_t ⟨by simp; omega, by simp; omega, by simp; omega, by simp; omega, by simp [HS.out], fun r hr => HZ.out r (by have hr : r < s.size := hr; omega), HDS.out, ?_, fun r hr h3 => by simpa using P2.out r (by have hr : r < s.size := hr; omega) h3⟩
                  refine (joined_one (by simpa using hW1) (by simpa using HS.out) HL.out).2 fun r hr => ?_
                  have := (HC.out r hr).1 (P1.out r (by have hr := hr.1; have hr : r < s.size := hr; omega) hr.2)
                  simpa using this)
                clear hlt hnN
                go_wp2_with fail
                go_ret
                exact ⟨by rw [HYES.out]; rfl, B4.out.kp.no K5.out⟩

theorem qright_any (f : Flr) (hsz : f.s.size ≤ 9223372036854775807) (w : World) : Calls Tryd.prog 35 #[f.val] w (RightR f w) := by
  by_cases h : f.W < 1 ∨ 16 < f.W ∨ f.H < 1 ∨ 16 < f.H ∨ ((f.s.size : Int) ≠ f.W * f.H)
  · exact qright_dims f w h hsz
  · obtain ⟨X, Y, s⟩ := f
    simp only at h
    obtain ⟨W, rfl⟩ : ∃ W : Nat, X = W := ⟨X.toNat, by omega⟩
    obtain ⟨H, rfl⟩ : ∃ H : Nat, Y = H := ⟨Y.toNat, by omega⟩
    refine qright_in W H s (by omega) (by omega) (by omega) (by omega) ?_ w
    have : (s.size : Int) = W * H := by
      by_cases hh : (s.size : Int) = W * H
      · exact hh
      · exact absurd (Or.inr (Or.inr (Or.inr (Or.inr hh)))) h
    exact_mod_cast this
end Go.Proofs.YtgdokpfepfmbmaaDoor

namespace Go.Proofs.YtgdokpfepfmbmaaDoor
set_option linter.unusedVariables false
set_option linter.unusedSimpArgs false
open Go.RowKit

theorem qright_at (f : Flr) (hsz : f.s.size ≤ 9223372036854775807) (b : Bool) (hb : rightB f = b) (w : World) : Calls Tryd.prog 35 #[f.val] w fun e w' => e = .returned (.bool b) ∧ Kp No w w' := by
  subst hb; exact qright_any f hsz w
theorem right_kd {f : Flr} (hb : rightB f = true) {i : Nat} (hi : i < f.s.size) : kdS f.s i = 1 ∨ kdS f.s i = 2 ∨ kdS f.s i = 3 := by
  have h1 := (rightB_iff.1 hb).kinds i hi
  have h2 : kdS f.s i ≤ 3 := kindB_le _
  omega
theorem nearP_eq {f : Flr} {j W H : Nat} (hb : rightB f = true) (hj : j < f.s.size) (hW : f.W = W) (hH : f.H = H) (hk : kdS f.s j ≠ 1) : nearP f j = nearTo f.s W H j (besideP W H j).length := by
  unfold nearP nearTo
  rw [List.take_length, hW, hH, if_pos]
  · simp
  · rcases right_kd hb hj with h | h | h
    · exact absurd h hk
    · exact .inl (isB_iff.2 ⟨by omega, by omega, by simp [h], rightB_iff.1 hb⟩)
    · exact .inr (isB_iff.2 ⟨by omega, by omega, by simp [h], rightB_iff.1 hb⟩)
theorem nearP_no {f : Flr} {c : Int} (h : ¬ (0 ≤ c ∧ c < f.s.size ∧ rightB f = true ∧ kdS f.s c.toNat ≠ 1)) : nearP f c = [] := by
  unfold nearP
  rw [if_neg]
  rintro (h1 | h1)
  all_goals
    obtain ⟨h2, h3, h4, h5⟩ := isB_iff.1 h1
    exact h ⟨h2, h3, rightB_iff.2 h5, by omega⟩

set_option maxHeartbeats 1000000 in
set_option maxRecDepth 100000 in
theorem qnear_any (f : Flr) (hsz : f.s.size ≤ 9223372036854775807) (c : Int) (hc : c ≤ 9223372036854775807) (w : World) :
    Calls Tryd.prog 37 #[f.val, .int .i64 c] w fun e w' => ∃ v, e = .returned v ∧ NewS IK 3 w w' v (ints (nearP f c)) := by
  have HBX := Lib.hid (BxW.new f w)
  obtain ⟨N, hN⟩ : ∃ N, N = nearP f c := ⟨_, rfl⟩
  rw [← hN]
  have NIL := fun (w' : World) (h : Kp No w w') => (⟨Own.nil _ _ _, by simp [Value.ownBlock], h⟩ : NewS IK 3 w w' (.slice none 0 0) (ints []))
  obtain ⟨n, hn⟩ : ∃ n, n = f.s.size := ⟨_, rfl⟩
  have hnI : ((f.s.size : Nat) : Int) = (n : Int) := by omega
  have HSN := Lib.hid hn
  obtain ⟨b, hb⟩ : ∃ b, rightB f = b := ⟨_, rfl⟩
  have HRT := Lib.hid (qright_at f hsz b hb)
  have HNIL := Lib.hid NIL
  clear NIL
  by_cases h0 : c < 0
  · have HE := Lib.hid (show N = [] by rw [hN]; exact nearP_no (by omega))
    unfold Flr.val
    clear hb hN hn hsz
    go_enter Tryd.func37, Tryd.ntmps37
    go_wp2_with fail
    go_ret
    exact ⟨_, rfl, by rw [HE.out]; exact HNIL.out _ HBX.out.kp⟩
  obtain ⟨j, rfl⟩ : ∃ j : Nat, c = j := ⟨c.toNat, by omega⟩
  have h0b : ¬ ((j : Int) < 0) := by omega
  by_cases h1 : n ≤ j
  · have HE := Lib.hid (show N = [] by rw [hN]; exact nearP_no (by omega))
    have h1I : (n : Int) ≤ (j : Int) := by omega
    unfold Flr.val
    clear hb hN hn hsz h0
    go_enter Tryd.func37, Tryd.ntmps37
    go_wp2_with fail
    go_ret
    exact ⟨_, rfl, by rw [HE.out]; exact HNIL.out _ HBX.out.kp⟩
  have h1I : ¬ (n : Int) ≤ (j : Int) := by omega
  have h1J : (j : Int) < (n : Int) := by omega
  have hjs : j < f.s.size := by omega
  cases b with
  | false =>
    have HE := Lib.hid (show N = [] by rw [hN]; exact nearP_no (by simp [hb]))
    unfold Flr.val at HRT ⊢
    clear hb hN hn hsz h0 h1
    go_enter Tryd.func37, Tryd.ntmps37
    go_wp2_with fail
    refine (HRT.out _).mono ?_
    rintro e w1 ⟨rfl, kp1⟩
    have KP := Lib.hid (HBX.out.kp.no kp1)
    clear kp1
    go_wp2_with fail
    go_ret
    exact ⟨_, rfl, by rw [HE.out]; exact HNIL.out _ KP.out⟩
  | true =>
    have hbt := bt_at f.s j
    obtain ⟨B, hB⟩ : ∃ B, B = bt f.s j := ⟨_, rfl⟩
    rw [← hB] at hbt
    by_cases h35 : B = 35
    · have h35b : ((B : Int) == 35) = true := by simp [h35]
      have HE := Lib.hid (show N = [] by
        rw [hN]; refine nearP_no ?_
        rintro ⟨_, _, _, h⟩
        exact h (show kindB (bt f.s j) = 1 by rw [← hB, h35]; rfl))
      unfold Flr.val at HRT ⊢
      clear hb hN hn hsz h0 h1 h35 hB
      go_enter Tryd.func37, Tryd.ntmps37
      go_wp2_with fail
      refine (HRT.out _).mono ?_
      rintro e w1 ⟨rfl, kp1⟩
      have B1 := Lib.hid (HBX.out.no kp1)
      have hb2 := B1.out.c2
      clear kp1
      go_wp2_with fail
      go_ret
      exact ⟨_, rfl, by rw [HE.out]; exact HNIL.out _ B1.out.kp⟩
    · have h35b : ((B : Int) == 35) = false := by simp; omega
      obtain ⟨W, H, j', ix⟩ : ∃ W H j' : Nat, NIdx f (j : Int) W H j' := by
        rcases right_kd hb hjs with h | h | h
        · exact absurd (kd_wall h) (by rw [← hB]; exact h35)
        · exact isB_idx (k := 2) (isB_iff.2 ⟨by omega, by omega, by simp [h], rightB_iff.1 hb⟩)
        · exact isB_idx (k := 3) (isB_iff.2 ⟨by omega, by omega, by simp [h], rightB_iff.1 hb⟩)
      obtain ⟨hW1, hW, hH1, hH, hfW, hfH, hs, hcj, hjl⟩ := ix
      obtain rfl : j = j' := by omega
      have hN' : N = nearTo f.s W H j (besideP W H j).length := by
        rw [hN]
        exact nearP_eq hb hjs hfW hfH (fun e => h35 (by rw [hB]; exact kd_wall e))
      obtain ⟨X, Y, s⟩ := f
      simp only at hfW hfH hs hN' hjs hn hnI hbt
      subst hfW hfH
      unfold Flr.val at HRT ⊢
      simp only at HRT ⊢
      have HS := Lib.hid hs
      have HN := Lib.hid hN'
      have HJL := Lib.hid hjl
      clear hN' hN hb hs hsz hjl hn h0 h1 h35 hB hcj
      go_enter Tryd.func37, Tryd.ntmps37
      go_wp2_with fail
      refine (HRT.out _).mono ?_
      rintro e w1 ⟨rfl, kp1⟩
      have B1 := Lib.hid (HBX.out.no kp1)
      have hb0 : w1.cell? ⟨w.heap.size, 0, none⟩ = some (.int .i64 (W : Int)) := B1.out.c0
      have hb1 : w1.cell? ⟨w.heap.size, 1, none⟩ = some (.int .i64 (H : Int)) := B1.out.c1
      have hb2 : w1.cell? ⟨w.heap.size, 2, none⟩ = some (.string s) := B1.out.c2
      clear kp1
      go_wp2_with fail
      refine (qbeside_any W H j s hW1 hW hH1 hH HJL.out _).mono ?_
      rintro e w3 ⟨vB, rfl, nb⟩
      obtain ⟨AB, qB, rfl⟩ := nb.own.rd.shape
      rw [ints_len] at nb ⊢
      obtain ⟨nB, hnB⟩ : ∃ nB, nB = (besideP W H j).length := ⟨_, rfl⟩
      have hB4 : nB ≤ 4 := by rw [hnB]; exact besideP_len W H j
      rw [← hnB] at nb ⊢
      have HNB := Lib.hid hnB
      have B3 := Lib.hid (B1.out.no nb.kp); have OB := Lib.hid nb.own
      clear nb hnB hb0 hb1 hb2 hbt hjs h1I h1J h35b
      go_wp2_with fail
      go_loopg [5, 7] (nB + 1) (fun g2 v ii wx => ∃ (i m : Nat) (A : Option Addr) (q : Nat), g2 = nB + 1 - i ∧ ii = .int .i64 i ∧ i ≤ nB ∧ v = .slice A m q ∧ m = (nearTo s W H j i).length ∧ NewS IK 3 w3 wx v (ints (nearTo s W H j i)))
      case atStart => exact ⟨0, 0, none, 0, rfl, rfl, by omega, rfl, rfl, NewS.nil _ _ _⟩
      case round =>
        obtain ⟨i, m, A, q, hgi, rfl, hi, rfl, hm, ns⟩ := hrel
        have hm4 : m ≤ 4 := by rw [hm]; exact nearTo_len s W H j i
        have HM := Lib.hid hm; have NS := Lib.hid ns
        clear hm ns
        by_cases hlt : i < nB
        · have hltI : (i : Int) < (nB : Int) := by omega
          have hwi : IntKind.i64.wrap ((i : Int) + 1) = (i : Int) + 1 := IntWalk.i64_in _ (by omega)
          obtain ⟨x, hx⟩ : ∃ x, (besideP W H j)[i]? = some x := ⟨_, List.getElem?_eq_getElem (by rw [← HNB.out]; exact hlt)⟩
          have hxs : x < s.size := by rw [HS.out]; exact beside_lt hW1 HJL.out (List.mem_of_getElem? hx)
          have hxsI : (x : Int) < ((s.size : Nat) : Int) := by omega
          have hxn : (x : Int) < (n : Int) := by omega
          rcases OB.out.b with ⟨hv, _⟩ | ⟨gB, capB, hv, _, _, _⟩
          · simp only [Value.slice.injEq] at hv; omega
          simp only [Value.slice.injEq] at hv
          obtain ⟨rfl, hzz, rfl⟩ := hv
          clear hzz
          have hcb : wr.cell? ⟨gB, i, none⟩ = some (.int .i64 (x : Int)) := by have := (OB.out.kpNo NS.out.kp).rd.intAt (ints_get hx); simpa using this
          have hcB : ∀ k, (wr.drewN k).cell? ⟨gB, i, none⟩ = some (.int .i64 (x : Int)) := fun k => hcb
          have hb2 : wr.cell? ⟨w.heap.size, 2, none⟩ = some (.string s) := (B3.out.no NS.out.kp).c2
          have hbt := bt_at s x
          obtain ⟨B2, hB⟩ : ∃ B, B = bt s x := ⟨_, rfl⟩
          rw [← hB] at hbt
          by_cases h35 : B2 = 35
          · have h35b : ((B2 : Int) != 35) = false := by simp [h35]
            have HL := Lib.hid (nearTo_out hx (s := s) (show kindB (bt s x) = 1 by rw [← hB, h35]; rfl))
            clear hx hB h35 hlt hxs
            go_wp2_with fail
            go_quiet (fail)
            go_wp2_with fail
            go_roundg (nB + 1 - (i + 1))
            case measure => omega
            case rel => exact ⟨i + 1, m, A, q, rfl, by go_num, by omega, rfl, by rw [HL.out]; exact HM.out, by rw [HL.out]; exact NS.out.kpNo ((Kp.refl _ _).drewN _)⟩
          · have h35b : ((B2 : Int) != 35) = true := by simp; omega
            have HL := Lib.hid (nearTo_in hx (s := s) (show kindB (bt s x) ≠ 1 from fun e => h35 (by rw [hB]; exact kd_wall e)))
            have NS2 := Lib.hid (fun k => NS.out.kpNo ((Kp.refl _ wr).drewN k))
            clear hx hB h35 hlt hxs
            go_wp2_with fail
            go_quiet (fail)
            go_wp2_with (at_builtin; refine wpl_snocI rfl (.tmp 46) (.tmp 51) rfl rfl rfl rfl (NS2.out _) HM.out (by omega) ?_; intro A2 q2 w4 n4 k4 _; have N4 := Lib.hid n4; clear n4 k4 hcb hb2 hcB)
            go_roundg (nB + 1 - (i + 1))
            case measure => omega
            case rel => exact ⟨i + 1, m + 1, A2, q2, rfl, by go_num, by omega, rfl, by rw [HL.out, List.length_append, ← HM.out]; rfl, by rw [HL.out]; exact N4.out⟩
        · obtain rfl : i = nB := by omega
          have hd0 : ¬ (i : Int) < (i : Int) := by omega
          have HL := Lib.hid (show N = nearTo s W H j i by rw [HN.out, ← HNB.out])
          clear hlt
          go_wp2_with fail
          go_ret
          exact ⟨_, rfl, by rw [HL.out]; exact NS.out.from_ B3.out.kp⟩

theorem qzone_any (f : Flr) (hsz : f.s.size ≤ 9223372036854775807) (c : Int) (hc : c ≤ 9223372036854775807) (w : World) :
    Calls Tryd.prog 36 #[f.val, .int .i64 c] w fun e w' => e = .returned (ZVal (zoneP f c)) ∧ Kp No w w' := by
  have HBX := Lib.hid (BxW.new f w)
  obtain ⟨Z, hZ⟩ : ∃ N, N = zoneP f c := ⟨_, rfl⟩
  rw [← hZ]
  unfold zoneP at hZ
  obtain ⟨n, hn⟩ : ∃ n, n = f.s.size := ⟨_, rfl⟩
  have hnI : ((f.s.size : Nat) : Int) = (n : Int) := by omega
  obtain ⟨b, hb⟩ : ∃ b, rightB f = b := ⟨_, rfl⟩
  have HRT := Lib.hid (qright_at f hsz b hb)
  by_cases h0 : c < 0
  · have HE := Lib.hid (show Z = none by rw [hZ, if_neg (fun h => by have := (isB_iff.1 h).1; omega)])
    unfold Flr.val
    clear hb hZ hn hsz
    go_enter Tryd.func36, Tryd.ntmps36
    go_wp2_with fail
    go_ret2
    exact ⟨by rw [HE.out]; rfl, HBX.out.kp⟩
  obtain ⟨j, rfl⟩ : ∃ j : Nat, c = j := ⟨c.toNat, by omega⟩
  have h0b : ¬ ((j : Int) < 0) := by omega
  by_cases h1 : n ≤ j
  · have HE := Lib.hid (show Z = none by rw [hZ, if_neg (fun h => by have := (isB_iff.1 h).2.1; omega)])
    have h1I : (n : Int) ≤ (j : Int) := by omega
    unfold Flr.val
    clear hb hZ hn hsz h0
    go_enter Tryd.func36, Tryd.ntmps36
    go_wp2_with fail
    go_ret2
    exact ⟨by rw [HE.out]; rfl, HBX.out.kp⟩
  have h1I : ¬ (n : Int) ≤ (j : Int) := by omega
  have h1J : (j : Int) < (n : Int) := by omega
  have hjs : j < f.s.size := by omega
  cases b with
  | false =>
    have HE := Lib.hid (show Z = none by rw [hZ, if_neg (fun h => by have := (isB_iff.1 h).2.2.2; rw [← rightB_iff, hb] at this; simp at this)])
    unfold Flr.val at HRT ⊢
    clear hb hZ hn hsz h0 h1
    go_enter Tryd.func36, Tryd.ntmps36
    go_wp2_with fail
    refine (HRT.out _).mono ?_
    rintro e w1 ⟨rfl, kp1⟩
    have KP := Lib.hid (HBX.out.kp.no kp1)
    clear kp1
    go_wp2_with fail
    go_ret2
    exact ⟨by rw [HE.out]; rfl, KP.out⟩
  | true =>
    have hbt := bt_at f.s j
    obtain ⟨B, hB⟩ : ∃ B, B = bt f.s j := ⟨_, rfl⟩
    rw [← hB] at hbt
    obtain ⟨t, ht⟩ : ∃ t, t = (kindB B == 2) := ⟨_, rfl⟩
    have QL := Lib.hid (fun w => qlane_any B t ht w)
    have hK : kdS f.s j = kindB B := by rw [hB]; rfl
    cases t with
    | false =>
      have HE := Lib.hid (show Z = none by
        rw [hZ, if_neg (fun h => by have := (isB_iff.1 h).2.2.1; simp [hK] at this; simp at ht; omega)])
      unfold Flr.val at HRT ⊢
      clear hb hZ hn hsz h0 h1 hB ht hK
      go_enter Tryd.func36, Tryd.ntmps36
      go_wp2_with fail
      refine (HRT.out _).mono ?_
      rintro e w1 ⟨rfl, kp1⟩
      have B1 := Lib.hid (HBX.out.no kp1)
      have hb2 := B1.out.c2
      clear kp1
      go_wp2_with (go_at_call 64; refine (QL.out _).mono ?_; rintro e wz ⟨rfl, rfl⟩)
      go_ret2
      exact ⟨by rw [HE.out]; rfl, B1.out.kp⟩
    | true =>
      have h2 : kindB B = 2 := by simpa using ht.symm
      have hl := kd_lane h2
      have HE := Lib.hid (show Z = some (B - 97) by
        rw [hZ, if_pos (isB_iff.2 ⟨by omega, by omega, by simp [hK, h2], rightB_iff.1 hb⟩), hB]; simp)
      have hsub : IntKind.u8.wrap ((B : Int) - 97) = ((B - 97 : Nat) : Int) := by rw [IntWalk.u8_in _ (by omega)]; omega
      obtain ⟨q, hq⟩ : ∃ q, q = B - 97 := ⟨_, rfl⟩
      rw [← hq] at hsub HE
      have hcv : IntKind.i64.wrap (q : Int) = (q : Int) := IntWalk.i64_in _ (by omega)
      have hq25 : q ≤ 25 := by omega
      unfold Flr.val at HRT ⊢
      clear hb hZ hn hsz h0 h1 hB ht hK hq hl h2
      go_enter Tryd.func36, Tryd.ntmps36
      go_wp2_with fail
      refine (HRT.out _).mono ?_
      rintro e w1 ⟨rfl, kp1⟩
      have B1 := Lib.hid (HBX.out.no kp1)
      have hb2 := B1.out.c2
      clear kp1
      go_wp2_with (go_at_call 64; refine (QL.out _).mono ?_; rintro e wz ⟨rfl, rfl⟩)
      go_ret2
      exact ⟨by rw [HE.out]; rfl, B1.out.kp⟩

/-- A loop over all cells, as long as the floor is right: of one that is not right no round. -/
theorem docksP_le (s : ByteArray) (k : Nat) : (docksP s k).length ≤ k := by unfold docksP; exact Nat.le_trans (List.length_filter_le _ _) (by simp)

end Go.Proofs.YtgdokpfepfmbmaaDoor

namespace Go.Proofs.YtgdokpfepfmbmaaDoor
set_option linter.unusedVariables false
set_option linter.unusedSimpArgs false
open Go.RowKit

noncomputable def mpN (f : Flr) : Nat := if rightB f = true then f.s.size else 0
def opL (f : Flr) (n : Nat) : List Bool := (List.range n).map fun i => bt f.s i != 35
theorem opL_len (f : Flr) (n : Nat) : (opL f n).length = n := by simp [opL]
theorem opL_get {f : Flr} {n i : Nat} (h : i < n) : (opL f n)[i]? = some (bt f.s i != 35) := by simp [opL, List.getElem?_range h]
/-- A reference's map. -/
structure MpC where
  A1 : Option Addr
  q1 : Nat
  A2 : Option Addr
  q2 : Nat
  A3 : Option Addr
  q3 : Nat
def MpC.val (M : MpC) (n : Nat) : Value := .agg #[.slice M.A1 n M.q1, .slice M.A2 n M.q2, .slice M.A3 n M.q3]
structure MpW (f : Flr) (n : Nat) (M : MpC) (Vs : List SlC) (w : World) : Prop where
  hn : n = mpN f
  nr : Rd SvK w (.slice M.A1 n M.q1) Vs
  ln : Rd BoK w (.slice M.A2 n M.q2) (lnB f n n)
  op : Rd BoK w (.slice M.A3 n M.q3) (opL f n)
  len : Vs.length = n
  rd : ∀ (i : Nat) v, Vs[i]? = some v → Rd IK w (slv v) (ints (nearP f i))
theorem MpW.no {f : Flr} {n : Nat} {M : MpC} {Vs : List SlC} {w w' : World} (h : MpW f n M Vs w) (hk : Kp No w w') : MpW f n M Vs w' := ⟨h.hn, h.nr.kpNo hk, h.ln.kpNo hk, h.op.kpNo hk, h.len, fun i v hv => (h.rd i v hv).kpNo hk⟩
theorem Rd.one {α : Type} {K : Kd α} {enc : α → Value} (hK : K1 K enc) {w : World} {l : List α} {g o n cap : Nat} (h : Rd K w (.slice (some ⟨g, o, none⟩) n cap) l) {i : Nat} {x : α} (hx : l[i]? = some x) : w.cell? ⟨g, o + i, none⟩ = some (enc x) := by
  have := h.at rfl hx (j := 0) (u := enc x) (by rw [hK.enc]; rfl)
  rwa [hK.sz, Nat.mul_one, Nat.add_zero] at this
theorem Rd.some_ {α : Type} {K : Kd α} {w : World} {l : List α} {A : Option Addr} {n cap : Nat} (h : Rd K w (.slice A n cap) l) (hn : 0 < n) : ∃ g o, A = some ⟨g, o, none⟩ := by
  rcases h with ⟨⟨A', c, hv⟩, _⟩ | ⟨g, o, c, hv, _⟩
  · simp only [Value.slice.injEq] at hv; omega
  · simp only [Value.slice.injEq] at hv; exact ⟨g, o, hv.1⟩

set_option maxRecDepth 100000 in
theorem q5in_any {w : World} {v : Value} {l : List Int} (hv : Rd IK w v l) (x : Int) (b : Bool) (hb : b = decide (x ∈ l)) :
    Calls Tryd.prog 80 #[.int .i64 x, v] w fun e w' => e = .returned (.bool b) ∧ Kp No w w' := by
  have hl := hv.lenI
  obtain ⟨A, c, rfl⟩ := hv.shape
  obtain ⟨n, hn⟩ : ∃ n, n = l.length := ⟨_, rfl⟩
  rw [← hn] at hv hl ⊢
  have H := Lib.hid hv; have HN := Lib.hid hn; have HB := Lib.hid hb
  unfold maxLen at hl
  clear hv hn hb
  go_enter Tryd.func80, Tryd.ntmps80
  go_wp2_with fail
  go_loopg [5] (n + 1) (fun g_ iv wx => ∃ i : Nat, g_ = n + 1 - i ∧ iv = .int .i64 i ∧ i ≤ n ∧ (∀ y ∈ l.take i, y ≠ x) ∧ Kp No w wx)
  case atStart => exact ⟨0, rfl, rfl, by omega, by simp, Kp.refl _ _⟩
  case round =>
    obtain ⟨i, hg, rfl, hi, hno, kp⟩ := hrel
    have NO := Lib.hid hno; have KP := Lib.hid kp
    clear hno kp
    by_cases hlt : i < n
    · have hltI : (i : Int) < (n : Int) := by omega
      have hwi : IntKind.i64.wrap ((i : Int) + 1) = (i : Int) + 1 := IntWalk.i64_in _ (by omega)
      obtain ⟨y, hy⟩ : ∃ y, l[i]? = some y := ⟨_, List.getElem?_eq_getElem (by rw [← HN.out]; exact hlt)⟩
      rcases H.out with ⟨_, he⟩ | ⟨g, o, cap', hv, _⟩
      · have := HN.out; rw [he, List.length_nil] at this; omega
      simp only [Value.slice.injEq] at hv
      obtain ⟨rfl, hzz, rfl⟩ := hv
      clear hzz
      have hc := (H.out.kpNo KP.out).intAt hy
      have HY := Lib.hid hy
      clear hy hlt
      by_cases hxy : y = x
      · subst hxy
        have HE := Lib.hid (show b = true by rw [HB.out, decide_eq_true_eq]; exact List.mem_of_getElem? HY.out)
        go_wp2_with fail
        go_ret
        exact ⟨by rw [HE.out]; rfl, KP.out⟩
      · have hb : (y == x) = false := by simpa using hxy
        have NO2 := Lib.hid (show ∀ z ∈ l.take (i + 1), z ≠ x from fun z hz => by
          rw [List.take_add_one, HY.out] at hz
          rcases List.mem_append.1 hz with h | h
          · exact NO.out z h
          · simp at h; subst h; exact hxy)
        clear hxy
        go_wp2_with fail
        go_roundg (n + 1 - (i + 1))
        case measure => omega
        case rel => exact ⟨i + 1, rfl, by go_num, by omega, NO2.out, KP.out⟩
    · obtain rfl : i = n := by omega
      have hd0 : ¬ (i : Int) < (i : Int) := by omega
      have HE := Lib.hid (show b = false by
        rw [HB.out, decide_eq_false_iff_not]
        intro h
        exact NO.out x (by rw [HN.out, List.take_length]; exact h) rfl)
      clear hlt
      go_wp2_with fail
      go_ret
      exact ⟨by rw [HE.out]; rfl, KP.out⟩
end Go.Proofs.YtgdokpfepfmbmaaDoor

namespace Go.Proofs.YtgdokpfepfmbmaaDoor
set_option linter.unusedVariables false
set_option linter.unusedSimpArgs false
open Go.RowKit

set_option maxHeartbeats 1000000 in
set_option maxRecDepth 100000 in
theorem q5Steps_any {f : Flr} {n : Nat} {M : MpC} {Vs : List SlC} {w : World} {bv : Value} {B : List Int} (h : MpW f n M Vs w) (hn : n ≤ 1000000) (u fr : Nat) (hu : u < n) (hB : Rd IK w bv B) :
    Calls Tryd.prog 53 #[M.val n, .int .i64 (u : Int), .int .i64 (fr : Int), bv] w fun e w' => ∃ v, e = .returned v ∧ NewS IK 3 w w' v (ints (stepsP f fr B u)) := by
  have H := Lib.hid h; have HB := Lib.hid hB
  obtain ⟨N, hN⟩ : ∃ N, N = stepsP f fr B u := ⟨_, rfl⟩
  rw [← hN]
  unfold stepsP at hN
  obtain ⟨w1, hw1⟩ : ∃ w1, w1 = w.alloc (.cells #[.slice M.A1 n M.q1, .slice M.A2 n M.q2, .slice M.A3 n M.q3] 36) := ⟨_, rfl⟩
  have K1 := Lib.hid (show Kp No w w1 by rw [hw1]; exact (Kp.refl _ _).alloc _)
  have BX := Lib.hid (show w1.heap[w.heap.size]? = some (.cells #[.slice M.A1 n M.q1, .slice M.A2 n M.q2, .slice M.A3 n M.q3] 36 (0, 0)) by rw [hw1]; exact blk_new w _)
  have HW1 := Lib.hid hw1
  clear hw1
  obtain ⟨g1, o1, hA1⟩ := h.nr.some_ (by omega)
  obtain ⟨g2, o2, hA2⟩ := h.ln.some_ (by omega)
  obtain ⟨⟨AN, m, qN⟩, hv⟩ : ∃ v, Vs[u]? = some v := ⟨_, List.getElem?_eq_getElem (by rw [h.len]; exact hu)⟩
  have hrd := h.rd u _ hv
  unfold slv at hrd
  simp only at hrd
  obtain ⟨A', q', hsh⟩ := hrd.shape
  simp only [Value.slice.injEq] at hsh
  obtain ⟨rfl, hm, rfl⟩ := hsh
  rw [ints_len] at hm
  have hm4 : m ≤ 4 := by rw [hm]; exact near_len4 f u
  have hnr := h.nr; have hln := h.ln
  rw [hA1] at hnr; rw [hA2] at hln
  have CN := Lib.hid (fun wx (hk : Kp No w wx) => show wx.cell? ⟨g1, o1 + u, none⟩ = some (.slice AN m qN) from (hnr.kpNo hk).one SvK1 hv)
  obtain ⟨lb, hlb⟩ : ∃ b, b = decide (kdS f.s u = 2) := ⟨_, rfl⟩
  have hlg := lnB_get (f := f) (k := n) hu
  rw [show decide (u < n ∧ kdS f.s u = 2) = lb by rw [hlb]; simp [hu]] at hlg
  have hcl := (hln.kpNo K1.out).one BoK1 hlg
  obtain ⟨db, hdb⟩ : ∃ b, b = ((u : Int) != (fr : Int)) := ⟨_, rfl⟩
  have hdbI := hdb.symm
  have huI : (u : Int) < (n : Int) := by omega
  have HRd := Lib.hid hrd; have HM := Lib.hid hm
  obtain ⟨A1, q1, A2, q2, A3, q3⟩ := M
  simp only at hA1 hA2 BX HW1
  subst hA1 hA2
  unfold MpC.val
  simp only
  clear h hB hv hrd hnr hln hlg H hm
  by_cases hx : u ≠ fr ∧ kdS f.s u ≠ 2
  · rw [if_pos hx] at hN
    obtain rfl : lb = false := by rw [hlb]; simp [hx.2]
    obtain rfl : db = true := by rw [hdb]; simp; omega
    have HN := Lib.hid hN
    clear hN hx hlb hdb hu
    have hb1 : w1.cell? ⟨w.heap.size, 1, none⟩ = some (.slice (some ⟨g2, o2, none⟩) n q2) := blk_cell BX.out 1
    go_enter Tryd.func53, Tryd.ntmps53
    go_upto_region 1 with fail
    rw [← HW1.out]
    go_wp2_with fail
    go_ret
    exact ⟨_, rfl, by rw [HN.out]; exact ⟨Own.nil _ _ _, by simp [Value.ownBlock], K1.out⟩⟩
  · rw [if_neg hx] at hN
    have hor : db = true → lb = true := fun e => by
      rw [hdb] at e; simp at e
      have : u ≠ fr := by omega
      rw [hlb]; simp
      exact Classical.byContradiction fun h2 => hx ⟨this, h2⟩
    have HN := Lib.hid (show N = stepsTo f B u (nearP f u).length by rw [hN]; unfold stepsTo; rw [List.take_length])
    clear hx hlb hdb hN hu
    have hcase : (db = true ∧ lb = true) ∨ db = false := by
      cases db with
      | true => exact .inl ⟨rfl, hor rfl⟩
      | false => exact .inr rfl
    clear hor
    rcases hcase with ⟨rfl, rfl⟩ | rfl
    all_goals
      have hb1 : w1.cell? ⟨w.heap.size, 1, none⟩ = some (.slice (some ⟨g2, o2, none⟩) n q2) := blk_cell BX.out 1
      go_enter Tryd.func53, Tryd.ntmps53
      go_upto_region 1 with fail
      rw [← HW1.out]
      go_wp2_with fail
      clear hb1 hcl
      go_loopg [9, 10] (m + 1) (fun g_ v ii wx => ∃ (j k : Nat) (A : Option Addr) (q : Nat), g_ = m + 1 - j ∧ ii = .int .i64 j ∧ j ≤ m ∧ v = .slice A k q ∧ k = (stepsTo f B u j).length ∧ NewS IK 3 w1 wx v (ints (stepsTo f B u j)))
      case atStart => exact ⟨0, 0, none, 0, rfl, rfl, by omega, rfl, rfl, NewS.nil _ _ _⟩
      case round =>
        obtain ⟨j, k, A2, q2, hgk, rfl, hj, rfl, hk, ns⟩ := hrel
        have hk4 : k ≤ 4 := by rw [hk]; exact Nat.le_trans (stepsTo_len f B u j) (by omega)
        have HK := Lib.hid hk; have NS := Lib.hid ns
        have hb0 : wr.cell? ⟨w.heap.size, 0, none⟩ = some (.slice (some ⟨g1, o1, none⟩) n q1) := blk_cell (NS.out.kp.blk BX.out (no_no _)) 0
        have hcn := CN.out wr (K1.out.no NS.out.kp)
        clear hk ns
        by_cases hlt : j < m
        · have hltI : (j : Int) < (m : Int) := by omega
          have hwj : IntKind.i64.wrap ((j : Int) + 1) = (j : Int) + 1 := IntWalk.i64_in _ (by omega)
          obtain ⟨x, hx⟩ : ∃ x, (nearP f u)[j]? = some x := ⟨_, List.getElem?_eq_getElem (by rw [← HM.out]; exact hlt)⟩
          rcases HRd.out with ⟨_, he⟩ | ⟨g, o, cap', hv, _⟩
          · have h1 := HM.out
            have := congrArg List.length he
            rw [ints_len, List.length_nil] at this
            omega
          simp only [Value.slice.injEq] at hv
          obtain ⟨rfl, hzz, rfl⟩ := hv
          clear hzz
          have hcx := (HRd.out.kpNo (K1.out.no NS.out.kp)).intAt (ints_get hx)
          obtain ⟨bb, hb⟩ : ∃ b, b = decide ((x : Int) ∈ B) := ⟨_, rfl⟩
          have QI := Lib.hid (q5in_any (HB.out.kpNo (K1.out.no NS.out.kp)) (x : Int) bb hb)
          have HX := Lib.hid hx
          have HBB := Lib.hid hb
          clear hx hlt hb
          go_wp2_with fail
          refine QI.out.mono ?_
          rintro e w3 ⟨rfl, kp3⟩
          have N3 := Lib.hid (NS.out.kpNo kp3)
          clear kp3 hb0 hcn hcx
          cases bb with
          | true =>
            have HL := Lib.hid (stepsTo_out HX.out (by simpa using HBB.out.symm))
            go_wp2_with fail
            go_roundg (m + 1 - (j + 1))
            case measure => omega
            case rel => exact ⟨j + 1, k, A2, q2, rfl, by go_num, by omega, rfl, by rw [HL.out]; exact HK.out, by rw [HL.out]; exact N3.out⟩
          | false =>
            have HL := Lib.hid (stepsTo_in HX.out (by simpa using HBB.out.symm))
            have hb0 : w3.cell? ⟨w.heap.size, 0, none⟩ = some (.slice (some ⟨g1, o1, none⟩) n q1) := blk_cell (N3.out.kp.blk BX.out (no_no _)) 0
            have hcn := CN.out w3 (K1.out.no N3.out.kp)
            have hcx := (HRd.out.kpNo (K1.out.no N3.out.kp)).intAt (ints_get HX.out)
            go_wp2_with (at_builtin; refine wpl_snocI rfl (.tmp 43) (.tmp 52) rfl rfl rfl rfl N3.out HK.out (by omega) ?_; intro A3 q3 w4 n4 k4 _; have N4 := Lib.hid n4; clear n4 k4 hcx hcn hb0)
            go_roundg (m + 1 - (j + 1))
            case measure => omega
            case rel => exact ⟨j + 1, k + 1, A3, q3, rfl, by go_num, by omega, rfl, by rw [HL.out, List.length_append, ← HK.out]; rfl, by rw [HL.out]; exact N4.out⟩
        · obtain rfl : j = m := by omega
          have hd0 : ¬ (j : Int) < (j : Int) := by omega
          have HL := Lib.hid (show N = stepsTo f B u j by rw [HN.out, ← HM.out])
          clear hlt
          go_wp2_with fail
          go_ret
          exact ⟨_, rfl, by rw [HL.out]; exact NS.out.from_ K1.out⟩
end Go.Proofs.YtgdokpfepfmbmaaDoor

namespace Go.Proofs.YtgdokpfepfmbmaaDoor
set_option linter.unusedVariables false
set_option linter.unusedSimpArgs false
open Go.RowKit

theorem elB2 : ElT Tryd.prog 34 4 BoK 1 := elBo
structure OfM (f : Flr) (w0 : World) (bm bf br : Nat) (V1 V2 V3 : Value) (k1 k2 k3 : Nat) (Vs : List SlC) (w : World) : Prop where
  blk : w.heap[bm]? = some (.cells #[V1, V2, V3] 36 (0, 0))
  bx : BxW f bf w0 w
  rs : w.heap[br]? = some (.cells #[.slice none 0 0, .slice none 0 0, .slice none 0 0] 36 (0, 0))
  o1 : Own SvK 39 w V1 Vs
  o2 : Own BoK 4 w V2 (lnB f k2 k2)
  o3 : Own BoK 4 w V3 (opL f k3)
  len : Vs.length = k1
  rd : ∀ (i : Nat) v, Vs[i]? = some v → Rd IK w (slv v) (ints (nearP f i)) ∧ ∀ g, (slv v).ownBlock = some g → g ≠ bm ∧ V1.ownBlock ≠ some g ∧ V2.ownBlock ≠ some g ∧ V3.ownBlock ≠ some g ∧ g < w.heap.size ∧ g ≠ br
  n1 : ∀ g, V1.ownBlock = some g → g ≠ bm ∧ g ≠ bf ∧ g ≠ br ∧ V2.ownBlock ≠ some g ∧ V3.ownBlock ≠ some g ∧ w0.heap.size ≤ g
  n2 : ∀ g, V2.ownBlock = some g → g ≠ bm ∧ g ≠ bf ∧ g ≠ br ∧ V3.ownBlock ≠ some g ∧ w0.heap.size ≤ g
  n3 : ∀ g, V3.ownBlock = some g → g ≠ bm ∧ g ≠ bf ∧ g ≠ br ∧ w0.heap.size ≤ g
  nb : bm ≠ bf ∧ bm ≠ br ∧ w0.heap.size ≤ bm ∧ w0.heap.size ≤ br
section
variable {f : Flr} {w0 w wa w' : World} {bm bf br k1 k2 k3 : Nat} {V1 V2 V3 V' : Value} {Vs : List SlC}
theorem OfM.no (h : OfM f w0 bm bf br V1 V2 V3 k1 k2 k3 Vs w) (hk : Kp No w w') : OfM f w0 bm bf br V1 V2 V3 k1 k2 k3 Vs w' :=
  ⟨hk.blk h.blk (no_no _), h.bx.no hk, hk.blk h.rs (no_no _), h.o1.kpNo hk, h.o2.kpNo hk, h.o3.kpNo hk, h.len, fun i v hv => ⟨(h.rd i v hv).1.kpNo hk, fun g hg => let ⟨a, b, c, d, e⟩ := (h.rd i v hv).2 g hg; ⟨a, b, c, d, Nat.lt_of_lt_of_le e.1 hk.size, e.2⟩⟩, h.n1, h.n2, h.n3, h.nb⟩
theorem OfM.c0 (h : OfM f w0 bm bf br V1 V2 V3 k1 k2 k3 Vs w) : w.cell? ⟨bm, 0, none⟩ = some V1 := blk_cell h.blk 0
theorem OfM.c1 (h : OfM f w0 bm bf br V1 V2 V3 k1 k2 k3 Vs w) : w.cell? ⟨bm, 1, none⟩ = some V2 := blk_cell h.blk 1
theorem OfM.c2 (h : OfM f w0 bm bf br V1 V2 V3 k1 k2 k3 Vs w) : w.cell? ⟨bm, 2, none⟩ = some V3 := blk_cell h.blk 2
theorem OfM.fz (h : OfM f w0 bm bf br V1 V2 V3 k1 k2 k3 Vs w) (i : Nat) : w.frozen? ⟨bm, i, none⟩ = false := blk_free h.blk i
theorem OfM.lts (h : OfM f w0 bm bf br V1 V2 V3 k1 k2 k3 Vs w) : bm < w.heap.size ∧ bf < w.heap.size ∧ br < w.heap.size ∧ w0.heap.size ≤ w.heap.size := ⟨lt_of_block h.blk, lt_of_block h.bx.box, lt_of_block h.rs, h.bx.kp.size⟩
/-- What an append to the first list leaves. -/
theorem OfM.app1 (h : OfM f w0 bm bf br V1 V2 V3 k1 k2 k3 Vs w) {v : SlC} (hv : Rd IK w (slv v) (ints (nearP f k1))) (hb : ∀ g, (slv v).ownBlock = some g → g ≠ bm ∧ V1.ownBlock ≠ some g ∧ V2.ownBlock ≠ some g ∧ V3.ownBlock ≠ some g ∧ g < w.heap.size ∧ g ≠ br)
    (ho : Own SvK 39 w' V' (Vs ++ [v])) (hk : Kp (fun k => V1.ownBlock = some k) w w') (hn : ∀ g, V'.ownBlock = some g → V1.ownBlock = some g ∨ w.heap.size ≤ g) :
    OfM f w0 bm bf br V' V2 V3 (k1 + 1) k2 k3 (Vs ++ [v]) (w'.setCell ⟨bm, 0, none⟩ V') := by
  obtain ⟨l0, l1, l2, l3⟩ := h.lts
  have hs := (Kp.refl (fun j => j = bm) w').setCell (p := ⟨bm, 0, none⟩) (fun _ => rfl) V'
  have kk : Kp (fun j => V1.ownBlock = some j ∨ j = bm) w (w'.setCell ⟨bm, 0, none⟩ V') := (hk.mono (fun _ _ e => .inl e)).trans' hs (fun j _ e => .inr e)
  have m0 : ¬ V1.ownBlock = some bm := fun e => (h.n1 _ e).1 rfl
  have all_ : ∀ v : SlC, ∀ l, Rd IK w (slv v) l → (∀ g, (slv v).ownBlock = some g → g ≠ bm ∧ V1.ownBlock ≠ some g ∧ V2.ownBlock ≠ some g ∧ V3.ownBlock ≠ some g ∧ g < w.heap.size ∧ g ≠ br) →
      Rd IK (w'.setCell ⟨bm, 0, none⟩ V') (slv v) l ∧ ∀ g, (slv v).ownBlock = some g → g ≠ bm ∧ V'.ownBlock ≠ some g ∧ V2.ownBlock ≠ some g ∧ V3.ownBlock ≠ some g ∧ g < (w'.setCell ⟨bm, 0, none⟩ V').heap.size ∧ g ≠ br := fun v l a b => by
    refine ⟨a.kp kk ?_, fun g hg => ?_⟩
    · rintro g hg (e | e)
      · exact (b g hg).2.1 e
      · exact (b g hg).1 e
    · obtain ⟨b1, b2, b3, b4, b5⟩ := b g hg
      refine ⟨b1, fun e => ?_, b3, b4, Nat.lt_of_lt_of_le b5.1 kk.size, b5.2⟩
      rcases hn g e with e2 | e2
      · exact b2 e2
      · omega
  refine ⟨?_, h.bx.kps kk ?_ ?_, kk.blk h.rs ?_, ho.kp hs (fun g hg e => ?_), h.o2.kp kk ?_, h.o3.kp kk ?_, by rw [List.length_append, h.len]; rfl, fun i y hy => ?_, fun g hg => ?_, h.n2, h.n3, h.nb⟩
  · have := blk_set (hk.blk h.blk m0) 0 V'; simpa using this
  · rintro (e | e)
    · exact (h.n1 _ e).2.1 rfl
    · exact h.nb.1 e.symm
  · rintro j (e | e)
    · exact (h.n1 _ e).2.2.2.2.2
    · rw [e]; exact h.nb.2.2.1
  · rintro (e | e)
    · exact (h.n1 _ e).2.2.1 rfl
    · exact h.nb.2.1 e.symm
  · rcases hn g hg with e2 | e2
    · exact (h.n1 _ e2).1 e
    · omega
  · rintro g hg (e | e)
    · exact (h.n1 _ e).2.2.2.1 hg
    · exact (h.n2 _ hg).1 e
  · rintro g hg (e | e)
    · exact (h.n1 _ e).2.2.2.2.1 hg
    · exact (h.n3 _ hg).1 e
  · rcases Nat.lt_or_ge i Vs.length with h1 | h1
    · rw [List.getElem?_append_left h1] at hy
      exact all_ y _ (h.rd i y hy).1 (h.rd i y hy).2
    · have h2 := (List.getElem?_eq_some_iff.1 hy).1
      simp at h2
      obtain rfl : i = k1 := by have := h.len; omega
      rw [← h.len] at hy
      simp at hy
      subst hy
      exact all_ _ _ hv hb
  · rcases hn g hg with e | e
    · exact h.n1 g e
    · exact ⟨by omega, by omega, by omega, fun e2 => by have := h.o2.lt e2; omega, fun e2 => by have := h.o3.lt e2; omega, by omega⟩
theorem OfM.app2 (h : OfM f w0 bm bf br V1 V2 V3 k1 k2 k3 Vs w) (ho : Own BoK 4 w' V' (lnB f (k2 + 1) (k2 + 1))) (hk : Kp (fun k => V2.ownBlock = some k) w w') (hn : ∀ g, V'.ownBlock = some g → V2.ownBlock = some g ∨ w.heap.size ≤ g) :
    OfM f w0 bm bf br V1 V' V3 k1 (k2 + 1) k3 Vs (w'.setCell ⟨bm, 1, none⟩ V') := by
  obtain ⟨l0, l1, l2, l3⟩ := h.lts
  have hs := (Kp.refl (fun j => j = bm) w').setCell (p := ⟨bm, 1, none⟩) (fun _ => rfl) V'
  have kk : Kp (fun j => V2.ownBlock = some j ∨ j = bm) w (w'.setCell ⟨bm, 1, none⟩ V') := (hk.mono (fun _ _ e => .inl e)).trans' hs (fun j _ e => .inr e)
  have m0 : ¬ V2.ownBlock = some bm := fun e => (h.n2 _ e).1 rfl
  refine ⟨?_, h.bx.kps kk ?_ ?_, kk.blk h.rs ?_, h.o1.kp kk ?_, ho.kp hs (fun g hg e => ?_), h.o3.kp kk ?_, h.len, fun i y hy => ?_, fun g hg => ?_, fun g hg => ?_, h.n3, h.nb⟩
  · have := blk_set (hk.blk h.blk m0) 1 V'; simpa using this
  · rintro (e | e)
    · exact (h.n2 _ e).2.1 rfl
    · exact h.nb.1 e.symm
  · rintro j (e | e)
    · exact (h.n2 _ e).2.2.2.2
    · rw [e]; exact h.nb.2.2.1
  · rintro (e | e)
    · exact (h.n2 _ e).2.2.1 rfl
    · exact h.nb.2.1 e.symm
  · rintro g hg (e | e)
    · exact (h.n1 _ hg).2.2.2.1 e
    · exact (h.n1 _ hg).1 e
  · rcases hn g hg with e2 | e2
    · exact (h.n2 _ e2).1 e
    · omega
  · rintro g hg (e | e)
    · exact (h.n2 _ e).2.2.2.1 hg
    · exact (h.n3 _ hg).1 e
  · obtain ⟨a, b⟩ := h.rd i y hy
    refine ⟨a.kp kk ?_, fun g hg => ?_⟩
    · rintro g hg (e | e)
      · exact (b g hg).2.2.1 e
      · exact (b g hg).1 e
    · obtain ⟨b1, b2, b3, b4, b5⟩ := b g hg
      refine ⟨b1, b2, fun e => ?_, b4, Nat.lt_of_lt_of_le b5.1 kk.size, b5.2⟩
      rcases hn g e with e2 | e2
      · exact b3 e2
      · omega
  · obtain ⟨a, b, c, d, e⟩ := h.n1 g hg
    refine ⟨a, b, c, fun e2 => ?_, e⟩
    rcases hn g e2 with e3 | e3
    · exact d e3
    · have := h.o1.lt hg; omega
  · rcases hn g hg with e | e
    · exact h.n2 g e
    · exact ⟨by omega, by omega, by omega, fun e2 => by have := h.o3.lt e2; omega, by omega⟩
theorem OfM.app3 (h : OfM f w0 bm bf br V1 V2 V3 k1 k2 k3 Vs w) (ho : Own BoK 4 w' V' (opL f (k3 + 1))) (hk : Kp (fun k => V3.ownBlock = some k) w w') (hn : ∀ g, V'.ownBlock = some g → V3.ownBlock = some g ∨ w.heap.size ≤ g) :
    OfM f w0 bm bf br V1 V2 V' k1 k2 (k3 + 1) Vs (w'.setCell ⟨bm, 2, none⟩ V') := by
  obtain ⟨l0, l1, l2, l3⟩ := h.lts
  have hs := (Kp.refl (fun j => j = bm) w').setCell (p := ⟨bm, 2, none⟩) (fun _ => rfl) V'
  have kk : Kp (fun j => V3.ownBlock = some j ∨ j = bm) w (w'.setCell ⟨bm, 2, none⟩ V') := (hk.mono (fun _ _ e => .inl e)).trans' hs (fun j _ e => .inr e)
  have m0 : ¬ V3.ownBlock = some bm := fun e => (h.n3 _ e).1 rfl
  refine ⟨?_, h.bx.kps kk ?_ ?_, kk.blk h.rs ?_, h.o1.kp kk ?_, h.o2.kp kk ?_, ho.kp hs (fun g hg e => ?_), h.len, fun i y hy => ?_, fun g hg => ?_, fun g hg => ?_, fun g hg => ?_, h.nb⟩
  · have := blk_set (hk.blk h.blk m0) 2 V'; simpa using this
  · rintro (e | e)
    · exact (h.n3 _ e).2.1 rfl
    · exact h.nb.1 e.symm
  · rintro j (e | e)
    · exact (h.n3 _ e).2.2.2
    · rw [e]; exact h.nb.2.2.1
  · rintro (e | e)
    · exact (h.n3 _ e).2.2.1 rfl
    · exact h.nb.2.1 e.symm
  · rintro g hg (e | e)
    · exact (h.n1 _ hg).2.2.2.2.1 e
    · exact (h.n1 _ hg).1 e
  · rintro g hg (e | e)
    · exact (h.n2 _ hg).2.2.2.1 e
    · exact (h.n2 _ hg).1 e
  · rcases hn g hg with e2 | e2
    · exact (h.n3 _ e2).1 e
    · omega
  · obtain ⟨a, b⟩ := h.rd i y hy
    refine ⟨a.kp kk ?_, fun g hg => ?_⟩
    · rintro g hg (e | e)
      · exact (b g hg).2.2.2.1 e
      · exact (b g hg).1 e
    · obtain ⟨b1, b2, b3, b4, b5⟩ := b g hg
      refine ⟨b1, b2, b3, fun e => ?_, Nat.lt_of_lt_of_le b5.1 kk.size, b5.2⟩
      rcases hn g e with e2 | e2
      · exact b4 e2
      · omega
  · obtain ⟨a, b, c, d, e, j⟩ := h.n1 g hg
    refine ⟨a, b, c, d, fun e2 => ?_, j⟩
    rcases hn g e2 with e3 | e3
    · exact e e3
    · have := h.o1.lt hg; omega
  · obtain ⟨a, b, c, d, e⟩ := h.n2 g hg
    refine ⟨a, b, c, fun e2 => ?_, e⟩
    rcases hn g e2 with e3 | e3
    · exact d e3
    · have := h.o2.lt hg; omega
  · rcases hn g hg with e | e
    · exact h.n3 g e
    · exact ⟨by omega, by omega, by omega, by omega⟩
end
theorem OfM.start (f : Flr) (w : World) : OfM f w (w.heap.size + 1 + 1) w.heap.size (w.heap.size + 1) (.slice none 0 0) (.slice none 0 0) (.slice none 0 0) 0 0 0 [] (((w.alloc (.cells #[.int .i64 f.W, .int .i64 f.H, .string f.s] 23)).alloc (.cells #[.slice none 0 0, .slice none 0 0, .slice none 0 0] 36)).alloc (.cells #[.slice none 0 0, .slice none 0 0, .slice none 0 0] 36)) := by
  refine ⟨?_, (BxW.new f w).no (((Kp.refl _ _).alloc _).alloc _), ?_, Own.nil _ _ _, Own.nil _ _ _, Own.nil _ _ _, rfl, fun i v hv => by simp at hv, fun g hg => by simp [Value.ownBlock] at hg, fun g hg => by simp [Value.ownBlock] at hg, fun g hg => by simp [Value.ownBlock] at hg, by omega⟩
  · have := blk_new ((w.alloc (.cells #[.int .i64 f.W, .int .i64 f.H, .string f.s] 23)).alloc (.cells #[.slice none 0 0, .slice none 0 0, .slice none 0 0] 36)) (.cells #[.slice none 0 0, .slice none 0 0, .slice none 0 0] 36)
    simpa using this
  · refine blk_alloc ?_ _
    have := blk_new (w.alloc (.cells #[.int .i64 f.W, .int .i64 f.H, .string f.s] 23)) (.cells #[.slice none 0 0, .slice none 0 0, .slice none 0 0] 36)
    simpa using this
/-- The map, told. -/
theorem OfM.out {f : Flr} {w0 w : World} {bm bf br n q1 q2 q3 : Nat} {A1 A2 A3 : Option Addr} {Vs : List SlC} (h : OfM f w0 bm bf br (.slice A1 n q1) (.slice A2 n q2) (.slice A3 n q3) n n n Vs w) (hn : n = mpN f) (v0 v1 v2 : Value) :
    MpW f n ⟨A1, q1, A2, q2, A3, q3⟩ Vs (((w.setCell ⟨br, 0, none⟩ v0).setCell ⟨br, 1, none⟩ v1).setCell ⟨br, 2, none⟩ v2) ∧ Kp No w0 (((w.setCell ⟨br, 0, none⟩ v0).setCell ⟨br, 1, none⟩ v1).setCell ⟨br, 2, none⟩ v2) := by
  have hs := (((Kp.refl (fun j => j = br) w).setCell (p := ⟨br, 0, none⟩) (fun _ => rfl) v0).setCell (p := ⟨br, 1, none⟩) (fun _ => rfl) v1).setCell (p := ⟨br, 2, none⟩) (fun _ => rfl) v2
  exact ⟨⟨hn, h.o1.rd.kp hs (fun g hg e => (h.n1 g hg).2.2.1 e), h.o2.rd.kp hs (fun g hg e => (h.n2 g hg).2.2.1 e), h.o3.rd.kp hs (fun g hg e => (h.n3 g hg).2.2.1 e), h.len, fun i v hv => (h.rd i v hv).1.kp hs (fun g hg e => ((h.rd i v hv).2 g hg).2.2.2.2.2 e)⟩, h.bx.kp.trans' hs (fun j hj e => by have := h.nb.2.2.2; omega)⟩
theorem lnB_snoc (f : Flr) (k : Nat) (b : Bool) (hb : b = decide (kdS f.s k = 2)) : lnB f (k + 1) (k + 1) = lnB f k k ++ [b] := by
  subst hb
  unfold lnB
  rw [List.range_succ, List.map_append]
  congr 1
  · apply List.map_congr_left
    intro i hi
    rw [List.mem_range] at hi
    rw [decide_eq_decide]; omega
  · simp
theorem opL_snoc (f : Flr) (k : Nat) (b : Bool) (hb : b = (bt f.s k != 35)) : opL f (k + 1) = opL f k ++ [b] := by
  subst hb
  unfold opL
  rw [List.range_succ, List.map_append]
  rfl
end Go.Proofs.YtgdokpfepfmbmaaDoor

namespace Go.Proofs.YtgdokpfepfmbmaaDoor
set_option linter.unusedVariables false
set_option linter.unusedSimpArgs false
open Go.RowKit

def OfR (f : Flr) (w : World) (e : Ending) (w' : World) : Prop :=
  ∃ A1 q1 A2 q2 A3 q3 Vs, e = .returned (.agg #[.slice A1 (mpN f) q1, .slice A2 (mpN f) q2, .slice A3 (mpN f) q3]) ∧ MpW f (mpN f) ⟨A1, q1, A2, q2, A3, q3⟩ Vs w' ∧ Kp No w w'
set_option maxHeartbeats 2000000 in
set_option maxRecDepth 100000 in
theorem q5Of_any (f : Flr) (hsz : f.s.size ≤ 1000000) (w : World) : Calls Tryd.prog 15 #[f.val] w (OfR f w) := by
  obtain ⟨F, hF⟩ : ∃ F, F = f := ⟨_, rfl⟩
  rw [show OfR f w = OfR F w by rw [hF]]
  have HF := Lib.hid hF
  unfold OfR
  have O0 := OfM.start F w
  cases hb : rightB f with
  | false =>
    have HRT := Lib.hid (qright_at f (by omega) false hb)
    have hn0 : mpN F = 0 := by rw [hF]; unfold mpN; rw [hb]; simp
    have HN0 := Lib.hid hn0
    rw [hn0]
    rw [hF] at O0
    obtain ⟨X, Y, s⟩ := f
    have O1 := Lib.hid O0
    unfold Flr.val at HRT ⊢
    clear hb hF hn0 hsz O0
    go_enter Tryd.func15, Tryd.ntmps15
    go_wp2_with fail
    refine (HRT.out _).mono ?_
    rintro e w1 ⟨rfl, kp1⟩
    have O2 := Lib.hid (O1.out.no kp1)
    obtain ⟨bm, hbm⟩ : ∃ b, b = w.heap.size + 1 + 1 := ⟨_, rfl⟩
    obtain ⟨br, hbr⟩ : ∃ b, b = w.heap.size + 1 := ⟨_, rfl⟩
    rw [← hbm, ← hbr] at O2 ⊢
    have hc0 := O2.out.c0; have hc1 := O2.out.c1; have hc2 := O2.out.c2
    have hf0 : w1.frozen? ⟨br, 0, none⟩ = false := blk_free O2.out.rs 0
    have hf1 : w1.frozen? ⟨br, 1, none⟩ = false := blk_free O2.out.rs 1
    have hf2 : w1.frozen? ⟨br, 2, none⟩ = false := blk_free O2.out.rs 2
    have hg0 : w1.cell? ⟨br, 0, none⟩ = some (.slice none 0 0) := blk_cell O2.out.rs 0
    have hg1 : w1.cell? ⟨br, 1, none⟩ = some (.slice none 0 0) := blk_cell O2.out.rs 1
    have hg2 : w1.cell? ⟨br, 2, none⟩ = some (.slice none 0 0) := blk_cell O2.out.rs 2
    have hs0 := fun v => box_set (i := 0) O2.out.rs (by decide) v
    have hs1 := fun v0 v => box_set (i := 1) (blk_set O2.out.rs 0 v0) (by simp) v
    have hs2 := fun v0 v1 v => box_set (i := 2) (blk_set (blk_set O2.out.rs 0 v0) 1 v1) (by simp) v
    clear kp1 hbm hbr O1
    go_wp2_with fail
    obtain ⟨m1, m2⟩ := O2.out.out (by rw [← HF.out]; exact HN0.out.symm) (.slice none 0 0) (.slice none 0 0) (.slice none 0 0)
    exact bodyPost_ret (v := .agg #[.slice none 0 0, .slice none 0 0, .slice none 0 0]) (by simp [results, Tryd.results15, go_sem, hs0, hs1, hs2]) rfl ⟨none, 0, none, 0, none, 0, _, rfl, by rw [HF.out]; exact m1, m2⟩
  | true =>
    have HRT := Lib.hid (qright_at f (by omega) true hb)
    have hn0 : mpN F = F.s.size := by rw [hF]; unfold mpN; rw [hb]; simp
    have hs256 : f.s.size ≤ 256 := (rightB_iff.1 hb).s256
    obtain ⟨n, hn⟩ : ∃ n, n = F.s.size := ⟨_, rfl⟩
    rw [← hn] at hn0
    have HN0 := Lib.hid hn0
    rw [hn0]
    rw [hF] at O0
    have HN := Lib.hid hn
    have hnI : ((f.s.size : Nat) : Int) = (n : Int) := by rw [hn, hF]
    have hn256 : n ≤ 256 := by rw [hn, hF]; exact hs256
    have HR := Lib.hid (show rightB F = true by rw [hF]; exact hb)
    obtain ⟨X, Y, s⟩ := f
    simp only at hnI
    have O1 := Lib.hid O0
    unfold Flr.val at HRT ⊢
    clear hb hF hn0 hsz O0 hn hs256
    go_enter Tryd.func15, Tryd.ntmps15
    go_wp2_with fail
    refine (HRT.out _).mono ?_
    rintro e w1 ⟨rfl, kp1⟩
    obtain ⟨bm, hbm⟩ : ∃ b, b = w.heap.size + 1 + 1 := ⟨_, rfl⟩
    obtain ⟨br, hbr⟩ : ∃ b, b = w.heap.size + 1 := ⟨_, rfl⟩
    obtain ⟨bf, hbf⟩ : ∃ b, b = w.heap.size := ⟨_, rfl⟩
    have O2 := Lib.hid (show OfM F w bm bf br (.slice none 0 0) (.slice none 0 0) (.slice none 0 0) 0 0 0 [] w1 by
      rw [hbm, hbr, hbf, HF.out]; exact O1.out.no kp1)
    rw [← hbm, ← hbr, ← hbf]
    clear kp1 hbm hbr hbf O1
    go_wp2_with fail
    go_loopg [4] (n + 1) (fun g_ iv wx => ∃ (i : Nat) (A1 : Option Addr) (q1 : Nat) (A2 : Option Addr) (q2 : Nat) (A3 : Option Addr) (q3 : Nat) (Vs : List SlC), g_ = n + 1 - i ∧ iv = .int .i64 i ∧ i ≤ n ∧ OfM F w bm bf br (.slice A1 i q1) (.slice A2 i q2) (.slice A3 i q3) i i i Vs wx)
    case atStart => exact ⟨0, none, 0, none, 0, none, 0, [], rfl, rfl, by omega, O2.out⟩
    case round =>
      obtain ⟨i, A1, q1, A2, q2, A3, q3, Vs, hg, rfl, hi, om⟩ := hrel
      have OM := Lib.hid om
      have bx : BxW ⟨X, Y, s⟩ bf w wr := by have := om.bx; rwa [HF.out] at this
      have hb0 : wr.cell? ⟨bf, 0, none⟩ = some (.int .i64 X) := bx.c0
      have hb1 : wr.cell? ⟨bf, 1, none⟩ = some (.int .i64 Y) := bx.c1
      have hb2 : wr.cell? ⟨bf, 2, none⟩ = some (.string s) := bx.c2
      clear om bx O2
      by_cases hlt : i < n
      · have hltI : (i : Int) < (n : Int) := by omega
        have hwi : IntKind.i64.wrap ((i : Int) + 1) = (i : Int) + 1 := IntWalk.i64_in _ (by omega)
        have hiF : i < F.s.size := by rw [← HN.out]; exact hlt
        obtain ⟨L, hL⟩ : ∃ L, nearP F i = L := ⟨_, rfl⟩
        have NE := Lib.hid (fun wx => show Calls Tryd.prog 37 #[F.val, .int .i64 (i : Int)] wx (RetI L wx) by
          rw [← hL]; exact (qnear_any F (by rw [← HN.out]; omega) i (by omega) wx).mono fun _ _ h => .of h)
        obtain ⟨Z, hZ⟩ : ∃ Z, zoneP F i = Z := ⟨_, rfl⟩
        obtain ⟨zi, hzi⟩ : ∃ zi : Nat, zi = Z.getD 0 := ⟨_, rfl⟩
        obtain ⟨zb, hzb⟩ : ∃ zb : Bool, zb = Z.isSome := ⟨_, rfl⟩
        have ZO := Lib.hid (fun wx => show Calls Tryd.prog 36 #[F.val, .int .i64 (i : Int)] wx fun e w' => e = .returned (.tuple #[.int .i64 (zi : Int), .bool zb]) ∧ Kp No wx w' by
          rw [hzi, hzb]
          exact (qzone_any F (by rw [← HN.out]; omega) i (by omega) wx).mono fun _ _ h => by rw [hZ] at h; exact h)
        have HZB := Lib.hid (show zb = decide (kdS F.s i = 2) by rw [hzb, ← hZ]; exact zone_isSome F i HR.out hiF)
        rw [HF.out] at NE ZO
        unfold Flr.val at NE ZO
        simp only at NE ZO
        have HL := Lib.hid hL
        have hjs : i < s.size := by have := HF.out; rw [this] at hiF; exact hiF
        have hbt := bt_at s i hjs
        obtain ⟨ob, hob⟩ : ∃ ob, ob = ((bt s i : Int) != 35) := ⟨_, rfl⟩
        have hbs : (((s[i]'hjs).toNat : Int) != 35) = ob := by rw [hbt, hob]
        have HOB := Lib.hid (show ob = (bt F.s i != 35) by
          rw [hob, HF.out]
          by_cases e : bt s i = 35
          · simp [e]
          · have h1 : ((bt s i : Int) != 35) = true := by simp; omega
            have h2 : (bt s i != 35) = true := by simp [e]
            rw [h1]; exact h2.symm)
        clear hL hZ hzi hzb hiF hlt hbt hob
        go_wp2_with fail
        refine (ZO.out _).mono ?_
        rintro e w2 ⟨rfl, kz⟩
        have O2 := Lib.hid (OM.out.no kz)
        clear kz hb0 hb1 hb2 OM
        have lb : ∀ wx k1 k2 k3 V1 V2 V3 Vs', OfM F w bm bf br V1 V2 V3 k1 k2 k3 Vs' wx → wx.cell? ⟨bf, 0, none⟩ = some (.int .i64 X) ∧ wx.cell? ⟨bf, 1, none⟩ = some (.int .i64 Y) ∧ wx.cell? ⟨bf, 2, none⟩ = some (.string s) := fun wx k1 k2 k3 V1 V2 V3 Vs' h => by
          have h0 := h.bx.c0; have h1 := h.bx.c1; have h2 := h.bx.c2
          rw [HF.out] at h0 h1 h2; exact ⟨h0, h1, h2⟩
        have LB := Lib.hid lb
        clear lb
        obtain ⟨hb0, hb1, hb2⟩ := LB.out _ _ _ _ _ _ _ _ O2.out
        have hm0 := O2.out.c0
        go_upto_region 8 with fail
        go_cut [24, 25, 26, 27, 28, 29, 30, 31] (fun _ _ _ _ _ _ _ _ wx => ∃ A1' q1' Vs', OfM F w bm bf br (.slice A1' (i + 1) q1') (.slice A2 i q2) (.slice A3 i q3) (i + 1) i i Vs' wx)
        case first =>
          go_region_law (first
            | (go_simp; go_at_call 37; refine (NE.out _).mono ?_; rintro e w3 ⟨A, q, rfl, ns⟩; have L3 := O2.out.no (w' := w3) (Kp.trans ((Kp.refl No _).drew) ns.kp); have d0 := L3.c0; have d0a : ∀ o, (w3.alloc o).cell? ⟨bm, 0, none⟩ = some (.slice A1 i q1) := fun o => (L3.no ((Kp.refl No w3).alloc o)).c0; have L3 := Lib.hid L3; have NS := Lib.hid ns; clear ns)
            | (refine stp_app elSv rfl (.tmp 25) (.tmp 29) rfl rfl rfl (v := .slice A1 i q1) (l := Vs) (m := [(A, L.length, q)]) (L3.out.no ((Kp.refl No w3).alloc _)).o1 (Rd.litAt SvK 39 w3 _ [(A, L.length, q)] rfl (by unfold maxLen; simp) _ _ rfl rfl) (by rw [L3.out.len]; unfold maxLen; simp; omega) (by rw [L3.out.len]; simp; omega) ?_; intro V4 w4 m1 m2 m3; obtain ⟨A4, q4, rfl⟩ := m1.rd.shape; rw [List.length_append, L3.out.len, List.length_singleton] at m1 m3 ⊢; have B4 := m2.blk (L3.out.no ((Kp.refl No w3).alloc _)).blk (fun e => (L3.out.n1 _ e).1 rfl); have F4 : w4.frozen? ⟨bm, 0, none⟩ = false := blk_free B4 0; have C4 : w4.cell? ⟨bm, 0, none⟩ = some (.slice A1 i q1) := blk_cell B4 0; have M1 := Lib.hid m1; have M2 := Lib.hid m2; have M3 := Lib.hid m3; clear m1 m2 m3 B4))
          all_goals
            have SZ := L3.out.lts
            have AP := Lib.hid ((L3.out.no ((Kp.refl No w3).alloc (.cells #[.slice A L.length q] 39))).app1 (v := (A, L.length, q)) (by rw [HL.out]; exact NS.out.own.rd.alloc _) (fun g hg => by
              have h1 := NS.out.ge g hg
              have h2 := NS.out.own.lt hg
              have h1 : w2.heap.size ≤ g := by simpa using h1
              obtain ⟨l0, l1, l2, l3⟩ := O2.out.lts
              exact ⟨by omega, fun e => by have := O2.out.o1.lt e; omega, fun e => by have := O2.out.o2.lt e; omega, fun e => by have := O2.out.o3.lt e; omega, by simp; omega, by omega⟩) M1.out M2.out M3.out)
            go_wp2_with fail
            go_meet
            exact ⟨_, _, _, AP.out.no ((Kp.refl No _).drewN 0)⟩
        case rest =>
          obtain ⟨A4, q4, V4, om⟩ := hcut
          have O4 := Lib.hid om
          clear om hb0 hb1 hb2 hm0 O2
          have hm1 := O4.out.c1
          have HL2 := Lib.hid (lnB_len F i i)
          have HL3 := Lib.hid (opL_len F i)
          obtain ⟨wd, hwd⟩ : ∃ x : World, x = wc := ⟨_, rfl⟩
          rw [← hwd] at O4 hm1 ⊢
          clear hwd
          go_upto_region 9 with fail
          go_cut [32, 33, 34, 35, 36, 37] (fun _ _ _ _ _ _ wx => ∃ A2' q2', OfM F w bm bf br (.slice A4 (i + 1) q4) (.slice A2' (i + 1) q2') (.slice A3 i q3) (i + 1) (i + 1) i V4 wx)
          case first =>
            go_wp2_with (at_builtin; refine wpl_append elBo rfl (.tmp 33) (.tmp 35) rfl rfl rfl (v := .slice A2 i q2) (l := lnB F i i) (m := [zb]) (O4.out.o2.alloc _) (Rd.litAt BoK 4 _ _ [zb] rfl (by unfold maxLen; simp) _ _ rfl rfl) (by rw [HL2.out]; unfold maxLen; simp; omega) (by rw [HL2.out]; simp; omega) ?_; intro V5 w5 m1 m2 m3; obtain ⟨A5, q5, rfl⟩ := m1.rd.shape; rw [List.length_append, HL2.out, List.length_singleton] at m1 m3 ⊢; rw [← lnB_snoc F i zb HZB.out] at m1; have B5 := m2.blk (O4.out.no ((Kp.refl No wd).alloc _)).blk (fun e => (O4.out.n2 _ e).1 rfl); have F5 : w5.frozen? ⟨bm, 1, none⟩ = false := blk_free B5 1; have C5 : w5.cell? ⟨bm, 1, none⟩ = some (.slice A2 i q2) := blk_cell B5 1; have AP := Lib.hid ((O4.out.no ((Kp.refl No wd).alloc _)).app2 m1 m2 m3); clear m1 m2 m3 B5)
            go_meet
            exact ⟨_, _, AP.out.no ((Kp.refl No _).drewN 0)⟩
          case rest =>
            obtain ⟨A5, q5, om⟩ := hcut
            have O5 := Lib.hid om
            clear om hm1
            obtain ⟨we, hwe⟩ : ∃ x : World, x = wc := ⟨_, rfl⟩
            rw [← hwe] at O5 ⊢
            clear hwe
            have hm2 := O5.out.c2
            obtain ⟨hb0, hb1, hb2⟩ := LB.out _ _ _ _ _ _ _ _ O5.out
            have lit := Lib.hid (show ∀ wx : World, Rd BoK (wx.alloc (.cells #[.bool ob] 4)) (.slice (some ⟨wx.heap.size, 0, none⟩) 1 1) [ob] from fun wx => Rd.litAt BoK 4 wx _ [ob] rfl (by unfold maxLen; simp) _ _ rfl rfl)
            have hm2a : ∀ o, (we.alloc o).cell? ⟨bm, 2, none⟩ = some (.slice A3 i q3) := fun o => (O5.out.no ((Kp.refl No we).alloc o)).c2
            go_upto_region 10 with fail
            go_region_law (refine stp_app elBo rfl (.tmp 39) (.tmp 45) rfl rfl rfl (v := .slice A3 i q3) (l := opL F i) (m := [ob]) (O5.out.no ((Kp.refl No we).alloc _)).o3 (lit.out we) (by rw [HL3.out]; unfold maxLen; simp; omega) (by rw [HL3.out]; simp; omega) ?_; intro V6 w6 m1 m2 m3; obtain ⟨A6, q6, rfl⟩ := m1.rd.shape; rw [List.length_append, HL3.out, List.length_singleton] at m1 m3 ⊢; rw [← opL_snoc F i ob HOB.out] at m1; have B6 := m2.blk (O5.out.no ((Kp.refl No we).alloc _)).blk (fun e => (O5.out.n3 _ e).1 rfl); have F6 : w6.frozen? ⟨bm, 2, none⟩ = false := blk_free B6 2; have C6 : w6.cell? ⟨bm, 2, none⟩ = some (.slice A3 i q3) := blk_cell B6 2; have AP := Lib.hid ((O5.out.no ((Kp.refl No we).alloc (.cells #[.bool ob] 4)).drew).app3 m1 m2 m3); clear m1 m2 m3 B6)
            all_goals
              go_wp2_with fail
              go_roundg (n + 1 - (i + 1))
              case measure => omega
              case rel => exact ⟨i + 1, A4, q4, A5, q5, A6, q6, V4, rfl, by go_num, by omega, AP.out.no ((Kp.refl No _).drewN 0)⟩
      · obtain rfl : i = n := by omega
        have hd0 : ¬ (i : Int) < (i : Int) := by omega
        have hc0 := OM.out.c0; have hc1 := OM.out.c1; have hc2 := OM.out.c2
        have hf0 : wr.frozen? ⟨br, 0, none⟩ = false := blk_free OM.out.rs 0
        have hf1 : wr.frozen? ⟨br, 1, none⟩ = false := blk_free OM.out.rs 1
        have hf2 : wr.frozen? ⟨br, 2, none⟩ = false := blk_free OM.out.rs 2
        have hg0 : wr.cell? ⟨br, 0, none⟩ = some (.slice none 0 0) := blk_cell OM.out.rs 0
        have hg1 : wr.cell? ⟨br, 1, none⟩ = some (.slice none 0 0) := blk_cell OM.out.rs 1
        have hg2 : wr.cell? ⟨br, 2, none⟩ = some (.slice none 0 0) := blk_cell OM.out.rs 2
        have hs0 := fun v => box_set (i := 0) OM.out.rs (by decide) v
        have hs1 := fun v0 v => box_set (i := 1) (blk_set OM.out.rs 0 v0) (by simp) v
        have hs2 := fun v0 v1 v => box_set (i := 2) (blk_set (blk_set OM.out.rs 0 v0) 1 v1) (by simp) v
        clear hlt
        go_wp2_with fail
        obtain ⟨m1, m2⟩ := OM.out.out HN0.out.symm (.slice A1 i q1) (.slice A2 i q2) (.slice A3 i q3)
        exact bodyPost_ret (v := .agg #[.slice A1 i q1, .slice A2 i q2, .slice A3 i q3]) (by simp [results, Tryd.results15, go_sem, hs0, hs1, hs2]) rfl ⟨A1, q1, A2, q2, A3, q3, rfl, ⟨Vs, m1⟩, m2⟩
end Go.Proofs.YtgdokpfepfmbmaaDoor

namespace Go.Proofs.YtgdokpfepfmbmaaDoor
set_option linter.unusedVariables false
set_option linter.unusedSimpArgs false
open Go.RowKit

/-- The node behind the first k of a way from s. -/
def nd (s : Nat) (Q : List Nat) : Nat → Nat
  | 0 => s
  | k + 1 => Q.getD k 0
theorem nd_succ {s k b : Nat} {Q : List Nat} (h : Q[k]? = some b) : nd s Q (k + 1) = b := by
  show Q.getD k 0 = b
  rw [List.getD_eq_getElem?_getD, h]; rfl
theorem nd_app {s k : Nat} {Q : List Nat} (h : k ≤ Q.length) (b : Nat) : nd s (Q ++ [b]) k = nd s Q k := by
  cases k with
  | zero => rfl
  | succ k =>
    show (Q ++ [b]).getD k 0 = Q.getD k 0
    rw [List.getD_eq_getElem?_getD, List.getD_eq_getElem?_getD, List.getElem?_append_left (by omega)]
theorem nd_last (s : Nat) (Q : List Nat) (b : Nat) : nd s (Q ++ [b]) (Q.length + 1) = b := nd_succ (by simp)
/-- Each step goes to the first neighbour from which there is a walk of the steps that are left. -/
structure FstW (st : Nat → List Nat) (s g : Nat) (Q : List Nat) : Prop where
  en : nd s Q Q.length = g
  at_ : ∀ (k b : Nat), Q[k]? = some b → Wk st b (Q.length - 1 - k) g ∧ ∃ m : Nat, (st (nd s Q k))[m]? = some b ∧ ∀ (m' l : Nat), m' < m → (st (nd s Q k))[m']? = some l → ¬ Wk st l (Q.length - 1 - k) g
structure Chn (st : Nat → List Nat) (s : Nat) (By : List Int) (P : List (Nat × Nat)) (Q I : List Nat) : Prop where
  len : I.length = Q.length
  at_ : ∀ (k b : Nat), Q[k]? = some b → ∃ i m : Nat, I[k]? = some i ∧ P[i]? = some (k + 1, b) ∧ (st (nd s Q k))[m]? = some b ∧ By[b]? = some (nd s Q k : Int) ∧ (∀ m' c', m' < m → (st (nd s Q k))[m']? = some c' → inP P i c') ∧ (∀ j' l' u', j' < nd 0 I k → P[j']? = some (l', u') → ∀ c' ∈ st u', inP P i c')
theorem Wk.front {st : Nat → List Nat} {a b c k : Nat} (h : b ∈ st a) (hw : Wk st b k c) : Wk st a (k + 1) c := by
  induction hw with
  | nil => exact .step .nil h
  | step _ hc ih => exact .step ih hc
theorem Wk.trans {st : Nat → List Nat} {a b c j k : Nat} (h : Wk st a j b) (hw : Wk st b k c) : Wk st a (j + k) c := by
  induction hw with
  | nil => exact h
  | step _ hc ih => exact .step ih hc
section
variable {st : Nat → List Nat} {s n t : Nat} {D By : List Int} {P : List (Nat × Nat)} {Q I : List Nat}
theorem BfI.chain (h : BfI st s n t D By P) : ∀ (i k c : Nat), P[i]? = some (k, c) → ∃ Q I, List.length Q = k ∧ nd s Q k = c ∧ nd 0 I k = i ∧ Chn st s By P Q I := by
  intro i
  induction i using Nat.strongRecOn with
  | _ i ih =>
    intro k c hi
    rcases Nat.eq_zero_or_pos i with rfl | h0
    · rw [h.z] at hi; cases hi
      exact ⟨[], [], rfl, rfl, rfl, rfl, fun k b hb => by simp at hb⟩
    · obtain ⟨j, l, u, m, h1, h2, rfl, h4, h5, h6, h7⟩ := h.by_ _ _ _ h0 hi
      obtain ⟨Q, I, q1, q2, q3, q4⟩ := ih j h1 l u h2
      refine ⟨Q ++ [c], I ++ [i], by simp [q1], by rw [← q1]; exact nd_last s Q c, by rw [← q1, ← q4.len]; exact nd_last 0 I i, by simp [q4.len], fun k b hb => ?_⟩
      rcases Nat.lt_or_ge k Q.length with hk | hk
      · rw [List.getElem?_append_left hk] at hb
        obtain ⟨i2, m2, a1, a2, a3, a4, a5, a6⟩ := q4.at_ k b hb
        rw [nd_app (by omega), nd_app (by rw [q4.len]; omega)]
        exact ⟨i2, m2, by rw [List.getElem?_append_left (by rw [q4.len]; exact hk)]; exact a1, a2, a3, a4, a5, a6⟩
      · have hk2 : k = Q.length := by
          have := (List.getElem?_eq_some_iff.1 hb).1
          simp at this; omega
        subst hk2
        simp at hb; subst hb
        rw [nd_app (Nat.le_refl _), nd_app (by rw [q4.len]; exact Nat.le_refl _), q1, q2, q3]
        exact ⟨i, m, by rw [← q1, ← q4.len]; simp, hi, h4, h5, h6, h7⟩
theorem Chn.low (h : Chn st s By P Q I) {k : Nat} : ∀ d r e, k + d ≤ Q.length → inP P (nd 0 I k) r → Wk st r d e → inP P (nd 0 I (k + d)) e := by
  intro d
  induction d with
  | zero => intro r e _ hr hw; cases hw; exact hr
  | succ d ih =>
    intro r e hd hr hw
    cases hw with
    | step hw hc =>
      obtain ⟨j, l, h1, h2⟩ := ih _ _ (by omega) hr hw
      obtain ⟨b, hb⟩ : ∃ b, Q[k + d]? = some b := ⟨_, List.getElem?_eq_getElem (by omega)⟩
      obtain ⟨i, m, a1, _, _, _, _, a6⟩ := h.at_ _ _ hb
      rw [show k + (d + 1) = (k + d) + 1 by omega, nd_succ a1]
      exact a6 j l _ h1 h2 _ hc
theorem Chn.walk (h : Chn st s By P Q I) : ∀ d k, k + d = Q.length → Wk st (nd s Q k) d (nd s Q Q.length) := by
  intro d
  induction d with
  | zero => intro k hk; rw [show k = Q.length by omega]; exact .nil
  | succ d ih =>
    intro k hk
    obtain ⟨b, hb⟩ : ∃ b, Q[k]? = some b := ⟨_, List.getElem?_eq_getElem (by omega)⟩
    obtain ⟨i, m, _, _, a3, _⟩ := h.at_ _ _ hb
    have := ih (k + 1) (by omega)
    rw [nd_succ hb] at this
    exact .front (List.mem_of_getElem? a3) this
theorem Chn.fst (h : Chn st s By P Q I) (hb : BfI st s n t D By P) : FstW st s (nd s Q Q.length) Q := by
  refine ⟨rfl, fun k b hk => ?_⟩
  have hl := (List.getElem?_eq_some_iff.1 hk).1
  obtain ⟨i, m, a1, a2, a3, a4, a5, a6⟩ := h.at_ _ _ hk
  refine ⟨?_, m, a3, fun m' l hm hl2 hw => ?_⟩
  · have := h.walk (Q.length - 1 - k) (k + 1) (by omega)
    rwa [nd_succ hk] at this
  · have h1 : inP P (nd 0 I (k + 1)) l := by rw [nd_succ a1]; exact a5 m' l hm hl2
    obtain ⟨j, l', h2, h3⟩ := h.low (k := k + 1) (Q.length - 1 - k) l _ (by omega) h1 hw
    rw [show k + 1 + (Q.length - 1 - k) = Q.length by omega] at h2
    obtain ⟨b2, hb2⟩ : ∃ b, Q[Q.length - 1]? = some b := ⟨_, List.getElem?_eq_getElem (by omega)⟩
    obtain ⟨i2, m2, c1, c2, _⟩ := h.at_ _ _ hb2
    have e1 : nd s Q Q.length = b2 := by
      have := nd_succ (s := s) hb2
      rwa [show Q.length - 1 + 1 = Q.length by omega] at this
    have e2 : nd 0 I Q.length = i2 := by
      have := nd_succ (s := 0) c1
      rwa [show Q.length - 1 + 1 = Q.length by omega] at this
    rw [e1] at h3
    have := hb.inj _ _ _ _ _ h3 c2
    omega
theorem Chn.node (h : Chn st s By P Q I) (hb : BfI st s n t D By P) {k : Nat} (h0 : 0 < k) (hk : k ≤ Q.length) : nd s Q k ≠ s ∧ nd s Q k < n ∧ By[nd s Q k]? = some (nd s Q (k - 1) : Int) ∧ Q[k - 1]? = some (nd s Q k) := by
  obtain ⟨b, hb2⟩ : ∃ b, Q[k - 1]? = some b := ⟨_, List.getElem?_eq_getElem (by omega)⟩
  obtain ⟨i, m, a1, a2, a3, a4, _⟩ := h.at_ _ _ hb2
  have e1 : nd s Q k = b := by
    have := nd_succ (s := s) hb2
    rwa [show k - 1 + 1 = k by omega] at this
  rw [e1]
  obtain ⟨c1, c2, _⟩ := hb.q _ _ _ a2
  refine ⟨fun e => ?_, c1, a4, hb2⟩
  rw [e] at c2
  have := (hb.q _ _ _ hb.z).2.1
  rw [c2] at this; simp at this; omega
end
end Go.Proofs.YtgdokpfepfmbmaaDoor

namespace Go.Proofs.YtgdokpfepfmbmaaDoor
set_option linter.unusedVariables false
set_option linter.unusedSimpArgs false
open Go.RowKit

noncomputable def farP (f : Flr) (fr : Nat) (B : List Int) (u g : Nat) : Int := if u = g then 0 else if u ≠ fr ∧ kdS f.s u ≠ 2 then -1 else dst (stepsP f u B) u g
theorem steps_of {f : Flr} {fr : Nat} {B : List Int} {u c : Nat} (h : c ∈ stepsP f fr B u) : u = fr ∨ kdS f.s u = 2 := by
  unfold stepsP at h
  split at h
  · simp at h
  · rename_i hx
    by_cases h1 : u = fr
    · exact .inl h1
    · exact .inr (Classical.byContradiction fun h2 => hx ⟨h1, h2⟩)
theorem steps_sub {f : Flr} {fr l : Nat} {B : List Int} {u c : Nat} (h : c ∈ stepsP f l B u) (hu : u = fr ∨ kdS f.s u = 2) : c ∈ stepsP f fr B u := by
  have h1 := steps_of h
  unfold stepsP at h ⊢
  rw [if_neg (by rintro ⟨a, b⟩; rcases h1 with e | e; exact a e; exact b e)] at h
  rw [if_neg (by rintro ⟨a, b⟩; rcases hu with e | e; exact a e; exact b e)]
  exact h
theorem Wk.sub {st st' : Nat → List Nat} {s k c : Nat} (h : Wk st s k c) (hs : ∀ u c, c ∈ st u → c ∈ st' u) : Wk st' s k c := by
  induction h with
  | nil => exact .nil
  | step _ hc ih => exact .step ih (hs _ _ hc)
theorem dst_self (st : Nat → List Nat) (s : Nat) : dst st s s = 0 := by
  rcases dst_isD st s s with ⟨_, h⟩ | ⟨k, h1, _, h3⟩
  · exact absurd .nil (h 0)
  · have := h3 0 .nil; omega
theorem far_self (f : Flr) (fr : Nat) (B : List Int) (g : Nat) : farP f fr B fr g = dst (stepsP f fr B) fr g := by
  unfold farP
  by_cases e : fr = g
  · subst e; rw [if_pos rfl, dst_self]
  · rw [if_neg e, if_neg (by simp)]
theorem far_iff {f : Flr} {fr : Nat} {B : List Int} {a l g i d n : Nat} (hn : dst (stepsP f fr B) fr g = (n : Int)) (ha : Wk (stepsP f fr B) fr i a) (hl : l ∈ stepsP f fr B a) (hd : i + 1 + d = n) : farP f fr B l g = (d : Int) ↔ Wk (stepsP f fr B) l d g := by
  have least : ∀ j, Wk (stepsP f fr B) fr j g → n ≤ j := by
    rcases dst_isD (stepsP f fr B) fr g with ⟨h, _⟩ | ⟨k, h, _, h3⟩
    · omega
    · obtain rfl : k = n := by omega
      exact h3
  have via : ∀ j, Wk (stepsP f fr B) l j g → d ≤ j := fun j hj => by
    have := least (i + 1 + j) ((Wk.step ha hl).trans hj); omega
  have sub : (l = fr ∨ kdS f.s l = 2) → ∀ u c, c ∈ stepsP f l B u → c ∈ stepsP f fr B u := fun hlf u c hc => by
    refine steps_sub hc ?_
    rcases steps_of hc with rfl | e
    · exact hlf
    · exact .inr e
  unfold farP
  constructor
  · intro h
    by_cases e : l = g
    · rw [if_pos e] at h
      obtain rfl : d = 0 := by omega
      subst e; exact .nil
    · rw [if_neg e] at h
      by_cases e2 : l ≠ fr ∧ kdS f.s l ≠ 2
      · rw [if_pos e2] at h; omega
      · rw [if_neg e2] at h
        have hlf : l = fr ∨ kdS f.s l = 2 := by
          by_cases h1 : l = fr
          · exact .inl h1
          · exact .inr (Classical.byContradiction fun h2 => e2 ⟨h1, h2⟩)
        rcases dst_isD (stepsP f l B) l g with ⟨h1, _⟩ | ⟨k, h1, h2, _⟩
        · omega
        · obtain rfl : k = d := by omega
          exact h2.sub (sub hlf)
  · intro hw
    by_cases e : l = g
    · rw [if_pos e]
      have := via 0 (by subst e; exact .nil)
      omega
    · rw [if_neg e]
      have hlf : l = fr ∨ kdS f.s l = 2 := by
        have : ∃ c, c ∈ stepsP f fr B l := by
          have gen : ∀ j c, Wk (stepsP f fr B) l j c → c = l ∨ ∃ c, c ∈ stepsP f fr B l := by
            intro j c h
            induction h with
            | nil => exact .inl rfl
            | step h hc ih =>
              rcases ih with rfl | ih
              · exact .inr ⟨_, hc⟩
              · exact .inr ih
          rcases gen _ _ hw with h | h
          · exact absurd h.symm e
          · exact h
        obtain ⟨c, hc⟩ := this
        exact steps_of hc
      rw [if_neg (by rintro ⟨a, b⟩; rcases hlf with h | h; exact a h; exact b h)]
      have pre : ∀ j e, Wk (stepsP f fr B) l j e → ∀ r, Wk (stepsP f fr B) e r g → j + r = d → Wk (stepsP f l B) l j e := by
        intro j e h
        induction h with
        | nil => intro r _ _; exact .nil
        | step h hc ih =>
          rename_i j2 a2 c2
          intro r hr hj
          refine .step (ih (r + 1) (.front hc hr) (by omega)) (steps_sub hc ?_)
          rcases steps_of hc with h1 | h1
          · by_cases h2 : a2 = l
            · exact .inl h2
            · exfalso
              rw [h1] at hc
              have := least (r + 1) (.front hc hr)
              omega
          · exact .inr h1
      have hg : Wk (stepsP f l B) l d g := pre d g hw 0 .nil (by omega)
      exact (dst_isD _ _ _).uniq (.inr ⟨d, rfl, hg, fun j hj => via j (hj.sub (sub hlf))⟩)
theorem FstW.walk {st : Nat → List Nat} {s g : Nat} {Q : List Nat} (h : FstW st s g Q) : ∀ k, k ≤ Q.length → Wk st s k (nd s Q k) := by
  intro k
  induction k with
  | zero => intro _; exact .nil
  | succ k ih =>
    intro hk
    obtain ⟨b, hb⟩ : ∃ b, Q[k]? = some b := ⟨_, List.getElem?_eq_getElem (by omega)⟩
    obtain ⟨_, m, hm, _⟩ := h.at_ k b hb
    rw [nd_succ hb]
    exact .step (ih (by omega)) (List.mem_of_getElem? hm)
end Go.Proofs.YtgdokpfepfmbmaaDoor

namespace Go.Proofs.YtgdokpfepfmbmaaDoor
set_option linter.unusedVariables false
set_option linter.unusedSimpArgs false
open Go.RowKit

/-- m levels are done; in the next one the cells ahead of i. -/
structure LvI (st : Nat → List Nat) (s n m i : Nat) (D : List Int) : Prop where
  len : D.length = n
  a : ∀ (c : Nat) d, D[c]? = some d → d = -1 ∨ ∃ k : Nat, d = k ∧ Wk st s k c ∧ k ≤ m + 1
  b : ∀ (k c : Nat), k ≤ m → Wk st s k c → ∃ k' : Nat, k' ≤ k ∧ D[c]? = some (k' : Int)
  c : ∀ (u : Nat), u < i → D[u]? = some (m : Int) → ∀ c ∈ st u, ∃ k' : Nat, k' ≤ m + 1 ∧ D[c]? = some (k' : Int)
/-- ...and of what the i-th goes to, the first j. -/
structure LvJ (st : Nat → List Nat) (s n m i j : Nat) (D : List Int) : Prop where
  v : LvI st s n m i D
  at_ : D[i]? = some (m : Int)
  p : ∀ c ∈ (st i).take j, ∃ k' : Nat, k' ≤ m + 1 ∧ D[c]? = some (k' : Int)
section
variable {st : Nat → List Nat} {s n m i j c : Nat} {D : List Int}
theorem LvI.start (hs : s < n) : LvI st s n 0 0 ((List.replicate n (-1 : Int)).set s 0) := by
  refine ⟨by simp, fun c d h => ?_, fun k c hk hw => ?_, fun u hu => by omega⟩
  · rw [List.getElem?_set, List.length_replicate] at h
    by_cases e : s = c
    · subst e; rw [if_pos rfl, if_pos hs] at h; cases h; exact .inr ⟨0, rfl, .nil, by omega⟩
    · rw [if_neg e, List.getElem?_replicate] at h
      split at h
      · cases h; exact .inl rfl
      · cases h
  · obtain rfl : k = 0 := by omega
    cases hw
    exact ⟨0, Nat.le_refl _, by simp [hs]⟩
theorem LvI.skip (h : LvI st s n m i D) (hd : D[i]? ≠ some (m : Int)) : LvI st s n m (i + 1) D :=
  ⟨h.len, h.a, h.b, fun u hu hu2 => by
    rcases Nat.lt_or_ge u i with h1 | h1
    · exact h.c u h1 hu2
    · obtain rfl : u = i := by omega
      exact absurd hu2 hd⟩
theorem LvI.into (h : LvI st s n m i D) (hd : D[i]? = some (m : Int)) : LvJ st s n m i 0 D := ⟨h, hd, fun c hc => by simp at hc⟩
theorem LvJ.skip (h : LvJ st s n m i j D) (hc : (st i)[j]? = some c) {d : Int} (hd : D[c]? = some d) (h0 : 0 ≤ d) : LvJ st s n m i (j + 1) D :=
  ⟨h.v, h.at_, fun c' hc' => by
    rw [List.take_add_one, hc] at hc'
    rcases List.mem_append.1 hc' with h2 | h2
    · exact h.p c' h2
    · simp at h2; subst h2
      rcases h.v.a _ _ hd with e | ⟨k, rfl, _, h3⟩
      · omega
      · exact ⟨k, h3, hd⟩⟩
theorem LvJ.put (h : LvJ st s n m i j D) (hc : (st i)[j]? = some c) (hcn : c < n) {d : Int} (hd : D[c]? = some d) (h0 : d < 0) : LvJ st s n m i (j + 1) (D.set c ((m : Int) + 1)) := by
  have hcl : c < D.length := by rw [h.v.len]; exact hcn
  have keep : ∀ (e : Nat) (k : Nat), D[e]? = some (k : Int) → (D.set c ((m : Int) + 1))[e]? = some (k : Int) := fun e k he => by
    rw [List.getElem?_set, if_neg]
    · exact he
    · rintro rfl; rw [hd] at he; cases he; omega
  have back : ∀ (e : Nat), (D.set c ((m : Int) + 1))[e]? = some (m : Int) → D[e]? = some (m : Int) := fun e he => by
    rw [List.getElem?_set] at he
    by_cases e2 : c = e
    · subst e2; rw [if_pos rfl, if_pos hcl] at he; simp at he; omega
    · rwa [if_neg e2] at he
  obtain ⟨wm, hwm⟩ : ∃ k : Nat, (m : Int) = k ∧ Wk st s k i ∧ k ≤ m + 1 := by
    rcases h.v.a _ _ h.at_ with e | e
    · omega
    · exact e
  obtain rfl : m = wm := by omega
  refine ⟨⟨by simp [h.v.len], fun e d2 he => ?_, fun k e hk hw => ?_, fun u hu hu2 e he => ?_⟩, keep _ _ h.at_, fun e he => ?_⟩
  · rw [List.getElem?_set] at he
    by_cases e2 : c = e
    · subst e2
      rw [if_pos rfl, if_pos hcl] at he; cases he
      exact .inr ⟨m + 1, by omega, .step hwm.2.1 (List.mem_of_getElem? hc), by omega⟩
    · rw [if_neg e2] at he; exact h.v.a _ _ he
  · obtain ⟨k', h1, h2⟩ := h.v.b k e hk hw
    exact ⟨k', h1, keep _ _ h2⟩
  · obtain ⟨k', h1, h2⟩ := h.v.c u hu (back _ hu2) e he
    exact ⟨k', h1, keep _ _ h2⟩
  · rw [List.take_add_one, hc] at he
    rcases List.mem_append.1 he with h2 | h2
    · obtain ⟨k', h3, h4⟩ := h.p e h2
      exact ⟨k', h3, keep _ _ h4⟩
    · simp at h2; subst h2
      exact ⟨m + 1, Nat.le_refl _, by rw [List.getElem?_set, if_pos rfl, if_pos hcl]; simp⟩
theorem LvJ.done (h : LvJ st s n m i (st i).length D) : LvI st s n m (i + 1) D :=
  ⟨h.v.len, h.v.a, h.v.b, fun u hu hu2 c hc => by
    rcases Nat.lt_or_ge u i with h1 | h1
    · exact h.v.c u h1 hu2 c hc
    · obtain rfl : u = i := by omega
      exact h.p c (by rw [List.take_length]; exact hc)⟩
theorem LvI.next (h : LvI st s n m n D) : LvI st s n (m + 1) 0 D := by
  refine ⟨h.len, fun c d hd => ?_, fun k c hk hw => ?_, fun u hu => by omega⟩
  · rcases h.a c d hd with e | ⟨k, e, hw, hk⟩
    · exact .inl e
    · exact .inr ⟨k, e, hw, by omega⟩
  · rcases Nat.lt_or_ge k (m + 1) with h1 | h1
    · exact h.b k c (by omega) hw
    · obtain rfl : k = m + 1 := by omega
      cases hw with
      | step hw hc =>
        rename_i a
        obtain ⟨k', h2, h3⟩ := h.b m a (Nat.le_refl _) hw
        rcases Nat.lt_or_ge k' m with h4 | h4
        · rcases h.a _ _ h3 with e | ⟨k2, e, hw2, _⟩
          · omega
          · obtain rfl : k' = k2 := by omega
            obtain ⟨k3, h5, h6⟩ := h.b (k' + 1) c (by omega) (.step hw2 hc)
            exact ⟨k3, by omega, h6⟩
        · obtain rfl : k' = m := by omega
          exact h.c a (by have := (List.getElem?_eq_some_iff.1 h3).1; rw [h.len] at this; exact this) h3 c hc
theorem short_list (st : Nat → List Nat) (s n : Nat) (hs : s < n) (hst : ∀ u c, u < n → c ∈ st u → c < n) : ∀ (k c : Nat), Wk st s k c → (∀ j, Wk st s j c → k ≤ j) → ∃ L : List Nat, L.length = k + 1 ∧ (∀ x ∈ L, x < n) ∧ L.Nodup ∧ (∀ x ∈ L, ∃ j, j ≤ k ∧ Wk st s j x) ∧ c < n := by
  intro k
  induction k with
  | zero => intro c hw _; cases hw; exact ⟨[s], rfl, by simpa using hs, by simp, by simpa using .nil, hs⟩
  | succ k ih =>
    intro c hw hl
    cases hw with
    | step hw hc =>
      rename_i a
      obtain ⟨L, h1, h2, h3, h4, h5⟩ := ih a hw (fun j hj => by have := hl (j + 1) (.step hj hc); omega)
      have hcn := hst a c h5 hc
      refine ⟨c :: L, by simp [h1], fun x hx => ?_, ?_, fun x hx => ?_, hcn⟩
      · rcases List.mem_cons.1 hx with rfl | hx
        · exact hcn
        · exact h2 x hx
      · rw [List.nodup_cons]
        refine ⟨fun hm => ?_, h3⟩
        obtain ⟨j, hj, hw2⟩ := h4 c hm
        have := hl j hw2; omega
      · rcases List.mem_cons.1 hx with rfl | hx
        · exact ⟨k + 1, Nat.le_refl _, .step hw hc⟩
        · obtain ⟨j, hj, hw2⟩ := h4 x hx
          exact ⟨j, by omega, hw2⟩
theorem short_lt {st : Nat → List Nat} {s n : Nat} (hs : s < n) (hst : ∀ u c, u < n → c ∈ st u → c < n) {k c : Nat} (hw : Wk st s k c) (hl : ∀ j, Wk st s j c → k ≤ j) : k < n := by
  obtain ⟨L, h1, h2, h3, _⟩ := short_list st s n hs hst k c hw hl
  have := List.Nodup.length_le_of_subset h3 (l₂ := List.range n) (fun x hx => by simpa using h2 x hx)
  simp at this; omega
theorem LvI.dl (h : LvI st s n n 0 D) (hs : s < n) (hst : ∀ u c, u < n → c ∈ st u → c < n) : D = distL st s n := by
  refine distL_of h.len fun c d hd => ?_
  have least : ∀ k, Wk st s k c → ∃ k0, k0 ≤ k ∧ D[c]? = some (k0 : Int) := fun k hw => by
    obtain ⟨k1, hw1, hl1⟩ := least_ex (p := fun k => Wk st s k c) k hw
    have := short_lt hs hst hw1 hl1
    obtain ⟨k2, h1, h2⟩ := h.b k1 c (by omega) hw1
    exact ⟨k2, by have := hl1 k hw; omega, h2⟩
  rcases h.a c d hd with e | ⟨k, rfl, hw, _⟩
  · refine .inl ⟨e, fun k hw => ?_⟩
    obtain ⟨k0, _, h2⟩ := least k hw
    rw [hd] at h2; cases h2; omega
  · refine .inr ⟨k, rfl, hw, fun k' hw' => ?_⟩
    obtain ⟨k0, h1, h2⟩ := least k' hw'
    rw [hd] at h2; simp at h2; omega
end
end Go.Proofs.YtgdokpfepfmbmaaDoor

namespace Go.Proofs.YtgdokpfepfmbmaaDoor
set_option linter.unusedVariables false
set_option linter.unusedSimpArgs false
open Go.RowKit

theorem dst_mono {st st' : Nat → List Nat} (hs : ∀ u c, c ∈ st' u → c ∈ st u) {s c : Nat} (h : 0 ≤ dst st' s c) : 0 ≤ dst st s c ∧ dst st s c ≤ dst st' s c := by
  rcases dst_isD st' s c with ⟨e, _⟩ | ⟨k, e, hw, _⟩
  · omega
  · have hw2 := hw.sub hs
    rcases dst_isD st s c with ⟨_, h2⟩ | ⟨j, e2, _, h3⟩
    · exact absurd hw2 (h2 k)
    · have := h3 k hw2; omega
theorem steps_more {f : Flr} {fr : Nat} {B C : List Int} : ∀ u c, c ∈ stepsP f fr (B ++ C) u → c ∈ stepsP f fr B u := by
  intro u c h
  unfold stepsP at h ⊢
  split at h
  · simp at h
  · rename_i hx
    rw [if_neg hx]
    rw [List.mem_filter] at h ⊢
    refine ⟨h.1, ?_⟩
    have h2 := h.2
    simp at h2 ⊢
    exact h2.1
theorem dist_len (f : Flr) (fr : Int) (B C : List Int) : (distP f fr B).length = (distP f fr C).length := by
  unfold distP
  split
  · rw [distL_len, distL_len]
  · rfl
theorem dist_less {f : Flr} {fr : Int} {B C : List Int} {i : Nat} {a b : Int} (ha : (distP f fr B)[i]? = some a) (hb : (distP f fr (B ++ C))[i]? = some b) (h0 : 0 ≤ b) : 0 ≤ a ∧ a ≤ b := by
  unfold distP at ha hb
  by_cases hok : ptOk f fr = true
  · rw [if_pos hok] at ha hb
    have hl := (List.getElem?_eq_some_iff.1 ha).1
    rw [distL_len] at hl
    rw [distL_get hl] at ha hb
    cases ha; cases hb
    exact dst_mono steps_more h0
  · rw [if_neg hok] at ha; simp at ha
end Go.Proofs.YtgdokpfepfmbmaaDoor
