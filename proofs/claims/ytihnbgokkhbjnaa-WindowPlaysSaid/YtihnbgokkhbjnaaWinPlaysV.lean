/- WindowPlays: the walk. -/
import Derived.Test.YtihnbgokkhbjnaaWinPlaysW
namespace Go.Proofs.Ytihnbgokkhbjnaa
set_option linter.unusedVariables false
set_option linter.unusedSimpArgs false
open Go.RowKit

theorem box4 {w1 w' : World} {g : Nat} {x y z u : Value} {t : TypeId} (h : w1.heap[g]? = some (.cells #[x, y, z, u] t (0, 0))) (hk : Kp No w1 w') :
    w'.cell? ⟨g, 0, none⟩ = some x ∧ w'.cell? ⟨g, 1, none⟩ = some y ∧ w'.cell? ⟨g, 2, none⟩ = some z ∧ w'.cell? ⟨g, 3, none⟩ = some u :=
  ⟨(blk_cell (hk.blk h (no_no _)) 0).trans rfl, (blk_cell (hk.blk h (no_no _)) 1).trans rfl, (blk_cell (hk.blk h (no_no _)) 2).trans rfl, (blk_cell (hk.blk h (no_no _)) 3).trans rfl⟩

set_option maxHeartbeats 2000000 in
set_option maxRecDepth 100000 in
theorem plays_any (A : Option Addr) (cap : Nat) (l : List WAct) (c m : Int) (w : World) (hl : RdA AK w (.slice A l.length cap) l) (hlc : l.length ≤ cap) (hc : cap ≤ maxLen) (hg : ∀ a ∈ l, 0 ≤ a.k) :
    Calls Try.prog 6 #[.slice A l.length cap, .int .i64 c, .int .i64 m] w fun e w' => e = .returned (.bool true) ∧ Kp No w w' := by
  obtain ⟨acts, ha⟩ : ∃ acts, acts = l.take 200 := ⟨_, rfl⟩
  obtain ⟨N, hN⟩ : ∃ N, N = min 200 l.length := ⟨_, rfl⟩
  have hal : acts.length = N := by rw [ha, List.length_take, hN]
  have hrd : RdA AK w (.slice A N cap) acts := by rw [hN, ha]; exact hl.take 200
  have hga : ∀ a ∈ acts, 0 ≤ a.k := fun a h => hg a (List.mem_of_mem_take (ha ▸ h))
  have hNb : N ≤ 200 := by omega
  have HN := Lib.hid hN; have HRD := Lib.hid hrd; have HG := Lib.hid hga; have HAL := Lib.hid hal
  clear hl hN hrd hg hga ha hal
  go_enter Try.func6, Try.ntmps6
  go_wp2_with fail
  refine (shown_any _).mono ?_
  rintro e w1 ⟨rfl, k1⟩
  have K1 := Lib.hid k1; clear k1
  go_wp2_with fail
  refine (new_at _).mono ?_
  rintro e w2 ⟨bt, rfl, r2⟩
  have R2 := Lib.hid r2; clear r2
  go_wp2_with fail
  refine (few_any hlc hc).mono ?_
  rintro e w3 ⟨rfl, hw3⟩
  rw [← HN.out]
  have hJ : AtJ w1 bt (fun _ => []) w2.heap.size [] w3 := by
    rw [hw3]
    obtain ⟨F, h1, h2, h3, h4⟩ := R2.out
    have := h2.size
    exact ⟨F, .slice none 0 0, h1.kpNo ((Kp.refl _ _).alloc _), ⟨blk_new w2 _, Rd.nil _ _, by simp [Value.ownBlock]⟩, fun hF => by have := h1.lt.2 _ hF; omega, by have := h1.lt.1; omega, by simp [Value.ownBlock], h2.alloc _, h3, by omega⟩
  have HJ := Lib.hid hJ
  clear hJ hw3
  generalize w2.heap.size = br at *
  go_wp2
  go_loopw [23] (fun i wr => ∃ k : Nat, ∃ R : List Rw, i = .int .i64 k ∧ k ≤ N ∧ AtJ w1 bt (playT (acts.take k)) br R wr ∧ (∀ c, flt R c = playT (acts.take k) c) ∧ R.length ≤ k) (fun i _ => N - (intOf i).toNat)
  case atStart => exact ⟨0, [], rfl, by omega, HJ.out, fun _ => rfl, by simp⟩
  case round =>
    obtain ⟨k, R, rfl, hk, hat, hR, hRl⟩ := hrel
    by_cases hlt : k < N
    · obtain ⟨x, hx⟩ : ∃ x, acts[k]? = some x := ⟨_, List.getElem?_eq_getElem (by have := HAL.out; omega)⟩
      obtain ⟨g, o, rfl, c0, c1, c2, c3⟩ := AK_at (HRD.out.kpNo (K1.out.no hat.kp)) hx
      have hka : 0 ≤ x.k := HG.out x (List.mem_of_getElem? hx)
      have hltI : (k : Int) < (N : Int) := by omega
      have HS := Lib.hid (playT_snoc acts k x hx)
      have hwf := Lib.hid (playT_wf (acts.take k))
      have hwf' := Lib.hid (playT_wf (acts.take (k + 1)))
      generalize playT (acts.take k) = T0 at *
      generalize hTe : playT (acts.take (k + 1)) = T at *
      have HTE := Lib.hid hTe
      have hR' : ∀ c, flt (ractR R x) c = T c := fun c => by rw [HS.out]; exact ract_flt hR hwf.out (by omega) x c
      obtain ⟨q, hq⟩ : ∃ q, q = actE T0 x := ⟨_, rfl⟩
      have hq2 : q = ractE R x := by rw [hq, ract_E hR hwf.out (by omega) x]
      have hRl' := ract_len R x
      have HRN := Lib.hid hR'; have HQ := Lib.hid hq; have HQ2 := Lib.hid hq2
      have HX := Lib.hid (hat.x (.cells #[.int .u8 x.k, .int .i64 x.c, .int .i64 x.x.1, .int .i64 x.x.2] 36))
      obtain ⟨wo, hwo⟩ : ∃ wo : World, wo = wr.alloc (.cells #[.int .u8 x.k, .int .i64 x.c, .int .i64 x.x.1, .int .i64 x.x.2] 36) := ⟨_, rfl⟩
      rw [← hwo] at HX
      obtain ⟨d0, d1, d2, d3⟩ := box4 HX.out.blk (Kp.refl _ _)
      clear hx hTe hR' hq hq2 hat hR
      go_wp2
      rw [← hwo]
      clear hwo
      go_region_held3 (fun w' => w'.cell? ⟨wr.heap.size, 0, none⟩ = some (.int .u8 x.k) ∧ w'.cell? ⟨wr.heap.size, 1, none⟩ = some (.int .i64 x.c) ∧ w'.cell? ⟨wr.heap.size, 2, none⟩ = some (.int .i64 x.x.1) ∧ w'.cell? ⟨wr.heap.size, 3, none⟩ = some (.int .i64 x.x.2)) (first | exact ⟨by assumption, by assumption, by assumption, by assumption⟩ | simp [go_sem, *])
        (first
          | (go_at_call 16; refine (does_x (HX.out.kpNo (Kp.refl No wo).drew) hwf.out x hka q HQ.out).mono ?_; rintro e w5 ⟨rfl, j5⟩; rw [← HS.out] at j5; obtain ⟨e0, e1, e2, e3⟩ := box4 j5.blk (Kp.refl _ _); have J5 := Lib.hid j5; clear j5)
          | (go_at_call 19; refine (model_x J5.out (by omega) x hka q HQ2.out).mono ?_; rintro e w6 ⟨rfl, j6⟩; obtain ⟨f0, f1, f2, f3⟩ := box4 j6.blk (Kp.refl _ _); have J6 := Lib.hid j6; clear j6))
      obtain ⟨R1, hR1⟩ : ∃ R1, R1 = ractR R x := ⟨_, rfl⟩
      rw [← hR1] at J6 HRN hRl'
      have hlr : R1.length ≤ 1000 := by omega
      generalize wr.heap.size = bx at *
      clear d0 d1 d2 d3 e0 e1 e2 e3 f0 f1 f2 f3 HX J5 c0 c1 c2 c3 hR1
      go_wp2
      obtain ⟨w7, hw7⟩ : ∃ w7 : World, w7 = w6.alloc (.cells #[.int .i64 x.c, .int .i64 c] 3) := ⟨_, rfl⟩
      have HX7 : Hid (AtX w1 bt T br R1 bx (.cells #[.int .u8 x.k, .int .i64 x.c, .int .i64 x.x.1, .int .i64 x.x.2] 36 (0, 0)) w7) := hw7 ▸ J6.out.kpNo ((Kp.refl _ _).alloc _)
      have hci : w7.heap[w6.heap.size]? = some (.cells #[.int .i64 x.c, .int .i64 c] 3 (0, 0)) := hw7 ▸ blk_new w6 _
      have HCI := Lib.hid hci
      rw [← hw7]
      clear hw7 hci
      go_loopw [39] (fun i wr => ∃ k : Nat, i = .int .i64 k ∧ k ≤ 2 ∧ Kp No w7 wr) (fun i _ => 2 - (intOf i).toNat)
      case atStart => exact ⟨0, rfl, by omega, Kp.refl _ _⟩
      case round =>
        obtain ⟨k2, rfl, hk2, hK2⟩ := hrel
        by_cases hlt2 : k2 < 2
        · obtain ⟨c', hc'⟩ : ∃ c', wr.cell? ⟨w6.heap.size, k2, none⟩ = some (.int .i64 c') := by
            obtain ⟨h0, h1⟩ := box2 HCI.out hK2
            have : k2 = 0 ∨ k2 = 1 := by omega
            rcases this with rfl | rfl
            · exact ⟨_, h0⟩
            · exact ⟨_, h1⟩
          have hI2 : (k2 : Int) < 2 := by omega
          have XR : Hid (AtK wr w1 bt T br R1 bx (.cells #[.int .u8 x.k, .int .i64 x.c, .int .i64 x.x.1, .int .i64 x.x.2] 36 (0, 0)) wr) := ⟨HX7.out.kpNo hK2, Kp.refl _ _⟩
          have HK2 := Lib.hid hK2
          obtain ⟨d0, d1, d2, d3⟩ := box4 XR.out.blk (Kp.refl _ _)
          obtain ⟨b1, hb1⟩ : ∃ b1, b1 = isF (T c') m := ⟨_, rfl⟩
          obtain ⟨b2, hb2⟩ : ∃ b2, b2 = isF (T c') x.x.2 := ⟨_, rfl⟩
          have HB1 := Lib.hid hb1; have HB2 := Lib.hid hb2
          have hln := (hwf'.out c').len
          have hln2 := freeL_len (T c')
          clear hK2 hb1 hb2
          go_wp2
          go_region_held3 (fun w' => w'.cell? ⟨bx, 3, none⟩ = some (.int .i64 x.x.2)) (first | assumption | simp [go_sem, *])
            (first
              | (go_at_call 14; refine (taken_x (XR.out.kpNo (Kp.refl No wr).drew) hwf'.out c').mono ?_; rintro e y1 ⟨v1, rfl, a1, _, a2⟩; obtain ⟨A1, q1, rfl⟩ := a1.shape; obtain ⟨_, _, _, e3⟩ := box4 a2.blk (Kp.refl _ _); have V1 := Lib.hid a1; have X1 := Lib.hid a2; clear a1 a2)
              | (go_at_call 20; refine (rtaken_x X1.out hlr HRN.out c').mono ?_; rintro e y2 ⟨v2, rfl, a1, a3, a2⟩; obtain ⟨A2, q2, rfl⟩ := a1.shape; obtain ⟨_, _, _, f3⟩ := box4 a2.blk (Kp.refl _ _); have V2 := Lib.hid a1; have V1' := Lib.hid (V1.out.kpNo a3); have X2 := Lib.hid a2; clear a1 a2 a3)
              | (go_at_call 18; refine (same_x X5.out V4'.out V5.out (by omega) (by omega) true (by simp)).mono ?_; rintro e y6 ⟨rfl, a2⟩; obtain ⟨_, _, _, j3⟩ := box4 a2.blk (Kp.refl _ _); have X6 := Lib.hid a2; clear a2)
              | (go_at_call 13; refine (free_x X3.out hwf'.out c').mono ?_; rintro e y4 ⟨v4, rfl, a1, _, a2⟩; obtain ⟨A4, q4, rfl⟩ := a1.shape; obtain ⟨_, _, _, h3⟩ := box4 a2.blk (Kp.refl _ _); have V4 := Lib.hid a1; have X4 := Lib.hid a2; clear a1 a2)
              | (go_at_call 21; refine (rfree_x X4.out hlr HRN.out c').mono ?_; rintro e y5 ⟨v5, rfl, a1, a3, a2⟩; obtain ⟨A5, q5, rfl⟩ := a1.shape; obtain ⟨_, _, _, i3⟩ := box4 a2.blk (Kp.refl _ _); have V5 := Lib.hid a1; have V4' := Lib.hid (V4.out.kpNo a3); have X5 := Lib.hid a2; clear a1 a2 a3)
              | (go_at_call 18; refine (same_x X2.out V1'.out V2.out (by omega) (by omega) true (by simp)).mono ?_; rintro e y3 ⟨rfl, a2⟩; obtain ⟨_, _, _, g3⟩ := box4 a2.blk (Kp.refl _ _); have X3 := Lib.hid a2; clear a2)
              | (go_at_call 12; refine (is_x X8.out hwf'.out c' x.x.2 b2 HB2.out).mono ?_; rintro e y9 ⟨rfl, a2⟩; obtain ⟨_, _, _, m3⟩ := box4 a2.blk (Kp.refl _ _); have X9 := Lib.hid a2; clear a2)
              | (go_at_call 22; refine (ris_x X9.out hwf'.out hlr HRN.out c' x.x.2 b2 HB2.out).mono ?_; rintro e y10 ⟨rfl, a2⟩; obtain ⟨_, _, _, n3⟩ := box4 a2.blk (Kp.refl _ _); have X10 := Lib.hid a2; clear a2)
              | (go_at_call 12; refine (is_x X6.out hwf'.out c' m b1 HB1.out).mono ?_; rintro e y7 ⟨rfl, a2⟩; obtain ⟨_, _, _, k3⟩ := box4 a2.blk (Kp.refl _ _); have X7 := Lib.hid a2; clear a2)
              | (go_at_call 22; refine (ris_x X7.out hwf'.out hlr HRN.out c' m b1 HB1.out).mono ?_; rintro e y8 ⟨rfl, a2⟩; obtain ⟨_, _, _, l3⟩ := box4 a2.blk (Kp.refl _ _); have X8 := Lib.hid a2; clear a2))
          go_wp2
          go_roundw
          case rel => exact ⟨k2 + 1, by go_num, by omega, HK2.out.no X10.out.2⟩
          case measure => simp [intOf]; omega
        · obtain rfl : k2 = 2 := by omega
          have HK2 := Lib.hid (HX7.out.kpNo hK2)
          clear hK2
          go_wp2
          go_roundw
          case rel => exact ⟨k + 1, R1, by go_num, by omega, by rw [HTE.out]; exact HK2.out.j, by rw [HTE.out]; exact HRN.out, by omega⟩
          case measure => simp [intOf]; omega
    · obtain rfl : k = N := by omega
      have HT := Lib.hid hat
      clear hat hR
      go_wp2
      go_ret
      exact ⟨rfl, K1.out.no HT.out.kp⟩
end Go.Proofs.Ytihnbgokkhbjnaa
