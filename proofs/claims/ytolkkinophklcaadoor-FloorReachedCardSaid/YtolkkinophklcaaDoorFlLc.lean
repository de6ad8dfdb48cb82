/- FloorReached, the walk. -/
import Derived.Test.YtolkkinophklcaaDoorFlSw
import Derived.Test.YtolkkinophklcaaDoorFlLs
import Derived.Test.YtolkkinophklcaaDoorFlJ
import Derived.Test.YtolkkinophklcaaDoorLaw
import Derived.Deep.RegionHeld3
import Derived.OpenShut
import Derived.Lib.SmallJoins
namespace Go.Proofs.YtolkkinophklcaaDoor
set_option linter.unusedVariables false
set_option linter.unusedSimpArgs false
open Go.RowKit

theorem JnW.add {W H bf bm : Nat} {s : ByteArray} {w0 w : World} {v : Value} {L N : List Nat} (h : JnW W H s bf bm w0 v L N w) {c : Nat} (hc : c ∉ L) :
    ∃ w', (Instr.mapUpdate 38 (.map (some bm)) (.int .i64 (c : Int)) (.bool true)).run Tryd.prog w = .ok () w' ∧ JnW W H s bf bm w0 v (L ++ [c]) N w' := by
  obtain ⟨w1, h1, h2, h3⟩ := h.set.add mapB (c : Int)
  refine ⟨w1, h1, h.map ?_ h3⟩
  have : addS (ints L) (c : Int) = ints (L ++ [c]) := by
    unfold addS
    rw [if_neg (fun e => hc (ints_mem.1 e))]; simp [ints]
  rw [← this]; exact h2
theorem zone_b (f : Flr) (hs : f.s.size ≤ 1000000) (c : Nat) (hc : c ≤ 1000000) (t : Bool) (ht : (zoneP f c).isSome = t) : ∃ z : Nat, ∀ w, Calls Tryd.prog 16 #[f.val, .int .i64 (c : Int)] w fun e w' => e = .returned (.tuple #[.int .i64 (z : Int), .bool t]) ∧ Kp No w w' :=
  ⟨(zoneP f c).getD 0, fun w => zone_at f hs c (by omega) _ rfl _ (by unfold ZVal; rw [ht]) w⟩

set_option maxHeartbeats 4000000 in
set_option maxRecDepth 100000 in
theorem reached_row (s : ByteArray) (hs : s.size ≤ 9223372036854775807) (w : World) : Calls Tryd.prog 6 #[.string s] w (LawR w) := by
  unfold LawR
  have HSH := Lib.hid shown_any
  obtain ⟨n, hn⟩ : ∃ n, n = s.size := ⟨_, rfl⟩
  have hnI : ((s.size : Nat) : Int) = (n : Int) := by omega
  rw [← hn] at hs
  by_cases h : 2000 < n
  · have hI : (2000 : Int) < (n : Int) := by omega
    clear hn h
    go_enter Tryd.func6, Tryd.ntmps6
    go_wp2_with fail
    refine (HSH.out _).mono ?_
    rintro e w1 ⟨rfl, k1⟩
    have K1 := Lib.hid k1
    clear k1
    go_wp2_with fail
    go_ret
    exact ⟨rfl, K1.out⟩
  · have hI : ¬ (2000 : Int) < (n : Int) := by omega
    obtain ⟨⟨⟨X, Y, S⟩, y, er⟩, hr⟩ : ∃ r, parseP s = r := ⟨_, rfl⟩
    have HP := Lib.hid (parse_at s (by omega) _ hr (.tuple #[.agg #[.int .i64 X, .int .i64 Y, .string S], .int .i64 (y : Int), .int .i64 (er : Int)]) rfl)
    have HOK := Lib.hid (show er = 0 → RightP ⟨X, Y, S⟩ from fun h => rightB_iff.1 (by have := parseP_ok (s := s) (by rw [hr]; exact h); rwa [hr] at this))
    clear hn h hr
    by_cases he : er = 0
    · have heb : ((er : Int) != 0) = false := by simp [he]
      have heb2 : (er != 0) = false := by simp [he]
      have hR := HOK.out he
      obtain ⟨W, hW⟩ : ∃ W : Nat, X = W := ⟨X.toNat, by have := hR.w1; simp at this; omega⟩
      obtain ⟨H, hH⟩ : ∃ H : Nat, Y = H := ⟨Y.toNat, by have := hR.h1; simp at this; omega⟩
      subst hW hH
      obtain ⟨f, hf⟩ : ∃ f : Flr, f = ⟨W, H, S⟩ := ⟨_, rfl⟩
      rw [← hf] at hR
      have hSs : f.s.size ≤ 256 := hR.s256
      have HR := Lib.hid hR
      have hrb := robots_pos hR
      have hlp := lanes_pos hR
      obtain ⟨nR, hnR⟩ : ∃ nR, robotsP f = nR := ⟨_, rfl⟩
      have HRB := Lib.hid (robots_at f (by omega) nR hnR)
      obtain ⟨Ls, hLs⟩ : ∃ Ls, lanesP f = Ls := ⟨_, rfl⟩
      have HLN := Lib.hid (lanes_at f (by omega) Ls hLs)
      rw [hnR] at hrb
      rw [hLs] at hlp
      obtain ⟨nL, hnL⟩ : ∃ nL, nL = Ls.length := ⟨_, rfl⟩
      rw [← hnL] at hlp
      have HNL := Lib.hid hnL
      have hnR0 : 0 < nR := hrb.1
      have hnR8 : nR ≤ 8 := hrb.2.1
      have HDK := Lib.hid hrb.2.2
      have hnL0 : 0 < nL := hlp.1
      have hnL2 : nL ≤ 256 := hlp.2
      have HLM := Lib.hid (show ∀ y ∈ Ls, laneI f.s y by rw [← hLs]; exact fun y hy => (lanes_mem hR).1 hy)
      have HNR := Lib.hid (fun (c : Nat) (hc : c ≤ 256) => near_at f (by omega) (c : Int) (by omega) (nearP f c) rfl)
      have HZN := Lib.hid (fun (c : Nat) (hc : c < f.s.size) => zone_b f (by omega) c (by omega) _ (zone_isSome (rightB_t hR) hc))
      have HDO := Lib.hid (fun (k : Nat) (hk : k ≤ 8) => dock_at f (by omega) (k : Int) (by omega) _ rfl)
      have hfS : f.s = S := by rw [hf]
      have HF := Lib.hid hf
      clear hrb hlp hnR hLs hnL hR he
      have hmm := @run_makeMap Tryd.prog
      rw [hf] at HRB
      unfold Flr.val at HRB
      simp only at HRB
      go_enter Tryd.func6, Tryd.ntmps6
      clear hf hfS
      go_wp2_with fail
      refine (HSH.out _).mono ?_
      rintro e w1 ⟨rfl, k1⟩
      have K1 := Lib.hid k1
      clear k1
      go_wp2_with fail
      refine (HP.out _).mono ?_
      rintro e w2 ⟨rfl, k2⟩
      have K2 := Lib.hid (K1.out.no k2)
      clear k2
      go_wp2_with fail
      obtain ⟨b1, hb1⟩ : ∃ b1, b1 = w2.heap.size := ⟨_, rfl⟩
      obtain ⟨w3, hw3⟩ : ∃ w3, w3 = w2.alloc (.cells #[.int .i64 (W : Int), .int .i64 (H : Int), .string S] 24) := ⟨_, rfl⟩
      have B3 := Lib.hid (show BxW (Flr.mk W H S) b1 w w3 by rw [hw3, hb1]; exact ⟨blk_new w2 _, K2.out.alloc _⟩)
      rw [← hw3, ← hb1]
      clear hw3 hb1 K2
      refine (HRB.out _).mono ?_
      rintro e w4 ⟨rfl, k4⟩
      have B4 := Lib.hid (B3.out.no k4)
      clear k4
      go_wp2_with fail
      go_loopg [35] (nR + 1) (fun g2 rv wx => ∃ r : Nat, g2 = nR + 1 - r ∧ rv = .int .i64 r ∧ r ≤ nR ∧ BxW (Flr.mk W H S) b1 w wx)
      case atStart => exact ⟨0, rfl, rfl, by omega, B4.out⟩
      case round =>
        clear B4
        obtain ⟨r, hg2, rfl, hr, bx⟩ := hrel
        have BX := Lib.hid bx
        have hb0 : wr.cell? ⟨b1, 0, none⟩ = some (.int .i64 (W : Int)) := bx.c0
        have hb1 : wr.cell? ⟨b1, 1, none⟩ = some (.int .i64 (H : Int)) := bx.c1
        have hb2 : wr.cell? ⟨b1, 2, none⟩ = some (.string S) := bx.c2
        clear bx
        by_cases hlt : r < nR
        · have hltI : (r : Int) < (nR : Int) := by omega
          have hwr : IntKind.i64.wrap ((r : Int) + 1) = (r : Int) + 1 := IntWalk.i64_in _ (by omega)
          obtain ⟨d, hd, hds, hdk, _⟩ := HDK.out r hlt
          have HDD := Lib.hid (HDO.out r (by omega) (.tuple #[.int .i64 (d : Int), .bool true]) (by rw [hd]; rfl))
          have HDS := Lib.hid hds; have HDK2 := Lib.hid hdk
          have hds256 : d < 256 := by omega
          rw [HF.out] at HDD
          unfold Flr.val at HDD
          simp only at HDD
          clear hd hds hdk hlt
          go_wp2_with fail
          refine (HDD.out _).mono ?_
          rintro e w5 ⟨rfl, k5⟩
          have B5 := Lib.hid (BX.out.no k5)
          clear k5 hb0 hb1 hb2
          obtain ⟨w6, hw6⟩ : ∃ w6, w6 = w5.alloc (.map #[] 0) := ⟨_, rfl⟩
          have J6 := Lib.hid (show JnW W H S b1 w5.heap.size w6 (.slice none 0 0) [] [] w6 by
            have b6 := B5.out.no ((Kp.refl _ _).alloc (.map #[] 0))
            rw [← hw6] at b6
            have hl5 := lt_of_block B5.out.box
            refine ⟨b6.box, ?_, Own.nil _ _ _, fun g hg => by simp [Value.ownBlock] at hg, Kp.refl _ _, by rw [hw6]; simp; omega, by rw [hw6]; simp, by omega⟩
            show SetI _ _ []
            rw [hw6]; exact SetI.made w5)
          have K6 := Lib.hid (show Kp No w w6 by rw [hw6]; exact B5.out.kp.alloc _)
          have hbmw : w.heap.size ≤ w5.heap.size := B5.out.kp.size
          obtain ⟨w7, hup, j7⟩ := J6.out.add (c := d) (by simp)
          have J8 := Lib.hid (j7.one d)
          rw [hw6] at hup
          clear j7 hw6
          go_wp2_with fail
          clear hup
          obtain ⟨wo, rfl⟩ : ∃ wo : World, wo = wr := ⟨_, rfl⟩
          go_loopg [11, 12] 258 (fun g2 nv iv wx => ∃ (i m : Nat) (L : List Nat) (A : Option Addr) (q : Nat), g2 = 258 - i ∧ iv = .int .i64 i ∧ nv = .slice A m q ∧ m = L.length ∧ i ≤ m ∧ m ≤ 256 ∧ JnW W H S b1 w5.heap.size w6 nv L L wx ∧ Bfs f d L i)
          case atStart => exact ⟨0, 1, [d], _, 1, rfl, rfl, rfl, rfl, by omega, by omega, J8.out, Bfs.start d⟩
          case round =>
            clear J6 J8 BX B5
            obtain ⟨i, m, L, A, q, hg2, rfl, rfl, hm, hi, hm2, jw, bf⟩ := hrel
            have JW := Lib.hid jw; have BF := Lib.hid bf; have HM := Lib.hid hm
            have hb0 : wr.cell? ⟨b1, 0, none⟩ = some (.int .i64 (W : Int)) := blk_cell jw.box 0
            have hb1 : wr.cell? ⟨b1, 1, none⟩ = some (.int .i64 (H : Int)) := blk_cell jw.box 1
            have hb2 : wr.cell? ⟨b1, 2, none⟩ = some (.string S) := blk_cell jw.box 2
            clear jw bf hm
            by_cases hlt : i < m
            · have hltI : (i : Int) < (m : Int) := by omega
              have h300 : (i : Int) < 300 := by omega
              have hwi : IntKind.i64.wrap ((i : Int) + 1) = (i : Int) + 1 := IntWalk.i64_in _ (by omega)
              obtain ⟨x, hx⟩ : ∃ x, L[i]? = some x := ⟨_, List.getElem?_eq_getElem (by rw [← HM.out]; exact hlt)⟩
              have hxs : x < f.s.size := by
                rcases BF.out.lane x (List.mem_of_getElem? hx) with rfl | h
                · exact HDS.out
                · exact h.1
              have HXS := Lib.hid hxs
              rcases JW.out.own.b with ⟨hv, _⟩ | ⟨gB, capB, hv, _, _, _⟩
              · simp only [Value.slice.injEq] at hv; omega
              simp only [Value.slice.injEq] at hv
              obtain ⟨rfl, hzz, rfl⟩ := hv
              clear hzz
              have hcb : wr.cell? ⟨gB, i, none⟩ = some (.int .i64 (x : Int)) := by have := JW.out.own.rd.intAt (ints_get hx); simpa using this
              have HNX := Lib.hid (HNR.out x (by omega))
              rw [HF.out] at HNX
              unfold Flr.val at HNX
              simp only at HNX
              rw [← HF.out] at HNX
              have BJ := Lib.hid (BF.out.into hx)
              obtain ⟨N, hN⟩ : ∃ N, N = nearP f x := ⟨_, rfl⟩
              rw [← hN] at HNX
              have HN := Lib.hid hN
              clear hx hxs hN hlt
              have K1 := Lib.hid (fun w' (hk : Kp No wr w') => (JW.out.no hk))
              have q0 : wr.drew.cell? ⟨b1, 0, none⟩ = some (.int .i64 (W : Int)) := hb0
              have q1 : wr.drew.cell? ⟨b1, 1, none⟩ = some (.int .i64 (H : Int)) := hb1
              have q2 : wr.drew.cell? ⟨b1, 2, none⟩ = some (.string S) := hb2
              have q3 : wr.drew.cell? ⟨gB, i, none⟩ = some (.int .i64 (x : Int)) := hcb
              go_wp2_with fail
              go_region_held3 (fun w' => w'.cell? ⟨b1, 0, none⟩ = some (.int .i64 (W : Int)) ∧ w'.cell? ⟨b1, 1, none⟩ = some (.int .i64 (H : Int)) ∧ w'.cell? ⟨b1, 2, none⟩ = some (.string S) ∧ w'.cell? ⟨gB, i, none⟩ = some (.int .i64 (x : Int)))
                (first | exact ⟨by assumption, by assumption, by assumption, by assumption⟩ | exact ⟨q0, q1, q2, q3⟩)
                (first
                  | (go_at_call 13; refine (HNX.out wr.drew).mono ?_; rintro e w8 ⟨A8, q8, rfl, n8⟩; have N8 := Lib.hid n8; have JW8 := Lib.hid (K1.out w8 ((Kp.refl No wr).drew.no n8.kp)); have t0 := blk_cell JW8.out.box 0; have t1 := blk_cell JW8.out.box 1; have t2 := blk_cell JW8.out.box 2; have t3 := ((Kp.refl No wr).drew.no n8.kp).cellS hcb (no_no _); simp at t0 t1 t2; clear n8))
              go_wp2_with fail
              obtain ⟨nB, hnB⟩ : ∃ nB, nB = N.length := ⟨_, rfl⟩
              have hnB4 : nB ≤ 4 := by
                rw [hnB, HN.out]; unfold nearP; split
                · exact Nat.le_trans (List.length_filter_le _ _) (besideP_len _ _ _)
                · simp
              rw [← hnB] at N8 ⊢
              have HNB := Lib.hid hnB
              have NV := Lib.hid (show ∀ g, (Value.slice A8 nB q8).ownBlock = some g → w6.heap.size ≤ g ∧ (Value.slice (some ⟨gB, 0, none⟩) m q).ownBlock ≠ some g by
                intro g hg
                have h1 := N8.out.ge g hg
                have h1 : wr.heap.size ≤ g := h1
                have h2 := JW.out.kp.size
                have h3 := JW.out.own.lt (g := gB) rfl
                exact ⟨by omega, fun e => by simp [Value.ownBlock] at e; omega⟩)
              have O8 := Lib.hid N8.out.own
              clear hnB hb0 hb1 hb2 hcb q0 q1 q2 q3 t0 t1 t2 t3 N8 JW K1
              obtain ⟨wc, rfl⟩ : ∃ wc : World, wc = wr := ⟨_, rfl⟩
              go_loopg [11, 68] (nB + 1) (fun g3 nv jv wx => ∃ (j m : Nat) (L : List Nat) (A : Option Addr) (q : Nat), g3 = nB + 1 - j ∧ jv = .int .i64 j ∧ j ≤ nB ∧ nv = .slice A m q ∧ m = L.length ∧ m ≤ 256 ∧ JnW W H S b1 w5.heap.size w6 nv L L wx ∧ BfsJ f d L i x j ∧ Own IK 3 wx (.slice A8 nB q8) (ints N) ∧ ∀ g, (Value.slice A8 nB q8).ownBlock = some g → w6.heap.size ≤ g ∧ nv.ownBlock ≠ some g)
              case atStart => exact ⟨0, m, L, _, q, rfl, rfl, by omega, rfl, HM.out, hm2, JW8.out, BJ.out, O8.out, NV.out⟩
              case round =>
                clear BF HM BJ O8 JW8 NV
                obtain ⟨j, m, L, A, q, hg3, rfl, hj, rfl, hm, hm2, jw, bj, ob, ne⟩ := hrel
                have JW := Lib.hid jw; have BJ := Lib.hid bj; have HM := Lib.hid hm; have OB := Lib.hid ob; have NE := Lib.hid ne
                have hb0 : wr.cell? ⟨b1, 0, none⟩ = some (.int .i64 (W : Int)) := blk_cell jw.box 0
                have hb1 : wr.cell? ⟨b1, 1, none⟩ = some (.int .i64 (H : Int)) := blk_cell jw.box 1
                have hb2 : wr.cell? ⟨b1, 2, none⟩ = some (.string S) := blk_cell jw.box 2
                clear jw bj hm ob ne
                by_cases hlt : j < nB
                · have hltI : (j : Int) < (nB : Int) := by omega
                  have hwj : IntKind.i64.wrap ((j : Int) + 1) = (j : Int) + 1 := IntWalk.i64_in _ (by omega)
                  obtain ⟨c, hc⟩ : ∃ c, N[j]? = some c := ⟨_, List.getElem?_eq_getElem (by rw [← HNB.out]; exact hlt)⟩
                  have hcs : c < f.s.size := near_size HR.out HXS.out (by rw [← HN.out]; exact List.mem_of_getElem? hc)
                  rcases OB.out.b with ⟨hv, _⟩ | ⟨gC, capC, hv, _, _, _⟩
                  · simp only [Value.slice.injEq] at hv; omega
                  simp only [Value.slice.injEq] at hv
                  obtain ⟨rfl, hzz, rfl⟩ := hv
                  clear hzz
                  have hcb : wr.cell? ⟨gC, j, none⟩ = some (.int .i64 (c : Int)) := by have := OB.out.rd.intAt (ints_get hc); simpa using this
                  obtain ⟨t, ht⟩ : ∃ t, (kdS f.s c == 2) = t := ⟨_, rfl⟩
                  obtain ⟨z, hz⟩ := HZN.out c hcs
                  rw [ht] at hz
                  have HZ := Lib.hid hz
                  rw [HF.out] at HZ
                  unfold Flr.val at HZ
                  simp only at HZ
                  have HTL := Lib.hid (show t = true ↔ laneI f.s c from ⟨fun e => ⟨hcs, by rw [e] at ht; simpa using ht⟩, fun h => by rw [← ht, h.2]; rfl⟩)
                  have HC := Lib.hid (show (nearP f x)[j]? = some c by rw [← HN.out]; exact hc)
                  have hc256 : c < 256 := by omega
                  clear hz ht hc hcs hlt
                  go_wp2_with fail
                  refine (HZ.out _).mono ?_
                  rintro e w9 ⟨rfl, k9⟩
                  have J9 := Lib.hid (JW.out.no k9); have O9 := Lib.hid (OB.out.kpNo k9)
                  clear k9 hb0 hb1 hb2 hcb JW OB
                  have hlook := J9.out.set.look mapB (c : Int)
                  cases t with
                  | false =>
                    have B2 := Lib.hid (BJ.out.skip HC.out (fun h => absurd (HTL.out.2 h) (by simp)))
                    clear hlook
                    go_wp2_with fail
                    go_roundg (nB + 1 - (j + 1))
                    case measure => omega
                    case rel => exact ⟨j + 1, m, L, A, q, rfl, by go_num, by omega, rfl, HM.out, hm2, J9.out, B2.out, O9.out, NE.out⟩
                  | true =>
                    by_cases hcL : c ∈ L
                    · rw [decide_eq_true (ints_mem.2 hcL)] at hlook
                      have B2 := Lib.hid (BJ.out.skip HC.out (fun _ => hcL))
                      clear hcL
                      go_wp2_with fail
                      go_roundg (nB + 1 - (j + 1))
                      case measure => omega
                      case rel => exact ⟨j + 1, m, L, A, q, rfl, by go_num, by omega, rfl, HM.out, hm2, J9.out, B2.out, O9.out, NE.out⟩
                    · rw [decide_eq_false (fun e => hcL (ints_mem.1 e))] at hlook
                      have B2 := Lib.hid (BJ.out.put HC.out (HTL.out.1 rfl) hcL)
                      have hm3 : m + 1 ≤ 256 := by
                        have := B2.out.b.len HDS.out
                        rw [List.length_append, List.length_singleton, ← HM.out] at this
                        omega
                      obtain ⟨w10, hup, j10⟩ := J9.out.add hcL
                      have J10 := Lib.hid j10
                      have hkm := (J9.out.set.add mapB (c : Int))
                      have O10 := Lib.hid (show Own IK 3 w10 (.slice (some ⟨gC, 0, none⟩) nB q8) (ints N) by
                        obtain ⟨w', h1, h2, h3⟩ := hkm
                        have e : w' = w10 := by rw [hup] at h1; cases h1; rfl
                        subst e
                        exact O9.out.kp h3 (fun g hg e => by have e : g = w5.heap.size := e; have := (NE.out g hg).1; have := J9.out.lt; omega))
                      clear j10 hkm hcL
                      go_wp2_with (at_builtin; refine wpl_append elI rfl (.tmp 87) (.tmp 89) rfl rfl rfl (l := ints L) (m := [(c : Int)]) ?c1 ?c2 ?c3 ?c4 ?c5)
                      case c1 => exact J10.out.own.alloc _
                      case c2 => exact Rd.litAt IK 3 _ _ [(c : Int)] rfl (by unfold maxLen; simp) _ _ rfl rfl
                      case c3 => show (ints L).length + 1 ≤ maxLen; rw [ints_len, ← HM.out]; unfold maxLen; omega
                      case c4 => show ((ints L).length + 1) * 8 ≤ _; rw [ints_len, ← HM.out]; omega
                      case c5 =>
                        intro v' w' k1 k2 k3
                        rw [← ints_snoc] at k1
                        have J5 := J10.out.app ((Kp.refl No w10).alloc _) k1 k2 k3 (Nat.le_succ _)
                        have O5 := (O10.out.alloc (.cells #[.int .i64 (c : Int)] 3)).kp k2 (fun g hg e => (NE.out g hg).2 e)
                        have N5 : ∀ g, (Value.slice (some ⟨gC, 0, none⟩) nB q8).ownBlock = some g → w6.heap.size ≤ g ∧ v'.ownBlock ≠ some g := fun g hg => ⟨(NE.out g hg).1, fun e => by
                          rcases k3 g e with e | e
                          · exact (NE.out g hg).2 e
                          · have := O10.out.lt hg; have e : w10.heap.size + 1 ≤ g := e; omega⟩
                        obtain ⟨A5, q5, rfl⟩ := k1.rd.shape
                        rw [ints_len, List.length_append, List.length_singleton, ← HM.out] at J5 N5 ⊢
                        have HJ5 := Lib.hid J5; have HO5 := Lib.hid O5; have HN5 := Lib.hid N5
                        clear J5 O5 N5 k1 k2 k3 hlook hup
                        go_wp2_with fail
                        go_roundg (nB + 1 - (j + 1))
                        case measure => omega
                        case rel => exact ⟨j + 1, m + 1, _, A5, q5, rfl, by go_num, by omega, rfl, by rw [List.length_append, ← HM.out]; rfl, hm3, HJ5.out, B2.out, HO5.out, HN5.out⟩
                · obtain rfl : j = nB := by omega
                  have hd0 : ¬ (j : Int) < (j : Int) := by omega
                  have BD := Lib.hid (BfsJ.done (by have := BJ.out; rwa [HNB.out, HN.out] at this))
                  have him := (List.getElem?_eq_some_iff.1 BJ.out.at_).1
                  rw [← HM.out] at him
                  clear hlt
                  go_wp2_with fail
                  go_roundg (258 - (i + 1))
                  case measure => omega
                  case rel => exact ⟨i + 1, m, L, A, q, rfl, by go_num, rfl, HM.out, by omega, hm2, JW.out, BD.out⟩
            · obtain rfl : i = m := by omega
              have hd0 : ¬ (i : Int) < (i : Int) := by omega
              have HALL := Lib.hid (BF.out.all (by rw [← HM.out]; exact Nat.le_refl _) HR.out HDS.out HDK2.out)
              have HL2 := HLN
              rw [HF.out] at HL2
              unfold Flr.val at HL2
              simp only at HL2
              clear hlt
              go_wp2_with fail
              refine (HL2.out _).mono ?_
              rintro e w8 ⟨A8, q8, rfl, n8⟩
              rw [← HNL.out] at n8 ⊢
              have N8 := Lib.hid n8; have J8 := Lib.hid (JW.out.no n8.kp)
              clear n8 hb0 hb1 hb2 JW
              go_wp2_with fail
              obtain ⟨wc, rfl⟩ : ∃ wc : World, wc = wr := ⟨_, rfl⟩
              go_loopg [95] (nL + 1) (fun g3 jv wx => ∃ j : Nat, g3 = nL + 1 - j ∧ jv = .int .i64 j ∧ j ≤ nL ∧ wx = w8)
              case atStart => exact ⟨0, rfl, rfl, by omega, rfl⟩
              case round =>
                obtain ⟨j, hg3, rfl, hj, rfl⟩ := hrel
                by_cases hlt : j < nL
                · have hltI : (j : Int) < (nL : Int) := by omega
                  have hwj : IntKind.i64.wrap ((j : Int) + 1) = (j : Int) + 1 := IntWalk.i64_in _ (by omega)
                  obtain ⟨c, hc⟩ : ∃ c, Ls[j]? = some c := ⟨_, List.getElem?_eq_getElem (by rw [← HNL.out]; exact hlt)⟩
                  have hcL := HALL.out c (HLM.out c (List.mem_of_getElem? hc))
                  rcases N8.out.own.b with ⟨hv, _⟩ | ⟨gC, capC, hv, _, _, _⟩
                  · simp only [Value.slice.injEq] at hv; omega
                  simp only [Value.slice.injEq] at hv
                  obtain ⟨rfl, hzz, rfl⟩ := hv
                  clear hzz
                  have hcb : wr.cell? ⟨gC, j, none⟩ = some (.int .i64 (c : Int)) := by have := N8.out.own.rd.intAt (ints_get hc); simpa using this
                  have hlook := J8.out.set.look mapB (c : Int)
                  rw [decide_eq_true (ints_mem.2 hcL)] at hlook
                  clear hc hcL hlt
                  go_wp2_with fail
                  go_roundg (nL + 1 - (j + 1))
                  case measure => omega
                  case rel => exact ⟨j + 1, rfl, by go_num, by omega, rfl⟩
                · obtain rfl : j = nL := by omega
                  have hd0 : ¬ (j : Int) < (j : Int) := by omega
                  have BE := Lib.hid (show BxW (Flr.mk W H S) b1 w wr from ⟨J8.out.box, K6.out.trans' J8.out.kp (fun a ha e => by have e : a = w5.heap.size := e; omega)⟩)
                  clear hlt
                  go_wp2_with fail
                  go_roundg (nR + 1 - (r + 1))
                  case measure => omega
                  case rel => exact ⟨r + 1, rfl, by go_num, by omega, BE.out⟩
        · obtain rfl : r = nR := by omega
          have hd0 : ¬ (r : Int) < (r : Int) := by omega
          have HL2 := HLN
          rw [HF.out] at HL2
          unfold Flr.val at HL2
          simp only at HL2
          have hrI : (0 : Int) < (r : Int) := by omega
          have hlI : (0 : Int) < (nL : Int) := by omega
          clear hlt
          go_wp2_with fail
          refine (HRB.out _).mono ?_
          rintro e w5 ⟨rfl, k5⟩
          have B5 := Lib.hid (BX.out.no k5)
          clear k5 hb0 hb1 hb2
          have hb0 : w5.cell? ⟨b1, 0, none⟩ = some (.int .i64 (W : Int)) := B5.out.c0
          have hb1 : w5.cell? ⟨b1, 1, none⟩ = some (.int .i64 (H : Int)) := B5.out.c1
          have hb2 : w5.cell? ⟨b1, 2, none⟩ = some (.string S) := B5.out.c2
          go_wp2_with fail
          refine (HL2.out _).mono ?_
          rintro e w6 ⟨A6, q6, rfl, n6⟩
          rw [← HNL.out]
          have B6 := Lib.hid (B5.out.no n6.kp)
          clear n6
          go_wp2_with fail
          go_ret
          exact ⟨rfl, B6.out.kp⟩
    · have heb : ((er : Int) != 0) = true := by simp; omega
      have heb2 : (er != 0) = true := by simp; omega
      clear he
      go_enter Tryd.func6, Tryd.ntmps6
      go_wp2_with fail
      refine (HSH.out _).mono ?_
      rintro e w1 ⟨rfl, k1⟩
      have K1 := Lib.hid k1
      clear k1
      go_wp2_with fail
      refine (HP.out _).mono ?_
      rintro e w2 ⟨rfl, k2⟩
      have K2 := Lib.hid (K1.out.no k2)
      clear k2
      go_wp2_with fail
      go_ret
      exact ⟨rfl, K2.out.alloc _⟩
end Go.Proofs.YtolkkinophklcaaDoor
