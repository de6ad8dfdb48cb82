/- The laws of link: LinkTurned. -/
import Derived.Test.YtnejjjoedmefkaaLwB
import Derived.Test.YtnejjjoedmefkaaTrnQ
import Derived.Test.YtnejjjoedmefkaaArgB
namespace Go.Proofs.Ytnejjjoedmefkaa
set_option linter.unusedVariables false
set_option linter.unusedSimpArgs false
open Go.RowKit

theorem take_nof {f : List Nat} (h : isF f = false) : takeOk f = false := by unfold takeOk; rw [h]; rfl
theorem isF_lay {h : Bool} {n : Nat} {d : List Nat} (hb : layBad h n d = 0) (hn : n < 18446744073709551616) : isF (layL h n d) = true ∧ 4 ≤ (layL h n d).length := by
  obtain ⟨c1, c2, c3⟩ := layBad_good hb
  have hl : layL h n d = frameP (packB (layBits h n d)) := by unfold layL; rw [if_pos hb]
  have hpl : (packB (layBits h n d)).length ≤ 1000 := by rw [packB_len]; have := layBits_len h n d (by omega) c1; omega
  exact ⟨by rw [hl]; exact isF_frameP _ hpl, by rw [hl, frameP_len]; omega⟩

/-- What has been turned so far. -/
def TurnI (w : World) (h : Bool) (n : Nat) (A : Option Addr) (dl cap : Nat) (V : Value) (F : List Nat) (first c : Nat) (k : Nat) (wr : World) : Prop :=
  ∃ B, Own BK 5 wr V B ∧ B.length = F.length ∧ (∀ x ∈ B, x < 256) ∧ unpackB B = xorL (unpackB F) (maskL (unpackB F).length first c k) ∧ Kp No w wr ∧
    wr.heap[w.heap.size]? = some (.cells #[.bool h, .int .u64 (n : Int), .slice A dl cap] 25 (0, 0))

set_option maxHeartbeats 1000000 in
set_option maxRecDepth 100000 in
theorem turned_any {w : World} {v : Value} {d : List Nat} (hv : Rd BK w v d) (h : Bool) (n : Nat) (hn : n < 18446744073709551616) (hdx : ∀ x ∈ d, x < 256) (a : Nat) (ha : a < 18446744073709551616) (c : Nat) (hc : c < 65536) (q : Nat) (hq : q < 256) :
    Calls Try.prog 8 #[.agg #[.bool h, .int .u64 (n : Int), v], .int .u64 (a : Int), .int .u16 (c : Int), .int .u8 (q : Int)] w (LawR w) := by
  obtain ⟨A, cap, rfl⟩ := hv.shape
  have H := Lib.hid hv; have HX := Lib.hid hdx; have HN := Lib.hid hn
  have HBX := Lib.hid (blk_new w (.cells #[.bool h, .int .u64 (n : Int), .slice A d.length cap] 25))
  obtain ⟨F, hF⟩ : ∃ F, F = layL h n d := ⟨_, rfl⟩
  obtain ⟨er, her⟩ : ∃ er, er = layBad h n d := ⟨_, rfl⟩
  have HF := Lib.hid hF; have HER := Lib.hid her
  by_cases he : er = 0
  · subst he
    obtain ⟨iF, F4⟩ := isF_lay her.symm hn
    have lp := laid_p her.symm hn hdx
    have hFl : F.length ≤ 1004 := by rw [hF]; exact layL_len h n d hn
    have hFx : ∀ x ∈ F, x < 256 := by rw [hF]; exact layL_lt _ _ _
    rw [← hF] at iF F4 lp
    obtain ⟨m, hm⟩ : ∃ m, m = q % F.length := ⟨_, rfl⟩
    have hmF : m < F.length := by rw [hm]; exact Nat.mod_lt _ (by omega)
    have pn := part_none F m hFx iF hmF
    have qI : (q : Int) % (F.length : Int) = (m : Int) := by rw [hm]; exact (Int.natCast_emod q F.length).symm
    have qT : (q : Int).tmod (F.length : Int) = (m : Int) := by rw [Int.tmod_eq_emod_of_nonneg (by omega)]; exact qI
    have mw : IntKind.i64.wrap (m : Int) = (m : Int) := IntWalk.i64_in _ (by omega)
    obtain ⟨L8, hL8⟩ : ∃ L8, L8 = 8 * F.length := ⟨_, rfl⟩
    have l8I : 8 * (F.length : Int) = (L8 : Int) := by omega
    have l8w : IntKind.i64.wrap (L8 : Int) = (L8 : Int) := IntWalk.i64_in _ (by omega)
    have l8u : IntKind.u64.wrap (L8 : Int) = (L8 : Int) := IntWalk.u64_in _ (by omega)
    obtain ⟨first, hfi⟩ : ∃ first, first = a % L8 := ⟨_, rfl⟩
    have hfl : first < L8 := by rw [hfi]; exact Nat.mod_lt _ (by omega)
    have fI : (a : Int) % (L8 : Int) = (first : Int) := by rw [hfi]; exact (Int.natCast_emod a L8).symm
    have fT : (a : Int).tmod (L8 : Int) = (first : Int) := by rw [Int.tmod_eq_emod_of_nonneg (by omega)]; exact fI
    have fu : IntKind.u64.wrap (first : Int) = (first : Int) := IntWalk.u64_in _ (by omega)
    have fw : IntKind.i64.wrap (first : Int) = (first : Int) := IntWalk.i64_in _ (by omega)
    have z1 : ((F.length : Int) == 0) = false := by rw [beq_eq_false_iff_ne]; omega
    have hUL : (unpackB F).length = L8 := by rw [unpackB_len2, hL8]
    have IF := Lib.hid iF; have LP := Lib.hid lp; have HFX := Lib.hid hFx; have PN := Lib.hid pn; have HL8 := Lib.hid hL8; have HUL := Lib.hid hUL
    clear hv hdx hn hF her iF lp hFx hm pn hL8 hfi hUL ha
    go_enter Try.func8, Try.ntmps8
    go_wp2_with fail
    refine (shown14 _).mono ?_
    rintro e w1 ⟨rfl, k1⟩
    have B1 := k1.blk HBX.out (no_no _)
    have b0 : w1.cell? ⟨w.heap.size, 0, none⟩ = some (.bool h) := (blk_cell B1 0).trans rfl
    have b1 : w1.cell? ⟨w.heap.size, 1, none⟩ = some (.int .u64 (n : Int)) := (blk_cell B1 1).trans rfl
    have b2 : w1.cell? ⟨w.heap.size, 2, none⟩ = some (.slice A d.length cap) := (blk_cell B1 2).trans rfl
    have K1 := Lib.hid (((Kp.refl No w).alloc _).trans k1)
    have BB := Lib.hid B1
    have Z1 := Lib.hid (show w.heap.size < w1.heap.size from lt_of_block B1)
    clear k1 B1
    go_wp2_with fail
    refine (lay_any (H.out.kpNo K1.out) h n HN.out HX.out).mono ?_
    rintro e w2 ⟨v2, rfl, k2⟩
    rw [← HER.out]
    rw [← HF.out] at k2
    obtain ⟨t3, A3, c3, HT3, hl3, hr3, HD3, _⟩ := k2.own.rd.upto2 elB m (by omega) (m : Int) rfl
    obtain ⟨A2, c2, rfl⟩ := k2.own.rd.shape
    have K2 := Lib.hid k2; have BB2 := Lib.hid (k2.kp.blk BB.out (no_no _)); have KK2 := Lib.hid (K1.out.trans k2.kp)
    have htx : ∀ x ∈ t3, x < 256 := fun x hx => HFX.out x (by rw [HT3.out] at hx; exact List.mem_of_mem_take hx)
    have HTX := Lib.hid htx
    have HTE := Lib.hid (show tkE t3 = 140 by rw [HT3.out]; exact (tk_no (take_nof PN.out)).2.2.2)
    have htl : t3.length ≤ 1000000 := by omega
    clear k2 htx hl3
    go_wp2_with fail
    refine (take_any HD3.out htl HTX.out).mono ?_
    rintro e w3 ⟨v3, rfl, k3⟩
    rw [HTE.out]
    obtain ⟨A4, c4, rfl⟩ := k3.own.rd.shape
    have K3 := Lib.hid k3.kp
    clear k3
    go_wp2
    obtain ⟨w4, hw4⟩ : ∃ w4, w4 = w3.alloc (.cells #[.bool (tkH t3), .int .u64 (tkN t3 : Int), .slice A4 (tkD t3).length c4] 25) := ⟨_, rfl⟩
    rw [← hw4]
    have k34 : Kp No w2 w4 := by rw [hw4]; exact K3.out.alloc _
    have K4 := Lib.hid k34
    clear hw4 k34
    go_loopw [15, 16] (fun tu i wr => ∃ k : Nat, i = .int .i64 k ∧ k ≤ 16 ∧ first + k ≤ L8 ∧ tu = .bool (anyC c k) ∧ TurnI w h n A d.length cap (.slice A2 F.length c2) F first c k wr) (fun _ i _ => 16 - (intOf i).toNat)
    case atStart => exact ⟨0, rfl, by omega, by omega, rfl, F, K2.out.own.kpNo K4.out, rfl, HFX.out, (xorL_mask0 _ _ _).symm, KK2.out.trans K4.out, K4.out.blk BB2.out (no_no _)⟩
    case round =>
      obtain ⟨k, rfl, hk, hk8, rfl, B, o1, o2, o3, o4, o5, o6⟩ := hrel
      obtain ⟨t, ht⟩ : ∃ t, t = first + k := ⟨_, rfl⟩
      have e1 : (first : Int) + (k : Int) = (t : Int) := by omega
      have e2 : IntKind.i64.wrap (t : Int) = (t : Int) := IntWalk.i64_in _ (by omega)
      have e3 : IntKind.i64.wrap ((k : Int) + 1) = (k : Int) + 1 := IntWalk.i64_in _ (by omega)
      have O1 := Lib.hid o1; have O2 := Lib.hid o2; have O3 := Lib.hid o3; have O4 := Lib.hid o4; have O5 := Lib.hid o5; have O6 := Lib.hid o6; have HT := Lib.hid ht
      by_cases hgo : k < 16 ∧ t < L8
      · obtain ⟨g1, g2⟩ := hgo
        have g1I : (k : Int) < 16 := by omega
        have g2I : (t : Int) < (L8 : Int) := by omega
        obtain ⟨bt, hbt⟩ : ∃ bt, bt = decide (c / 2 ^ k % 2 = 1) := ⟨_, rfl⟩
        obtain ⟨s1, hs1⟩ : ∃ s1, s1 = c / 2 ^ k := ⟨_, rfl⟩
        obtain ⟨s2, hs2⟩ : ∃ s2, s2 = s1 % 2 := ⟨_, rfl⟩
        have s1l : s1 < 65536 := by rw [hs1]; exact Nat.lt_of_le_of_lt (Nat.div_le_self _ _) hc
        have f1 : (c : Int) / 2 ^ k = (s1 : Int) := by rw [hs1]; simp
        have f2 : (s1 : Int) % 2 = (s2 : Int) := by omega
        have f3 : ((s2 : Int) == 1) = bt := by
          rw [hbt, ← hs1, ← hs2]
          by_cases z : s2 = 1
          · simp [z]
          · rw [decide_eq_false z, beq_eq_false_iff_ne]; omega
        have hk0 : (0 : Int) ≤ (k : Int) := by omega
        have HBT := Lib.hid hbt
        clear o1 o2 o3 o4 o5 o6 ht hbt hs1 hs2
        cases bt with
        | false =>
          have HSK := Lib.hid (mask_skip (unpackB F).length first c k (by have := HBT.out; simpa using this.symm))
          have HAN := Lib.hid (show anyC c (k + 1) = anyC c k by rw [anyC_succ, ← HBT.out, Bool.or_false])
          go_wp2
          go_roundw
          case rel => exact ⟨k + 1, by go_num, by omega, by have := HT.out; omega, by rw [HAN.out], B, O1.out, O2.out, O3.out, by rw [HSK.out]; exact O4.out, O5.out, O6.out⟩
          case measure => simp [intOf]; omega
        | true =>
          obtain ⟨dd, hdd⟩ : ∃ dd, dd = t / 8 := ⟨_, rfl⟩
          obtain ⟨m8, hm8⟩ : ∃ m8, m8 = t % 8 := ⟨_, rfl⟩
          have hddl : dd < B.length := by have := O2.out; have := HL8.out; omega
          have hm88 : m8 < 8 := by omega
          obtain ⟨x, hx⟩ : ∃ x, B[dd]? = some x := ⟨_, List.getElem?_eq_getElem hddl⟩
          have hx256 := O3.out x (List.mem_of_getElem? hx)
          obtain ⟨y, hy⟩ : ∃ y, y = x ^^^ 128 / 2 ^ m8 := ⟨_, rfl⟩
          have hy256 : y < 256 := by rw [hy]; exact Nat.xor_lt_two_pow (n := 8) hx256 (Nat.lt_of_le_of_lt (Nat.div_le_self _ _) (by decide))
          have hxor : bits .xor .u8 (x : Int) ((128 : Int) / 2 ^ m8) = (y : Int) := by
            have := bits_xor_u8_nat x (128 / 2 ^ m8) hx256 (Nat.lt_of_le_of_lt (Nat.div_le_self _ _) (by decide))
            rw [hy, ← this]
            congr 1
          have hT1 : (t : Int) % 8 = (m8 : Int) := by omega
          have hT2 : (t : Int).tmod 8 = (m8 : Int) := by rw [Int.tmod_eq_emod_of_nonneg (by omega)]; omega
          have hD1 : (t : Int) / 8 = (dd : Int) := by omega
          have hD2 : (t : Int).tdiv 8 = (dd : Int) := by rw [Int.tdiv_eq_ediv_of_nonneg (by omega)]; omega
          have hD3 : IntKind.i64.wrap (dd : Int) = (dd : Int) := IntWalk.i64_in _ (by omega)
          have hD4 : IntKind.i64.wrap (m8 : Int) = (m8 : Int) := IntWalk.i64_in _ (by omega)
          have hddI : (dd : Int) < (F.length : Int) := by have := O2.out; omega
          have hfl2 := unpack_flip B first c k (unpackB F) (by rw [unpackB_len2, O2.out]) O3.out O4.out (by have := HBT.out; simpa using this.symm) (by rw [HUL.out]; have := HT.out; omega) x (by rw [← HT.out, ← hdd]; exact hx)
          rw [← HT.out, ← hdd, ← hm8, ← hy] at hfl2
          have FL2 := Lib.hid hfl2; have HXV := Lib.hid hx; have HYL := Lib.hid hy256
          have HAN := Lib.hid (show anyC c (k + 1) = true by rw [anyC_succ, ← HBT.out, Bool.or_true])
          rcases O1.out.b with ⟨e1', e2'⟩ | ⟨g5, cap5, e1', e2', _⟩
          · rw [e2'] at hddl; simp at hddl
          simp only [Value.slice.injEq] at e1'
          obtain ⟨rfl, hlen, rfl⟩ := e1'
          clear hlen
          have hxc := O1.out.rd.byteAt hx
          rw [Nat.zero_add] at hxc
          have hxf := O1.out.free dd
          have hDL := Lib.hid hddl
          clear hdd hm8 hx hy hfl2 hddl hy256 e2'
          go_wp2
          go_still_tail 13, (by kernel_rfl)
          change wpList _ _ _ _ _ wr.drew
          have hxc6 : wr.drew.cell? ⟨g5, dd, none⟩ = some (.int .u8 (x : Int)) := hxc
          have hxf6 : wr.drew.frozen? ⟨g5, dd, none⟩ = false := hxf
          go_wp2
          have hk5 := Kp.one (w := wr) (p := g5) dd (.int .u8 (y : Int))
          have hg5 := K2.out.ge g5 rfl
          have hw5 : w.heap.size < g5 := Nat.lt_of_lt_of_le Z1.out hg5
          have WN := Lib.hid ((O5.out.newer hk5 (Nat.le_of_lt hw5)).drew)
          have WB := Lib.hid (hk5.drew.blk O6.out (fun e => by have e : w.heap.size = g5 := e; omega))
          have WO : Hid (Own BK 5 (wr.setCell ⟨g5, dd, none⟩ (.int .u8 (y : Int))).drew (.slice (some ⟨g5, 0, none⟩) F.length c2) (B.set dd y)) := Lib.hid ((O1.out.setByte dd y hDL.out).kpNo (Kp.refl No _).drew)
          clear hk5 hg5 hw5
          go_roundw
          case rel => exact ⟨k + 1, by go_num, by omega, by have := HT.out; omega, by rw [HAN.out], B.set dd y, WO.out, by rw [List.length_set]; exact O2.out, fun z hz => by rcases List.mem_or_eq_of_mem_set hz with hz | hz; exact O3.out z hz; rw [hz]; exact HYL.out, FL2.out, WN.out, WB.out⟩
          case measure => simp [intOf]; omega
      · have hBl : B.length ≤ 1000000 := by rw [o2]; omega
        have hcase : ¬ (k : Int) < 16 ∨ ((k : Int) < 16 ∧ ¬ (t : Int) < (L8 : Int)) := by omega
        clear o1 o2 o3 o4 o5 o6 ht hgo
        rcases hcase with z1 | ⟨z1, z2⟩
        all_goals
          cases hA : anyC c k with
          | true =>
            have hbf := burst_found F B first c k HFX.out O3.out IF.out O4.out hk (by rw [HUL.out]; exact hk8) hA
            have HE := Lib.hid (tk_no (take_nof hbf)).2.2.2
            clear hbf hA hk8
            go_wp2_with fail
            refine (take_any O1.out.rd hBl O3.out).mono ?_
            rintro e w5 ⟨v5, rfl, k5⟩
            rw [HE.out]
            obtain ⟨A5, c5, rfl⟩ := k5.own.rd.shape
            have K5 := Lib.hid k5.kp
            clear k5
            go_wp2
            go_ret
            exact ⟨rfl, (O5.out.trans K5.out).alloc _⟩
          | false =>
            have hB : B = F := by
              have h4 := O4.out
              rw [mask_none _ _ _ _ hA, xorL_mask0] at h4
              exact unpack_inj O3.out HFX.out h4
            subst hB
            have LPE := Lib.hid LP.out.e
            have HS := Lib.hid (show sameP h (tkH B) n (tkN B) d (tkD B) = true by unfold sameP; rw [LP.out.h, LP.out.n, LP.out.d]; simp)
            clear hA hk8
            go_wp2_with fail
            refine (take_any O1.out.rd hBl O3.out).mono ?_
            rintro e w5 ⟨v5, rfl, k5⟩
            rw [LPE.out]
            obtain ⟨A5, c5, rfl⟩ := k5.own.rd.shape
            have B5 := k5.kp.blk O6.out (no_no _)
            have p0 : ∀ o, (w5.alloc o).cell? ⟨w.heap.size, 0, none⟩ = some (.bool h) := fun o => (blk_cell (blk_alloc B5 o) 0).trans rfl
            have p1 : ∀ o, (w5.alloc o).cell? ⟨w.heap.size, 1, none⟩ = some (.int .u64 (n : Int)) := fun o => (blk_cell (blk_alloc B5 o) 1).trans rfl
            have p2 : ∀ o, (w5.alloc o).cell? ⟨w.heap.size, 2, none⟩ = some (.slice A d.length cap) := fun o => (blk_cell (blk_alloc B5 o) 2).trans rfl
            have K5 := Lib.hid k5
            clear k5 B5
            go_wp2_with fail
            refine (same_any ((H.out.kpNo (O5.out.trans K5.out.kp)).alloc _) (K5.out.own.rd.alloc _) HX.out (tkD_lt B) h (tkH B) n (tkN B)).mono ?_
            rintro e w6 ⟨rfl, k6⟩
            rw [HS.out]
            have K6 := Lib.hid k6
            clear k6
            go_wp2
            go_ret
            exact ⟨rfl, ((O5.out.trans K5.out.kp).alloc _).trans K6.out⟩
  · have e1 : (er != 0) = true := by simpa using he
    clear hv hdx hn hF her he ha hc hq
    go_enter Try.func8, Try.ntmps8
    go_wp2_with fail
    refine (shown14 _).mono ?_
    rintro e w1 ⟨rfl, k1⟩
    have B1 := k1.blk HBX.out (no_no _)
    have b0 : w1.cell? ⟨w.heap.size, 0, none⟩ = some (.bool h) := (blk_cell B1 0).trans rfl
    have b1 : w1.cell? ⟨w.heap.size, 1, none⟩ = some (.int .u64 (n : Int)) := (blk_cell B1 1).trans rfl
    have b2 : w1.cell? ⟨w.heap.size, 2, none⟩ = some (.slice A d.length cap) := (blk_cell B1 2).trans rfl
    have K1 := Lib.hid (((Kp.refl No w).alloc _).trans k1)
    clear k1 B1
    go_wp2_with fail
    refine (lay_any (H.out.kpNo K1.out) h n HN.out HX.out).mono ?_
    rintro e w2 ⟨v2, rfl, k2⟩
    rw [← HER.out]
    obtain ⟨A2, c2, rfl⟩ := k2.own.rd.shape
    have K2 := Lib.hid k2.kp
    clear k2
    go_wp2
    go_ret
    exact ⟨rfl, K1.out.trans K2.out⟩

open Go.ChangeShapes Go.WideShapes Go.ChangeAt Go.Joins in
theorem turned_row {w : World} {v : Value} {d : List Nat} (hv : Rd BK w v d) (h : Bool) (n : Nat) (hn : n < 18446744073709551616) (hdx : ∀ x ∈ d, x < 256) (a c q : Int) (ha : (Lit.int .u64 a).wf = true) (hc : (Lit.int .u16 c).wf = true) (hq : (Lit.int .u8 q).wf = true) :
    Calls Try.prog 8 #[.agg #[.bool h, .int .u64 (n : Int), v], .int .u64 a, .int .u16 c, .int .u8 q] w (LawR w) := by
  have b1 := bounds_u64 ha
  have b2 := bounds_u16 hc
  have b3 := bounds_u8 hq
  obtain ⟨a, rfl⟩ := Int.eq_ofNat_of_zero_le b1.1
  obtain ⟨c, rfl⟩ := Int.eq_ofNat_of_zero_le b2.1
  obtain ⟨q, rfl⟩ := Int.eq_ofNat_of_zero_le b3.1
  exact turned_any hv h n hn hdx a (by omega) c (by omega) q (by omega)
end Go.Proofs.Ytnejjjoedmefkaa
