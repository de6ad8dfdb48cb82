/- WindowEither: the walk. -/
import Derived.Test.YtihnbgokkhbjnaaWinEitherP
namespace Go.Proofs.Ytihnbgokkhbjnaa
set_option linter.unusedVariables false
set_option linter.unusedSimpArgs false
open Go.RowKit

set_option maxRecDepth 100000 in
theorem in_any {w : World} {A : Option Addr} {cap : Nat} {l : List (Int × Int)} (h : Rd WK w (.slice A l.length cap) l) (hlen : l.length ≤ 1000000) (m : Int) (r : Bool) (hr : r = inB m l) :
    Calls Try.prog 23 #[.int .i64 m, .slice A l.length cap] w fun e w' => e = .returned (.bool r) ∧ Kp No w w' := by
  have H := Lib.hid h; have HR := Lib.hid hr
  clear h hr
  go_enter Try.func23, Try.ntmps23
  go_wp2
  go_loopw [9] (fun i wr => ∃ k : Nat, i = .int .i64 k ∧ k ≤ l.length ∧ inB m (l.take k) = false ∧ Kp No w wr) (fun i _ => l.length - (intOf i).toNat)
  case atStart => exact ⟨0, rfl, by omega, rfl, Kp.refl _ _⟩
  case round =>
    obtain ⟨k, rfl, hk, hin, hK⟩ := hrel
    by_cases hlt : k < l.length
    · obtain ⟨x, hx⟩ : ∃ x, l[k]? = some x := ⟨_, List.getElem?_eq_getElem hlt⟩
      have HRD := Lib.hid (H.out.kpNo hK)
      rcases H.out with ⟨hv, he⟩ | ⟨g, o, cap', hv, _⟩
      · rw [he] at hlt; simp at hlt
      simp only [Value.slice.injEq] at hv
      obtain ⟨rfl, _, rfl⟩ := hv
      obtain ⟨hc1, hc2⟩ := HRD.out.winAt hx
      have hsn := inB_snoc m l k x hx
      rw [hin, Bool.false_or] at hsn
      have hany : (decide (x.1 ≤ m) && decide (m < x.2)) = true → inB m l = true := fun h => by
        simp only [inB, List.any_eq_true]; exact ⟨x, List.mem_of_getElem? hx, h⟩
      have HSN := Lib.hid hsn; have HK := Lib.hid hK; have HANY := Lib.hid hany
      have hltI : (k : Int) < (l.length : Int) := by omega
      clear hin hK hx hsn hany
      by_cases h1 : x.1 ≤ m
      · by_cases h2 : m < x.2
        · have hrt : r = true := by rw [HR.out]; exact HANY.out (by simp [h1, h2])
          subst hrt
          go_wp2
          go_ret
          exact ⟨rfl, HK.out.alloc _⟩
        · go_wp2
          go_roundw
          case rel => exact ⟨k + 1, by go_num, by omega, by rw [HSN.out]; simp [h2], HK.out.alloc _⟩
          case measure => simp [intOf]; omega
      · go_wp2
        go_roundw
        case rel => exact ⟨k + 1, by go_num, by omega, by rw [HSN.out]; simp [h1], HK.out.alloc _⟩
        case measure => simp [intOf]; omega
    · obtain rfl : k = l.length := by omega
      rw [List.take_length] at hin
      have hrf : r = false := by rw [HR.out]; exact hin
      subst hrf
      have HK := Lib.hid hK
      clear hin hK
      have hd0 : ¬ (l.length : Int) < (l.length : Int) := by omega
      go_wp2
      go_ret
      exact ⟨rfl, HK.out⟩

set_option maxHeartbeats 2000000 in
set_option maxRecDepth 100000 in
theorem either_any (A : Option Addr) (cap : Nat) (l : List WAct) (c m : Int) (w : World) (hl : RdA AK w (.slice A l.length cap) l) (hlc : l.length ≤ cap) (hc : cap ≤ maxLen) (hg : ∀ a ∈ l, 0 ≤ a.k) :
    Calls Try.prog 7 #[.slice A l.length cap, .int .i64 c, .int .i64 m] w fun e w' => e = .returned (.bool true) ∧ Kp No w w' := by
  obtain ⟨acts, ha⟩ : ∃ acts, acts = l.take 200 := ⟨_, rfl⟩
  obtain ⟨N, hN⟩ : ∃ N, N = min 200 l.length := ⟨_, rfl⟩
  have hal : acts.length = N := by rw [ha, List.length_take, hN]
  have hrd : RdA AK w (.slice A N cap) acts := by rw [hN, ha]; exact hl.take 200
  have hga : ∀ a ∈ acts, 0 ≤ a.k := fun a h => hg a (List.mem_of_mem_take (ha ▸ h))
  have hNb : N ≤ 200 := by omega
  have HN := Lib.hid hN; have HRD := Lib.hid hrd; have HG := Lib.hid hga; have HAL := Lib.hid hal
  clear hl hN hrd hg hga ha hal
  go_enter Try.func7, Try.ntmps7
  go_wp2_with fail
  refine (shown_any _).mono ?_
  rintro e w1 ⟨rfl, k1⟩
  have K1 := Lib.hid k1; clear k1
  go_wp2_with fail
  refine (new_at _).mono ?_
  rintro e w2 ⟨bt, rfl, r2⟩
  have R2 := Lib.hid r2; clear r2
  go_wp2_with fail
  refine (few_any hlc hc).mono ?_
  rintro e w3 ⟨rfl, rfl⟩
  rw [← HN.out]
  go_wp2
  go_loopw [23] (fun i wr => ∃ k : Nat, i = .int .i64 k ∧ k ≤ N ∧ AtT w1 bt (playT (acts.take k)) wr) (fun i _ => N - (intOf i).toNat)
  case atStart => exact ⟨0, rfl, by omega, R2.out⟩
  case round =>
    obtain ⟨k, rfl, hk, hat⟩ := hrel
    by_cases hlt : k < N
    · obtain ⟨x, hx⟩ : ∃ x, acts[k]? = some x := ⟨_, List.getElem?_eq_getElem (by have := HAL.out; omega)⟩
      obtain ⟨g, o, rfl, c0, c1, c2, c3⟩ := AK_at (HRD.out.kpNo (K1.out.no hat.kp)) hx
      have hka : 0 ≤ x.k := HG.out x (List.mem_of_getElem? hx)
      have hltI : (k : Int) < (N : Int) := by omega
      have HS := Lib.hid (playT_snoc acts k x hx)
      have hwf := Lib.hid (playT_wf (acts.take k))
      generalize playT (acts.take k) = T0 at *
      generalize hTe : playT (acts.take (k + 1)) = T at *
      have HTE := Lib.hid hTe
      clear hTe
      obtain ⟨F, f1, f2, f3, f4⟩ := hat
      have hF1 := Lib.hid f1; have hF2 := Lib.hid f2; have hF3 := Lib.hid f3; have hF4 := Lib.hid f4
      clear hx f1 f2 f3 f4
      go_wp2_with fail
      refine (does_tab (hF1.out.kpNo ((Kp.refl _ _).alloc _)) hwf.out x hka _ rfl).mono ?_
      rintro e w5 ⟨rfl, r5⟩
      rw [← HS.out] at r5
      have R5 := Lib.hid (AtT.to (hF1.out.kpNo ((Kp.refl _ _).alloc _)) (hF2.out.alloc _) hF3.out hF4.out r5)
      clear r5
      go_wp2
      go_roundw
      case rel => exact ⟨k + 1, by go_num, by omega, by rw [HTE.out]; exact R5.out⟩
      case measure => simp [intOf]; omega
    · obtain rfl : k = N := by omega
      have hwf' := Lib.hid (playT_wf (acts.take k))
      generalize playT (acts.take k) = T at *
      have RR := Lib.hid hat
      clear hat
      go_wp2_with fail
      refine (free_at RR.out hwf'.out c).mono ?_
      rintro e w6 ⟨v1, rfl, a1, a2, a3, a4⟩
      have a1 := a1.rd
      obtain ⟨A1, q1, rfl⟩ := a1.shape
      have V1 := Lib.hid a1; have R6 := Lib.hid a4; have KA := Lib.hid a2
      clear a1 a2 a3 a4
      go_wp2_with fail
      refine (taken_at R6.out hwf'.out c).mono ?_
      rintro e w7 ⟨v2, rfl, b1, b2, b3, b4⟩
      have b1 := b1.rd
      obtain ⟨A2, q2, rfl⟩ := b1.shape
      have V2 := Lib.hid b1; have R7 := Lib.hid b4; have KB := Lib.hid b2; have V1' := Lib.hid (V1.out.kpNo b2)
      clear b1 b2 b3 b4
      have HFI := Lib.hid (fun h1 h2 => free_in (hwf'.out c) m h1 h2)
      have HII := Lib.hid (fun h1 h2 => is_in (hwf'.out c) m h1 h2)
      have HO1 := Lib.hid (free_ord (hwf'.out c)); have HO2 := Lib.hid (hwf'.out c).ordd
      have hl2 := (hwf'.out c).len
      have hl1 := freeL_len (T c)
      generalize hL1 : freeL (T c) = L1 at *
      generalize hL2 : T c = L2 at *
      have HL2 := Lib.hid hL2
      clear hL1 hL2
      go_wp2
      obtain ⟨wq, hwq⟩ : ∃ wq : World, wq = w7.alloc (.cells #[.slice A1 L1.length q1, .slice A2 L2.length q2] 30) := ⟨_, rfl⟩
      have U1 : Hid (Rd WK wq (.slice A1 L1.length q1) L1) := hwq ▸ V1'.out.alloc _
      have U2 : Hid (Rd WK wq (.slice A2 L2.length q2) L2) := hwq ▸ V2.out.alloc _
      have RQ : Hid (AtT w1 bt T wq) := hwq ▸ R7.out.kpNo ((Kp.refl _ _).alloc _)
      have hcl : wq.heap[w7.heap.size]? = some (.cells #[.slice A1 L1.length q1, .slice A2 L2.length q2] 30 (0, 0)) := hwq ▸ blk_new w7 _
      have HCL := Lib.hid hcl
      rw [← hwq]
      clear hwq hcl
      go_loopw [41] (fun i wr => ∃ q : Nat, i = .int .i64 q ∧ q ≤ 2 ∧ Kp No wq wr) (fun i _ => 2 - (intOf i).toNat)
      case atStart => exact ⟨0, rfl, by omega, Kp.refl _ _⟩
      case round =>
        obtain ⟨q, rfl, hq, hKq⟩ := hrel
        by_cases hq2 : q < 2
        · have hex : ∃ (v : Value) (L : List (Int × Int)), wr.cell? ⟨w7.heap.size, q, none⟩ = some v ∧ Rd WK wr v L ∧ L.length ≤ 4097 ∧ Ordd L := by
            have h0 := hKq.cellS ((blk_cell HCL.out 0).trans rfl) (no_no _)
            have h1 := hKq.cellS ((blk_cell HCL.out 1).trans rfl) (no_no _)
            have : q = 0 ∨ q = 1 := by omega
            rcases this with rfl | rfl
            · exact ⟨_, L1, h0, U1.out.kpNo hKq, by omega, HO1.out⟩
            · exact ⟨_, L2, h1, U2.out.kpNo hKq, by omega, HO2.out⟩
          obtain ⟨v, L, hcell, hrdv, hL, hod⟩ := hex
          obtain ⟨B, cb, rfl⟩ := hrdv.shape
          have HKQ := Lib.hid hKq; have HRV := Lib.hid hrdv; have HOD := Lib.hid hod
          have hqI : (q : Int) < 2 := by omega
          clear hKq hrdv hod
          go_wp2
          go_loopw [47] (fun i wr' => ∃ j : Nat, i = .int .i64 j ∧ j ≤ L.length ∧ Kp No wr wr') (fun i _ => L.length - (intOf i).toNat)
          case atStart => exact ⟨0, rfl, by omega, Kp.refl _ _⟩
          case round =>
            obtain ⟨j, rfl, hj, hKj⟩ := hrel
            by_cases hlt4 : j < L.length
            · obtain ⟨x, hx⟩ : ∃ x, L[j]? = some x := ⟨_, List.getElem?_eq_getElem hlt4⟩
              have HR4 := Lib.hid (HRV.out.kpNo hKj)
              rcases HRV.out with ⟨hv, he⟩ | ⟨g, o, cap', hv, _⟩
              · rw [he] at hlt4; simp at hlt4
              simp only [Value.slice.injEq] at hv
              obtain ⟨rfl, _, rfl⟩ := hv
              obtain ⟨hc1, hc2⟩ := HR4.out.winAt hx
              obtain ⟨z1, z2, z3⟩ := HOD.out.1 x (List.mem_of_getElem? hx)
              have HKJ := Lib.hid hKj
              have hltI : (j : Int) < (L.length : Int) := by omega
              have n1 : decide (x.1 < 0) = false := decide_eq_false (by omega)
              have n2 : decide (x.2 ≤ x.1) = false := decide_eq_false (by omega)
              have n3 : decide (1048576 < x.2) = false := decide_eq_false (by omega)
              clear hKj z1 z2 z3
              by_cases hj0 : j = 0
              · subst hj0
                clear hx hlt4
                simp only [Nat.zero_mul, Nat.add_zero] at hc1 hc2
                have hz : decide ((0 : Int) < 0) = false := rfl
                go_wp2
                go_quiet (fail)
                go_wp2
                go_roundw
                case rel => exact ⟨1, by go_num, by omega, HKJ.out.drewN _⟩
                case measure => simp [intOf]; omega
              · obtain ⟨p, hp⟩ : ∃ p, p + 1 = j := ⟨j - 1, by omega⟩
                obtain ⟨y, hy⟩ : ∃ y, L[p]? = some y := ⟨_, List.getElem?_eq_getElem (by omega)⟩
                obtain ⟨hd1, hd2⟩ := HR4.out.winAt hy
                have hxy : y.2 ≤ x.1 := by
                  have := List.pairwise_iff_getElem.1 HOD.out.2 p j (by omega) (by omega) (by omega)
                  rwa [(List.getElem?_eq_some_iff.1 hx).2, (List.getElem?_eq_some_iff.1 hy).2] at this
                have n4 : decide (x.1 < y.2) = false := decide_eq_false (by omega)
                have hw1 : IntKind.i64.wrap ((j : Int) - 1) = (p : Int) := by rw [IntWalk.i64_in _ (by omega)]; omega
                have hjI : (p : Int) < (L.length : Int) := by omega
                have hpos : decide ((0 : Int) < (j : Int)) = true := decide_eq_true (by omega)
                have hpos2 : decide (0 < j) = true := decide_eq_true (by omega)
                have hpos3 : 0 < j := by omega
                clear hx hlt4 hy hxy hp hj0
                go_wp2
                go_quiet (fail)
                go_wp2
                go_roundw
                case rel => exact ⟨j + 1, by go_num, by omega, HKJ.out.drewN _⟩
                case measure => simp [intOf]; omega
            · obtain rfl : j = L.length := by omega
              have hd0 : ¬ (L.length : Int) < (L.length : Int) := by omega
              have HKJ := Lib.hid hKj
              clear hKj
              go_wp2
              go_roundw
              case rel => exact ⟨q + 1, by go_num, by omega, HKQ.out.no HKJ.out⟩
              case measure => simp [intOf]; omega
        · obtain rfl : q = 2 := by omega
          have HR8 := Lib.hid (RQ.out.kpNo hKq)
          have HU1 := Lib.hid (U1.out.kpNo hKq)
          have HU2 := Lib.hid (U2.out.kpNo hKq)
          clear hKq
          by_cases h1 : m < 0
          · have hf : false = isF (T c) m := by unfold isF; simp; omega
            have HF := Lib.hid hf
            clear hf
            go_wp2_with fail
            refine (is_at HR8.out hwf'.out c m false HF.out).mono ?_
            rintro e w9 ⟨rfl, k9, _⟩
            have K9 := Lib.hid k9; clear k9
            go_wp2
            go_ret
            exact ⟨rfl, K1.out.no K9.out.kp⟩
          by_cases h2 : m < 1048576
          · have h0 : ¬ (1048576 : Int) ≤ m := by omega
            obtain ⟨r, hr⟩ : ∃ r, r = inB m L1 := ⟨_, rfl⟩
            have hr2 : (!r) = inB m L2 := by rw [hr, HFI.out (by omega) h2]; simp
            have hr3 : r = isF (T c) m := by rw [hr, HL2.out, HII.out (by omega) h2, HFI.out (by omega) h2]
            have HR1 := Lib.hid hr; have HR2 := Lib.hid hr2; have HR3 := Lib.hid hr3
            clear hr hr2 hr3
            go_wp2_with fail
            refine (in_any HU1.out (by omega) m r HR1.out).mono ?_
            rintro e w9 ⟨rfl, k9⟩
            have K9 := Lib.hid k9; have HU2' := Lib.hid (HU2.out.kpNo k9); clear k9
            go_wp2_with fail
            refine (in_any HU2'.out (by omega) m (!r) HR2.out).mono ?_
            rintro e w10 ⟨rfl, k10⟩
            have HR10 := Lib.hid ((HR8.out.kpNo K9.out).kpNo k10); have HU3 := Lib.hid ((HU1.out.kpNo K9.out).kpNo k10); clear k10
            cases r
            · go_wp2_with fail
              refine (is_at HR10.out hwf'.out c m false HR3.out).mono ?_
              rintro e w11 ⟨rfl, k11, k12⟩
              have K11 := Lib.hid k11; have HU4 := Lib.hid (HU3.out.kpNo k12); clear k11 k12
              go_wp2_with fail
              refine (in_any HU4.out (by omega) m false HR1.out).mono ?_
              rintro e w12 ⟨rfl, k12⟩
              have K12 := Lib.hid ((K1.out.no K11.out.kp).no k12); clear k12
              go_wp2
              go_ret
              exact ⟨rfl, K12.out⟩
            · go_wp2_with fail
              refine (is_at HR10.out hwf'.out c m true HR3.out).mono ?_
              rintro e w11 ⟨rfl, k11, k12⟩
              have K11 := Lib.hid k11; have HU4 := Lib.hid (HU3.out.kpNo k12); clear k11 k12
              go_wp2_with fail
              refine (in_any HU4.out (by omega) m true HR1.out).mono ?_
              rintro e w12 ⟨rfl, k12⟩
              have K12 := Lib.hid ((K1.out.no K11.out.kp).no k12); clear k12
              go_wp2
              go_ret
              exact ⟨rfl, K12.out⟩
          · have h0 : (1048576 : Int) ≤ m := by omega
            have hf : false = isF (T c) m := by unfold isF; simp; omega
            have HF := Lib.hid hf
            clear hf
            go_wp2_with fail
            refine (is_at HR8.out hwf'.out c m false HF.out).mono ?_
            rintro e w9 ⟨rfl, k9, _⟩
            have K9 := Lib.hid k9; clear k9
            go_wp2
            go_ret
            exact ⟨rfl, K1.out.no K9.out.kp⟩
end Go.Proofs.Ytihnbgokkhbjnaa
