/- WindowSums: the walk. -/
import Derived.Test.YtihnbgokkhbjnaaWinBackW
namespace Go.Proofs.Ytihnbgokkhbjnaa
set_option linter.unusedVariables false
set_option linter.unusedSimpArgs false
open Go.RowKit

def sumL (l : List (Int × Int)) : Int := (l.map fun x => x.2 - x.1).sum

theorem sumL_append (a b : List (Int × Int)) : sumL (a ++ b) = sumL a + sumL b := by simp [sumL]
theorem sumL_one (x : Int × Int) : sumL [x] = x.2 - x.1 := by simp [sumL]
theorem sum_snoc (l : List (Int × Int)) (k : Nat) (x : Int × Int) (h : l[k]? = some x) : sumL (l.take (k + 1)) = sumL (l.take k) + (x.2 - x.1) := by
  rw [List.take_add_one, h]
  simp [sumL]

theorem fpre_sum {l : List (Int × Int)} (hw : WFL l) : ∀ k, k ≤ l.length → sumL (fpre (l.take k)).1 + sumL (l.take k) = (fpre (l.take k)).2 ∧ 0 ≤ (fpre (l.take k)).2 ∧ (fpre (l.take k)).2 ≤ 1048576 ∧ (∀ x, l[k]? = some x → (fpre (l.take k)).2 ≤ x.1) := by
  intro k
  induction k with
  | zero =>
    intro _
    refine ⟨by simp [fpre, sumL], by simp [fpre], by simp [fpre], fun x hx => ?_⟩
    have := (hw.rt x (List.mem_of_getElem? hx)).1
    simpa [fpre] using this
  | succ k ih =>
    intro hk
    obtain ⟨x, hx⟩ : ∃ x, l[k]? = some x := ⟨_, List.getElem?_eq_getElem (by omega)⟩
    obtain ⟨i1, i2, i3, i4⟩ := ih (by omega)
    have hr := hw.rt x (List.mem_of_getElem? hx)
    rw [fpre_snoc l k x hx, sum_snoc l k x hx]
    have h4 := i4 x hx
    generalize fpre (l.take k) = s at *
    refine ⟨?_, by simp [fstep]; omega, by simp [fstep]; omega, fun y hy => ?_⟩
    · simp only [fstep]
      split
      · rw [sumL_append, sumL_one]
        simp only
        omega
      · omega
    · simp only [fstep]
      have hkl := (List.getElem?_eq_some_iff.1 hy).1
      have := List.pairwise_iff_getElem.1 hw.ord k (k + 1) (by omega) hkl (by omega)
      rw [(List.getElem?_eq_some_iff.1 hx).2, (List.getElem?_eq_some_iff.1 hy).2] at this
      exact this

/-- The free windows and those that are taken are as long together as all time. -/
theorem free_sum {l : List (Int × Int)} (hw : WFL l) : sumL (freeL l) + sumL l = 1048576 := by
  obtain ⟨h1, h2, h3, _⟩ := fpre_sum hw l.length (Nat.le_refl _)
  rw [List.take_length] at *
  unfold freeL
  generalize fpre l = s at *
  split
  · rw [sumL_append, sumL_one]
    simp only
    omega
  · omega
theorem freeL_wf {l : List (Int × Int)} (hw : WFL l) : ∀ x ∈ freeL l, 0 ≤ x.1 ∧ x.1 < x.2 ∧ x.2 ≤ 1048576 := by
  have key : ∀ k, k ≤ l.length → ∀ x ∈ (fpre (l.take k)).1, 0 ≤ x.1 ∧ x.1 < x.2 ∧ x.2 ≤ 1048576 := by
    intro k
    induction k with
    | zero => intro _ x hx; simp [fpre] at hx
    | succ k ih =>
      intro hk x hx
      obtain ⟨y, hy⟩ : ∃ y, l[k]? = some y := ⟨_, List.getElem?_eq_getElem (by omega)⟩
      obtain ⟨i1, i2, i3, i4⟩ := fpre_sum hw k (by omega)
      have hr := hw.rt y (List.mem_of_getElem? hy)
      rw [fpre_snoc l k y hy] at hx
      simp only [fstep] at hx
      split at hx
      · simp only [List.mem_append, List.mem_singleton] at hx
        rcases hx with hx | rfl
        · exact ih (by omega) x hx
        · simp only; omega
      · exact ih (by omega) x hx
  intro x hx
  have h := key l.length (Nat.le_refl _)
  obtain ⟨i1, i2, i3, i4⟩ := fpre_sum hw l.length (Nat.le_refl _)
  rw [List.take_length] at *
  unfold freeL at hx
  split at hx
  · simp only [List.mem_append, List.mem_singleton] at hx
    rcases hx with hx | rfl
    · exact h x hx
    · simp only; omega
  · exact h x hx
theorem freeL_len (l : List (Int × Int)) : (freeL l).length ≤ l.length + 1 := by
  have := fpre_len l
  unfold freeL
  split
  · simp; omega
  · omega
theorem sum_bound {l : List (Int × Int)} (h : ∀ x ∈ l, 0 ≤ x.1 ∧ x.1 < x.2 ∧ x.2 ≤ 1048576) : ∀ k, 0 ≤ sumL (l.take k) ∧ sumL (l.take k) ≤ 1048576 * (l.length : Int) := by
  intro k
  have : ∀ (l : List (Int × Int)), (∀ x ∈ l, 0 ≤ x.1 ∧ x.1 < x.2 ∧ x.2 ≤ 1048576) → 0 ≤ sumL l ∧ sumL l ≤ 1048576 * (l.length : Int) := by
    intro l
    induction l with
    | nil => intro _; simp [sumL]
    | cons x l ih =>
      intro h
      have h1 := h x (List.mem_cons_self)
      have h2 := ih fun y hy => h y (List.mem_cons_of_mem _ hy)
      simp only [sumL, List.map_cons, List.sum_cons, List.length_cons] at h2 ⊢
      omega
  have h2 := this (l.take k) fun x hx => h x (List.mem_of_mem_take hx)
  have : (l.take k).length ≤ l.length := by simp; omega
  omega

set_option maxHeartbeats 8000000 in
set_option maxRecDepth 100000 in
theorem sums_any (A : Option Addr) (cap : Nat) (l : List WAct) (c : Int) (w : World) (hl : RdA AK w (.slice A l.length cap) l) (hlc : l.length ≤ cap) (hc : cap ≤ maxLen) (hg : ∀ a ∈ l, 0 ≤ a.k) :
    Calls Try.prog 5 #[.slice A l.length cap, .int .i64 c] w fun e w' => e = .returned (.bool true) ∧ Kp No w w' := by
  obtain ⟨acts, ha⟩ : ∃ acts, acts = l.take 200 := ⟨_, rfl⟩
  obtain ⟨N, hN⟩ : ∃ N, N = min 200 l.length := ⟨_, rfl⟩
  have hal : acts.length = N := by rw [ha, List.length_take, hN]
  have hrd : RdA AK w (.slice A N cap) acts := by rw [hN, ha]; exact hl.take 200
  have hga : ∀ a ∈ acts, 0 ≤ a.k := fun a h => hg a (List.mem_of_mem_take (ha ▸ h))
  have hNb : N ≤ 200 := by omega
  have HN := Lib.hid hN; have HRD := Lib.hid hrd; have HG := Lib.hid hga; have HAL := Lib.hid hal
  clear hl hN hrd hg hga ha hal
  go_enter Try.func5, Try.ntmps5
  go_wp2_with fail
  refine (shown_any _).mono ?_
  rintro e w1 ⟨rfl, k1⟩
  have K1 := Lib.hid k1; clear k1
  go_wp2_with fail
  refine (new_at _).mono ?_
  rintro e w2 ⟨bt, rfl, r2⟩
  have R2 := Lib.hid r2; clear r2
  go_wp2_with fail
  refine (few_any hlc hc).mono ?_
  rintro e w3 ⟨rfl, rfl⟩
  rw [← HN.out]
  go_wp2
  go_loopw [23] (fun i wr => ∃ k : Nat, i = .int .i64 k ∧ k ≤ N ∧ AtT w1 bt (playT (acts.take k)) wr) (fun i _ => N - (intOf i).toNat)
  case atStart => exact ⟨0, rfl, by omega, R2.out⟩
  case round =>
    obtain ⟨k, rfl, hk, hat⟩ := hrel
    by_cases hlt : k < N
    · obtain ⟨x, hx⟩ : ∃ x, acts[k]? = some x := ⟨_, List.getElem?_eq_getElem (by have := HAL.out; omega)⟩
      obtain ⟨g, o, rfl, c0, c1, c2, c3⟩ := AK_at (HRD.out.kpNo (K1.out.no hat.kp)) hx
      have hka : 0 ≤ x.k := HG.out x (List.mem_of_getElem? hx)
      have hltI : (k : Int) < (N : Int) := by omega
      have HS := Lib.hid (playT_snoc acts k x hx)
      have hwf := Lib.hid (playT_wf (acts.take k))
      have hwf' := Lib.hid (playT_wf (acts.take (k + 1)))
      generalize playT (acts.take k) = T0 at *
      generalize hTe : playT (acts.take (k + 1)) = T at *
      have HTE := Lib.hid hTe
      clear hTe
      obtain ⟨F, f1, f2, f3, f4⟩ := hat
      have hvn : Hid (¬ F wr.heap.size) := fun h => Nat.lt_irrefl _ (f1.lt.2 _ h)
      have hF1 := Lib.hid f1; have hF2 := Lib.hid f2; have hF3 := Lib.hid f3; have hF4 := Lib.hid f4
      clear hx f1 f2 f3 f4
      go_wp2_with fail
      refine (does_tab (hF1.out.kpNo ((Kp.refl _ _).alloc _)) hwf.out x hka _ rfl).mono ?_
      rintro e w5 ⟨rfl, r5⟩
      rw [← HS.out] at r5
      have hcell : w5.cell? ⟨wr.heap.size, 1, none⟩ = some (.int .i64 x.c) := by
        obtain ⟨F', g1, g2, g3⟩ := r5
        exact g2.cellS ((blk_cell (blk_new wr _) 1).trans rfl) hvn.out
      have R5 := Lib.hid (AtT.to (hF1.out.kpNo ((Kp.refl _ _).alloc _)) (hF2.out.alloc _) hF3.out hF4.out r5)
      clear r5
      go_wp2
      obtain ⟨wo, hwo⟩ : ∃ wo : World, wo = w5.alloc (.cells #[.int .i64 c, .int .i64 x.c] 3) := ⟨_, rfl⟩
      have RO : Hid (AtT w1 bt T wo) := hwo ▸ R5.out.kpNo ((Kp.refl _ _).alloc _)
      have hci : wo.heap[w5.heap.size]? = some (.cells #[.int .i64 c, .int .i64 x.c] 3 (0, 0)) := hwo ▸ blk_new w5 _
      have HCI := Lib.hid hci
      rw [← hwo]
      clear hwo hci
      go_loopw [35] (fun i wr => ∃ k : Nat, i = .int .i64 k ∧ k ≤ 2 ∧ Kp No wo wr) (fun i _ => 2 - (intOf i).toNat)
      case atStart => exact ⟨0, rfl, by omega, Kp.refl _ _⟩
      case round =>
        obtain ⟨k2, rfl, hk2, hK2⟩ := hrel
        by_cases hlt2 : k2 < 2
        · obtain ⟨c', hc'⟩ : ∃ c', wr.cell? ⟨w5.heap.size, k2, none⟩ = some (.int .i64 c') := by
            have h0 := hK2.cellS ((blk_cell HCI.out 0).trans rfl) (no_no _)
            have h1 := hK2.cellS ((blk_cell HCI.out 1).trans rfl) (no_no _)
            have : k2 = 0 ∨ k2 = 1 := by omega
            rcases this with rfl | rfl
            · exact ⟨_, h0⟩
            · exact ⟨_, h1⟩
          have hI2 : (k2 : Int) < 2 := by omega
          have RR := Lib.hid (RO.out.kpNo hK2)
          have HK2 := Lib.hid hK2
          clear hK2
          go_wp2_with fail
          refine (free_at RR.out hwf'.out c').mono ?_
          rintro e w6 ⟨v1, rfl, a1, a2, a3, a4⟩
          have a1 := a1.rd
          obtain ⟨A1, q1, rfl⟩ := a1.shape
          have V1 := Lib.hid a1; have R6 := Lib.hid a4; have KA := Lib.hid a2
          clear a1 a2 a3 a4
          go_wp2_with fail
          refine (taken_at R6.out hwf'.out c').mono ?_
          rintro e w7 ⟨v2, rfl, b1, b2, b3, b4⟩
          have b1 := b1.rd
          obtain ⟨A2, q2, rfl⟩ := b1.shape
          have V2 := Lib.hid b1; have R7 := Lib.hid b4; have KB := Lib.hid b2; have V1' := Lib.hid (V1.out.kpNo b2)
          clear b1 b2 b3 b4
          go_wp2
          obtain ⟨wq, hwq⟩ : ∃ wq : World, wq = w7.alloc (.cells #[.slice A1 (freeL (T c')).length q1, .slice A2 (T c').length q2] 30) := ⟨_, rfl⟩
          have U1 : Hid (Rd WK wq (.slice A1 (freeL (T c')).length q1) (freeL (T c'))) := hwq ▸ V1'.out.alloc _
          have U2 : Hid (Rd WK wq (.slice A2 (T c').length q2) (T c')) := hwq ▸ V2.out.alloc _
          have KQ : Hid (Kp No wo wq) := hwq ▸ (((HK2.out.no KA.out).no KB.out).alloc _)
          have hcl : wq.heap[w7.heap.size]? = some (.cells #[.slice A1 (freeL (T c')).length q1, .slice A2 (T c').length q2] 30 (0, 0)) := hwq ▸ blk_new w7 _
          have HCL := Lib.hid hcl
          rw [← hwq]
          have hs := free_sum (hwf'.out c')
          have hbd1 := sum_bound (freeL_wf (hwf'.out c'))
          have hbd2 := sum_bound (hwf'.out c').rt
          have hl2 := (hwf'.out c').len
          have hl1 := freeL_len (T c')
          generalize freeL (T c') = L1 at *
          generalize T c' = L2 at *
          have HS1 := Lib.hid hs; have HB1 := Lib.hid hbd1; have HB2 := Lib.hid hbd2
          clear hwq hcl hs hbd1 hbd2
          go_loopw [9, 47] (fun n i wr => ∃ q : Nat, i = .int .i64 q ∧ q ≤ 2 ∧ n = .int .i64 (if q = 0 then 0 else if q = 1 then sumL L1 else sumL L1 + sumL L2) ∧ Kp No wq wr) (fun _ i _ => 2 - (intOf i).toNat)
          case atStart => exact ⟨0, rfl, by omega, rfl, Kp.refl _ _⟩
          case round =>
            obtain ⟨q, rfl, hq, hn, hKq⟩ := hrel
            by_cases hq2 : q < 2
            · have hex : ∃ (v : Value) (L : List (Int × Int)) (s0 : Int), wr.cell? ⟨w7.heap.size, q, none⟩ = some v ∧ Rd WK wr v L ∧ L.length ≤ 4097 ∧ (∀ k, 0 ≤ sumL (L.take k) ∧ sumL (L.take k) ≤ 1048576 * (L.length : Int)) ∧
                  s0 = (if q = 0 then 0 else if q = 1 then sumL L1 else sumL L1 + sumL L2) ∧ 0 ≤ s0 ∧ s0 ≤ 1048576 * 4097 ∧ (if q + 1 = 0 then 0 else if q + 1 = 1 then sumL L1 else sumL L1 + sumL L2) = s0 + sumL L := by
                have h0 := hKq.cellS ((blk_cell HCL.out 0).trans rfl) (no_no _)
                have h1 := hKq.cellS ((blk_cell HCL.out 1).trans rfl) (no_no _)
                have hsl1 := HB1.out L1.length
                rw [List.take_length] at hsl1
                have : q = 0 ∨ q = 1 := by omega
                rcases this with rfl | rfl
                · exact ⟨_, L1, 0, h0, U1.out.kpNo hKq, by omega, HB1.out, rfl, by omega, by omega, by simp⟩
                · exact ⟨_, L2, sumL L1, h1, U2.out.kpNo hKq, by omega, HB2.out, rfl, by omega, by omega, by simp⟩
              obtain ⟨v, L, s0, hcell, hrdv, hL, hbd, hs0, hs1, hs2, hs3⟩ := hex
              rw [← hs0] at hn
              subst hn
              obtain ⟨B, cb, rfl⟩ := hrdv.shape
              have HKQ := Lib.hid hKq; have HRV := Lib.hid hrdv; have HBD := Lib.hid hbd; have H3 := Lib.hid hs3
              have hqI : (q : Int) < 2 := by omega
              clear hKq hrdv hbd hs0 hs3
              go_wp2
              obtain ⟨wp, hwp⟩ : ∃ wp : World, wp = wr := ⟨_, rfl⟩
              go_loopw [9, 15, 53] (fun n _ i wr' => ∃ j : Nat, i = .int .i64 j ∧ j ≤ L.length ∧ n = .int .i64 (s0 + sumL (L.take j)) ∧ Kp No wr wr') (fun _ _ i _ => L.length - (intOf i).toNat)
              case atStart => exact ⟨0, rfl, by omega, by simp [sumL], Kp.refl _ _⟩
              case round =>
                obtain ⟨j, rfl, hj, rfl, hKj⟩ := hrel
                by_cases hlt4 : j < L.length
                · obtain ⟨x, hx⟩ : ∃ x, L[j]? = some x := ⟨_, List.getElem?_eq_getElem hlt4⟩
                  have HR4 := Lib.hid (HRV.out.kpNo hKj)
                  rcases HRV.out with ⟨hv, he⟩ | ⟨g, o, cap', hv, _⟩
                  · rw [he] at hlt4; simp at hlt4
                  simp only [Value.slice.injEq] at hv
                  obtain ⟨rfl, _, rfl⟩ := hv
                  obtain ⟨hc1, hc2⟩ := HR4.out.winAt hx
                  have hb1 := HBD.out j
                  have hb2 := HBD.out (j + 1)
                  have hsn := sum_snoc L j x hx
                  rw [hsn] at hb2
                  have HSN := Lib.hid hsn
                  generalize sumL (L.take j) = sj at *
                  have HKJ := Lib.hid hKj
                  have hltI : (j : Int) < (L.length : Int) := by omega
                  have hwr : IntKind.i64.wrap (x.2 - x.1) = x.2 - x.1 := IntWalk.i64_in _ (by omega)
                  have hwr2 : IntKind.i64.wrap (s0 + sj + (x.2 - x.1)) = s0 + sj + (x.2 - x.1) := IntWalk.i64_in _ (by omega)
                  clear hKj hx hsn hlt4
                  go_wp2
                  go_roundw
                  case rel => exact ⟨j + 1, by go_num, by omega, by rw [HSN.out, Int.add_assoc], HKJ.out.alloc _⟩
                  case measure => simp [intOf]; omega
                · obtain rfl : j = L.length := by omega
                  rw [List.take_length, ← H3.out]
                  have hd0 : ¬ (L.length : Int) < (L.length : Int) := by omega
                  have HKJ := Lib.hid hKj
                  clear hKj
                  go_wp2
                  go_roundw
                  case rel => exact ⟨q + 1, by go_num, by omega, by simp, HKQ.out.no HKJ.out⟩
                  case measure => simp [intOf]; omega
            · obtain rfl : q = 2 := by omega
              rw [show (if (2 : Nat) = 0 then (0 : Int) else if (2 : Nat) = 1 then sumL L1 else sumL L1 + sumL L2) = 1048576 from HS1.out] at hn
              subst hn
              have HKQ := Lib.hid hKq
              clear hKq
              go_wp2
              go_roundw
              case rel => exact ⟨k2 + 1, by go_num, by omega, KQ.out.no HKQ.out⟩
              case measure => simp [intOf]; omega
        · obtain rfl : k2 = 2 := by omega
          have HK2 := Lib.hid hK2
          clear hK2
          go_wp2
          go_roundw
          case rel => exact ⟨k + 1, by go_num, by omega, by rw [HTE.out]; exact RO.out.kpNo HK2.out⟩
          case measure => simp [intOf]; omega
    · obtain rfl : k = N := by omega
      have HT := Lib.hid hat
      clear hat
      go_wp2
      go_ret
      exact ⟨rfl, K1.out.no HT.out.kp⟩
end Go.Proofs.Ytihnbgokkhbjnaa
