/- check.size, Open, carfaxref02.Open: the walks. -/
import Derived.Test.YtnejjjoedmefkaaFrmT
import Derived.Test.YtnejjjoedmefkaaSl
import Derived.Deep.RegionLaw
namespace Go.Proofs.Ytnejjjoedmefkaa
set_option linter.unusedVariables false
set_option linter.unusedSimpArgs false
open Go.RowKit

theorem rgetV_16 (l : List Nat) (h : l.length = 2) : rgetV (unpackB l) 0 0 16 = valP l := by
  have hl : (unpackB l).length = 16 := by rw [unpackB_len2, h]
  unfold rgetV valP
  rw [if_pos ⟨rfl, by omega⟩, List.drop_zero, List.take_of_length_le (by omega)]

def SizeR (f : List Nat) (w : World) (e : Ending) (w' : World) : Prop := e = .returned (.int .i64 (sizeP f : Int)) ∧ Kp No w w'
set_option maxHeartbeats 400000 in
set_option maxRecDepth 100000 in
theorem size_any {w : World} {v : Value} {f : List Nat} (h : Rd BK w v f) (hB : f.length ≤ 1000000) (hBx : ∀ x ∈ f, x < 256) : Calls Try.prog 63 #[v] w (SizeR f w) := by
  have H0 := Lib.hid h
  obtain ⟨A, cap, rfl⟩ := h.shape
  have H := Lib.hid h; have HX := Lib.hid hBx
  clear h hBx
  obtain ⟨s, hs⟩ : ∃ s, s = sizeP f := ⟨_, rfl⟩
  have HSZ := Lib.hid hs
  unfold SizeR
  rw [← hs]
  by_cases h4 : f.length < 4
  · have h4I : (f.length : Int) < 4 := by omega
    have HS0 := Lib.hid (show s = 0 by rw [hs]; unfold sizeP; rw [if_pos h4])
    clear hs h4
    go_enter Try.func63, Try.ntmps63
    go_wp2
    go_ret
    exact ⟨by rw [HS0.out]; rfl, Kp.refl _ _⟩
  · have h4I : ¬ (f.length : Int) < 4 := by omega
    obtain ⟨t2, A2, c2, HT2, hl2, hr2, HD2, _⟩ := H.out.upto2 elB 2 (by omega) 2 rfl
    have hx2 : ∀ x ∈ t2, x < 256 := fun x hx => HX.out x (List.mem_of_mem_take (by rw [← HT2.out]; exact hx))
    have hval := rgetV_16 _ hl2
    obtain ⟨m, hm⟩ : ∃ m, m = valP t2 := ⟨_, rfl⟩
    have hm16 : m < 65536 := by rw [hm]; exact valP_lt _ hl2
    rw [← hm] at hval
    obtain ⟨n, hn⟩ : ∃ n, n = m + 4 := ⟨_, rfl⟩
    have hs1 : s = if f.length < n ∨ 1004 < n then 0 else if valP ((f.drop (n - 2)).take 2) = crc 65535 (f.take (n - 2)) then n else 0 := by
      rw [hs, hn, hm, HT2.out]; unfold sizeP; rw [if_neg h4]
    have hl2I : t2.length ≤ 1000000 := by omega
    have HX2 := Lib.hid hx2; have HV := Lib.hid hval; have HS1 := Lib.hid hs1; have HL2 := Lib.hid hl2
    have e1 : IntKind.i64.wrap (m : Int) = (m : Int) := IntWalk.i64_in _ (by omega)
    have e2 : (m : Int) + 4 = (n : Int) := by omega
    have e3 : IntKind.i64.wrap (n : Int) = (n : Int) := IntWalk.i64_in _ (by omega)
    clear hs hx2 hval hs1 hm
    by_cases hb : f.length < n ∨ 1004 < n
    · have hs0 := HS1.out
      rw [if_pos hb] at hs0
      have HS0 := Lib.hid hs0
      rcases Nat.lt_or_ge f.length n with hb1 | hb1
      · have hbI : (f.length : Int) < (n : Int) := by omega
        clear hs0 hl2 hn hb h4
        go_enter Try.func63, Try.ntmps63
        go_wp2_with fail
        refine (newR_any HD2.out hl2I).mono ?_
        rintro e w1 ⟨p, V, rfl, a1, b1, b2, _⟩
        have A1 := Lib.hid a1; have KA := Lib.hid b1; have PA := Lib.hid b2
        clear a1 b1 b2
        go_wp2_with fail
        refine (get_any A1.out hl2I HX2.out (Nat.zero_le _) 16 (by decide) 16 rfl).mono ?_
        rintro e w3 ⟨rfl, a3⟩
        rw [HV.out]
        have K3 := Lib.hid (KA.out.newer a3.kp PA.out)
        clear a3
        go_wp2
        go_ret
        exact ⟨by rw [HS0.out]; rfl, K3.out⟩
      · have hbI : ¬ (f.length : Int) < (n : Int) := by omega
        have hbI2 : (1004 : Int) < (n : Int) := by omega
        clear hs0 hl2 hn hb h4 hb1
        go_enter Try.func63, Try.ntmps63
        go_wp2_with fail
        refine (newR_any HD2.out hl2I).mono ?_
        rintro e w1 ⟨p, V, rfl, a1, b1, b2, _⟩
        have A1 := Lib.hid a1; have KA := Lib.hid b1; have PA := Lib.hid b2
        clear a1 b1 b2
        go_wp2_with fail
        refine (get_any A1.out hl2I HX2.out (Nat.zero_le _) 16 (by decide) 16 rfl).mono ?_
        rintro e w3 ⟨rfl, a3⟩
        rw [HV.out]
        have K3 := Lib.hid (KA.out.newer a3.kp PA.out)
        clear a3
        go_wp2
        go_ret
        exact ⟨by rw [HS0.out]; rfl, K3.out⟩
    · have hb1 : n ≤ f.length := by omega
      have hb2 : n ≤ 1004 := by omega
      have hbI : ¬ (f.length : Int) < (n : Int) := by omega
      have hbI2 : ¬ (1004 : Int) < (n : Int) := by omega
      have hs0 := HS1.out
      rw [if_neg hb] at hs0
      obtain ⟨n2, hn2⟩ : ∃ n2, n2 = n - 2 := ⟨_, rfl⟩
      rw [← hn2] at hs0
      have e4 : (n : Int) - 2 = (n2 : Int) := by omega
      have e5 : IntKind.i64.wrap (n2 : Int) = (n2 : Int) := IntWalk.i64_in _ (by omega)
      obtain ⟨t6, A6, c6, HT6, hl6, hr6, HD6, _⟩ := H.out.mid2 elB n2 n (by omega) hb1 (n2 : Int) (n : Int) rfl rfl
      obtain ⟨t7, A7, c7, HT7, hl7, hr7, HD7, _⟩ := H.out.upto2 elB n2 (by omega) (n2 : Int) rfl
      rw [show n - n2 = 2 by omega] at HT6
      have hv6 := rgetV_16 t6 (by omega)
      have hx6 : ∀ x ∈ t6, x < 256 := fun x hx => HX.out x (by rw [HT6.out] at hx; exact List.mem_of_mem_drop (List.mem_of_mem_take hx))
      have hx7 : ∀ x ∈ t7, x < 256 := fun x hx => HX.out x (by rw [HT7.out] at hx; exact List.mem_of_mem_take hx)
      have hl7b : t7.length ≤ 1000000 := by omega
      have hl6b : t6.length ≤ 1000000 := by omega
      rw [← HT6.out, ← HT7.out] at hs0
      generalize valP t6 = a at *
      obtain ⟨b, hcrc⟩ : ∃ b, b = crc 65535 t7 := ⟨_, rfl⟩
      rw [← hcrc] at hs0
      have hs0' := hs0
      have hbl : b < 65536 := by rw [hcrc]; exact crc_lt _ (by decide) _
      have e6 : IntKind.u64.wrap (b : Int) = (b : Int) := IntWalk.u64_in _ (by omega)
      have HS0 := Lib.hid hs0; have HX6 := Lib.hid hx6; have HX7 := Lib.hid hx7; have HV6 := Lib.hid hv6; have HCR := Lib.hid hcrc
      clear hs0 hl2 hn hb h4 hn2 hx6 hx7 hv6 hl6 hl7 hcrc
      obtain ⟨d, hd⟩ : ∃ d, d = ((a : Int) != (b : Int)) := ⟨_, rfl⟩
      have hdI : ((a : Int) != (b : Int)) = d := hd.symm
      have hs2 : s = if d then 0 else n := by
        rw [hs0', hd]
        by_cases hab : a = b
        · rw [if_pos hab]; simp [hab]
        · have hab2 : (a : Int) ≠ (b : Int) := by omega
          rw [if_neg hab]; simp [hab2]
      have HS2 := Lib.hid hs2
      clear hs2 hd hs0'
      go_enter Try.func63, Try.ntmps63
      go_wp2_with fail
      refine (newR_any HD2.out hl2I).mono ?_
      rintro e w1 ⟨p, V, rfl, a1, b1, b2, _⟩
      have A1 := Lib.hid a1; have KA := Lib.hid b1; have PA := Lib.hid b2
      clear a1 b1 b2
      go_wp2_with fail
      refine (get_any A1.out hl2I HX2.out (Nat.zero_le _) 16 (by decide) 16 rfl).mono ?_
      rintro e w3 ⟨rfl, a3⟩
      rw [HV.out]
      have K3 := Lib.hid (KA.out.newer a3.kp PA.out)
      clear a3
      go_wp2
      go_region_law (first
        | (go_simp; go_at_call 45; refine (newR_any (w := w3.drew) (HD6.out.kpNo K3.out.drew) hl6b).mono ?_; rintro e w5 ⟨p5, V5, rfl, a5, b5, b6, _⟩; have A5 := Lib.hid a5; have K5 := Lib.hid (K3.out.drew.trans b5); have P5 := Lib.hid (Nat.le_trans K3.out.drew.size b6); clear a5 b5 b6)
        | (go_simp; go_at_call 46; refine (get_any A5.out hl6b HX6.out (Nat.zero_le _) 16 (by decide) 16 rfl).mono ?_; rintro e w6 ⟨rfl, a6⟩; rw [HV6.out]; have K6 := Lib.hid (K5.out.newer a6.kp P5.out); clear a6)
        | (go_simp; go_at_call 60; refine (sum_any (HD7.out.kpNo K6.out) hl7b HX7.out).mono ?_; rintro e w7 ⟨rfl, rfl⟩; rw [← HCR.out]))
      all_goals
        cases d with
        | true =>
          go_wp2
          go_ret
          exact ⟨by rw [HS2.out]; rfl, K6.out⟩
        | false =>
          go_wp2
          go_ret
          exact ⟨by rw [HS2.out]; rfl, K6.out⟩

/-- What Open answers. -/
def openL (f : List Nat) : List Nat := if isF f then midP f else []

set_option maxRecDepth 100000 in
theorem open_any {w : World} {v : Value} {f : List Nat} (h : Rd BK w v f) (hB : f.length ≤ 1000000) (hBx : ∀ x ∈ f, x < 256) :
    Calls Try.prog 44 #[v] w fun e w' => ∃ v', e = .returned (.tuple #[v', .bool (isF f)]) ∧ NewS BK 5 w w' v' (openL f) := by
  obtain ⟨A, cap, rfl⟩ := h.shape
  have H := Lib.hid h; have HX := Lib.hid hBx
  have hiff := sizeP_isF f hBx
  have hsz : sizeP f ≤ 1004 := by
    unfold sizeP
    split
    · omega
    · split
      · omega
      · split <;> omega
  clear h hBx
  by_cases hF : isF f = true
  · obtain ⟨h1, h2⟩ := hiff.2 hF
    have h4 : 4 ≤ f.length := by unfold isF at hF; simp only [Bool.and_eq_true, decide_eq_true_eq] at hF; exact hF.1.1
    obtain ⟨t, A2, c2, HT, hl2, hr2, HD2, _⟩ := H.out.mid2 elB 2 (f.length - 2) (by omega) (by omega) 2 ((f.length : Int) - 2) rfl (by omega)
    have ho : openL f = t := by rw [HT.out]; unfold openL; rw [if_pos hF]; unfold midP; rfl
    have HO := Lib.hid ho; have HF := Lib.hid hF; have H1 := Lib.hid h1
    have e1 : ((f.length : Int) == 0) = false := by rw [beq_eq_false_iff_ne]; omega
    have e2 : IntKind.i64.wrap ((f.length : Int) - 2) = (f.length : Int) - 2 := IntWalk.i64_in _ (by omega)
    have htl : t.length ≤ 1000000 := by omega
    clear hl2 ho hF h1 hiff hsz h2
    go_enter Try.func44, Try.ntmps44
    go_wp2_with fail
    refine (size_any H.out hB HX.out).mono ?_
    rintro e w1 ⟨rfl, k1⟩
    rw [H1.out]
    have K1 := Lib.hid k1
    clear k1
    go_wp2_with (at_builtin; refine wpl_append elB rfl (.const (.slice none 0 0)) (.tmp 18) rfl rfl rfl (l := []) (m := t) ?c1 ?c2 ?c3 ?c4 ?c5)
    case c1 => exact Own.nil _ _ _
    case c2 => exact HD2.out.kpNo K1.out
    case c3 => show 0 + t.length ≤ maxLen; unfold maxLen; omega
    case c4 => show (0 + t.length) * 1 ≤ _; omega
    case c5 =>
      intro v' w' k1 k2 k3
      have q : NewS BK 5 w w' v' t := (NewS.nil BK 5 w).app K1.out k1 k2 k3 K1.out.size
      obtain ⟨A3, c3, rfl⟩ := q.own.rd.shape
      have Q := Lib.hid q
      clear k1 k2 k3 q
      go_wp2
      go_ret2
      exact ⟨.slice A3 t.length c3, by rw [HF.out]; rfl, by rw [HO.out]; exact Q.out⟩
  · have hF2 : isF f = false := by simpa using hF
    have ho : openL f = [] := by unfold openL; rw [if_neg hF]
    have HO := Lib.hid ho; have HF := Lib.hid hF2
    obtain ⟨s, hs⟩ : ∃ s, s = sizeP f := ⟨_, rfl⟩
    have HS := Lib.hid hs
    have hn : s = 0 ∨ (s ≠ 0 ∧ s ≠ f.length) := by
      by_cases h0 : s = 0
      · exact .inl h0
      · exact .inr ⟨h0, fun h => hF (hiff.1 ⟨by omega, by omega⟩)⟩
    clear ho hF hF2 hiff hsz hs
    rcases hn with h0 | ⟨h0, hne⟩
    · have e1 : ((s : Int) == 0) = true := by simp [h0]
      clear h0
      go_enter Try.func44, Try.ntmps44
      go_wp2_with fail
      refine (size_any H.out hB HX.out).mono ?_
      rintro e w1 ⟨rfl, k1⟩
      rw [← HS.out]
      have K1 := Lib.hid k1
      clear k1
      go_wp2
      go_ret2
      exact ⟨.slice none 0 0, by rw [HF.out]; rfl, by rw [HO.out]; exact (NewS.nil _ _ _).kpNo K1.out⟩
    · have e1 : ((s : Int) == 0) = false := by simp; omega
      have e2 : ((s : Int) != (f.length : Int)) = true := by simp; omega
      clear h0 hne
      go_enter Try.func44, Try.ntmps44
      go_wp2_with fail
      refine (size_any H.out hB HX.out).mono ?_
      rintro e w1 ⟨rfl, k1⟩
      rw [← HS.out]
      have K1 := Lib.hid k1
      clear k1
      go_wp2
      go_ret2
      exact ⟨.slice none 0 0, by rw [HF.out]; rfl, by rw [HO.out]; exact (NewS.nil _ _ _).kpNo K1.out⟩
end Go.Proofs.Ytnejjjoedmefkaa
