/- check.Frame, carfaxref02.two, Frame: the walks. -/
import Derived.Test.YtnejjjoedmefkaaFrmP
import Derived.Test.YtnejjjoedmefkaaCrcW
import Derived.Test.YtnejjjoedmefkaaRefE
namespace Go.Proofs.Ytnejjjoedmefkaa
set_option linter.unusedVariables false
set_option linter.unusedSimpArgs false
open Go.RowKit

def frameL (b : List Nat) : List Nat := if b.length ≤ 1000 then frameP b else []
def frameE (b : List Nat) : Int := if b.length ≤ 1000 then 0 else 4
/-- Bytes, and an error, are handed back: new ones. -/
def BytesE (l : List Nat) (x : Int) (w : World) (e : Ending) (w' : World) : Prop := ∃ v', e = .returned (.tuple #[v', .int .i64 x]) ∧ NewS BK 5 w w' v' l

set_option maxRecDepth 100000 in
theorem two_any (w : World) (n : Nat) (hn : n < 65536) (x : Int) (hx : x = n) : Calls Try.prog 61 #[.int .i64 x] w fun e w' => ∃ v, e = .returned v ∧ NewS BK 5 w w' v (twoP n) := by
  subst hx
  have e1 : IntKind.u64.wrap (n : Int) = (n : Int) := IntWalk.u64_in _ (by omega)
  go_enter Try.func61, Try.ntmps61
  go_wp2_with fail
  refine (rbits_any _ n 16 (by omega) (by decide) _ _ rfl rfl).mono ?_
  rintro e w1 ⟨v1, rfl, h1⟩
  obtain ⟨A1, c1, rfl⟩ := h1.own.rd.shape
  have H1 := Lib.hid h1
  clear h1
  go_wp2_with fail
  refine (rbytes_any H1.out.own.rd (by rw [nbits_len]; decide)).mono ?_
  rintro e w2 ⟨v2, rfl, h2⟩
  obtain ⟨A2, c2, rfl⟩ := h2.own.rd.shape
  have H2 := Lib.hid h2
  clear h2
  go_wp2
  go_ret
  exact ⟨_, rfl, H2.out.own, fun g hg => Nat.le_trans H1.out.kp.size (H2.out.ge g hg), H1.out.kp.trans H2.out.kp⟩

set_option maxRecDepth 100000 in
theorem rframe_any {w : World} {v : Value} {B : List Nat} (h : Rd BK w v B) (hB : B.length ≤ 1000000) (hBx : ∀ x ∈ B, x < 256) : Calls Try.prog 42 #[v] w (BytesE (frameL B) (frameE B) w) := by
  obtain ⟨A, cap, rfl⟩ := h.shape
  have H := Lib.hid h; have HX := Lib.hid hBx
  clear h hBx
  by_cases hl : B.length ≤ 1000
  · have hlI : ¬ (1000 : Int) < (B.length : Int) := by omega
    have e0 : frameL B = frameP B := by simp [frameL, hl]
    have e1 : frameE B = 0 := by simp [frameE, hl]
    rw [e0, e1]
    clear e0 e1
    go_enter Try.func42, Try.ntmps42
    go_wp2_with fail
    refine (two_any _ B.length (by omega) _ rfl).mono ?_
    rintro e w1 ⟨v1, rfl, h1⟩
    obtain ⟨A1, c1, rfl⟩ := h1.own.rd.shape
    have H1 := Lib.hid h1
    have l1 : (twoP B.length).length ≤ 2 := by rw [twoP_len]; omega
    clear h1
    obtain ⟨L, hL⟩ : ∃ L, L = twoP B.length ++ B := ⟨_, rfl⟩
    have hfr : frameP B = L ++ twoP (crc 65535 L) := by rw [hL]; rfl
    have HFR := Lib.hid hfr
    have hLx : ∀ x ∈ L, x < 256 := by
      intro x hx; rw [hL] at hx
      rcases List.mem_append.1 hx with hx | hx
      · exact twoP_lt _ x hx
      · exact HX.out x hx
    have hLl : L.length ≤ 1002 := by rw [hL, List.length_append]; omega
    have HL := Lib.hid hL; have HLX := Lib.hid hLx
    clear hL hfr hLx
    generalize hT : twoP B.length = T at *
    clear hT
    go_wp2_with (at_builtin; refine wpl_append elB rfl (.tmp 11) (.tmp 12) rfl rfl rfl (l := T) (m := B) ?c1 ?c2 ?c3 ?c4 ?c5)
    case c1 => exact H1.out.own
    case c2 => exact H.out.kpNo H1.out.kp
    case c3 => unfold maxLen; omega
    case c4 => omega
    case c5 =>
      intro v2 w2 k1 k2 k3
      have q := H1.out.app (Kp.refl _ _) k1 k2 k3 (Nat.le_refl _)
      rw [← HL.out] at q
      obtain ⟨A2, c2, rfl⟩ := q.own.rd.shape
      have Q := Lib.hid q
      clear k1 k2 k3 q
      go_wp2_with fail
      refine (rsum_any Q.out.own.rd (by omega) HLX.out).mono ?_
      rintro e w3 ⟨rfl, rfl⟩
      have hcl := crc_lt 65535 (by decide) L
      obtain ⟨r, hr⟩ : ∃ r, r = crc 65535 L := ⟨_, rfl⟩
      rw [← hr] at hcl ⊢
      have er : IntKind.i64.wrap (r : Int) = (r : Int) := IntWalk.i64_in _ (by omega)
      have HRR := Lib.hid hr
      clear hr
      go_wp2_with fail
      refine (two_any _ r hcl _ rfl).mono ?_
      rintro e w4 ⟨v4, rfl, h4⟩
      obtain ⟨A4, c4, rfl⟩ := h4.own.rd.shape
      have H4 := Lib.hid h4
      have l4 : (twoP r).length ≤ 2 := by rw [twoP_len]; omega
      clear h4
      generalize hT4 : twoP r = T4 at *
      have HT4 := Lib.hid hT4
      clear hT4
      go_wp2_with (at_builtin; refine wpl_append elB rfl (.tmp 14) (.tmp 18) rfl rfl rfl (l := L) (m := T4) ?d1 ?d2 ?d3 ?d4 ?d5)
      case d1 => exact Q.out.own.kpNo H4.out.kp
      case d2 => exact H4.out.own.rd
      case d3 => unfold maxLen; omega
      case d4 => omega
      case d5 =>
        intro v5 w5 k1 k2 k3
        have q := Q.out.app H4.out.kp k1 k2 k3 H4.out.kp.size
        obtain ⟨A5, c5, rfl⟩ := q.own.rd.shape
        have Q5 := Lib.hid q
        clear k1 k2 k3 q
        go_wp2
        go_ret2
        exact ⟨.slice A5 (L ++ T4).length c5, rfl, by rw [HFR.out, ← HRR.out, HT4.out]; exact Q5.out⟩
  · have hlI : (1000 : Int) < (B.length : Int) := by omega
    have e0 : frameL B = [] := by simp [frameL, hl]
    have e1 : frameE B = 4 := by simp [frameE, hl]
    rw [e0, e1]
    clear e0 e1
    go_enter Try.func42, Try.ntmps42
    go_wp2
    go_ret2
    exact ⟨_, rfl, NewS.nil _ _ _⟩

set_option maxRecDepth 100000 in
theorem frame_any {w : World} {v : Value} {B : List Nat} (h : Rd BK w v B) (hB : B.length ≤ 1000000) (hBx : ∀ x ∈ B, x < 256) : Calls Try.prog 38 #[v] w (BytesE (frameL B) (frameE B) w) := by
  obtain ⟨A, cap, rfl⟩ := h.shape
  have H := Lib.hid h; have HX := Lib.hid hBx
  clear h hBx
  by_cases hl : B.length ≤ 1000
  · have hlI : ¬ (1000 : Int) < (B.length : Int) := by omega
    have e0 : frameL B = frameP B := by simp [frameL, hl]
    have e1 : frameE B = 0 := by simp [frameE, hl]
    rw [e0, e1]
    have ew : IntKind.u64.wrap (B.length : Int) = (B.length : Int) := IntWalk.u64_in _ (by omega)
    clear e0 e1
    go_enter Try.func38, Try.ntmps38
    go_wp2_with fail
    refine (newW_any _).mono ?_
    rintro e w1 ⟨rfl, a1⟩
    have A1 := Lib.hid a1
    clear a1
    go_wp2_with fail
    refine (put_at A1.out B.length 16 (by omega) (by decide) (by simp) _ 16 rfl rfl).mono ?_
    rintro e w2 ⟨rfl, a2⟩
    rw [List.nil_append] at a2
    have A2 := Lib.hid a2
    clear a2
    go_wp2_with fail
    refine (out_any A2.out (by rw [nbits_len]; decide)).mono ?_
    rintro e w3 ⟨v3, rfl, k1, k2, k3⟩
    have h3 : NewS BK 5 w w3 v3 (twoP B.length) := ⟨k1, fun g hg => Nat.le_trans A2.out.kp.size (k3 g hg), A2.out.kp.trans k2⟩
    obtain ⟨a3, c3, rfl⟩ := h3.own.rd.shape
    have H3 := Lib.hid h3
    have l1 : (twoP B.length).length ≤ 2 := by rw [twoP_len]; omega
    clear h3 k1 k2 k3 A1 A2
    obtain ⟨L, hL⟩ : ∃ L, L = twoP B.length ++ B := ⟨_, rfl⟩
    have hfr : frameP B = L ++ twoP (crc 65535 L) := by rw [hL]; rfl
    have HFR := Lib.hid hfr
    have hLx : ∀ x ∈ L, x < 256 := by
      intro x hx; rw [hL] at hx
      rcases List.mem_append.1 hx with hx | hx
      · exact twoP_lt _ x hx
      · exact HX.out x hx
    have hLl : L.length ≤ 1002 := by rw [hL, List.length_append]; omega
    have HL := Lib.hid hL; have HLX := Lib.hid hLx
    clear hL hfr hLx
    generalize hT : twoP B.length = T at *
    clear hT
    go_wp2_with (at_builtin; refine wpl_append elB rfl (.tmp 17) (.tmp 18) rfl rfl rfl (l := T) (m := B) ?c1 ?c2 ?c3 ?c4 ?c5)
    case c1 => exact H3.out.own
    case c2 => exact H.out.kpNo H3.out.kp
    case c3 => unfold maxLen; omega
    case c4 => omega
    case c5 =>
      intro v4 w4 k1 k2 k3
      have q := H3.out.app (Kp.refl _ _) k1 k2 k3 (Nat.le_refl _)
      rw [← HL.out] at q
      obtain ⟨A4, c4, rfl⟩ := q.own.rd.shape
      have Q := Lib.hid q
      clear k1 k2 k3 q
      go_wp2_with fail
      refine (newW_any _).mono ?_
      rintro e w5 ⟨rfl, a5⟩
      have A5 := Lib.hid a5
      have Q5 := Lib.hid (Q.out.kpNo a5.kp)
      clear a5
      go_wp2_with fail
      refine (sum_any Q5.out.own.rd (by omega) HLX.out).mono ?_
      rintro e w6 ⟨rfl, rfl⟩
      have hcl := crc_lt 65535 (by decide) L
      obtain ⟨r, hr⟩ : ∃ r, r = crc 65535 L := ⟨_, rfl⟩
      rw [← hr] at hcl ⊢
      have er : IntKind.u64.wrap (r : Int) = (r : Int) := IntWalk.u64_in _ (by omega)
      have HRR := Lib.hid hr
      clear hr
      go_wp2_with fail
      refine (put_at A5.out r 16 (by omega) (by decide) (by simp) _ 16 rfl rfl).mono ?_
      rintro e w7 ⟨rfl, a7⟩
      rw [List.nil_append] at a7
      have A7 := Lib.hid a7
      clear a7
      go_wp2_with fail
      refine (out_any A7.out (by rw [nbits_len]; decide)).mono ?_
      rintro e w8 ⟨v8, rfl, k1, k2, k3⟩
      have h8 : NewS BK 5 w4 w8 v8 (twoP r) := ⟨k1, fun g hg => Nat.le_trans A7.out.kp.size (k3 g hg), A7.out.kp.trans k2⟩
      obtain ⟨a8, c8, rfl⟩ := h8.own.rd.shape
      have H8 := Lib.hid h8
      have l8 : (twoP r).length ≤ 2 := by rw [twoP_len]; omega
      clear h8 k1 k2 k3 A5 A7
      generalize hT8 : twoP r = T8 at *
      have HT8 := Lib.hid hT8
      clear hT8
      go_wp2_with (at_builtin; refine wpl_append elB rfl (.tmp 26) (.tmp 28) rfl rfl rfl (l := L) (m := T8) ?d1 ?d2 ?d3 ?d4 ?d5)
      case d1 => exact Q.out.own.kpNo H8.out.kp
      case d2 => exact H8.out.own.rd
      case d3 => unfold maxLen; omega
      case d4 => omega
      case d5 =>
        intro v9 w9 k1 k2 k3
        have q := Q.out.app H8.out.kp k1 k2 k3 H8.out.kp.size
        obtain ⟨A9, c9, rfl⟩ := q.own.rd.shape
        have Q9 := Lib.hid q
        clear k1 k2 k3 q
        go_wp2
        go_ret2
        exact ⟨.slice A9 (L ++ T8).length c9, rfl, by rw [HFR.out, ← HRR.out, HT8.out]; exact Q9.out⟩
  · have hlI : (1000 : Int) < (B.length : Int) := by omega
    have e0 : frameL B = [] := by simp [frameL, hl]
    have e1 : frameE B = 4 := by simp [frameE, hl]
    rw [e0, e1]
    clear e0 e1
    go_enter Try.func38, Try.ntmps38
    go_wp2
    go_ret2
    exact ⟨_, rfl, NewS.nil _ _ _⟩
end Go.Proofs.Ytnejjjoedmefkaa
