/- check.Frame, carfaxref02.two, Frame: the walks; Slice expressions, as lists; check.size, Open, carfaxref02.Open: the walks; Bytes as strings; carfaxref02.Open: the walk; link.Lay: the walk; link.Lay: all packets; Packets out of bytes, as plain lists; Acts as bytes, plain; What was laid is read back; link.Take: the memory. No condition. -/
import Derived.Test.YtfpikgkbccgchaaGreatDoorM1
import Derived.Test.YtfpikgkbccgchaaGreatDoorM2
import Derived.Deep.RegionLaw
import Derived.Laws.BytesArg
import Derived.WideShapes
import Derived.Laws.Strings
import Derived.Deep.LoopGhost

namespace Go.Proofs.YtfpikgkbccgchaaGreatDoor
set_option linter.unusedVariables false
set_option linter.unusedSimpArgs false
open Go.RowKit

def frameL (b : List Nat) : List Nat := if b.length ≤ 1000 then frameP b else []
def frameE (b : List Nat) : Int := if b.length ≤ 1000 then 0 else 4
/-- Bytes, and an error, are handed back: new ones. -/
def BytesE (l : List Nat) (x : Int) (w : World) (e : Ending) (w' : World) : Prop := ∃ v', e = .returned (.tuple #[v', .int .i64 x]) ∧ NewS BK 5 w w' v' l

set_option maxRecDepth 100000 in
theorem two_any (w : World) (n : Nat) (hn : n < 65536) (x : Int) (hx : x = n) : Calls Tryz.prog 128 #[.int .i64 x] w fun e w' => ∃ v, e = .returned v ∧ NewS BK 5 w w' v (twoP n) := by
  subst hx
  have e1 : IntKind.u64.wrap (n : Int) = (n : Int) := IntWalk.u64_in _ (by omega)
  go_enter Tryz.func128, Tryz.ntmps128
  go_wp2_with fail
  refine (rbits_any _ n 16 (by omega) (by decide) _ _ rfl rfl).mono ?_
  rintro e w1 ⟨v1, rfl, h1⟩
  obtain ⟨A1, c1, rfl⟩ := h1.own.rd.shape
  have H1 := Lib.hid h1
  clear h1
  go_wp2_with fail
  refine (rbytes_any H1.out.own.rd (by rw [nbits_len]; decide)).mono ?_
  rintro e w2 ⟨v2, rfl, h2⟩
  obtain ⟨A2, c2, rfl⟩ := h2.own.rd.shape
  have H2 := Lib.hid h2
  clear h2
  go_wp2
  go_ret
  exact ⟨_, rfl, H2.out.own, fun g hg => Nat.le_trans H1.out.kp.size (H2.out.ge g hg), H1.out.kp.trans H2.out.kp⟩

set_option maxRecDepth 100000 in
theorem rframe_any {w : World} {v : Value} {B : List Nat} (h : Rd BK w v B) (hB : B.length ≤ 1000000) (hBx : ∀ x ∈ B, x < 256) : Calls Tryz.prog 95 #[v] w (BytesE (frameL B) (frameE B) w) := by
  obtain ⟨A, cap, rfl⟩ := h.shape
  have H := Lib.hid h; have HX := Lib.hid hBx
  clear h hBx
  by_cases hl : B.length ≤ 1000
  · have hlI : ¬ (1000 : Int) < (B.length : Int) := by omega
    have e0 : frameL B = frameP B := by simp [frameL, hl]
    have e1 : frameE B = 0 := by simp [frameE, hl]
    rw [e0, e1]
    clear e0 e1
    go_enter Tryz.func95, Tryz.ntmps95
    go_wp2_with fail
    refine (two_any _ B.length (by omega) _ rfl).mono ?_
    rintro e w1 ⟨v1, rfl, h1⟩
    obtain ⟨A1, c1, rfl⟩ := h1.own.rd.shape
    have H1 := Lib.hid h1
    have l1 : (twoP B.length).length ≤ 2 := by rw [twoP_len]; omega
    clear h1
    obtain ⟨L, hL⟩ : ∃ L, L = twoP B.length ++ B := ⟨_, rfl⟩
    have hfr : frameP B = L ++ twoP (crc 65535 L) := by rw [hL]; rfl
    have HFR := Lib.hid hfr
    have hLx : ∀ x ∈ L, x < 256 := by
      intro x hx; rw [hL] at hx
      rcases List.mem_append.1 hx with hx | hx
      · exact twoP_lt _ x hx
      · exact HX.out x hx
    have hLl : L.length ≤ 1002 := by rw [hL, List.length_append]; omega
    have HL := Lib.hid hL; have HLX := Lib.hid hLx
    clear hL hfr hLx
    generalize hT : twoP B.length = T at *
    clear hT
    go_wp2_with (at_builtin; refine wpl_append elB rfl (.tmp 11) (.tmp 12) rfl rfl rfl (l := T) (m := B) ?c1 ?c2 ?c3 ?c4 ?c5)
    case c1 => exact H1.out.own
    case c2 => exact H.out.kpNo H1.out.kp
    case c3 => unfold maxLen; omega
    case c4 => omega
    case c5 =>
      intro v2 w2 k1 k2 k3
      have q := H1.out.app (Kp.refl _ _) k1 k2 k3 (Nat.le_refl _)
      rw [← HL.out] at q
      obtain ⟨A2, c2, rfl⟩ := q.own.rd.shape
      have Q := Lib.hid q
      clear k1 k2 k3 q
      go_wp2_with fail
      refine (rsum_any Q.out.own.rd (by omega) HLX.out).mono ?_
      rintro e w3 ⟨rfl, rfl⟩
      have hcl := crc_lt 65535 (by decide) L
      obtain ⟨r, hr⟩ : ∃ r, r = crc 65535 L := ⟨_, rfl⟩
      rw [← hr] at hcl ⊢
      have er : IntKind.i64.wrap (r : Int) = (r : Int) := IntWalk.i64_in _ (by omega)
      have HRR := Lib.hid hr
      clear hr
      go_wp2_with fail
      refine (two_any _ r hcl _ rfl).mono ?_
      rintro e w4 ⟨v4, rfl, h4⟩
      obtain ⟨A4, c4, rfl⟩ := h4.own.rd.shape
      have H4 := Lib.hid h4
      have l4 : (twoP r).length ≤ 2 := by rw [twoP_len]; omega
      clear h4
      generalize hT4 : twoP r = T4 at *
      have HT4 := Lib.hid hT4
      clear hT4
      go_wp2_with (at_builtin; refine wpl_append elB rfl (.tmp 14) (.tmp 18) rfl rfl rfl (l := L) (m := T4) ?d1 ?d2 ?d3 ?d4 ?d5)
      case d1 => exact Q.out.own.kpNo H4.out.kp
      case d2 => exact H4.out.own.rd
      case d3 => unfold maxLen; omega
      case d4 => omega
      case d5 =>
        intro v5 w5 k1 k2 k3
        have q := Q.out.app H4.out.kp k1 k2 k3 H4.out.kp.size
        obtain ⟨A5, c5, rfl⟩ := q.own.rd.shape
        have Q5 := Lib.hid q
        clear k1 k2 k3 q
        go_wp2
        go_ret2
        exact ⟨.slice A5 (L ++ T4).length c5, rfl, by rw [HFR.out, ← HRR.out, HT4.out]; exact Q5.out⟩
  · have hlI : (1000 : Int) < (B.length : Int) := by omega
    have e0 : frameL B = [] := by simp [frameL, hl]
    have e1 : frameE B = 4 := by simp [frameE, hl]
    rw [e0, e1]
    clear e0 e1
    go_enter Tryz.func95, Tryz.ntmps95
    go_wp2
    go_ret2
    exact ⟨_, rfl, NewS.nil _ _ _⟩

set_option maxRecDepth 100000 in
theorem frame_any {w : World} {v : Value} {B : List Nat} (h : Rd BK w v B) (hB : B.length ≤ 1000000) (hBx : ∀ x ∈ B, x < 256) : Calls Tryz.prog 149 #[v] w (BytesE (frameL B) (frameE B) w) := by
  obtain ⟨A, cap, rfl⟩ := h.shape
  have H := Lib.hid h; have HX := Lib.hid hBx
  clear h hBx
  by_cases hl : B.length ≤ 1000
  · have hlI : ¬ (1000 : Int) < (B.length : Int) := by omega
    have e0 : frameL B = frameP B := by simp [frameL, hl]
    have e1 : frameE B = 0 := by simp [frameE, hl]
    rw [e0, e1]
    have ew : IntKind.u64.wrap (B.length : Int) = (B.length : Int) := IntWalk.u64_in _ (by omega)
    clear e0 e1
    go_enter Tryz.func149, Tryz.ntmps149
    go_wp2_with fail
    refine (newW_any _).mono ?_
    rintro e w1 ⟨rfl, a1⟩
    have A1 := Lib.hid a1
    clear a1
    go_wp2_with fail
    refine (put_at A1.out B.length 16 (by omega) (by decide) (by simp) _ 16 rfl rfl).mono ?_
    rintro e w2 ⟨rfl, a2⟩
    rw [List.nil_append] at a2
    have A2 := Lib.hid a2
    clear a2
    go_wp2_with fail
    refine (out_any A2.out (by rw [nbits_len]; decide)).mono ?_
    rintro e w3 ⟨v3, rfl, k1, k2, k3⟩
    have h3 : NewS BK 5 w w3 v3 (twoP B.length) := ⟨k1, fun g hg => Nat.le_trans A2.out.kp.size (k3 g hg), A2.out.kp.trans k2⟩
    obtain ⟨a3, c3, rfl⟩ := h3.own.rd.shape
    have H3 := Lib.hid h3
    have l1 : (twoP B.length).length ≤ 2 := by rw [twoP_len]; omega
    clear h3 k1 k2 k3 A1 A2
    obtain ⟨L, hL⟩ : ∃ L, L = twoP B.length ++ B := ⟨_, rfl⟩
    have hfr : frameP B = L ++ twoP (crc 65535 L) := by rw [hL]; rfl
    have HFR := Lib.hid hfr
    have hLx : ∀ x ∈ L, x < 256 := by
      intro x hx; rw [hL] at hx
      rcases List.mem_append.1 hx with hx | hx
      · exact twoP_lt _ x hx
      · exact HX.out x hx
    have hLl : L.length ≤ 1002 := by rw [hL, List.length_append]; omega
    have HL := Lib.hid hL; have HLX := Lib.hid hLx
    clear hL hfr hLx
    generalize hT : twoP B.length = T at *
    clear hT
    go_wp2_with (at_builtin; refine wpl_append elB rfl (.tmp 17) (.tmp 18) rfl rfl rfl (l := T) (m := B) ?c1 ?c2 ?c3 ?c4 ?c5)
    case c1 => exact H3.out.own
    case c2 => exact H.out.kpNo H3.out.kp
    case c3 => unfold maxLen; omega
    case c4 => omega
    case c5 =>
      intro v4 w4 k1 k2 k3
      have q := H3.out.app (Kp.refl _ _) k1 k2 k3 (Nat.le_refl _)
      rw [← HL.out] at q
      obtain ⟨A4, c4, rfl⟩ := q.own.rd.shape
      have Q := Lib.hid q
      clear k1 k2 k3 q
      go_wp2_with fail
      refine (newW_any _).mono ?_
      rintro e w5 ⟨rfl, a5⟩
      have A5 := Lib.hid a5
      have Q5 := Lib.hid (Q.out.kpNo a5.kp)
      clear a5
      go_wp2_with fail
      refine (sum_any Q5.out.own.rd (by omega) HLX.out).mono ?_
      rintro e w6 ⟨rfl, rfl⟩
      have hcl := crc_lt 65535 (by decide) L
      obtain ⟨r, hr⟩ : ∃ r, r = crc 65535 L := ⟨_, rfl⟩
      rw [← hr] at hcl ⊢
      have er : IntKind.u64.wrap (r : Int) = (r : Int) := IntWalk.u64_in _ (by omega)
      have HRR := Lib.hid hr
      clear hr
      go_wp2_with fail
      refine (put_at A5.out r 16 (by omega) (by decide) (by simp) _ 16 rfl rfl).mono ?_
      rintro e w7 ⟨rfl, a7⟩
      rw [List.nil_append] at a7
      have A7 := Lib.hid a7
      clear a7
      go_wp2_with fail
      refine (out_any A7.out (by rw [nbits_len]; decide)).mono ?_
      rintro e w8 ⟨v8, rfl, k1, k2, k3⟩
      have h8 : NewS BK 5 w4 w8 v8 (twoP r) := ⟨k1, fun g hg => Nat.le_trans A7.out.kp.size (k3 g hg), A7.out.kp.trans k2⟩
      obtain ⟨a8, c8, rfl⟩ := h8.own.rd.shape
      have H8 := Lib.hid h8
      have l8 : (twoP r).length ≤ 2 := by rw [twoP_len]; omega
      clear h8 k1 k2 k3 A5 A7
      generalize hT8 : twoP r = T8 at *
      have HT8 := Lib.hid hT8
      clear hT8
      go_wp2_with (at_builtin; refine wpl_append elB rfl (.tmp 26) (.tmp 28) rfl rfl rfl (l := L) (m := T8) ?d1 ?d2 ?d3 ?d4 ?d5)
      case d1 => exact Q.out.own.kpNo H8.out.kp
      case d2 => exact H8.out.own.rd
      case d3 => unfold maxLen; omega
      case d4 => omega
      case d5 =>
        intro v9 w9 k1 k2 k3
        have q := Q.out.app H8.out.kp k1 k2 k3 H8.out.kp.size
        obtain ⟨A9, c9, rfl⟩ := q.own.rd.shape
        have Q9 := Lib.hid q
        clear k1 k2 k3 q
        go_wp2
        go_ret2
        exact ⟨.slice A9 (L ++ T8).length c9, rfl, by rw [HFR.out, ← HRR.out, HT8.out]; exact Q9.out⟩
  · have hlI : (1000 : Int) < (B.length : Int) := by omega
    have e0 : frameL B = [] := by simp [frameL, hl]
    have e1 : frameE B = 4 := by simp [frameE, hl]
    rw [e0, e1]
    clear e0 e1
    go_enter Tryz.func149, Tryz.ntmps149
    go_wp2
    go_ret2
    exact ⟨_, rfl, NewS.nil _ _ _⟩
end Go.Proofs.YtfpikgkbccgchaaGreatDoor

namespace Go.Proofs.YtfpikgkbccgchaaGreatDoor
set_option linter.unusedVariables false
set_option linter.unusedSimpArgs false
open Go.RowKit

section
variable {α : Type} {K : Kd α} {P : Program} {t e : TypeId} {bytes : Nat}
theorem Kd.encs_mid (K : Kd α) (l : List α) (a b j : Nat) (u : Value) (h : (K.encs ((l.drop a).take b))[j]? = some u) : (K.encs l)[a * K.sz + j]? = some u := by
  rw [← K.encs_take, List.getElem?_take] at h
  split at h
  · rw [← K.encs_drop, List.getElem?_drop] at h; exact h
  · exact absurd h (by simp)
/-- 's[lo:hi]', as a list. -/
theorem Rd.mid (E : ElT P t e K bytes) {w : World} {v : Value} {l : List α} (h : Rd K w v l) (lo hi : Nat) (h1 : lo ≤ hi) (h2 : hi ≤ l.length) (x y : Int) (hx : x = lo) (hy : y = hi) :
    ∃ v2, (∀ w', (Instr.slice t v (some (.int .i64 x)) (some (.int .i64 y)) none).run P w' = .ok v2 w') ∧ Rd K w v2 ((l.drop lo).take (hi - lo)) ∧ (∀ g, v2.ownBlock = some g → v.ownBlock = some g) := by
  rcases h with ⟨⟨A, c, rfl⟩, rfl⟩ | ⟨g, o, cap, rfl, c1, c2, c3⟩
  · obtain rfl : hi = 0 := by simpa using h2
    obtain rfl : lo = 0 := by omega
    subst hx hy
    exact ⟨_, fun w' => run_slice_e_lohi E A c w', by simpa using Rd.empty K w A c, fun g hg => hg⟩
  · obtain ⟨o', ho, hr⟩ := run_slice_lohi E g o l.length cap lo hi h1 (by omega) x y hx hy
    have hln : ((l.drop lo).take (hi - lo)).length = hi - lo := by rw [List.length_take, List.length_drop]; omega
    refine ⟨_, hr, .inr ⟨g, o', cap - lo, by rw [hln], by rw [hln]; omega, by omega, fun j u hu => ?_⟩, fun g' hg' => hg'⟩
    have hne : lo < cap := by
      rcases Nat.lt_or_ge lo cap with h | h
      · exact h
      · have h0 : (l.drop lo).take (hi - lo) = [] := List.eq_nil_of_length_eq_zero (by omega)
        rw [h0] at hu; simp [Kd.encs] at hu
    have := c3 _ u (K.encs_mid l lo (hi - lo) j u hu)
    rw [ho hne, Nat.add_assoc]
    exact this
/-- The same, with a name for what is read, and the value written out. -/
theorem Rd.upto2 (E : ElT P t e K bytes) {w : World} {v : Value} {l : List α} (h : Rd K w v l) (p : Nat) (hp : p ≤ l.length) (x : Int) (hx : x = p) :
    ∃ s A c, Hid (s = l.take p) ∧ s.length = p ∧ (∀ w', (Instr.slice t v none (some (.int .i64 x)) none).run P w' = .ok (.slice A s.length c) w') ∧ Hid (Rd K w (.slice A s.length c) s) ∧ Hid (∀ g, (Value.slice A s.length c).ownBlock = some g → v.ownBlock = some g) := by
  obtain ⟨v2, h1, h2, h3⟩ := h.upto E p hp x hx
  obtain ⟨A, c, rfl⟩ := h2.shape
  exact ⟨_, A, c, rfl, by rw [List.length_take]; omega, h1, h2, h3⟩
theorem Rd.mid2 (E : ElT P t e K bytes) {w : World} {v : Value} {l : List α} (h : Rd K w v l) (lo hi : Nat) (h1 : lo ≤ hi) (h2 : hi ≤ l.length) (x y : Int) (hx : x = lo) (hy : y = hi) :
    ∃ s A c, Hid (s = (l.drop lo).take (hi - lo)) ∧ s.length = hi - lo ∧ (∀ w', (Instr.slice t v (some (.int .i64 x)) (some (.int .i64 y)) none).run P w' = .ok (.slice A s.length c) w') ∧ Hid (Rd K w (.slice A s.length c) s) ∧ Hid (∀ g, (Value.slice A s.length c).ownBlock = some g → v.ownBlock = some g) := by
  obtain ⟨v2, k1, k2, k3⟩ := h.mid E lo hi h1 h2 x y hx hy
  obtain ⟨A, c, rfl⟩ := k2.shape
  exact ⟨_, A, c, rfl, by rw [List.length_take, List.length_drop]; omega, k1, k2, k3⟩
theorem Rd.from2 (E : ElT P t e K bytes) {w : World} {v : Value} {l : List α} (h : Rd K w v l) (lo : Nat) (h1 : lo ≤ l.length) (x : Int) (hx : x = lo) :
    ∃ s A c, Hid (s = l.drop lo) ∧ s.length = l.length - lo ∧ (∀ w', (Instr.slice t v (some (.int .i64 x)) none none).run P w' = .ok (.slice A s.length c) w') ∧ Hid (Rd K w (.slice A s.length c) s) ∧ Hid (∀ g, (Value.slice A s.length c).ownBlock = some g → v.ownBlock = some g) := by
  obtain ⟨v2, k1, k2, k3⟩ := h.from E lo h1 x hx
  obtain ⟨A, c, rfl⟩ := k2.shape
  exact ⟨_, A, c, rfl, by rw [List.length_drop], k1, k2, k3⟩
end
end Go.Proofs.YtfpikgkbccgchaaGreatDoor

namespace Go.Proofs.YtfpikgkbccgchaaGreatDoor
set_option linter.unusedVariables false
set_option linter.unusedSimpArgs false
open Go.RowKit

theorem rgetV_16 (l : List Nat) (h : l.length = 2) : rgetV (unpackB l) 0 0 16 = valP l := by
  have hl : (unpackB l).length = 16 := by rw [unpackB_len2, h]
  unfold rgetV valP
  rw [if_pos ⟨rfl, by omega⟩, List.drop_zero, List.take_of_length_le (by omega)]

def SizeR (f : List Nat) (w : World) (e : Ending) (w' : World) : Prop := e = .returned (.int .i64 (sizeP f : Int)) ∧ Kp No w w'
set_option maxHeartbeats 400000 in
set_option maxRecDepth 100000 in
theorem size_any {w : World} {v : Value} {f : List Nat} (h : Rd BK w v f) (hB : f.length ≤ 1000000) (hBx : ∀ x ∈ f, x < 256) : Calls Tryz.prog 132 #[v] w (SizeR f w) := by
  have H0 := Lib.hid h
  obtain ⟨A, cap, rfl⟩ := h.shape
  have H := Lib.hid h; have HX := Lib.hid hBx
  clear h hBx
  obtain ⟨s, hs⟩ : ∃ s, s = sizeP f := ⟨_, rfl⟩
  have HSZ := Lib.hid hs
  unfold SizeR
  rw [← hs]
  by_cases h4 : f.length < 4
  · have h4I : (f.length : Int) < 4 := by omega
    have HS0 := Lib.hid (show s = 0 by rw [hs]; unfold sizeP; rw [if_pos h4])
    clear hs h4
    go_enter Tryz.func132, Tryz.ntmps132
    go_wp2
    go_ret
    exact ⟨by rw [HS0.out]; rfl, Kp.refl _ _⟩
  · have h4I : ¬ (f.length : Int) < 4 := by omega
    obtain ⟨t2, A2, c2, HT2, hl2, hr2, HD2, _⟩ := H.out.upto2 elB 2 (by omega) 2 rfl
    have hx2 : ∀ x ∈ t2, x < 256 := fun x hx => HX.out x (List.mem_of_mem_take (by rw [← HT2.out]; exact hx))
    have hval := rgetV_16 _ hl2
    obtain ⟨m, hm⟩ : ∃ m, m = valP t2 := ⟨_, rfl⟩
    have hm16 : m < 65536 := by rw [hm]; exact valP_lt _ hl2
    rw [← hm] at hval
    obtain ⟨n, hn⟩ : ∃ n, n = m + 4 := ⟨_, rfl⟩
    have hs1 : s = if f.length < n ∨ 1004 < n then 0 else if valP ((f.drop (n - 2)).take 2) = crc 65535 (f.take (n - 2)) then n else 0 := by
      rw [hs, hn, hm, HT2.out]; unfold sizeP; rw [if_neg h4]
    have hl2I : t2.length ≤ 1000000 := by omega
    have HX2 := Lib.hid hx2; have HV := Lib.hid hval; have HS1 := Lib.hid hs1; have HL2 := Lib.hid hl2
    have e1 : IntKind.i64.wrap (m : Int) = (m : Int) := IntWalk.i64_in _ (by omega)
    have e2 : (m : Int) + 4 = (n : Int) := by omega
    have e3 : IntKind.i64.wrap (n : Int) = (n : Int) := IntWalk.i64_in _ (by omega)
    clear hs hx2 hval hs1 hm
    by_cases hb : f.length < n ∨ 1004 < n
    · have hs0 := HS1.out
      rw [if_pos hb] at hs0
      have HS0 := Lib.hid hs0
      rcases Nat.lt_or_ge f.length n with hb1 | hb1
      · have hbI : (f.length : Int) < (n : Int) := by omega
        clear hs0 hl2 hn hb h4
        go_enter Tryz.func132, Tryz.ntmps132
        go_wp2_with fail
        refine (newR_any HD2.out hl2I).mono ?_
        rintro e w1 ⟨p, V, rfl, a1, b1, b2, _⟩
        have A1 := Lib.hid a1; have KA := Lib.hid b1; have PA := Lib.hid b2
        clear a1 b1 b2
        go_wp2_with fail
        refine (get_any A1.out hl2I HX2.out (Nat.zero_le _) 16 (by decide) 16 rfl).mono ?_
        rintro e w3 ⟨rfl, a3⟩
        rw [HV.out]
        have K3 := Lib.hid (KA.out.newer a3.kp PA.out)
        clear a3
        go_wp2
        go_ret
        exact ⟨by rw [HS0.out]; rfl, K3.out⟩
      · have hbI : ¬ (f.length : Int) < (n : Int) := by omega
        have hbI2 : (1004 : Int) < (n : Int) := by omega
        clear hs0 hl2 hn hb h4 hb1
        go_enter Tryz.func132, Tryz.ntmps132
        go_wp2_with fail
        refine (newR_any HD2.out hl2I).mono ?_
        rintro e w1 ⟨p, V, rfl, a1, b1, b2, _⟩
        have A1 := Lib.hid a1; have KA := Lib.hid b1; have PA := Lib.hid b2
        clear a1 b1 b2
        go_wp2_with fail
        refine (get_any A1.out hl2I HX2.out (Nat.zero_le _) 16 (by decide) 16 rfl).mono ?_
        rintro e w3 ⟨rfl, a3⟩
        rw [HV.out]
        have K3 := Lib.hid (KA.out.newer a3.kp PA.out)
        clear a3
        go_wp2
        go_ret
        exact ⟨by rw [HS0.out]; rfl, K3.out⟩
    · have hb1 : n ≤ f.length := by omega
      have hb2 : n ≤ 1004 := by omega
      have hbI : ¬ (f.length : Int) < (n : Int) := by omega
      have hbI2 : ¬ (1004 : Int) < (n : Int) := by omega
      have hs0 := HS1.out
      rw [if_neg hb] at hs0
      obtain ⟨n2, hn2⟩ : ∃ n2, n2 = n - 2 := ⟨_, rfl⟩
      rw [← hn2] at hs0
      have e4 : (n : Int) - 2 = (n2 : Int) := by omega
      have e5 : IntKind.i64.wrap (n2 : Int) = (n2 : Int) := IntWalk.i64_in _ (by omega)
      obtain ⟨t6, A6, c6, HT6, hl6, hr6, HD6, _⟩ := H.out.mid2 elB n2 n (by omega) hb1 (n2 : Int) (n : Int) rfl rfl
      obtain ⟨t7, A7, c7, HT7, hl7, hr7, HD7, _⟩ := H.out.upto2 elB n2 (by omega) (n2 : Int) rfl
      rw [show n - n2 = 2 by omega] at HT6
      have hv6 := rgetV_16 t6 (by omega)
      have hx6 : ∀ x ∈ t6, x < 256 := fun x hx => HX.out x (by rw [HT6.out] at hx; exact List.mem_of_mem_drop (List.mem_of_mem_take hx))
      have hx7 : ∀ x ∈ t7, x < 256 := fun x hx => HX.out x (by rw [HT7.out] at hx; exact List.mem_of_mem_take hx)
      have hl7b : t7.length ≤ 1000000 := by omega
      have hl6b : t6.length ≤ 1000000 := by omega
      rw [← HT6.out, ← HT7.out] at hs0
      generalize valP t6 = a at *
      obtain ⟨b, hcrc⟩ : ∃ b, b = crc 65535 t7 := ⟨_, rfl⟩
      rw [← hcrc] at hs0
      have hs0' := hs0
      have hbl : b < 65536 := by rw [hcrc]; exact crc_lt _ (by decide) _
      have e6 : IntKind.u64.wrap (b : Int) = (b : Int) := IntWalk.u64_in _ (by omega)
      have HS0 := Lib.hid hs0; have HX6 := Lib.hid hx6; have HX7 := Lib.hid hx7; have HV6 := Lib.hid hv6; have HCR := Lib.hid hcrc
      clear hs0 hl2 hn hb h4 hn2 hx6 hx7 hv6 hl6 hl7 hcrc
      obtain ⟨d, hd⟩ : ∃ d, d = ((a : Int) != (b : Int)) := ⟨_, rfl⟩
      have hdI : ((a : Int) != (b : Int)) = d := hd.symm
      have hs2 : s = if d then 0 else n := by
        rw [hs0', hd]
        by_cases hab : a = b
        · rw [if_pos hab]; simp [hab]
        · have hab2 : (a : Int) ≠ (b : Int) := by omega
          rw [if_neg hab]; simp [hab2]
      have HS2 := Lib.hid hs2
      clear hs2 hd hs0'
      go_enter Tryz.func132, Tryz.ntmps132
      go_wp2_with fail
      refine (newR_any HD2.out hl2I).mono ?_
      rintro e w1 ⟨p, V, rfl, a1, b1, b2, _⟩
      have A1 := Lib.hid a1; have KA := Lib.hid b1; have PA := Lib.hid b2
      clear a1 b1 b2
      go_wp2_with fail
      refine (get_any A1.out hl2I HX2.out (Nat.zero_le _) 16 (by decide) 16 rfl).mono ?_
      rintro e w3 ⟨rfl, a3⟩
      rw [HV.out]
      have K3 := Lib.hid (KA.out.newer a3.kp PA.out)
      clear a3
      go_wp2
      go_region_law (first
        | (go_simp; go_at_call 101; refine (newR_any (w := w3.drew) (HD6.out.kpNo K3.out.drew) hl6b).mono ?_; rintro e w5 ⟨p5, V5, rfl, a5, b5, b6, _⟩; have A5 := Lib.hid a5; have K5 := Lib.hid (K3.out.drew.trans b5); have P5 := Lib.hid (Nat.le_trans K3.out.drew.size b6); clear a5 b5 b6)
        | (go_simp; go_at_call 102; refine (get_any A5.out hl6b HX6.out (Nat.zero_le _) 16 (by decide) 16 rfl).mono ?_; rintro e w6 ⟨rfl, a6⟩; rw [HV6.out]; have K6 := Lib.hid (K5.out.newer a6.kp P5.out); clear a6)
        | (go_simp; go_at_call 145; refine (sum_any (HD7.out.kpNo K6.out) hl7b HX7.out).mono ?_; rintro e w7 ⟨rfl, rfl⟩; rw [← HCR.out]))
      all_goals
        cases d with
        | true =>
          go_wp2
          go_ret
          exact ⟨by rw [HS2.out]; rfl, K6.out⟩
        | false =>
          go_wp2
          go_ret
          exact ⟨by rw [HS2.out]; rfl, K6.out⟩

/-- What Open answers. -/
def openL (f : List Nat) : List Nat := if isF f then midP f else []

set_option maxRecDepth 100000 in
theorem open_any {w : World} {v : Value} {f : List Nat} (h : Rd BK w v f) (hB : f.length ≤ 1000000) (hBx : ∀ x ∈ f, x < 256) :
    Calls Tryz.prog 100 #[v] w fun e w' => ∃ v', e = .returned (.tuple #[v', .bool (isF f)]) ∧ NewS BK 5 w w' v' (openL f) := by
  obtain ⟨A, cap, rfl⟩ := h.shape
  have H := Lib.hid h; have HX := Lib.hid hBx
  have hiff := sizeP_isF f hBx
  have hsz : sizeP f ≤ 1004 := by
    unfold sizeP
    split
    · omega
    · split
      · omega
      · split <;> omega
  clear h hBx
  by_cases hF : isF f = true
  · obtain ⟨h1, h2⟩ := hiff.2 hF
    have h4 : 4 ≤ f.length := by unfold isF at hF; simp only [Bool.and_eq_true, decide_eq_true_eq] at hF; exact hF.1.1
    obtain ⟨t, A2, c2, HT, hl2, hr2, HD2, _⟩ := H.out.mid2 elB 2 (f.length - 2) (by omega) (by omega) 2 ((f.length : Int) - 2) rfl (by omega)
    have ho : openL f = t := by rw [HT.out]; unfold openL; rw [if_pos hF]; unfold midP; rfl
    have HO := Lib.hid ho; have HF := Lib.hid hF; have H1 := Lib.hid h1
    have e1 : ((f.length : Int) == 0) = false := by rw [beq_eq_false_iff_ne]; omega
    have e2 : IntKind.i64.wrap ((f.length : Int) - 2) = (f.length : Int) - 2 := IntWalk.i64_in _ (by omega)
    have htl : t.length ≤ 1000000 := by omega
    clear hl2 ho hF h1 hiff hsz h2
    go_enter Tryz.func100, Tryz.ntmps100
    go_wp2_with fail
    refine (size_any H.out hB HX.out).mono ?_
    rintro e w1 ⟨rfl, k1⟩
    rw [H1.out]
    have K1 := Lib.hid k1
    clear k1
    go_wp2_with (at_builtin; refine wpl_append elB rfl (.const (.slice none 0 0)) (.tmp 18) rfl rfl rfl (l := []) (m := t) ?c1 ?c2 ?c3 ?c4 ?c5)
    case c1 => exact Own.nil _ _ _
    case c2 => exact HD2.out.kpNo K1.out
    case c3 => show 0 + t.length ≤ maxLen; unfold maxLen; omega
    case c4 => show (0 + t.length) * 1 ≤ _; omega
    case c5 =>
      intro v' w' k1 k2 k3
      have q : NewS BK 5 w w' v' t := (NewS.nil BK 5 w).app K1.out k1 k2 k3 K1.out.size
      obtain ⟨A3, c3, rfl⟩ := q.own.rd.shape
      have Q := Lib.hid q
      clear k1 k2 k3 q
      go_wp2
      go_ret2
      exact ⟨.slice A3 t.length c3, by rw [HF.out]; rfl, by rw [HO.out]; exact Q.out⟩
  · have hF2 : isF f = false := by simpa using hF
    have ho : openL f = [] := by unfold openL; rw [if_neg hF]
    have HO := Lib.hid ho; have HF := Lib.hid hF2
    obtain ⟨s, hs⟩ : ∃ s, s = sizeP f := ⟨_, rfl⟩
    have HS := Lib.hid hs
    have hn : s = 0 ∨ (s ≠ 0 ∧ s ≠ f.length) := by
      by_cases h0 : s = 0
      · exact .inl h0
      · exact .inr ⟨h0, fun h => hF (hiff.1 ⟨by omega, by omega⟩)⟩
    clear ho hF hF2 hiff hsz hs
    rcases hn with h0 | ⟨h0, hne⟩
    · have e1 : ((s : Int) == 0) = true := by simp [h0]
      clear h0
      go_enter Tryz.func100, Tryz.ntmps100
      go_wp2_with fail
      refine (size_any H.out hB HX.out).mono ?_
      rintro e w1 ⟨rfl, k1⟩
      rw [← HS.out]
      have K1 := Lib.hid k1
      clear k1
      go_wp2
      go_ret2
      exact ⟨.slice none 0 0, by rw [HF.out]; rfl, by rw [HO.out]; exact (NewS.nil _ _ _).kpNo K1.out⟩
    · have e1 : ((s : Int) == 0) = false := by simp; omega
      have e2 : ((s : Int) != (f.length : Int)) = true := by simp; omega
      clear h0 hne
      go_enter Tryz.func100, Tryz.ntmps100
      go_wp2_with fail
      refine (size_any H.out hB HX.out).mono ?_
      rintro e w1 ⟨rfl, k1⟩
      rw [← HS.out]
      have K1 := Lib.hid k1
      clear k1
      go_wp2
      go_ret2
      exact ⟨.slice none 0 0, by rw [HF.out]; rfl, by rw [HO.out]; exact (NewS.nil _ _ _).kpNo K1.out⟩
end Go.Proofs.YtfpikgkbccgchaaGreatDoor

namespace Go.Proofs.YtfpikgkbccgchaaGreatDoor
set_option linter.unusedVariables false
set_option linter.unusedSimpArgs false
open Go.RowKit

/-- The string of bytes. -/
def strB (l : List Nat) : ByteArray := strOfNums (l.map fun (x : Nat) => (x : Int))
theorem strB_data (l : List Nat) : (strB l).data.toList = l.map fun x => UInt8.ofNat x := by
  unfold strB
  rw [strOfNums_data, List.map_map]
  rfl
theorem strB_size (l : List Nat) : (strB l).size = l.length := by unfold strB; rw [strOfNums_size, List.length_map]
theorem strB_inj {a b : List Nat} (ha : ∀ x ∈ a, x < 256) (hb : ∀ x ∈ b, x < 256) (h : strB a = strB b) : a = b := by
  have h2 : a.map (fun x => UInt8.ofNat x) = b.map fun x => UInt8.ofNat x := by rw [← strB_data, ← strB_data, h]
  have h3 := congrArg (List.map UInt8.toNat) h2
  rw [List.map_map, List.map_map] at h3
  have key : ∀ l : List Nat, (∀ x ∈ l, x < 256) → l.map (UInt8.toNat ∘ fun x => UInt8.ofNat x) = l := by
    intro l hl
    conv => rhs; rw [← List.map_id l]
    refine List.map_congr_left fun x hx => ?_
    have := hl x hx
    simp only [Function.comp, UInt8.toNat_ofNat', id]
    exact Nat.mod_eq_of_lt this
  rwa [key a ha, key b hb] at h3
theorem Rd.str {w : World} {v : Value} {l : List Nat} (h : Rd BK w v l) : (convert 41 9 v).run Tryz.prog w = .ok (.string (strB l)) w := by
  rcases h with ⟨⟨A, c, rfl⟩, rfl⟩ | ⟨g, o, cap, rfl, h1, h2, h3⟩
  · cases A with
    | none => exact run_convert_bytes_nil w 41 5 (by kernel_rfl) (by kernel_rfl) 0 c 9 (by kernel_rfl)
    | some a =>
      rw [run_convert_bytes_string w 41 9 5 _ 0 c (by kernel_rfl) (by kernel_rfl) (by kernel_rfl)]
      simp [Conv.bytesToString, loadCells, loadCellsFrom]
      rfl
  · have hl : (l.map fun (x : Nat) => (x : Int)).length = l.length := List.length_map ..
    refine run_convert_bytes_arg w 41 5 (by kernel_rfl) (by kernel_rfl) g o l.length cap (l.map fun (x : Nat) => (x : Int)) hl (fun i hi => ?_) 9 (by kernel_rfl)
    refine h3 i _ ?_
    rw [encs_BK, List.getElem?_map, List.getElem?_eq_getElem hi, List.getD_eq_getElem?_getD, List.getElem?_map, List.getElem?_eq_getElem hi]
    rfl
theorem strB_beq {a b : List Nat} (ha : ∀ x ∈ a, x < 256) (hb : ∀ x ∈ b, x < 256) : ((strB a).toList == (strB b).toList) = decide (a = b) := by
  rw [Go.ByteArray.toList_eq, Go.ByteArray.toList_eq]
  by_cases h : a = b
  · subst h; simp
  · rw [decide_eq_false h, beq_eq_false_iff_ne]
    exact fun e => h (strB_inj ha hb (Go.WideShapes.bytes_inj e))
end Go.Proofs.YtfpikgkbccgchaaGreatDoor

namespace Go.Proofs.YtfpikgkbccgchaaGreatDoor
set_option linter.unusedVariables false
set_option linter.unusedSimpArgs false
open Go.RowKit

set_option maxRecDepth 100000 in
theorem ropen_any {w : World} {v : Value} {f : List Nat} (h : Rd BK w v f) (hB : f.length ≤ 1000000) (hBx : ∀ x ∈ f, x < 256) :
    Calls Tryz.prog 120 #[v] w fun e w' => ∃ v', e = .returned (.tuple #[v', .bool (isF f)]) ∧ Rd BK w' v' (openL f) ∧ Kp No w w' := by
  obtain ⟨A, cap, rfl⟩ := h.shape
  have H := Lib.hid h; have HX := Lib.hid hBx
  clear h hBx
  by_cases h4 : f.length < 4
  · have h4I : (f.length : Int) < 4 := by omega
    have hF : isF f = false := by unfold isF; rw [decide_eq_false (by omega)]; rfl
    have ho : openL f = [] := by unfold openL; rw [hF]; rfl
    have HO := Lib.hid ho; have HF := Lib.hid hF
    clear hF ho h4
    go_enter Tryz.func120, Tryz.ntmps120
    go_wp2
    go_ret2
    exact ⟨.slice none 0 0, by rw [HF.out]; rfl, by rw [HO.out]; exact Rd.nil _ _, Kp.refl _ _⟩
  · have h4I : ¬ (f.length : Int) < 4 := by omega
    obtain ⟨t, A2, c2, HT, hl2, hr2, HD2, _⟩ := H.out.mid2 elB 2 (f.length - 2) (by omega) (by omega) 2 ((f.length : Int) - 2) rfl (by omega)
    have hxt : ∀ x ∈ t, x < 256 := fun x hx => HX.out x (by rw [HT.out] at hx; exact List.mem_of_mem_drop (List.mem_of_mem_take hx))
    have hmt : midP f = t := by rw [HT.out]; rfl
    have e2 : IntKind.i64.wrap ((f.length : Int) - 2) = (f.length : Int) - 2 := IntWalk.i64_in _ (by omega)
    have htl : t.length ≤ 1000000 := by omega
    have HXT := Lib.hid hxt
    by_cases h1 : t.length ≤ 1000
    · have hE : frameE t = 0 := by simp [frameE, h1]
      have hL : frameL t = frameP t := by simp [frameL, h1]
      have hF : isF f = decide (frameP t = f) := by
        unfold isF; rw [hmt, decide_eq_true (show 4 ≤ f.length by omega), decide_eq_true (show f.length ≤ 1004 by omega)]; simp
      have ho : openL f = if frameP t = f then t else [] := by
        unfold openL; rw [hF, hmt]; by_cases hq : frameP t = f <;> simp [hq]
      have hfx : ∀ x ∈ frameP t, x < 256 := frameP_lt t hxt
      have hfl : (frameP t).length ≤ 1004 := by rw [frameP_len]; omega
      have HO := Lib.hid ho; have HF := Lib.hid hF; have HE := Lib.hid hE; have HL := Lib.hid hL
      have hq := strB_beq hfx HX.out
      obtain ⟨d, hd⟩ : ∃ d, d = decide (frameP t = f) := ⟨_, rfl⟩
      rw [← hd] at hq
      have hF2 : isF f = d := by rw [hF, hd]
      have ho2 : openL f = if d then t else [] := by rw [ho, hd]; by_cases hh : frameP t = f <;> simp [hh]
      have HO := Lib.hid ho2; have HF := Lib.hid hF2; have HE := Lib.hid hE; have HL := Lib.hid hL
      clear ho hF hE hL hxt hmt h4 hl2 hd hF2 ho2 hfx
      go_enter Tryz.func120, Tryz.ntmps120
      go_wp2_with fail
      refine (rframe_any HD2.out htl HXT.out).mono ?_
      rintro e w1 ⟨v1, rfl, k1⟩
      rw [HL.out] at k1
      rw [HE.out]
      have hst1 := k1.own.rd.str
      have hst2 := (H.out.kpNo k1.kp).str
      obtain ⟨A3, c3, rfl⟩ := k1.own.rd.shape
      have K1 := Lib.hid k1
      clear k1
      cases d with
      | true =>
        go_wp2
        go_ret2
        exact ⟨.slice A2 t.length c2, by rw [HF.out]; rfl, by rw [HO.out]; exact HD2.out.kpNo K1.out.kp, K1.out.kp⟩
      | false =>
        go_wp2
        go_ret2
        exact ⟨.slice none 0 0, by rw [HF.out]; rfl, by rw [HO.out]; exact Rd.nil _ _, K1.out.kp⟩
    · have hE : frameE t = 4 := by simp [frameE, h1]
      have hF : isF f = false := by unfold isF; rw [decide_eq_false (show ¬ f.length ≤ 1004 by omega)]; simp
      have ho : openL f = [] := by unfold openL; rw [hF]; rfl
      have HO := Lib.hid ho; have HF := Lib.hid hF; have HE := Lib.hid hE
      clear ho hF hE hxt hmt h4 hl2
      go_enter Tryz.func120, Tryz.ntmps120
      go_wp2_with fail
      refine (rframe_any HD2.out htl HXT.out).mono ?_
      rintro e w1 ⟨v1, rfl, k1⟩
      rw [HE.out]
      obtain ⟨A3, c3, rfl⟩ := k1.own.rd.shape
      have K1 := Lib.hid k1
      clear k1
      go_wp2
      go_ret2
      exact ⟨.slice none 0 0, by rw [HF.out]; rfl, by rw [HO.out]; exact Rd.nil _ _, K1.out.kp⟩
end Go.Proofs.YtfpikgkbccgchaaGreatDoor

namespace Go.Proofs.YtfpikgkbccgchaaGreatDoor
set_option linter.unusedVariables false
set_option linter.unusedSimpArgs false
open Go.RowKit

def layBits (h : Bool) (n : Nat) (d : List Nat) : List Bool := ([h] ++ cbits n) ++ unpackB d
def layBad (h : Bool) (n : Nat) (d : List Nat) : Int := if 200 < d.length ∨ n = 18446744073709551615 then 4 else if h = true ∧ d ≠ [] then 140 else 0
def layL (h : Bool) (n : Nat) (d : List Nat) : List Nat := if layBad h n d = 0 then frameP (packB (layBits h n d)) else []
theorem blen_le64 (m : Nat) (h : m < 18446744073709551616) : blen m ≤ 64 := @blen_le m 64 (by omega)
theorem cbits_le (n : Nat) (hn : n < 18446744073709551615) : (cbits n).length ≤ 127 := by
  have := blen_le64 (n + 1) (by omega)
  rw [cbits_len]; omega
theorem layBits_len (h : Bool) (n : Nat) (d : List Nat) (hn : n < 18446744073709551615) (hd : d.length ≤ 200) : (layBits h n d).length ≤ 1728 := by
  unfold layBits
  have := cbits_le n hn
  simp only [List.length_append, List.length_cons, List.length_nil, unpackB_len2]; omega

theorem newW_p (w : World) : Calls Tryz.prog 146 #[] w fun e w' => ∃ p, e = .returned (.pointer (some ⟨p, 0, none⟩)) ∧ AtW w p [] w' := (newW_any w).mono fun _ _ h => ⟨_, h⟩
theorem AtW.low {w w0 w' : World} {p : Nat} {l : List Bool} (h : AtW w0 p l w') (hk : Kp No w w0) : AtW w p l w' := by
  obtain ⟨V, h⟩ := h
  exact ⟨V, h.blk, h.own, h.ne, hk.trans h.kp, Nat.le_trans hk.size h.po, fun g hg => Nat.le_trans hk.size (h.vo g hg)⟩

set_option maxRecDepth 100000 in
theorem lay_good {w : World} {v : Value} {d : List Nat} (hv : Rd BK w v d) (h : Bool) (n : Nat) (hn : n < 18446744073709551615) (hd : d.length ≤ 200) (hdx : ∀ x ∈ d, x < 256) (hh : h = true → d = []) :
    Calls Tryz.prog 134 #[.agg #[.bool h, .int .u64 (n : Int), v]] w (BytesE (frameP (packB (layBits h n d))) 0 w) := by
  obtain ⟨A, cap, rfl⟩ := hv.shape
  have H := Lib.hid hv; have HX := Lib.hid hdx; have HN := Lib.hid hn
  have c1 : ¬ (200 : Int) < (d.length : Int) := by omega
  have c2 : ((n : Int) == 18446744073709551615) = false := by rw [beq_eq_false_iff_ne]; omega
  have hcb := cbits_le n hn
  obtain ⟨LB, hLB⟩ : ∃ LB, LB = layBits h n d := ⟨_, rfl⟩
  have hLBl : LB.length ≤ 1728 := by rw [hLB]; exact layBits_len h n d hn hd
  have HLB := Lib.hid hLB
  have hpl : (packB LB).length ≤ 1000 := by rw [packB_len]; omega
  have hfe : frameE (packB LB) = 0 := by simp [frameE, hpl]
  have hfl : frameL (packB LB) = frameP (packB LB) := by simp [frameL, hpl]
  have HFE := Lib.hid hfe; have HFL := Lib.hid hfl; have HPL := Lib.hid hpl
  obtain ⟨k0, hk0⟩ : ∃ k0, k0 = h.toNat := ⟨_, rfl⟩
  have hdh : h = true → ¬ (0 : Int) < (d.length : Int) := fun e => by rw [hh e]; simp
  have HBX := Lib.hid (blk_new w (.cells #[.bool h, .int .u64 (n : Int), .slice A d.length cap] 118))
  have hl1 : ([h] ++ cbits n).length ≤ 128 := by rw [List.length_append, List.length_singleton]; omega
  obtain ⟨l1, hl1e⟩ : ∃ l1, l1 = [h] ++ cbits n := ⟨_, rfl⟩
  rw [← hl1e] at hl1
  have HL1 := Lib.hid hl1e
  have HHB : Hid (nbits h.toNat 1 = [h]) := by cases h <;> rfl
  clear hv hdx hn hfe hfl hpl hh hk0 hl1e hLB
  cases h
  all_goals
    try (have hdh := hdh rfl)
    go_enter Tryz.func134, Tryz.ntmps134
    go_wp2_with fail
    refine (newW_p _).mono ?_
    rintro e w1 ⟨p, rfl, a1⟩
    have A1 := Lib.hid a1
    have B1 := a1.kp.blk HBX.out (no_no _)
    have b10 := blk_cell B1 0
    simp only [List.getElem?_toArray, List.getElem?_cons_zero] at b10
    have BB1 := Lib.hid B1
    clear a1 B1
    go_wp2_with fail
    first
      | (with_reducible refine (put_at A1.out 0 1 (by decide) (by decide) (by simp) 0 1 rfl rfl).mono ?_)
      | (with_reducible refine (put_at A1.out 1 1 (by decide) (by decide) (by simp) 1 1 rfl rfl).mono ?_)
    rintro e w2 ⟨rfl, a2⟩
    have b21 : w2.cell? ⟨w.heap.size, 1, none⟩ = some (.int .u64 (n : Int)) := a2.kp.cellS ((blk_cell HBX.out 1).trans rfl) (no_no _)
    have A2 := Lib.hid a2
    clear a2 b10 BB1
    go_wp2_with fail
    refine (wcount_any A2.out n HN.out (by rw [List.nil_append, nbits_len]; decide)).mono ?_
    rintro e w3 ⟨rfl, a3⟩
    have b32 : w3.cell? ⟨w.heap.size, 2, none⟩ = some (.slice A d.length cap) := a3.kp.cellS ((blk_cell HBX.out 2).trans rfl) (no_no _)
    have a3 : AtW w p l1 w3 := by
      rw [HL1.out]
      exact a3.low ((Kp.refl _ _).alloc _)
    have A3 := Lib.hid a3
    clear a3 b21
    go_wp2
    go_loopw [43] (fun i wr => ∃ k : Nat, i = .int .i64 k ∧ k ≤ d.length ∧ AtW w p (l1 ++ unpackB (d.take k)) wr) (fun i _ => d.length - (intOf i).toNat)
    case atStart => exact ⟨0, rfl, by omega, by have := A3.out; simpa [unpackB] using this⟩
    case round =>
      obtain ⟨k, rfl, hk, hat⟩ := hrel
      have HAT := Lib.hid hat
      clear hat
      by_cases hlt : k < d.length
      · obtain ⟨x, hx⟩ : ∃ x, d[k]? = some x := ⟨_, List.getElem?_eq_getElem hlt⟩
        have hx256 := HX.out x (List.mem_of_getElem? hx)
        have HSN := Lib.hid (unpackB_snoc d k x hx)
        have hul : (l1 ++ unpackB (d.take k)).length + 8 ≤ 1048576 := by rw [List.length_append, unpackB_len2, List.length_take]; omega
        rcases H.out with ⟨hv, he⟩ | ⟨g, o, cap', hv, _⟩
        · rw [he] at hlt; simp at hlt
        simp only [Value.slice.injEq] at hv
        obtain ⟨rfl, _, rfl⟩ := hv
        have hxc := (H.out.kpNo HAT.out.kp).byteAt hx
        have hltI : (k : Int) < (d.length : Int) := by omega
        have hwk : IntKind.i64.wrap ((k : Int) + 1) = (k : Int) + 1 := IntWalk.i64_in _ (by omega)
        have hwx : IntKind.u64.wrap (x : Int) = (x : Int) := IntWalk.u64_in _ (by omega)
        have HUL := Lib.hid hul
        clear hx hlt hul
        go_wp2_with fail
        refine (put_at HAT.out x 8 (by omega) (by decide) HUL.out _ 8 rfl rfl).mono ?_
        rintro e w5 ⟨rfl, a5⟩
        rw [List.append_assoc, ← HSN.out] at a5
        have A5 := Lib.hid a5
        clear a5
        go_wp2
        go_roundw
        case rel => exact ⟨k + 1, by go_num, by omega, A5.out⟩
        case measure => simp [intOf]; omega
      · obtain rfl : k = d.length := by omega
        have hd0 : ¬ (d.length : Int) < (d.length : Int) := by omega
        have a6 := HAT.out
        rw [List.take_length, HL1.out] at a6
        have a6' : AtW w p LB wr := by rw [HLB.out]; exact a6
        have A6 := Lib.hid a6'
        clear a6 a6' hlt
        go_wp2_with fail
        refine (out_any A6.out (Nat.le_trans hLBl (by decide))).mono ?_
        rintro e w7 ⟨v7, rfl, k1, k2, k3⟩
        obtain ⟨A7, c7, rfl⟩ := k1.rd.shape
        have K1 := Lib.hid k1; have K2 := Lib.hid k2
        clear k1 k2 k3
        go_wp2_with fail
        refine (frame_any K1.out.rd (Nat.le_trans HPL.out (by decide)) (packB_lt _)).mono ?_
        rintro e w8 ⟨v8, rfl, k8⟩
        rw [HFE.out]
        rw [HFL.out] at k8
        have hk8 : NewS BK 5 w w8 v8 _ := ⟨k8.own, fun g hg => Nat.le_trans (A6.out.kp.trans K2.out).size (k8.ge g hg), (A6.out.kp.trans K2.out).trans k8.kp⟩
        obtain ⟨A8, c8, rfl⟩ := hk8.own.rd.shape
        have K8 := Lib.hid hk8
        clear k8 hk8
        go_wp2
        go_ret2
        exact ⟨.slice A8 (frameP (packB LB)).length c8, rfl, by rw [← HLB.out]; exact K8.out⟩
end Go.Proofs.YtfpikgkbccgchaaGreatDoor

namespace Go.Proofs.YtfpikgkbccgchaaGreatDoor
set_option linter.unusedVariables false
set_option linter.unusedSimpArgs false
open Go.RowKit

theorem layBad_cases (h : Bool) (n : Nat) (d : List Nat) :
    (200 < d.length ∧ layBad h n d = 4) ∨ (d.length ≤ 200 ∧ n = 18446744073709551615 ∧ layBad h n d = 4) ∨ (d.length ≤ 200 ∧ n ≠ 18446744073709551615 ∧ h = true ∧ d ≠ [] ∧ layBad h n d = 140) ∨ (d.length ≤ 200 ∧ n ≠ 18446744073709551615 ∧ (h = true → d = []) ∧ layBad h n d = 0) := by
  unfold layBad
  by_cases c1 : 200 < d.length
  · exact .inl ⟨c1, if_pos (.inl c1)⟩
  · by_cases c2 : n = 18446744073709551615
    · exact .inr (.inl ⟨by omega, c2, if_pos (.inr c2)⟩)
    · rw [if_neg (fun h => by rcases h with h | h; exact c1 h; exact c2 h)]
      by_cases c3 : h = true ∧ d ≠ []
      · exact .inr (.inr (.inl ⟨by omega, c2, c3.1, c3.2, if_pos c3⟩))
      · refine .inr (.inr (.inr ⟨by omega, c2, fun hh => ?_, if_neg c3⟩))
        by_cases hd : d = []
        · exact hd
        · exact absurd ⟨hh, hd⟩ c3

set_option maxRecDepth 100000 in
theorem lay_any {w : World} {v : Value} {d : List Nat} (hv : Rd BK w v d) (h : Bool) (n : Nat) (hn : n < 18446744073709551616) (hdx : ∀ x ∈ d, x < 256) :
    Calls Tryz.prog 134 #[.agg #[.bool h, .int .u64 (n : Int), v]] w (BytesE (layL h n d) (layBad h n d) w) := by
  rcases layBad_cases h n d with ⟨c1, hb⟩ | ⟨c1, c2, hb⟩ | ⟨c1, c2, c3, c4, hb⟩ | ⟨c1, c2, c3, hb⟩
  · have hl : layL h n d = [] := by unfold layL; rw [hb]; rfl
    rw [hl, hb]
    obtain ⟨A, cap, rfl⟩ := hv.shape
    have c1I : (200 : Int) < (d.length : Int) := by omega
    clear hl hb hn hdx hv c1
    go_enter Tryz.func134, Tryz.ntmps134
    go_wp2
    go_ret2
    exact ⟨.slice none 0 0, rfl, (NewS.nil _ _ _).alloc _⟩
  · have hl : layL h n d = [] := by unfold layL; rw [hb]; rfl
    rw [hl, hb]
    obtain ⟨A, cap, rfl⟩ := hv.shape
    have c1I : ¬ (200 : Int) < (d.length : Int) := by omega
    have c2I : ((n : Int) == 18446744073709551615) = true := by rw [c2]; rfl
    clear hl hb hn hdx hv c1 c2
    go_enter Tryz.func134, Tryz.ntmps134
    go_wp2
    go_ret2
    exact ⟨.slice none 0 0, rfl, (NewS.nil _ _ _).alloc _⟩
  · have hl : layL h n d = [] := by unfold layL; rw [hb]; rfl
    rw [hl, hb]
    obtain ⟨A, cap, rfl⟩ := hv.shape
    subst c3
    have c1I : ¬ (200 : Int) < (d.length : Int) := by omega
    have c2I : ((n : Int) == 18446744073709551615) = false := by rw [beq_eq_false_iff_ne]; omega
    have c4I : (0 : Int) < (d.length : Int) := by have h0 : d.length ≠ 0 := (fun e => c4 (List.eq_nil_of_length_eq_zero e)); omega
    clear hl hb hn hdx hv c1 c2 c4
    go_enter Tryz.func134, Tryz.ntmps134
    go_wp2
    go_ret2
    exact ⟨.slice none 0 0, rfl, (NewS.nil _ _ _).alloc _⟩
  · have hl : layL h n d = frameP (packB (layBits h n d)) := by unfold layL; rw [hb]; rfl
    rw [hl, hb]
    exact lay_good hv h n (by omega) c1 hdx c3

set_option maxRecDepth 100000 in
theorem rlay_bad {w : World} {v : Value} {d : List Nat} (hv : Rd BK w v d) (h : Bool) (n : Nat) (hb0 : layBad h n d ≠ 0) :
    Calls Tryz.prog 52 #[.agg #[.bool h, .int .u64 (n : Int), v]] w (BytesE (layL h n d) (layBad h n d) w) := by
  have hl : layL h n d = [] := by unfold layL; rw [if_neg hb0]
  rcases layBad_cases h n d with ⟨c1, hb⟩ | ⟨c1, c2, hb⟩ | ⟨c1, c2, c3, c4, hb⟩ | ⟨c1, c2, c3, hb⟩
  · rw [hl, hb]
    obtain ⟨A, cap, rfl⟩ := hv.shape
    have c1I : (200 : Int) < (d.length : Int) := by omega
    clear hl hb hv c1 hb0
    go_enter Tryz.func52, Tryz.ntmps52
    go_wp2
    go_ret2
    exact ⟨.slice none 0 0, rfl, (NewS.nil _ _ _).alloc _⟩
  · rw [hl, hb]
    obtain ⟨A, cap, rfl⟩ := hv.shape
    have c1I : ¬ (200 : Int) < (d.length : Int) := by omega
    have c2I : ((n : Int) == 18446744073709551615) = true := by rw [c2]; rfl
    clear hl hb hv c1 c2 hb0
    go_enter Tryz.func52, Tryz.ntmps52
    go_wp2
    go_ret2
    exact ⟨.slice none 0 0, rfl, (NewS.nil _ _ _).alloc _⟩
  · rw [hl, hb]
    obtain ⟨A, cap, rfl⟩ := hv.shape
    subst c3
    have c1I : ¬ (200 : Int) < (d.length : Int) := by omega
    have c2I : ((n : Int) == 18446744073709551615) = false := by rw [beq_eq_false_iff_ne]; omega
    have c4I : (0 : Int) < (d.length : Int) := by have h0 : d.length ≠ 0 := (fun e => c4 (List.eq_nil_of_length_eq_zero e)); omega
    clear hl hb hv c1 c2 c4 hb0
    go_enter Tryz.func52, Tryz.ntmps52
    go_wp2
    go_ret2
    exact ⟨.slice none 0 0, rfl, (NewS.nil _ _ _).alloc _⟩
  · exact absurd hb hb0

theorem new_one (w : World) (o : Obj) (h : Bool) : NewS QK 4 (w.alloc o) ((w.alloc o).alloc (.cells #[.bool h] 4)) (.slice (some ⟨w.heap.size + 1, 0, none⟩) 1 1) [h] := by
  have h1 := Own.lit QK 4 (w.alloc o) [.bool h] [h] rfl (by unfold maxLen; simp)
  have e : (w.alloc o).heap.size = w.heap.size + 1 := by simp
  rw [e] at h1
  exact ⟨h1, fun g hg => by simp [Value.ownBlock] at hg; rw [e]; omega, (Kp.refl _ _).alloc _⟩
/-- The bits so far, and the packet's data. -/
def LayQ (w : World) (A : Option Addr) (n cap : Nat) (l : List Bool) (v : Value) (wr : World) : Prop :=
  (∃ W0, w.heap.size < W0.heap.size ∧ Kp No w W0 ∧ NewS QK 4 W0 wr v l) ∧ wr.cell? ⟨w.heap.size, 2, none⟩ = some (.slice A n cap)
theorem LayQ.own {w : World} {A : Option Addr} {n cap : Nat} {l : List Bool} {v : Value} {wr : World} (h : LayQ w A n cap l v wr) : Own QK 4 wr v l := let ⟨⟨_, _, _, h⟩, _⟩ := h; h.own
theorem LayQ.kp {w : World} {A : Option Addr} {n cap : Nat} {l : List Bool} {v : Value} {wr : World} (h : LayQ w A n cap l v wr) : Kp No w wr := let ⟨⟨_, _, k, h⟩, _⟩ := h; k.trans h.kp
theorem LayQ.app {w : World} {A : Option Addr} {n cap : Nat} {l l' : List Bool} {v v' : Value} {wr w1 w' : World} (h : LayQ w A n cap l v wr) (hk : Kp No wr w1) (k1 : Own QK 4 w' v' l') (k2 : Kp (fun k => v.ownBlock = some k) w1 w') (k3 : ∀ g, v'.ownBlock = some g → v.ownBlock = some g ∨ w1.heap.size ≤ g) : LayQ w A n cap l' v' w' := by
  obtain ⟨⟨W0, h1, h2, h3⟩, h4⟩ := h
  refine ⟨⟨W0, h1, h2, h3.app hk k1 k2 k3 hk.size⟩, k2.cellS (hk.cellS h4 (no_no _)) fun e => ?_⟩
  have e' : W0.heap.size ≤ w.heap.size := h3.ge _ e
  omega
theorem LayQ.start {w w1 : World} {h : Bool} {x : Value} {A : Option Addr} {n cap : Nat} (hk : Kp No ((w.alloc (.cells #[.bool h, x, .slice A n cap] 118)).alloc (.cells #[.bool h] 4)) w1) : LayQ w A n cap [h] (.slice (some ⟨w.heap.size + 1, 0, none⟩) 1 1) w1 :=
  ⟨⟨_, by simp, (Kp.refl _ _).alloc _, (new_one w _ _).kpNo hk⟩, hk.cellS ((blk_cell (blk_alloc (blk_new w _) _) 2).trans rfl) (no_no _)⟩

set_option maxHeartbeats 400000 in
set_option maxRecDepth 100000 in
theorem rlay_good {w : World} {v : Value} {d : List Nat} (hv : Rd BK w v d) (h : Bool) (n : Nat) (hn : n < 18446744073709551615) (hd : d.length ≤ 200) (hdx : ∀ x ∈ d, x < 256) (hh : h = true → d = []) :
    Calls Tryz.prog 52 #[.agg #[.bool h, .int .u64 (n : Int), v]] w (BytesE (frameP (packB (layBits h n d))) 0 w) := by
  obtain ⟨A, cap, rfl⟩ := hv.shape
  have H := Lib.hid hv; have HX := Lib.hid hdx; have HN := Lib.hid hn
  have c1 : ¬ (200 : Int) < (d.length : Int) := by omega
  have c2 : ((n : Int) == 18446744073709551615) = false := by rw [beq_eq_false_iff_ne]; omega
  have hcb := cbits_le n hn
  obtain ⟨LB, hLB⟩ : ∃ LB, LB = layBits h n d := ⟨_, rfl⟩
  have hLBl : LB.length ≤ 1728 := by rw [hLB]; exact layBits_len h n d hn hd
  have HLB := Lib.hid hLB
  have hpl : (packB LB).length ≤ 1000 := by rw [packB_len]; omega
  have hfe : frameE (packB LB) = 0 := by simp [frameE, hpl]
  have hfl : frameL (packB LB) = frameP (packB LB) := by simp [frameL, hpl]
  have HFE := Lib.hid hfe; have HFL := Lib.hid hfl; have HPL := Lib.hid hpl
  have hdh : h = true → ¬ 0 < d.length := fun e => by rw [hh e]; simp
  have HBX := Lib.hid (blk_new w (.cells #[.bool h, .int .u64 (n : Int), .slice A d.length cap] 118))
  obtain ⟨l1, hl1e⟩ : ∃ l1, l1 = [h] ++ cbits n := ⟨_, rfl⟩
  have hl1 : l1.length ≤ 128 := by rw [hl1e, List.length_append, List.length_singleton]; omega
  have HL1 := Lib.hid hl1e
  have HCB := Lib.hid hcb
  clear hv hdx hn hfe hfl hpl hh hl1e hLB hcb
  cases h
  all_goals
    try (replace hdh := hdh rfl)
    go_enter Tryz.func52, Tryz.ntmps52
    go_wp2_with fail
    refine (rcountb_any _ n HN.out).mono ?_
    rintro e w1 ⟨v1, rfl, h1⟩
    obtain ⟨A1, cap1, rfl⟩ := h1.own.rd.shape
    have Q0 := Lib.hid (LayQ.start h1.kp)
    have H1 := Lib.hid h1
    have hcb1 : (cbits n).length ≤ 127 := HCB.out
    clear h1 hdh
    go_wp2_with (at_builtin; refine wpl_append elQ rfl (.tmp 26) (.tmp 29) rfl rfl rfl (m := cbits n) Q0.out.own H1.out.own.rd ?c3 ?c4 ?c5)
    case c3 => show 1 + (cbits n).length ≤ maxLen; unfold maxLen; omega
    case c4 => show (1 + (cbits n).length) * 1 ≤ _; omega
    case c5 =>
      intro v2 w2 k1 k2 k3
      have q2 : LayQ w A d.length cap l1 v2 w2 := by rw [HL1.out]; exact Q0.out.app (Kp.refl _ _) k1 k2 k3
      obtain ⟨A2, cap2, rfl⟩ := q2.own.rd.shape
      have Q2 := Lib.hid q2
      clear k1 k2 k3 q2
      go_wp2
      go_loopw [4, 5] (fun v i wr => ∃ k : Nat, i = .int .i64 k ∧ k ≤ d.length ∧ LayQ w A d.length cap (l1 ++ unpackB (d.take k)) v wr) (fun _ i _ => d.length - (intOf i).toNat)
      case atStart => exact ⟨0, rfl, by omega, by have := Q2.out; simpa [unpackB] using this⟩
      case round =>
        obtain ⟨k, rfl, hk, hq⟩ := hrel
        obtain ⟨A3, cap3, rfl⟩ := hq.own.rd.shape
        have hbc := hq.2
        have HQ := Lib.hid hq
        clear hq
        by_cases hlt : k < d.length
        · obtain ⟨x, hx⟩ : ∃ x, d[k]? = some x := ⟨_, List.getElem?_eq_getElem hlt⟩
          have hx256 := HX.out x (List.mem_of_getElem? hx)
          have hsn := unpackB_snoc d k x hx
          have hul : (l1 ++ unpackB (d.take k)).length ≤ 1728 := by rw [List.length_append, unpackB_len2, List.length_take]; omega
          rcases H.out with ⟨hv, he⟩ | ⟨g, o, cap', hv, _⟩
          · rw [he] at hlt; simp at hlt
          simp only [Value.slice.injEq] at hv
          obtain ⟨rfl, _, rfl⟩ := hv
          have hxc := (H.out.kpNo HQ.out.kp).byteAt hx
          have hltI : (k : Int) < (d.length : Int) := by omega
          have hwk : IntKind.i64.wrap ((k : Int) + 1) = (k : Int) + 1 := IntWalk.i64_in _ (by omega)
          have hwx : IntKind.u64.wrap (x : Int) = (x : Int) := IntWalk.u64_in _ (by omega)
          obtain ⟨t, ht⟩ : ∃ t, t = l1 ++ unpackB (d.take k) := ⟨_, rfl⟩
          rw [← ht] at hul HQ ⊢
          have HSN := Lib.hid (show l1 ++ unpackB (d.take (k + 1)) = t ++ nbits x 8 by rw [ht, hsn, List.append_assoc])
          clear hx hlt hsn ht
          go_wp2_with fail
          refine (rbits_any _ x 8 (by omega) (by decide) _ 8 rfl rfl).mono ?_
          rintro e w5 ⟨v5, rfl, h5⟩
          obtain ⟨A5, cap5, rfl⟩ := h5.own.rd.shape
          have H5 := Lib.hid h5
          have hl5 : (nbits x 8).length ≤ 8 := by rw [nbits_len]; omega
          clear h5
          generalize nbits x 8 = s5 at *
          go_wp2_with (at_builtin; refine wpl_append elQ rfl (.tmp 38) (.tmp 45) rfl rfl rfl (l := t) (m := s5) (HQ.out.own.kpNo H5.out.kp) H5.out.own.rd ?d3 ?d4 ?d5)
          case d3 => unfold maxLen; omega
          case d4 => omega
          case d5 =>
            intro v6 w6 k1 k2 k3
            have q6 := HQ.out.app H5.out.kp k1 k2 k3
            rw [← HSN.out] at q6
            have Q6 := Lib.hid q6
            clear k1 k2 k3 q6
            go_wp2
            go_roundw
            case rel => exact ⟨k + 1, by go_num, by omega, Q6.out⟩
            case measure => simp [intOf]; omega
        · obtain rfl : k = d.length := by omega
          have hd0 : ¬ (d.length : Int) < (d.length : Int) := by omega
          have q6 := HQ.out
          rw [List.take_length] at q6 ⊢
          have hLB : l1 ++ unpackB d = LB := by rw [HLB.out, HL1.out]; rfl
          rw [hLB] at q6 ⊢
          have Q6 := Lib.hid q6
          clear q6 hlt hLB HQ
          go_wp2_with fail
          refine (rbytes_any Q6.out.own.rd (Nat.le_trans hLBl (by decide))).mono ?_
          rintro e w7 ⟨v7, rfl, k7⟩
          obtain ⟨A7, c7, rfl⟩ := k7.own.rd.shape
          have K7 := Lib.hid k7
          clear k7
          go_wp2_with fail
          refine (rframe_any K7.out.own.rd (Nat.le_trans HPL.out (by decide)) (packB_lt _)).mono ?_
          rintro e w8 ⟨v8, rfl, k8⟩
          rw [HFE.out]
          rw [HFL.out] at k8
          have kk : Kp No w w7 := Q6.out.kp.trans K7.out.kp
          have hk8 : NewS BK 5 w w8 v8 _ := ⟨k8.own, fun g hg => Nat.le_trans kk.size (k8.ge g hg), kk.trans k8.kp⟩
          obtain ⟨A8, c8, rfl⟩ := hk8.own.rd.shape
          have K8 := Lib.hid hk8
          clear k8 hk8 kk
          go_wp2
          go_ret2
          exact ⟨.slice A8 (frameP (packB LB)).length c8, rfl, by rw [← HLB.out]; exact K8.out⟩

theorem rlay_any {w : World} {v : Value} {d : List Nat} (hv : Rd BK w v d) (h : Bool) (n : Nat) (hn : n < 18446744073709551616) (hdx : ∀ x ∈ d, x < 256) :
    Calls Tryz.prog 52 #[.agg #[.bool h, .int .u64 (n : Int), v]] w (BytesE (layL h n d) (layBad h n d) w) := by
  rcases layBad_cases h n d with ⟨c1, hb⟩ | ⟨c1, c2, hb⟩ | ⟨c1, c2, c3, c4, hb⟩ | ⟨c1, c2, c3, hb⟩
  · exact rlay_bad hv h n (by rw [hb]; decide)
  · exact rlay_bad hv h n (by rw [hb]; decide)
  · exact rlay_bad hv h n (by rw [hb]; decide)
  · have hl : layL h n d = frameP (packB (layBits h n d)) := by unfold layL; rw [hb]; rfl
    rw [hl, hb]
    exact rlay_good hv h n (by omega) c1 hdx c3
end Go.Proofs.YtfpikgkbccgchaaGreatDoor

namespace Go.Proofs.YtfpikgkbccgchaaGreatDoor
set_option linter.unusedVariables false
set_option linter.unusedSimpArgs false

def dataP (L : List Bool) (n k : Nat) : List Nat := (List.range k).map fun i => bval ((L.drop (n + 8 * i)).take 8)
def tH (L : List Bool) : Bool := decide (rgetV L 0 0 1 = 1)
def tN1 (L : List Bool) : Nat := rgetN L 0 0 1
def tF1 (L : List Bool) : Int := rgetF L 0 0 1
def tC (L : List Bool) : Nat := if rcOk L (tN1 L) (tF1 L) then rcV L (tN1 L) (tF1 L) - 1 else 0
def tN (L : List Bool) : Nat := rcN L (tN1 L) (tF1 L)
def tF (L : List Bool) : Int := rcF L (tN1 L) (tF1 L)
def tK (L : List Bool) : Nat := if tH L then 0 else (L.length - tN L) / 8
def tOk (L : List Bool) : Bool := decide (tF L = 0) && decide (tK L ≤ 200) && decide (rendV L (tN L + 8 * tK L) 0 = 0)
def tD (L : List Bool) : List Nat := dataP L (tN L) (tK L)

theorem dataP_len (L : List Bool) (n k : Nat) : (dataP L n k).length = k := by simp [dataP]
theorem dataP_succ (L : List Bool) (n k : Nat) : dataP L n (k + 1) = dataP L n k ++ [bval ((L.drop (n + 8 * k)).take 8)] := by
  unfold dataP; rw [List.range_succ, List.map_append]; rfl
theorem bval8 (l : List Bool) : bval (l.take 8) < 256 := by
  have h1 := bval_lt (l.take 8)
  have h2 : (l.take 8).length ≤ 8 := List.length_take_le ..
  have h3 : 2 ^ (l.take 8).length ≤ 2 ^ 8 := Nat.pow_le_pow_right (by decide) h2
  omega
theorem dataP_lt (L : List Bool) (n k : Nat) : ∀ x ∈ dataP L n k, x < 256 := by
  intro x hx
  unfold dataP at hx
  simp only [List.mem_map] at hx
  obtain ⟨i, _, rfl⟩ := hx
  exact bval8 _
theorem unpackB_append (a b : List Nat) : unpackB (a ++ b) = unpackB a ++ unpackB b := by simp [unpackB]
theorem unpack_dataP (L : List Bool) (n : Nat) : ∀ k, n + 8 * k ≤ L.length → unpackB (dataP L n k) = (L.drop n).take (8 * k) := by
  intro k
  induction k with
  | zero => intro _; simp [dataP, unpackB]
  | succ k ih =>
    intro h
    have hl : ((L.drop (n + 8 * k)).take 8).length = 8 := by rw [List.length_take, List.length_drop]; omega
    have e : nbits (bval ((L.drop (n + 8 * k)).take 8)) 8 = (L.drop (n + 8 * k)).take 8 := by
      have := nbits_bval ((L.drop (n + 8 * k)).take 8)
      rwa [hl] at this
    rw [dataP_succ, unpackB_append, ih (by omega)]
    have e2 : unpackB [bval ((L.drop (n + 8 * k)).take 8)] = nbits (bval ((L.drop (n + 8 * k)).take 8)) 8 := by simp [unpackB]
    rw [e2, e, show 8 * (k + 1) = 8 * k + 8 by omega, List.take_add, List.drop_drop]

theorem tF_cases (L : List Bool) (h : tF L = 0) : tF1 L = 0 ∧ rcOk L (tN1 L) 0 ∧ 1 ≤ L.length ∧ tN1 L = 1 := by
  unfold tF at h
  have hf : tF1 L = 0 := by
    by_cases hf : tF1 L = 0
    · exact hf
    · unfold rcF at h; rw [if_neg hf] at h; exact absurd h hf
  have h1 : 1 ≤ L.length := by
    rcases Nat.lt_or_ge 0 L.length with h1 | h1
    · exact h1
    · unfold tF1 rgetF at hf
      rw [if_pos rfl, if_neg (by omega)] at hf
      exact absurd hf (by decide)
  have hn : tN1 L = 1 := by unfold tN1 rgetN; rw [if_pos ⟨rfl, by omega⟩]
  refine ⟨hf, ?_, h1, hn⟩
  rw [hf] at h
  unfold rcF at h
  rw [if_pos rfl] at h
  refine ⟨rfl, ?_, ?_⟩
  · rcases Nat.lt_or_ge 63 (zerosL (L.drop (tN1 L))) with h2 | h2
    · rw [if_pos h2] at h; exact absurd h (by decide)
    · exact h2
  · by_cases h3 : 63 < zerosL (L.drop (tN1 L))
    · rw [if_pos h3] at h; exact absurd h (by decide)
    · rw [if_neg h3] at h
      by_cases h4 : tN1 L + (2 * zerosL (L.drop (tN1 L)) + 1) ≤ L.length
      · exact h4
      · rw [if_neg h4] at h; exact absurd h (by decide)

theorem zerosL_spec (l : List Bool) : l.take (zerosL l) = List.replicate (zerosL l) false ∧ (zerosL l < l.length → l[zerosL l]? = some true) := by
  induction l with
  | nil => simp [zerosL]
  | cons b l ih =>
    cases b with
    | true => simp [zerosL]
    | false =>
      have e : zerosL (false :: l) = zerosL l + 1 := by simp [zerosL]
      rw [e]
      refine ⟨by rw [List.take_succ_cons, ih.1, List.replicate_succ], fun h => ?_⟩
      rw [List.getElem?_cons_succ]
      exact ih.2 (by simpa using h)

theorem blen_of (m k : Nat) (h1 : 2 ^ k ≤ m) (h2 : m < 2 ^ (k + 1)) : blen m = k + 1 := by
  have b1 := blen_le h2
  have b2 := (blen_bound m).1
  rcases Nat.lt_or_ge (blen m) (k + 1) with h | h
  · have : 2 ^ blen m ≤ 2 ^ k := Nat.pow_le_pow_right (by decide) (by omega)
    omega
  · omega

/-- What a count that was read was laid of. -/
theorem rc_back (L : List Bool) (n : Nat) (h : rcOk L n 0) : rcV L n 0 ≠ 0 ∧ rcV L n 0 < 18446744073709551616 ∧ (L.drop n).take (2 * zerosL (L.drop n) + 1) = cbits (rcV L n 0 - 1) := by
  obtain ⟨_, h1, h2⟩ := h
  obtain ⟨z1, z2⟩ := zerosL_spec (L.drop n)
  have hv : rcV L n 0 = bval ((L.drop (n + zerosL (L.drop n))).take (zerosL (L.drop n) + 1)) := by unfold rcV; rw [if_pos ⟨rfl, h1, h2⟩]
  have hlt : zerosL (L.drop n) < (L.drop n).length := by rw [List.length_drop]; omega
  have hb := z2 hlt
  generalize zerosL (L.drop n) = k at *
  have hd : L.drop (n + k) = true :: L.drop (n + k + 1) := by
    rw [List.getElem?_drop] at hb
    have hl := (List.getElem?_eq_some_iff.1 hb).1
    rw [List.drop_eq_getElem_cons hl, (List.getElem?_eq_some_iff.1 hb).2]
  have hl : ((L.drop (n + k)).take (k + 1)).length = k + 1 := by rw [List.length_take, List.length_drop]; omega
  have hlo : 2 ^ k ≤ rcV L n 0 := by
    rw [hv, hd, List.take_succ_cons, bval_cons]
    have : ((L.drop (n + k + 1)).take k).length = k := by rw [List.length_take, List.length_drop]; omega
    rw [this]; simp
  have hhi : rcV L n 0 < 2 ^ (k + 1) := by rw [hv]; have := bval_lt ((L.drop (n + k)).take (k + 1)); rwa [hl] at this
  have hbl := blen_of _ _ hlo hhi
  have h64 : 2 ^ (k + 1) ≤ 2 ^ 64 := Nat.pow_le_pow_right (by decide) (by omega)
  have hpos : 0 < 2 ^ k := Nat.two_pow_pos k
  have hn1 : rcV L n 0 - 1 + 1 = rcV L n 0 := by omega
  refine ⟨by omega, by omega, ?_⟩
  unfold cbits
  rw [hn1, hbl, Nat.add_sub_cancel, hv]
  have hnb := nbits_bval ((L.drop (n + k)).take (k + 1))
  rw [hl] at hnb
  rw [hnb, show 2 * k + 1 = k + (k + 1) by omega, List.take_add, z1, List.drop_drop]

theorem rend_zero (L : List Bool) (n : Nat) (hn : n ≤ L.length) (h : rendV L n 0 = 0) : L.length - n ≤ 7 ∧ L.drop n = List.replicate (L.length - n) false := by
  unfold rendV at h
  rw [if_pos rfl] at h
  have h1 : L.length - n ≤ 7 := by
    rcases Nat.lt_or_ge 7 (L.length - n) with h1 | h1
    · rw [if_pos h1] at h; exact absurd h (by decide)
    · exact h1
  refine ⟨h1, ?_⟩
  rw [if_neg (by omega)] at h
  have h2 : ¬ (L.drop n).any id = true := fun e => by rw [if_pos e] at h; exact absurd h (by decide)
  rw [List.eq_replicate_iff]
  refine ⟨List.length_drop, fun b hb => ?_⟩
  cases b with
  | false => rfl
  | true => exact absurd (List.any_eq_true.2 ⟨true, hb, rfl⟩) h2

/-- What was read is what the bytes were laid of. -/
theorem take_back (x : List Nat) (hx : ∀ y ∈ x, y < 256) (h : tOk (unpackB x) = true) :
    layBad (tH (unpackB x)) (tC (unpackB x)) (tD (unpackB x)) = 0 ∧ packB (layBits (tH (unpackB x)) (tC (unpackB x)) (tD (unpackB x))) = x ∧ tC (unpackB x) < 18446744073709551615 := by
  have hpu := pack_unpack x hx
  have hl8 := unpackB_len2 x
  generalize unpackB x = L at *
  unfold tOk at h
  simp only [Bool.and_eq_true, decide_eq_true_eq] at h
  obtain ⟨⟨h1, h2⟩, h3⟩ := h
  obtain ⟨f1, ok, l1, n1⟩ := tF_cases L h1
  have hb := rc_back L (tN1 L) ok
  have hC : tC L = rcV L (tN1 L) 0 - 1 := by unfold tC; rw [f1, if_pos ok]
  have hN : tN L = tN1 L + (2 * zerosL (L.drop (tN1 L)) + 1) := by unfold tN rcN; rw [f1, if_pos ok]
  have hNl : tN L ≤ L.length := by rw [hN]; exact ok.2.2
  have hK : tN L + 8 * tK L ≤ L.length := by unfold tK; split <;> omega
  have hDl : (tD L).length = tK L := dataP_len ..
  have hClt : tC L < 18446744073709551615 := by omega
  have hHd : tH L = true → tD L = [] := fun e => by
    have : tK L = 0 := by unfold tK; rw [if_pos e]
    exact List.eq_nil_of_length_eq_zero (by omega)
  refine ⟨?_, ?_, hClt⟩
  · unfold layBad
    rw [if_neg (fun h => by rcases h with h | h <;> omega), if_neg (fun ⟨a, b⟩ => b (hHd a))]
  · obtain ⟨e1, e2⟩ := rend_zero L _ hK h3
    have hlay : layBits (tH L) (tC L) (tD L) = L.take (tN L + 8 * tK L) := by
      unfold layBits tD
      rw [unpack_dataP _ _ _ hK, hC, ← hb.2.2, show L.take (tN L + 8 * tK L) = L.take (tN L) ++ (L.drop (tN L)).take (8 * tK L) from List.take_add]
      congr 1
      rw [hN, n1]
      have hd : L = tH L :: L.drop 1 := by
        cases L with
        | nil => simp at l1
        | cons b L =>
          have : tH (b :: L) = b := by
            unfold tH rgetV
            rw [if_pos ⟨rfl, by simp⟩]
            cases b <;> simp [bval]
          rw [this]; rfl
      have ht1 : L.take 1 = [tH L] := by
        conv => lhs; rw [hd]
        rfl
      rw [show L.take (1 + (2 * zerosL (L.drop 1) + 1)) = L.take 1 ++ (L.drop 1).take (2 * zerosL (L.drop 1) + 1) from List.take_add, ht1]
    rw [hlay]
    have hz : L = L.take (tN L + 8 * tK L) ++ List.replicate (L.length - (tN L + 8 * tK L)) false := by
      rw [← e2, List.take_append_drop]
    have hpz := packB_zeros (L.take (tN L + 8 * tK L)) (L.length - (tN L + 8 * tK L)) (by rw [List.length_take]; omega)
    rw [← hz, hpu] at hpz
    exact hpz.symm
end Go.Proofs.YtfpikgkbccgchaaGreatDoor

namespace Go.Proofs.YtfpikgkbccgchaaGreatDoor
set_option linter.unusedVariables false
set_option linter.unusedSimpArgs false

/-- May an act be laid? -/
def mayA (k : Nat) (c p : Int) : Bool := decide (1 ≤ k) && decide (k ≤ 3) && decide (0 ≤ c) && decide (c < 256) && decide (0 ≤ p) && decide (p < 64) && (decide (k ≠ 1) || decide (p = 0))
def actBits (k c p : Nat) : List Bool := nbits k 2 ++ nbits c 8 ++ nbits p 6
/-- An act's bytes. -/
def layA (k : Nat) (c p : Int) : List Nat := if mayA k c p then packB (actBits k c.toNat p.toNat) else []
def layAE (k : Nat) (c p : Int) : Int := if mayA k c p then 0 else 1
def aK (b : List Nat) : Nat := bval ((unpackB b).take 2)
def aC (b : List Nat) : Nat := bval (((unpackB b).drop 2).take 8)
def aP (b : List Nat) : Nat := bval (((unpackB b).drop 10).take 6)
def tkaOk (b : List Nat) : Bool := decide (b.length = 2) && mayA (aK b) (aC b) (aP b)
def tkaK (b : List Nat) : Nat := if tkaOk b then aK b else 0
def tkaC (b : List Nat) : Nat := if tkaOk b then aC b else 0
def tkaP (b : List Nat) : Nat := if tkaOk b then aP b else 0
def tkaE (b : List Nat) : Int := if tkaOk b then 0 else 170

theorem actBits_len (k c p : Nat) : (actBits k c p).length = 16 := by simp [actBits, nbits_len]
theorem mayA_spec {k : Nat} {c p : Int} (h : mayA k c p = true) : 1 ≤ k ∧ k ≤ 3 ∧ 0 ≤ c ∧ c < 256 ∧ 0 ≤ p ∧ p < 64 ∧ (k = 1 → p = 0) := by
  unfold mayA at h
  simp only [Bool.and_eq_true, Bool.or_eq_true, decide_eq_true_eq] at h
  obtain ⟨⟨⟨⟨⟨⟨h1, h2⟩, h3⟩, h4⟩, h5⟩, h6⟩, h7⟩ := h
  exact ⟨h1, h2, h3, h4, h5, h6, fun e => h7.elim (fun h => absurd e h) id⟩
theorem layA_len {k : Nat} {c p : Int} (h : mayA k c p = true) : (layA k c p).length = 2 := by
  unfold layA; rw [if_pos h, packB_len, actBits_len]
theorem layA_le (k : Nat) (c p : Int) : (layA k c p).length ≤ 2 := by
  by_cases h : mayA k c p = true
  · exact Nat.le_of_eq (layA_len h)
  · unfold layA; rw [if_neg h]; simp
theorem layA_lt (k : Nat) (c p : Int) : ∀ x ∈ layA k c p, x < 256 := by
  unfold layA
  split
  · exact packB_lt _
  · intro x hx; simp at hx
theorem unpack_layA {k : Nat} {c p : Int} (h : mayA k c p = true) : unpackB (layA k c p) = actBits k c.toNat p.toNat := by
  unfold layA; rw [if_pos h, unpack_pack, actBits_len]; simp
theorem parts_act (k c p : Nat) (hk : k < 4) (hc : c < 256) (hp : p < 64) : bval ((actBits k c p).take 2) = k ∧ bval (((actBits k c p).drop 2).take 8) = c ∧ bval (((actBits k c p).drop 10).take 6) = p := by
  unfold actBits
  have h1 : (nbits k 2).length = 2 := nbits_len _ _
  have h2 : (nbits c 8).length = 8 := nbits_len _ _
  have h3 : (nbits p 6).length = 6 := nbits_len _ _
  rw [List.append_assoc]
  refine ⟨?_, ?_, ?_⟩
  · rw [List.take_append_of_le_length (by omega), List.take_of_length_le (by omega), bval_nbits]; omega
  · rw [List.drop_append_of_le_length (by omega), List.drop_eq_nil_of_le (by omega), List.nil_append, List.take_append_of_le_length (by omega), List.take_of_length_le (by omega), bval_nbits]; omega
  · rw [List.drop_append, List.drop_eq_nil_of_le (by omega), List.nil_append, h1, List.drop_append, List.drop_eq_nil_of_le (by omega), List.nil_append, h2]
    rw [List.drop_zero, List.take_of_length_le (by omega), bval_nbits]; omega
/-- What was laid is taken. -/
theorem take_layA {k : Nat} {c p : Int} (h : mayA k c p = true) : tkaOk (layA k c p) = true ∧ aK (layA k c p) = k ∧ (aC (layA k c p) : Int) = c ∧ (aP (layA k c p) : Int) = p := by
  obtain ⟨m1, m2, m3, m4, m5, m6, m7⟩ := mayA_spec h
  obtain ⟨q1, q2, q3⟩ := parts_act k c.toNat p.toNat (by omega) (by omega) (by omega)
  have e1 : aK (layA k c p) = k := by unfold aK; rw [unpack_layA h, q1]
  have e2 : (aC (layA k c p) : Int) = c := by unfold aC; rw [unpack_layA h, q2]; omega
  have e3 : (aP (layA k c p) : Int) = p := by unfold aP; rw [unpack_layA h, q3]; omega
  refine ⟨?_, e1, e2, e3⟩
  unfold tkaOk
  rw [e1, e2, e3, h, layA_len h]; rfl
/-- Two bytes are three numbers. -/
theorem two_act (b : List Nat) (hb : b.length = 2) : actBits (aK b) (aC b) (aP b) = unpackB b := by
  have hl : (unpackB b).length = 16 := by rw [unpackB_len, hb]
  have h1 : ((unpackB b).take 2).length = 2 := by rw [List.length_take]; omega
  have h2 : (((unpackB b).drop 2).take 8).length = 8 := by rw [List.length_take, List.length_drop]; omega
  have h3 : (((unpackB b).drop 10).take 6).length = 6 := by rw [List.length_take, List.length_drop]; omega
  unfold actBits aK aC aP
  have q1 := nbits_bval ((unpackB b).take 2)
  have q2 := nbits_bval (((unpackB b).drop 2).take 8)
  have q3 := nbits_bval (((unpackB b).drop 10).take 6)
  rw [h1] at q1; rw [h2] at q2; rw [h3] at q3
  rw [q1, q2, q3]
  have e1 : (unpackB b).drop 10 = ((unpackB b).drop 2).drop 8 := by rw [List.drop_drop]
  rw [List.take_of_length_le (l := (unpackB b).drop 10) (by rw [List.length_drop]; omega), e1, List.append_assoc, List.take_append_drop, List.take_append_drop]
theorem back_act (b : List Nat) (hb : b.length = 2) (hx : ∀ x ∈ b, x < 256) : packB (actBits (aK b) (aC b) (aP b)) = b := by rw [two_act b hb, pack_unpack b hx]
theorem lay_take {b : List Nat} (hx : ∀ x ∈ b, x < 256) (h : tkaOk b = true) : layA (aK b) (aC b) (aP b) = b := by
  have hb : b.length = 2 := by unfold tkaOk at h; simp at h; exact h.1
  have hm : mayA (aK b) (aC b) (aP b) = true := by unfold tkaOk at h; simp at h; exact h.2
  unfold layA
  rw [if_pos hm]
  simp only [Int.toNat_natCast]
  exact back_act b hb hx
theorem aK_lt (b : List Nat) : aK b < 4 := by
  have h := bval_lt ((unpackB b).take 2)
  have : ((unpackB b).take 2).length ≤ 2 := List.length_take_le _ _
  exact Nat.lt_of_lt_of_le h (Nat.le_trans (Nat.pow_le_pow_right (by decide) this) (by decide))
theorem aC_lt (b : List Nat) : aC b < 256 := by
  have h := bval_lt (((unpackB b).drop 2).take 8)
  have : (((unpackB b).drop 2).take 8).length ≤ 8 := List.length_take_le _ _
  exact Nat.lt_of_lt_of_le h (Nat.le_trans (Nat.pow_le_pow_right (by decide) this) (by decide))
theorem aP_lt (b : List Nat) : aP b < 64 := by
  have h := bval_lt (((unpackB b).drop 10).take 6)
  have : (((unpackB b).drop 10).take 6).length ≤ 6 := List.length_take_le _ _
  exact Nat.lt_of_lt_of_le h (Nat.le_trans (Nat.pow_le_pow_right (by decide) this) (by decide))
end Go.Proofs.YtfpikgkbccgchaaGreatDoor

namespace Go.Proofs.YtfpikgkbccgchaaGreatDoor
set_option linter.unusedVariables false
set_option linter.unusedSimpArgs false

theorem unpack_inj {a b : List Nat} (ha : ∀ x ∈ a, x < 256) (hb : ∀ x ∈ b, x < 256) (h : unpackB a = unpackB b) : a = b := by
  rw [← pack_unpack a ha, ← pack_unpack b hb, h]

theorem nbits_head (m k : Nat) (h1 : 2 ^ k ≤ m) (h2 : m < 2 ^ (k + 1)) : (nbits m (k + 1))[0]? = some true := by
  rw [nbits_get m (k + 1) 0 (by omega)]
  have : m / 2 ^ k = 1 := by
    rw [Nat.div_eq_iff (Nat.two_pow_pos k)]
    rw [Nat.pow_succ] at h2
    omega
  rw [show k + 1 - 1 - 0 = k by omega, this]; rfl

/-- A count, read off the head of bits. -/
theorem rc_lay (n : Nat) (hn : n < 18446744073709551615) (t : List Bool) (L : List Bool) (p : Nat) (hL : L.drop p = cbits n ++ t) (hp : p ≤ L.length) :
    rcOk L p 0 ∧ rcV L p 0 = n + 1 ∧ zerosL (L.drop p) = blen (n + 1) - 1 ∧ rcN L p 0 = p + (cbits n).length ∧ rcF L p 0 = 0 := by
  obtain ⟨k, hk⟩ : ∃ k, blen (n + 1) = k + 1 := ⟨blen (n / 2 + 0) + 0 + (blen (n + 1) - 1 - blen (n / 2 + 0)), by
    have := blen_bound (n + 1)
    have h0 : blen (n + 1) ≠ 0 := by rw [blen_pos (by omega)]; omega
    have h1 : blen (n / 2) ≤ blen (n + 1) - 1 := by
      rw [blen_pos (n := n + 1) (by omega), Nat.add_sub_cancel]
      rcases Nat.lt_or_ge (n / 2) ((n + 1) / 2) with h | h
      · by_cases h0 : n / 2 = 0
        · rw [h0, blen_zero]; omega
        · have b1 := (blen_bound ((n + 1) / 2)).1
          exact blen_le (by omega)
      · rw [show (n + 1) / 2 = n / 2 by omega]; exact Nat.le_refl _
    simp only [Nat.add_zero]
    omega⟩
  have hb := blen_bound (n + 1)
  have hb1 := hb.1
  have hb2 := hb.2 (by omega)
  rw [hk] at hb1 hb2
  rw [Nat.add_sub_cancel] at hb2
  have hc : cbits n = List.replicate k false ++ nbits (n + 1) (k + 1) := by unfold cbits; rw [hk, Nat.add_sub_cancel]
  have hk63 : k ≤ 63 := by have := blen_le64 (n + 1) (by omega); omega
  have hlen : (L.drop p).length = 2 * k + 1 + t.length := by rw [hL, hc]; simp only [List.length_append, List.length_replicate, nbits_len]; omega
  have hlen2 := hlen
  rw [List.length_drop] at hlen2
  have hz : zerosL (L.drop p) = k := by
    refine zerosL_eq _ k (by omega) (fun j hj => ?_) (.inr ?_)
    · rw [hL, hc, List.append_assoc, List.getElem?_append_left (by simpa using hj), List.getElem?_replicate, if_pos hj]
    · rw [hL, hc, List.append_assoc, List.getElem?_append_right (by simp), List.length_replicate, Nat.sub_self, List.getElem?_append_left (by rw [nbits_len]; omega)]
      exact nbits_head _ _ hb2 hb1
  have hok : rcOk L p 0 := ⟨rfl, by omega, by rw [hz]; omega⟩
  have hcl : (cbits n).length = 2 * k + 1 := by rw [hc]; simp only [List.length_append, List.length_replicate, nbits_len]; omega
  refine ⟨hok, ?_, by rw [hz, hk]; rfl, ?_, ?_⟩
  · unfold rcV
    rw [if_pos hok, hz]
    have hd : L.drop (p + k) = nbits (n + 1) (k + 1) ++ t := by
      rw [← List.drop_drop, hL, hc, List.append_assoc, List.drop_append_of_le_length (by simp), List.drop_eq_nil_of_le (by simp), List.nil_append]
    rw [hd, List.take_append_of_le_length (by rw [nbits_len]; exact Nat.le_refl _), List.take_of_length_le (by rw [nbits_len]; exact Nat.le_refl _), bval_nbits]
    exact Nat.mod_eq_of_lt hb1
  · unfold rcN
    rw [if_pos hok, hz, hcl]
  · unfold rcF
    rw [if_pos rfl, hz, if_neg (by omega), if_pos (by omega)]

theorem take_lay (h : Bool) (n : Nat) (d : List Nat) (hd : ∀ x ∈ d, x < 256) (hb : layBad h n d = 0) (hn : n < 18446744073709551616) :
    tOk (unpackB (packB (layBits h n d))) = true ∧ tH (unpackB (packB (layBits h n d))) = h ∧ tC (unpackB (packB (layBits h n d))) = n ∧ tD (unpackB (packB (layBits h n d))) = d := by
  have hc : d.length ≤ 200 ∧ n < 18446744073709551615 ∧ (h = true → d = []) := by
    rcases layBad_cases h n d with ⟨_, e⟩ | ⟨_, _, e⟩ | ⟨_, _, _, _, e⟩ | ⟨a, b, c, e⟩
    · rw [e] at hb; exact absurd hb (by decide)
    · rw [e] at hb; exact absurd hb (by decide)
    · rw [e] at hb; exact absurd hb (by decide)
    · exact ⟨a, by omega, c⟩
  obtain ⟨hd2, hn1, hh⟩ := hc
  rw [unpack_pack]
  obtain ⟨r, hr, hr7⟩ : ∃ r, r = 8 * (((layBits h n d).length + 7) / 8) - (layBits h n d).length ∧ r ≤ 7 := ⟨_, rfl, by omega⟩
  rw [← hr]
  clear hr
  obtain ⟨L, hLe⟩ : ∃ L, L = layBits h n d ++ List.replicate r false := ⟨_, rfl⟩
  rw [← hLe]
  have hL1 : L = h :: (cbits n ++ (unpackB d ++ List.replicate r false)) := by rw [hLe]; unfold layBits; simp
  have hd1 : L.drop 1 = cbits n ++ (unpackB d ++ List.replicate r false) := by rw [hL1]; rfl
  have hlen : L.length = 1 + (cbits n).length + 8 * d.length + r := by rw [hL1]; simp only [List.length_cons, List.length_append, unpackB_len2, List.length_replicate]; omega
  have e1 : rgetV L 0 0 1 = h.toNat := by
    unfold rgetV
    rw [if_pos ⟨rfl, by omega⟩, hL1]
    cases h <;> rfl
  have e2 : tN1 L = 1 := by unfold tN1 rgetN; rw [if_pos ⟨rfl, by omega⟩]
  have e3 : tF1 L = 0 := by unfold tF1 rgetF; rw [if_pos rfl, if_pos (by omega)]
  have eH : tH L = h := by unfold tH; rw [e1]; cases h <;> rfl
  obtain ⟨r1, r2, r3, r4, r5⟩ := rc_lay n hn1 _ L 1 hd1 (by omega)
  have eC : tC L = n := by unfold tC; rw [e2, e3, if_pos r1, r2]; rfl
  have eN : tN L = 1 + (cbits n).length := by unfold tN; rw [e2, e3, r4]
  have eF : tF L = 0 := by unfold tF; rw [e2, e3, r5]
  have eK : tK L = d.length := by
    unfold tK
    rw [eH, eN]
    by_cases hh1 : h = true
    · rw [if_pos hh1, hh hh1]; rfl
    · rw [if_neg hh1]; omega
  have hdn : L.drop (tN L) = unpackB d ++ List.replicate r false := by
    rw [eN, ← List.drop_drop, hd1, List.drop_append_of_le_length (Nat.le_refl _), List.drop_eq_nil_of_le (Nat.le_refl _), List.nil_append]
  have eD : tD L = d := by
    unfold tD
    refine unpack_inj (dataP_lt _ _ _) hd ?_
    rw [unpack_dataP _ _ _ (by rw [eN, eK]; omega), hdn, eK, List.take_append_of_le_length (by rw [unpackB_len2]; exact Nat.le_refl _), List.take_of_length_le (by rw [unpackB_len2]; exact Nat.le_refl _)]
  refine ⟨?_, eH, eC, eD⟩
  unfold tOk
  simp only [Bool.and_eq_true, decide_eq_true_eq]
  refine ⟨⟨eF, by omega⟩, ?_⟩
  have hdr : L.drop (tN L + 8 * tK L) = List.replicate r false := by
    rw [← List.drop_drop, hdn, eK, List.drop_append_of_le_length (by rw [unpackB_len2]; exact Nat.le_refl _), List.drop_eq_nil_of_le (by rw [unpackB_len2]; exact Nat.le_refl _), List.nil_append]
  unfold rendV
  rw [if_pos rfl, if_neg (by rw [eN, eK, hlen]; omega), hdr, if_neg]
  intro e
  rw [List.any_eq_true] at e
  obtain ⟨x, hx, hx2⟩ := e
  have := (List.mem_replicate.1 hx).2
  subst this
  exact absurd hx2 (by decide)
end Go.Proofs.YtfpikgkbccgchaaGreatDoor

namespace Go.Proofs.YtfpikgkbccgchaaGreatDoor
set_option linter.unusedVariables false
set_option linter.unusedSimpArgs false
open Go.RowKit

def takeOk (f : List Nat) : Bool := isF f && tOk (unpackB (midP f))
def tkH (f : List Nat) : Bool := takeOk f && tH (unpackB (midP f))
def tkN (f : List Nat) : Nat := if takeOk f then tC (unpackB (midP f)) else 0
def tkD (f : List Nat) : List Nat := if takeOk f then tD (unpackB (midP f)) else []
def tkE (f : List Nat) : Int := if takeOk f then 0 else 140
def TakeR (f : List Nat) (w : World) (e : Ending) (w' : World) : Prop := ∃ v', e = .returned (.tuple #[.agg #[.bool (tkH f), .int .u64 (tkN f : Int), v'], .int .i64 (tkE f)]) ∧ NewS BK 5 w w' v' (tkD f)

theorem Kp.one {w : World} {p : Nat} (a : Nat) (v : Value) : Kp (fun k => k = p) w (w.setCell ⟨p, a, none⟩ v) := (Kp.refl (fun k => k = p) w).setCell (p := ⟨p, a, none⟩) (fun _ => rfl) v

/-- The memory while a packet is read: the result's block is the first new one, the packet's block b, its data D. -/
structure TkP (w : World) (b : Nat) (h : Bool) (N : Int) (data : List Nat) (D : Value) (wr : World) : Prop where
  pkt : wr.heap[b]? = some (.cells #[.bool h, .int .u64 N, D] 118 (0, 0))
  own : Own BK 5 wr D data
  res : wr.heap[w.heap.size]? = some (.cells #[.bool false, .int .u64 0, .slice none 0 0] 118 (0, 0))
  kp : Kp No w wr
  bb : w.heap.size < b
  dn : ∀ g, D.ownBlock = some g → b < g
section
variable {w wr w' : World} {b : Nat} {h : Bool} {N : Int} {data : List Nat} {D : Value}
/-- Only blocks between the result's and the packet's are written. -/
theorem TkP.far {S : Nat → Prop} (t : TkP w b h N data D wr) (hk : Kp S wr w') (h1 : ∀ k, S k → w.heap.size < k ∧ k < b) : TkP w b h N data D w' :=
  ⟨hk.blk t.pkt (fun e => by have := (h1 _ e).2; omega), t.own.kp hk (fun g hg e => by have := (h1 _ e).2; have := t.dn g hg; omega), hk.blk t.res (fun e => by have := (h1 _ e).1; omega), t.kp.trans' hk fun k hk e => absurd (h1 k e).1 (by omega), t.bb, t.dn⟩
theorem TkP.no (t : TkP w b h N data D wr) (hk : Kp No wr w') : TkP w b h N data D w' := t.far hk fun _ e => e.elim
theorem TkP.setN (t : TkP w b h N data D wr) (M : Int) : TkP w b h M data D (wr.setCell ⟨b, 1, none⟩ (.int .u64 M)) := by
  have hk := Kp.one (w := wr) (p := b) 1 (.int .u64 M)
  have hb := t.bb
  exact ⟨(blk_set t.pkt 1 _).trans rfl, t.own.kp hk fun g hg e => by have e : g = b := e; have := t.dn g hg; omega, hk.blk t.res (fun e => by have e : w.heap.size = b := e; omega), t.kp.trans' hk fun k hk e => by have e : k = b := e; omega, t.bb, t.dn⟩
theorem TkP.app {w1 w6 : World} {D' : Value} {data' : List Nat} (t : TkP w b h N data D w1) (k1 : Own BK 5 w6 D' data') (k2 : Kp (fun k => D.ownBlock = some k) w1 w6) (k3 : ∀ g, D'.ownBlock = some g → D.ownBlock = some g ∨ w1.heap.size ≤ g) : TkP w b h N data' D' (w6.setCell ⟨b, 2, none⟩ D') := by
  have hk := Kp.one (w := w6) (p := b) 2 D'
  have hb := t.bb
  have hblt := lt_of_block t.pkt
  have p6 := k2.blk t.pkt (fun e => by have := t.dn _ e; omega)
  have hd : ∀ g, D'.ownBlock = some g → b < g := fun g hg => by
    rcases k3 g hg with e | e
    · exact t.dn g e
    · omega
  refine ⟨(blk_set p6 2 _).trans rfl, k1.kp hk fun g hg e => by have e : g = b := e; have := hd g hg; omega, hk.blk (k2.blk t.res fun e => by have := t.dn _ e; omega) (fun e => by have e : w.heap.size = b := e; omega), (t.kp.trans' k2 fun k hk e => by have := t.dn _ e; omega).trans' hk fun k hk e => by have e : k = b := e; omega, t.bb, hd⟩
/-- What an append to the data writes leaves a reader as it is. -/
theorem TkP.rdr {w1 w6 : World} {D' : Value} {p n : Nat} {V : Value} {B : List Nat} {f : Int} {w0 : World} (t : TkP w b h N data D w1) (k2 : Kp (fun k => D.ownBlock = some k) w1 w6) (a : AtR w0 p V B n f w1) (hp : p < b) (hv : ∀ g, V.ownBlock = some g → g < b) : AtR (w6.setCell ⟨b, 2, none⟩ D') p V B n f (w6.setCell ⟨b, 2, none⟩ D') := by
  have a6 := a.far k2 (fun e => by have := t.dn _ e; omega) fun g hg e => by have := t.dn _ e; have := hv g hg; omega
  exact (a6.far (Kp.one 2 D') (fun e => by have e : p = b := e; omega) fun g hg e => by have e : g = b := e; have := hv g hg; omega).here
end
end Go.Proofs.YtfpikgkbccgchaaGreatDoor
namespace Go.Proofs.YtfpikgkbccgchaaGreatDoor
theorem tC_int (L : List Bool) : (if rcOk L (tN1 L) (tF1 L) then (rcV L (tN1 L) (tF1 L) : Int) - 1 else 0) = (tC L : Int) ∧ tC L < 18446744073709551615 := by
  unfold tC
  by_cases h : rcOk L (tN1 L) (tF1 L)
  · rw [if_pos h, if_pos h]
    have hf := h.1
    rw [hf] at h ⊢
    have := rc_back L _ h
    omega
  · rw [if_neg h, if_neg h]; exact ⟨rfl, by decide⟩
/-- What the loop has read. -/
structure TkD (L : List Bool) (data : List Nat) (n : Nat) (f : Int) : Prop where
  le : n ≤ L.length
  ok : (tF L = 0 ∧ f = 0 ∧ data = dataP L (tN L) data.length ∧ n = tN L + 8 * data.length) ∨ (tF L ≠ 0 ∧ f = tF L)
theorem TkD.start (L : List Bool) (h : tN L ≤ L.length) : TkD L [] (tN L) (tF L) := ⟨h, by
  by_cases hf : tF L = 0
  · exact .inl ⟨hf, hf, rfl, rfl⟩
  · exact .inr ⟨hf, rfl⟩⟩
theorem TkD.step {L : List Bool} {data : List Nat} {n : Nat} {f : Int} (h : TkD L data n f) (h8 : n + 8 ≤ L.length) : TkD L (data ++ [rgetV L n f 8]) (rgetN L n f 8) (rgetF L n f 8) ∧ rgetV L n f 8 < 256 := by
  rcases h.ok with ⟨h1, h2, h3, h4⟩ | ⟨h1, h2⟩
  · subst h2
    obtain ⟨g1, g2, g3⟩ := rget_full h8
    rw [g1, g2, g3]
    refine ⟨⟨h8, .inl ⟨h1, rfl, ?_, ?_⟩⟩, bval8 _⟩
    · rw [List.length_append, List.length_singleton, dataP_succ, ← h3, ← h4]
    · rw [List.length_append, List.length_singleton]; omega
  · rw [h2]
    obtain ⟨g1, g2, g3⟩ := rget_zero (L := L) (n := n) (many := 8) h1
    rw [g1, g2, g3]
    exact ⟨⟨h.le, .inr ⟨h1, rfl⟩⟩, by decide⟩
theorem TkD.fin {L : List Bool} {data : List Nat} {n : Nat} {f : Int} (h : TkD L data n f) (hk : data.length ≤ 201) (hx : tH L = true ∧ data = [] ∨ tH L = false ∧ (L.length - n < 8 ∨ 200 < data.length)) :
    ((rendV L n f = 0 ∧ data.length ≤ 200) → tOk L = true ∧ data = tD L) ∧ (¬ (rendV L n f = 0 ∧ data.length ≤ 200) → tOk L = false) := by
  rcases h.ok with ⟨h1, h2, h3, h4⟩ | ⟨h1, h2⟩
  · subst h2
    have hle := h.le
    have hkey : (tK L ≤ 200 → data.length = tK L) ∧ (200 < tK L → 200 < data.length) := by
      unfold tK
      rcases hx with ⟨a, b⟩ | ⟨a, b⟩
      · rw [if_pos a, b]; simp
      · rw [if_neg (by rw [a]; decide)]; omega
    constructor
    · rintro ⟨e1, e2⟩
      have hK : tK L ≤ 200 := by
        rcases Nat.lt_or_ge 200 (tK L) with h | h
        · have := hkey.2 h; omega
        · exact h
      have hlk := hkey.1 hK
      refine ⟨?_, by unfold tD; rw [← hlk]; exact h3⟩
      unfold tOk
      rw [← hlk, ← h4, h1, e1]; simp; exact e2
    · intro hn
      unfold tOk
      by_cases hK : tK L ≤ 200
      · have hlk := hkey.1 hK
        have : ¬ rendV L (tN L + 8 * tK L) 0 = 0 := fun e => hn ⟨by rw [h4, hlk]; exact e, by omega⟩
        rw [decide_eq_false this]; simp
      · rw [decide_eq_false hK]; simp
  · have hne : rendV L n f ≠ 0 := by unfold rendV; rw [h2, if_neg h1]; exact h1
    have : tOk L = false := by unfold tOk; rw [decide_eq_false h1]; rfl
    exact ⟨fun ⟨e, _⟩ => absurd e hne, fun _ => this⟩
theorem tN_le (L : List Bool) : tN L ≤ L.length := by
  have h1 : tN1 L ≤ L.length := by
    unfold tN1 rgetN
    split
    · rename_i h; omega
    · omega
  unfold tN rcN
  split
  · rename_i h; exact h.2.2
  · exact h1
theorem tN1_le (L : List Bool) : tN1 L ≤ L.length := by
  unfold tN1 rgetN
  split
  · rename_i h; omega
  · omega
end Go.Proofs.YtfpikgkbccgchaaGreatDoor
