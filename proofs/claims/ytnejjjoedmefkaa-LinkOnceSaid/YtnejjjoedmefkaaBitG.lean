/- bits.Reader: Get. -/
import Derived.Test.YtnejjjoedmefkaaBitS
namespace Go.Proofs.Ytnejjjoedmefkaa
set_option linter.unusedVariables false
set_option linter.unusedSimpArgs false
open Go.RowKit

/-- What Get answers, and the place and the fault behind it (of at most 64 bits). -/
def rgetV (L : List Bool) (n : Nat) (f : Int) (many : Nat) : Nat := if f = 0 ∧ n + many ≤ L.length then bval ((L.drop n).take many) else 0
def rgetN (L : List Bool) (n : Nat) (f : Int) (many : Nat) : Nat := if f = 0 ∧ n + many ≤ L.length then n + many else n
def rgetF (L : List Bool) (n : Nat) (f : Int) (many : Nat) : Int := if f = 0 then (if n + many ≤ L.length then 0 else 10) else f

theorem bits_or_u64_one (x : Nat) (hx : x < 9223372036854775808) : bits .or .u64 ((2 * x : Nat) : Int) 1 = ((2 * x + 1 : Nat) : Int) := by
  have := bits_or_u64_nat (2 * x) 1 (by omega) (by omega)
  rw [show ((1 : Nat) : Int) = 1 from rfl] at this
  rw [this]
  congr 1
  exact (Nat.two_pow_add_eq_or_of_lt (i := 1) (b := 1) (by decide) x).symm

set_option maxRecDepth 100000 in
theorem get_any {w0 w : World} {p : Nat} {V : Value} {B : List Nat} {n : Nat} {f : Int} (h : AtR w0 p V B n f w) (hB : B.length ≤ 1000000) (hBx : ∀ x ∈ B, x < 256) (hn : n ≤ 8 * B.length) (many : Nat) (hm : many ≤ 64) (y : Int) (hy : y = many) :
    Calls Try.prog 46 #[.pointer (some ⟨p, 0, none⟩), .int .i64 y] w fun e w' => e = .returned (.int .u64 (rgetV (unpackB B) n f many : Int)) ∧ AtR w0 p V B (rgetN (unpackB B) n f many) (rgetF (unpackB B) n f many) w' := by
  subst hy
  obtain ⟨h1, h2, h3, A, cap, h4, h5⟩ := h.cells
  have h30 := h3 1
  have h31 := h3 2
  have H := Lib.hid h
  have hUL := unpackB_len B
  clear h h5
  by_cases hf : f = 0
  · subst hf
    have n1 : ¬ (many : Int) < 0 := by omega
    have n2 : ¬ (64 : Int) < (many : Int) := by omega
    by_cases hs : n + many ≤ (unpackB B).length
    · have n3 : ¬ 8 * (B.length : Int) - (n : Int) < (many : Int) := by omega
      have hV : rgetV (unpackB B) n 0 many = bval (((unpackB B).drop n).take many) := by simp [rgetV, hs]
      have hN : rgetN (unpackB B) n 0 many = n + many := by simp [rgetN, hs]
      have hF : rgetF (unpackB B) n 0 many = 0 := by simp [rgetF, hs]
      rw [hV, hN, hF]
      have HN := Lib.hid hn; have HS := Lib.hid hs; have HUL := Lib.hid hUL; have HX := Lib.hid hBx
      clear hV hN hF hs hUL hBx hn
      go_enter Try.func46, Try.ntmps46
      go_wp2_with fail
      refine (left_any H.out hB HN.out).mono ?_
      rintro e w1 ⟨rfl, k1⟩
      have H1 := Lib.hid (H.out.kpNo k1)
      clear k1
      go_wp2
      go_loopw [5, 35] (fun v i wr => ∃ k : Nat, i = .int .i64 k ∧ k ≤ many ∧ v = .int .u64 (bval (((unpackB B).drop n).take k) : Int) ∧ AtR w0 p V B (n + k) 0 wr) (fun _ i _ => many - (intOf i).toNat)
      case atStart => exact ⟨0, rfl, by omega, rfl, H1.out⟩
      case round =>
        obtain ⟨k, rfl, hk, rfl, hat⟩ := hrel
        by_cases hlt : k < many
        · obtain ⟨b, hb⟩ : ∃ b, (unpackB B)[n + k]? = some b := ⟨_, List.getElem?_eq_getElem (by have := HS.out; omega)⟩
          have hsn : ((unpackB B).drop n).take (k + 1) = ((unpackB B).drop n).take k ++ [b] := by
            rw [List.take_add_one, List.getElem?_drop, hb]; rfl
          have hbl := bval_lt (((unpackB B).drop n).take k)
          have hlen : (((unpackB B).drop n).take k).length ≤ 63 := by rw [List.length_take]; omega
          have h63 : 2 ^ (((unpackB B).drop n).take k).length ≤ 2 ^ 63 := Nat.pow_le_pow_right (by decide) hlen
          have hsv := bval_snoc (((unpackB B).drop n).take k) b
          rw [← hsn] at hsv
          obtain ⟨x, hx⟩ : ∃ x, x = bval (((unpackB B).drop n).take k) := ⟨_, rfl⟩
          rw [← hx] at hsv hbl
          obtain ⟨x2, hx2⟩ : ∃ x2, x2 = 2 * x := ⟨_, rfl⟩
          have hx63 : x < 9223372036854775808 := by omega
          have e1 : (x : Int) * 2 = (x2 : Int) := by omega
          have e2 : IntKind.u64.wrap (x2 : Int) = (x2 : Int) := IntWalk.u64_in _ (by omega)
          have e3 : bits .or .u64 (x2 : Int) 1 = ((x2 + 1 : Nat) : Int) := by rw [hx2]; exact bits_or_u64_one x hx63
          obtain ⟨x3, hx3⟩ : ∃ x3 : Nat, x3 = x2 + 1 := ⟨_, rfl⟩
          rw [← hx3] at e3
          rw [← hx]
          have HSV := Lib.hid hsv; have HX2 := Lib.hid hx2; have HX3 := Lib.hid hx3
          obtain ⟨t, ht⟩ : ∃ t, t = n + k := ⟨_, rfl⟩
          rw [← ht] at hb hat
          have HB : Hid ((unpackB B)[t + 0]? = some b) := hb
          have HAT := Lib.hid hat
          have hltI : (k : Int) < (many : Int) := by omega
          obtain ⟨g1, g2, g3, A', cap', g4, g5⟩ := hat.cells
          have g31 := g3 1
          obtain ⟨t1, ht1⟩ : ∃ t1, t1 = t + 1 := ⟨_, rfl⟩
          have hnk : t < 9000000 := by have := HN.out; omega
          have e4 : IntKind.i64.wrap (t1 : Int) = (t1 : Int) := IntWalk.i64_in _ (by omega)
          have e5 : (t : Int) + 1 = (t1 : Int) := by omega
          have HT := Lib.hid (show t1 = n + (k + 1) by omega)
          clear ht ht1 hsn hsv hb hat hbl hlen h63 hx hx2 hx3 hx63 g5 hlt
          go_wp2_with fail
          refine (one_any HAT.out hB HX.out 0 b HB.out 0 rfl).mono ?_
          rintro e w5 ⟨rfl, rfl⟩
          cases b with
          | false =>
            go_wp2
            go_roundw
            case rel =>
              refine ⟨k + 1, by go_num, by omega, ?_, by rw [← HT.out]; exact HAT.out.set1⟩
              rw [HSV.out, HX2.out]; simp
            case measure => simp [intOf]; omega
          | true =>
            go_wp2
            go_roundw
            case rel =>
              refine ⟨k + 1, by go_num, by omega, ?_, by rw [← HT.out]; exact HAT.out.set1⟩
              rw [HSV.out, HX3.out, HX2.out]; simp
            case measure => simp [intOf]; omega
        · obtain rfl : k = many := by omega
          have HAT := Lib.hid hat
          clear hat
          go_wp2
          go_ret
          exact ⟨rfl, HAT.out⟩
    · have n3 : 8 * (B.length : Int) - (n : Int) < (many : Int) := by omega
      have hV : rgetV (unpackB B) n 0 many = 0 := by simp [rgetV, hs]
      have hN : rgetN (unpackB B) n 0 many = n := by simp [rgetN, hs]
      have hF : rgetF (unpackB B) n 0 many = 10 := by simp [rgetF, hs]
      rw [hV, hN, hF]
      clear hV hN hF hs hUL
      go_enter Try.func46, Try.ntmps46
      go_wp2_with fail
      refine (left_any H.out hB hn).mono ?_
      rintro e w1 ⟨rfl, k1⟩
      have H1 := Lib.hid (H.out.kpNo k1)
      obtain ⟨g1, g2, g3, A', cap', g4, g5⟩ := H1.out.cells
      have g30 := g3 2
      clear k1 g5
      go_wp2
      go_ret
      exact ⟨rfl, H1.out.set2⟩
  · have hV : rgetV (unpackB B) n f many = 0 := by simp [rgetV, hf]
    have hN : rgetN (unpackB B) n f many = n := by simp [rgetN, hf]
    have hF : rgetF (unpackB B) n f many = f := by simp [rgetF, hf]
    rw [hV, hN, hF]
    have hfb : (f != 0) = true := by simpa using hf
    clear hV hN hF hUL hf
    go_enter Try.func46, Try.ntmps46
    go_wp2
    go_ret
    exact ⟨rfl, H.out⟩
end Go.Proofs.Ytnejjjoedmefkaa
