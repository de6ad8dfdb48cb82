/- carfaxref01: Reader.Get. -/
import Derived.Test.YtnejjjoedmefkaaRefG
import Derived.Test.YtnejjjoedmefkaaBitE
namespace Go.Proofs.Ytnejjjoedmefkaa
set_option linter.unusedVariables false
set_option linter.unusedSimpArgs false
open Go.RowKit

theorem AtQ.parts {w0 w : World} {p : Nat} {V : Value} {L : List Bool} {n : Nat} {f : Int} (h : AtQ w0 p V L n f w) :
    ∃ A cap, w.cell? ⟨p, 0, none⟩ = some (.slice A L.length cap) ∧ w.cell? ⟨p, 1, none⟩ = some (.int .i64 (n : Int)) ∧ w.cell? ⟨p, 2, none⟩ = some (.int .i64 f) ∧ w.frozen? ⟨p, 1, none⟩ = false ∧ w.frozen? ⟨p, 2, none⟩ = false ∧
      (∀ b i, L[i]? = some b → ∃ g o, A = some ⟨g, o, none⟩ ∧ w.cell? ⟨g, o + i, none⟩ = some (.bool b)) := by
  obtain ⟨h1, h2, h3, h4⟩ := h
  rcases h2 with ⟨⟨A, c, rfl⟩, rfl⟩ | ⟨g, o, cap, rfl, c1, c2, c3⟩
  · exact ⟨A, c, (blk_cell h1 0).trans rfl, (blk_cell h1 1).trans rfl, (blk_cell h1 2).trans rfl, blk_free h1 1, blk_free h1 2, fun b i hi => by simp at hi⟩
  · have hr : Rd QK w (.slice (some ⟨g, o, none⟩) L.length cap) L := .inr ⟨g, o, cap, rfl, c1, c2, c3⟩
    exact ⟨some ⟨g, o, none⟩, cap, (blk_cell h1 0).trans rfl, (blk_cell h1 1).trans rfl, (blk_cell h1 2).trans rfl, blk_free h1 1, blk_free h1 2, fun b i hi => ⟨g, o, rfl, hr.bitAt hi⟩⟩

theorem rget_zero {L : List Bool} {n : Nat} {f : Int} {many : Nat} (hf : f ≠ 0) : rgetV L n f many = 0 ∧ rgetN L n f many = n ∧ rgetF L n f many = f := by simp [rgetV, rgetN, rgetF, hf]
theorem rget_short {L : List Bool} {n many : Nat} (hs : ¬ n + many ≤ L.length) : rgetV L n 0 many = 0 ∧ rgetN L n 0 many = n ∧ rgetF L n 0 many = 10 := by simp [rgetV, rgetN, rgetF, hs]
theorem rget_full {L : List Bool} {n many : Nat} (hs : n + many ≤ L.length) : rgetV L n 0 many = bval ((L.drop n).take many) ∧ rgetN L n 0 many = n + many ∧ rgetF L n 0 many = 0 := by simp [rgetV, rgetN, rgetF, hs]

set_option maxRecDepth 100000 in
theorem qget_any {w0 w : World} {p : Nat} {V : Value} {L : List Bool} {n : Nat} {f : Int} (h : AtQ w0 p V L n f w) (hL : L.length ≤ 8000000) (hn : n ≤ L.length) (many : Nat) (hm : many ≤ 64) (y : Int) (hy : y = many) :
    Calls Try.prog 52 #[.pointer (some ⟨p, 0, none⟩), .int .i64 y] w fun e w' => e = .returned (.int .u64 (rgetV L n f many : Int)) ∧ AtQ w0 p V L (rgetN L n f many) (rgetF L n f many) w' := by
  subst hy
  obtain ⟨A, cap, h1, h2, h3, h4, h5, h6⟩ := h.parts
  have H := Lib.hid h
  have n1 : ¬ (many : Int) < 0 := by omega
  have n2 : ¬ (64 : Int) < (many : Int) := by omega
  have e1 : IntKind.i64.wrap ((L.length : Int) - (n : Int)) = (L.length : Int) - (n : Int) := IntWalk.i64_in _ (by omega)
  clear h
  by_cases hf : f = 0
  · subst hf
    by_cases hs : n + many ≤ L.length
    · obtain ⟨hV, hN, hF⟩ := rget_full hs
      rw [hV, hN, hF]
      have n3 : decide ((L.length : Int) - (n : Int) < (many : Int)) = false := by simp; omega
      have H6 := Lib.hid h6; have HS := Lib.hid hs
      clear hV hN hF h6 hs
      go_enter Try.func52, Try.ntmps52
      go_wp2
      go_quiet (fail)
      go_wp2
      go_loopw [5, 6] (fun v i wr => ∃ k : Nat, i = .int .i64 k ∧ k ≤ many ∧ v = .int .u64 (bval ((L.drop n).take k) : Int) ∧ ∃ m, wr = w.drewN m) (fun _ i _ => many - (intOf i).toNat)
      case atStart => exact ⟨0, rfl, by omega, rfl, nq, rfl⟩
      case round =>
        obtain ⟨k, rfl, hk, rfl, m, rfl⟩ := hrel
        by_cases hlt : k < many
        · obtain ⟨b, hb⟩ : ∃ b, L[n + k]? = some b := ⟨_, List.getElem?_eq_getElem (by have := HS.out; omega)⟩
          have hsn : (L.drop n).take (k + 1) = (L.drop n).take k ++ [b] := by
            rw [List.take_add_one, List.getElem?_drop, hb]; rfl
          have hbl := bval_lt ((L.drop n).take k)
          have hlen : ((L.drop n).take k).length ≤ 63 := by rw [List.length_take]; omega
          have h63 : 2 ^ ((L.drop n).take k).length ≤ 2 ^ 63 := Nat.pow_le_pow_right (by decide) hlen
          have hsv := bval_snoc ((L.drop n).take k) b
          rw [← hsn] at hsv
          obtain ⟨x, hx⟩ : ∃ x, x = bval ((L.drop n).take k) := ⟨_, rfl⟩
          rw [← hx] at hsv hbl ⊢
          obtain ⟨g, o, rfl, hc⟩ := H6.out b (n + k) hb
          obtain ⟨t, ht⟩ : ∃ t, t = n + k := ⟨_, rfl⟩
          obtain ⟨x2, hx2⟩ : ∃ x2, x2 = x * 2 := ⟨_, rfl⟩
          rw [← ht] at hc
          have e2 : (n : Int) + (k : Int) = (t : Int) := by omega
          have e3 : IntKind.i64.wrap (t : Int) = (t : Int) := IntWalk.i64_in _ (by have := HS.out; omega)
          have e4 : (x : Int) * 2 = (x2 : Int) := by omega
          have e5 : IntKind.u64.wrap (x2 : Int) = (x2 : Int) := IntWalk.u64_in _ (by omega)
          have e6 : IntKind.u64.wrap ((x2 : Int) + 1) = (x2 : Int) + 1 := IntWalk.u64_in _ (by omega)
          have e7 : IntKind.i64.wrap ((k : Int) + 1) = (k : Int) + 1 := IntWalk.i64_in _ (by omega)
          have e8 : (t : Int) < (L.length : Int) := by have := HS.out; omega
          have hltI : (k : Int) < (many : Int) := by omega
          have HSV := Lib.hid hsv; have HX2 := Lib.hid hx2
          clear ht hx2 hx hsn hsv hb hbl hlen h63 hlt
          go_wp2
          go_quiet (fail)
          cases b with
          | false =>
            go_wp2
            go_roundw
            case rel => exact ⟨k + 1, by go_num, by omega, by rw [HSV.out, HX2.out]; simp; omega, _, rfl⟩
            case measure => simp [intOf]; omega
          | true =>
            go_wp2
            go_roundw
            case rel => exact ⟨k + 1, by go_num, by omega, by rw [HSV.out, HX2.out]; simp; omega, _, rfl⟩
            case measure => simp [intOf]; omega
        · obtain rfl : k = many := by omega
          have e2 : IntKind.i64.wrap ((n : Int) + (k : Int)) = ((n + k : Nat) : Int) := by rw [IntWalk.i64_in _ (by have := HS.out; omega)]; omega
          have hd0 : ¬ (k : Int) < (k : Int) := by omega
          have HD := Lib.hid ((H.out.kpNo ((Kp.refl _ _).drewN m)).set1 (m := n + k))
          go_wp2
          go_ret
          exact ⟨rfl, HD.out⟩
    · obtain ⟨hV, hN, hF⟩ := rget_short hs
      rw [hV, hN, hF]
      have n3 : decide ((L.length : Int) - (n : Int) < (many : Int)) = true := by simp; omega
      clear hV hN hF h6 hs
      go_enter Try.func52, Try.ntmps52
      go_wp2
      go_quiet (fail)
      go_wp2
      go_ret
      exact ⟨rfl, (H.out.kpNo ((Kp.refl _ _).drewN _)).set2⟩
  · obtain ⟨hV, hN, hF⟩ := rget_zero (L := L) (n := n) (many := many) hf
    rw [hV, hN, hF]
    have hfb : (f != 0) = true := by simpa using hf
    have hfc : (f == 0) = false := by simpa using hf
    clear hV hN hF h6 hf
    go_enter Try.func52, Try.ntmps52
    go_wp2
    go_quiet (fail)
    go_wp2
    go_ret
    exact ⟨rfl, H.out.kpNo ((Kp.refl _ _).drewN _)⟩
end Go.Proofs.Ytnejjjoedmefkaa
