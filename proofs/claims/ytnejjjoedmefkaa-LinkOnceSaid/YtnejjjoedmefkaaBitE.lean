/- bits.Reader: End. -/
import Derived.Test.YtnejjjoedmefkaaBitN
namespace Go.Proofs.Ytnejjjoedmefkaa
set_option linter.unusedVariables false
set_option linter.unusedSimpArgs false
open Go.RowKit

/-- What End answers: the fault, or 11 if more than seven bits are left, or one of those is 1. -/
def rendV (L : List Bool) (n : Nat) (f : Int) : Int := if f = 0 then (if 7 < L.length - n then 11 else if (L.drop n).any id then 11 else 0) else f

set_option maxRecDepth 100000 in
theorem end_any {w0 w : World} {p : Nat} {V : Value} {B : List Nat} {n : Nat} {f : Int} (h : AtR w0 p V B n f w) (hB : B.length ≤ 1000000) (hBx : ∀ x ∈ B, x < 256) (hn : n ≤ 8 * B.length) :
    Calls Try.prog 49 #[.pointer (some ⟨p, 0, none⟩)] w fun e w' => e = .returned (.int .i64 (rendV (unpackB B) n f)) ∧ Kp No w w' := by
  obtain ⟨h1, h2, h3, A, cap, h4, h5⟩ := h.cells
  have H := Lib.hid h
  have hUL := unpackB_len B
  clear h h5 h1 h3 h4
  obtain ⟨r, hr⟩ : ∃ r, r = rendV (unpackB B) n f := ⟨_, rfl⟩
  rw [← hr]
  have HRR := Lib.hid hr
  clear hr
  by_cases hf : f = 0
  · subst hf
    have HN := Lib.hid hn; have HUL := Lib.hid hUL; have HX := Lib.hid hBx
    obtain ⟨lf, hlf⟩ : ∃ lf, n + lf = 8 * B.length := ⟨8 * B.length - n, by omega⟩
    have hlI : 8 * (B.length : Int) - (n : Int) = (lf : Int) := by omega
    have HLF := Lib.hid hlf
    clear hUL hBx hn hlf
    go_enter Try.func49, Try.ntmps49
    go_wp2_with fail
    refine (left_any H.out hB HN.out).mono ?_
    rintro e w1 ⟨rfl, k1⟩
    rw [hlI]
    have H1 := Lib.hid (H.out.kpNo k1)
    have K1 := Lib.hid k1
    clear k1 hlI
    by_cases h7 : 7 < lf
    · have h7I : (7 : Int) < (lf : Int) := by omega
      obtain rfl : r = 11 := by
        rw [HRR.out]; unfold rendV
        rw [if_pos rfl, if_pos (by have := HUL.out; have := HLF.out; omega)]
      go_wp2
      go_ret
      exact ⟨rfl, K1.out⟩
    · have h7I : ¬ (7 : Int) < (lf : Int) := by omega
      have hrr : r = if ((unpackB B).drop n).any id then 11 else 0 := by
        rw [HRR.out]; unfold rendV
        rw [if_pos rfl, if_neg (by have := HUL.out; have := HLF.out; omega)]
      have HR2 := Lib.hid hrr
      clear hrr
      go_wp2
      go_loopw [21] (fun i wr => ∃ k : Nat, i = .int .i64 k ∧ k ≤ lf ∧ (∀ j, j < k → ((unpackB B).drop n)[j]? = some false) ∧ wr = w1) (fun i _ => lf - (intOf i).toNat)
      case atStart => exact ⟨0, rfl, by omega, by omega, rfl⟩
      case round =>
        obtain ⟨k, rfl, hk, hz, rfl⟩ := hrel
        by_cases hlt : k < lf
        · obtain ⟨b, hb⟩ : ∃ b, (unpackB B)[n + k]? = some b := ⟨_, List.getElem?_eq_getElem (by have := HUL.out; have := HLF.out; omega)⟩
          have hltI : (k : Int) < (lf : Int) := by omega
          have hwk : IntKind.i64.wrap ((k : Int) + 1) = (k : Int) + 1 := IntWalk.i64_in _ (by have := HLF.out; omega)
          have HZ := Lib.hid hz; have HB := Lib.hid hb
          clear hz hb hlt
          cases b with
          | false =>
            go_wp2_with fail
            refine (one_any H1.out hB HX.out k false HB.out k rfl).mono ?_
            rintro e w5 ⟨rfl, rfl⟩
            go_wp2
            go_roundw
            case rel =>
              refine ⟨k + 1, by go_num, by omega, fun j hj => ?_, by first | rfl | trivial⟩
              by_cases hjk : j = k
              · subst hjk; rw [List.getElem?_drop]; exact HB.out
              · exact HZ.out j (by omega)
            case measure => simp [intOf]; omega
          | true =>
            obtain rfl : r = 11 := by
              rw [HR2.out, if_pos]
              simp only [List.any_eq_true]
              exact ⟨true, List.mem_of_getElem? (i := k) (by rw [List.getElem?_drop]; exact HB.out), rfl⟩
            go_wp2_with fail
            refine (one_any H1.out hB HX.out k true HB.out k rfl).mono ?_
            rintro e w5 ⟨rfl, rfl⟩
            go_wp2
            go_ret
            exact ⟨rfl, K1.out⟩
        · obtain rfl : r = 0 := by
            rw [HR2.out, if_neg]
            simp only [List.any_eq_true]
            rintro ⟨b, hm, hbt⟩
            obtain ⟨j, hj⟩ := List.mem_iff_getElem?.1 hm
            have hjl := (List.getElem?_eq_some_iff.1 hj).1
            rw [List.length_drop] at hjl
            have := hz j (by have := HUL.out; have := HLF.out; omega)
            rw [hj] at this
            simp at this hbt
            rw [this] at hbt; simp at hbt
          have hltI : ¬ (k : Int) < (lf : Int) := by omega
          clear hz
          go_wp2
          go_ret
          exact ⟨rfl, K1.out⟩
  · obtain rfl : r = f := by rw [HRR.out]; simp [rendV, hf]
    have hfb : (r != 0) = true := by simpa using hf
    clear hUL hf
    go_enter Try.func49, Try.ntmps49
    go_wp2
    go_ret
    exact ⟨rfl, Kp.refl _ _⟩
end Go.Proofs.Ytnejjjoedmefkaa
