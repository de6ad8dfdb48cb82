/- carfaxref01: Reader.End. -/
import Derived.Test.YtnejjjoedmefkaaRefI
namespace Go.Proofs.Ytnejjjoedmefkaa
set_option linter.unusedVariables false
set_option linter.unusedSimpArgs false
open Go.RowKit

set_option maxRecDepth 100000 in
theorem qend_any {w0 w : World} {p : Nat} {V : Value} {L : List Bool} {n : Nat} {f : Int} (h : AtQ w0 p V L n f w) (hL : L.length ≤ 8000000) (hn : n ≤ L.length) :
    Calls Try.prog 54 #[.pointer (some ⟨p, 0, none⟩)] w fun e w' => e = .returned (.int .i64 (rendV L n f)) ∧ Kp No w w' := by
  obtain ⟨A, cap, h1, h2, h3, h4, h5, h6⟩ := h.parts
  have e1 : IntKind.i64.wrap ((L.length : Int) - (n : Int)) = (L.length : Int) - (n : Int) := IntWalk.i64_in _ (by omega)
  clear h
  by_cases hf : f = 0
  · subst hf
    have H6 := Lib.hid h6; have HN := Lib.hid hn
    clear h6
    by_cases c1 : 7 < L.length - n
    · have hv : rendV L n 0 = 11 := by simp [rendV]; omega
      rw [hv]
      have c1I : decide ((7 : Int) < (L.length : Int) - (n : Int)) = true := by simp; omega
      clear hv hn c1
      go_enter Try.func54, Try.ntmps54
      go_wp2
      go_quiet (fail)
      go_wp2
      go_ret
      exact ⟨rfl, (Kp.refl _ _).drewN _⟩
    · have c1I : decide ((7 : Int) < (L.length : Int) - (n : Int)) = false := by simp; omega
      have C1 := Lib.hid c1
      clear hn c1
      go_enter Try.func54, Try.ntmps54
      go_wp2
      go_quiet (fail)
      go_wp2
      go_loopw [3] (fun i wr => ∃ k : Nat, i = .int .i64 k ∧ n ≤ k ∧ k ≤ L.length ∧ (∀ j, n ≤ j → j < k → L[j]? = some false) ∧ ∃ m, wr = w.drewN m) (fun i _ => L.length - (intOf i).toNat)
      case atStart => exact ⟨n, rfl, by omega, HN.out, by omega, _, rfl⟩
      case round =>
        obtain ⟨k, rfl, hk0, hk, hz, m, rfl⟩ := hrel
        have e7 : IntKind.i64.wrap ((k : Int) + 1) = (k : Int) + 1 := IntWalk.i64_in _ (by omega)
        by_cases hlt : k < L.length
        · obtain ⟨b, hb⟩ : ∃ b, L[k]? = some b := ⟨_, List.getElem?_eq_getElem hlt⟩
          obtain ⟨g, o, rfl, hc⟩ := H6.out b k hb
          have hltI : (k : Int) < (L.length : Int) := by omega
          have HZ := Lib.hid hz; have HB := Lib.hid hb
          clear hz hb hlt
          cases b with
          | false =>
            go_wp2
            go_roundw
            case rel =>
              refine ⟨k + 1, by go_num, by omega, by omega, fun j h1 hj => ?_, _, rfl⟩
              by_cases hjk : j = k
              · subst hjk; exact HB.out
              · exact HZ.out j h1 (by omega)
            case measure => simp [intOf]; omega
          | true =>
            have hv : rendV L n 0 = 11 := by
              have hm : true ∈ L.drop n := List.mem_of_getElem? (i := k - n) (by rw [List.getElem?_drop, show n + (k - n) = k by omega]; exact HB.out)
              simp [rendV, hm]
            have HV := Lib.hid hv
            clear hv
            go_wp2
            go_ret
            exact ⟨by rw [HV.out]; rfl, (Kp.refl _ _).drewN _⟩
        · obtain rfl : k = L.length := by omega
          have hv : rendV L n 0 = 0 := by
            have hm : true ∉ L.drop n := fun hm => by
              obtain ⟨i, hi⟩ := List.getElem?_of_mem hm
              rw [List.getElem?_drop] at hi
              have h2 := hz (n + i) (by omega) (List.getElem?_eq_some_iff.1 hi).1
              rw [h2] at hi; simp at hi
            have := C1.out
            simp [rendV, hm]; omega
          have HV := Lib.hid hv
          have hd0 : ¬ (L.length : Int) < (L.length : Int) := by omega
          clear hv hz hlt
          go_wp2
          go_ret
          exact ⟨by rw [HV.out]; rfl, (Kp.refl _ _).drewN _⟩
  · have hv : rendV L n f = f := by simp [rendV, hf]
    rw [hv]
    have hfb : (f != 0) = true := by simpa using hf
    clear hv h6 hf
    go_enter Try.func54, Try.ntmps54
    go_wp2
    go_ret
    exact ⟨rfl, Kp.refl _ _⟩
end Go.Proofs.Ytnejjjoedmefkaa
