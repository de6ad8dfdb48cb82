/- bits.Reader: Count. -/
import Derived.Test.YtnejjjoedmefkaaBitG
namespace Go.Proofs.Ytnejjjoedmefkaa
set_option linter.unusedVariables false
set_option linter.unusedSimpArgs false
open Go.RowKit

def zerosL (l : List Bool) : Nat := (l.takeWhile fun b => !b).length
theorem zerosL_le (l : List Bool) : zerosL l ≤ l.length := List.Sublist.length_le (List.takeWhile_sublist _)
theorem zerosL_eq (l : List Bool) : ∀ k, k ≤ l.length → (∀ j, j < k → l[j]? = some false) → (l[k]? = none ∨ l[k]? = some true) → zerosL l = k := by
  induction l with
  | nil => intro k hk _ _; simp at hk; simp [zerosL, hk]
  | cons b l ih =>
    intro k hk h1 h2
    cases k with
    | zero =>
      rcases h2 with h | h
      · simp at h
      · simp at h; subst h; simp [zerosL]
    | succ k =>
      have h0 := h1 0 (by omega)
      simp at h0; subst h0
      have := ih k (by simpa using hk) (fun j hj => by have := h1 (j + 1) (by omega); simpa using this) (by simpa using h2)
      unfold zerosL at this ⊢
      simp [this]
def rcOk (L : List Bool) (n : Nat) (f : Int) : Prop := f = 0 ∧ zerosL (L.drop n) ≤ 63 ∧ n + (2 * zerosL (L.drop n) + 1) ≤ L.length
instance (L : List Bool) (n : Nat) (f : Int) : Decidable (rcOk L n f) := by unfold rcOk; exact inferInstance
/-- What Count answers: one less than the number behind the zeros. -/
def rcV (L : List Bool) (n : Nat) (f : Int) : Nat := if rcOk L n f then bval ((L.drop (n + zerosL (L.drop n))).take (zerosL (L.drop n) + 1)) else 0
def rcN (L : List Bool) (n : Nat) (f : Int) : Nat := if rcOk L n f then n + (2 * zerosL (L.drop n) + 1) else n
def rcF (L : List Bool) (n : Nat) (f : Int) : Int := if f = 0 then (if 63 < zerosL (L.drop n) then 4 else if n + (2 * zerosL (L.drop n) + 1) ≤ L.length then 0 else 10) else f

set_option maxRecDepth 100000 in
theorem rcount_any {w0 w : World} {p : Nat} {V : Value} {B : List Nat} {n : Nat} {f : Int} (h : AtR w0 p V B n f w) (hB : B.length ≤ 1000000) (hBx : ∀ x ∈ B, x < 256) (hn : n ≤ 8 * B.length) :
    Calls Try.prog 47 #[.pointer (some ⟨p, 0, none⟩)] w fun e w' => e = .returned (.int .u64 (if rcOk (unpackB B) n f then (rcV (unpackB B) n f : Int) - 1 else 0)) ∧ AtR w0 p V B (rcN (unpackB B) n f) (rcF (unpackB B) n f) w' := by
  obtain ⟨h1, h2, h3, A, cap, h4, h5⟩ := h.cells
  have H := Lib.hid h
  have hUL := unpackB_len B
  clear h h5 h1 h3 h4
  by_cases hf : f = 0
  · subst hf
    have HN := Lib.hid hn; have HUL := Lib.hid hUL; have HX := Lib.hid hBx
    obtain ⟨L, hL⟩ : ∃ L, L = unpackB B := ⟨_, rfl⟩
    obtain ⟨lf, hlf⟩ : ∃ lf, n + lf = 8 * B.length := ⟨8 * B.length - n, by omega⟩
    have hlI : 8 * (B.length : Int) - (n : Int) = (lf : Int) := by omega
    have HLF := Lib.hid hlf
    clear hUL hBx hn hlf
    go_enter Try.func47, Try.ntmps47
    go_wp2_with fail
    refine (left_any H.out hB HN.out).mono ?_
    rintro e w1 ⟨rfl, k1⟩
    rw [hlI]
    have H1 := Lib.hid (H.out.kpNo k1)
    clear k1 hlI
    go_wp2
    go_loopw [4] (fun i wr => ∃ k : Nat, i = .int .i64 k ∧ k ≤ lf ∧ (∀ j, j < k → ((unpackB B).drop n)[j]? = some false) ∧ wr = w1) (fun i _ => lf - (intOf i).toNat)
    case atStart => exact ⟨0, rfl, by omega, by omega, rfl⟩
    case round =>
      obtain ⟨k, rfl, hk, hz, rfl⟩ := hrel
      by_cases hlt : k < lf
      · obtain ⟨b, hb⟩ : ∃ b, (unpackB B)[n + k]? = some b := ⟨_, List.getElem?_eq_getElem (by have := HUL.out; have := HLF.out; omega)⟩
        have hltI : (k : Int) < (lf : Int) := by omega
        have hwk : IntKind.i64.wrap ((k : Int) + 1) = (k : Int) + 1 := IntWalk.i64_in _ (by have := HLF.out; omega)
        cases b with
        | false =>
          have HZ := Lib.hid hz; have HB := Lib.hid hb
          clear hz hb hlt
          go_wp2_with fail
          refine (one_any H1.out hB HX.out k false HB.out k rfl).mono ?_
          rintro e w5 ⟨rfl, rfl⟩
          go_wp2
          go_roundw
          case rel =>
            refine ⟨k + 1, by go_num, by omega, fun j hj => ?_, by first | rfl | trivial⟩
            by_cases hjk : j = k
            · subst hjk; rw [List.getElem?_drop]; exact HB.out
            · exact HZ.out j (by omega)
          case measure => simp [intOf]; omega
        | true =>
          have hzk : zerosL ((unpackB B).drop n) = k := zerosL_eq _ k (by have := HUL.out; have := HLF.out; rw [List.length_drop]; omega) hz (.inr (by rw [List.getElem?_drop]; exact hb))
          have HB := Lib.hid hb
          clear hb
          have HZK := Lib.hid hzk
          obtain ⟨q1, q2, q3, A', cap', q4, q5⟩ := H1.out.cells
          have q31 := q3 1
          have q32 := q3 2
          have hB2 := hB
          have w1k : IntKind.i64.wrap (2 * (k : Int)) = 2 * (k : Int) := IntWalk.i64_in _ (by have := HLF.out; omega)
          have w2k : IntKind.i64.wrap (2 * (k : Int) + 1) = 2 * (k : Int) + 1 := IntWalk.i64_in _ (by have := HLF.out; omega)
          have w3k : IntKind.i64.wrap ((k : Int) + 1) = (k : Int) + 1 := IntWalk.i64_in _ (by have := HLF.out; omega)
          clear q5 hzk hz
          by_cases c1 : 63 < k
          · have hok : ¬ rcOk (unpackB B) n 0 := fun h => by have := h.2.1; have := HZK.out; omega
            have hN : rcN (unpackB B) n 0 = n := by simp [rcN, hok]
            have hF : rcF (unpackB B) n 0 = 4 := by have := HZK.out; simp [rcF, this, c1]
            have c1I : (63 : Int) < (k : Int) := by omega
            have HOK := Lib.hid hok; have HNN := Lib.hid hN; have HFF := Lib.hid hF
            clear hok hN hF
            go_wp2_with fail
            refine (one_any H1.out hB2 HX.out k true HB.out k rfl).mono ?_
            rintro e w5 ⟨rfl, rfl⟩
            go_wp2
            go_ret
            exact ⟨by first | rfl | rw [if_neg HOK.out], by rw [HNN.out, HFF.out]; exact H1.out.set2⟩
          · have c1I : ¬ (63 : Int) < (k : Int) := by omega
            by_cases c2 : lf < 2 * k + 1
            · have hok : ¬ rcOk (unpackB B) n 0 := fun h => by have := h.2.2; have := HZK.out; have := HUL.out; have := HLF.out; omega
              have hN : rcN (unpackB B) n 0 = n := by simp [rcN, hok]
              have hF : rcF (unpackB B) n 0 = 10 := by
                have h1 := HZK.out
                have h2 : ¬ n + (2 * k + 1) ≤ (unpackB B).length := by have := HUL.out; have := HLF.out; omega
                simp [rcF, h1, c1, h2]
              have c2I : (lf : Int) < 2 * (k : Int) + 1 := by omega
              have HOK := Lib.hid hok; have HNN := Lib.hid hN; have HFF := Lib.hid hF
              clear hok hN hF
              go_wp2_with fail
              refine (one_any H1.out hB2 HX.out k true HB.out k rfl).mono ?_
              rintro e w5 ⟨rfl, rfl⟩
              go_wp2
              go_ret
              exact ⟨by first | rfl | rw [if_neg HOK.out], by rw [HNN.out, HFF.out]; exact H1.out.set2⟩
            · have c2I : ¬ (lf : Int) < 2 * (k : Int) + 1 := by omega
              have hok : rcOk (unpackB B) n 0 := ⟨rfl, by have := HZK.out; omega, by have := HZK.out; have := HUL.out; have := HLF.out; omega⟩
              have hg1 : n + k + (k + 1) ≤ (unpackB B).length := by have := HUL.out; have := HLF.out; omega
              have hN : rcN (unpackB B) n 0 = rgetN (unpackB B) (n + k) 0 (k + 1) := by have := HZK.out; simp [rcN, rgetN, hok, hg1, this]; omega
              have hF : rcF (unpackB B) n 0 = rgetF (unpackB B) (n + k) 0 (k + 1) := by
                have h1 := HZK.out
                have h2 : n + (2 * k + 1) ≤ (unpackB B).length := by omega
                simp [rcF, rgetF, h1, c1, h2, hg1]
              have hV : rcV (unpackB B) n 0 = rgetV (unpackB B) (n + k) 0 (k + 1) := by have := HZK.out; simp [rcV, rgetV, hok, hg1, this]
              have hpos : 1 ≤ rgetV (unpackB B) (n + k) 0 (k + 1) := by
                have hfst : (((unpackB B).drop (n + k)).take (k + 1)) = true :: (((unpackB B).drop (n + k + 1)).take k) := by
                  have hd : (unpackB B).drop (n + k) = true :: (unpackB B).drop (n + k + 1) := by
                    have hl := (List.getElem?_eq_some_iff.1 HB.out).1
                    rw [List.drop_eq_getElem_cons hl, (List.getElem?_eq_some_iff.1 HB.out).2]
                  rw [hd]; rfl
                have hv : rgetV (unpackB B) (n + k) 0 (k + 1) = bval (((unpackB B).drop (n + k)).take (k + 1)) := by simp [rgetV, hg1]
                rw [hv, hfst, bval_cons]
                have := Nat.two_pow_pos (((unpackB B).drop (n + k + 1)).take k).length
                simp only [Bool.toNat_true]; omega
              have hlt64 : rgetV (unpackB B) (n + k) 0 (k + 1) < 18446744073709551616 := by
                have hv : rgetV (unpackB B) (n + k) 0 (k + 1) = bval (((unpackB B).drop (n + k)).take (k + 1)) := by simp [rgetV, hg1]
                rw [hv]
                have h1 := bval_lt (((unpackB B).drop (n + k)).take (k + 1))
                have h2 : (((unpackB B).drop (n + k)).take (k + 1)).length ≤ 64 := by rw [List.length_take]; omega
                have h3 : 2 ^ (((unpackB B).drop (n + k)).take (k + 1)).length ≤ 2 ^ 64 := Nat.pow_le_pow_right (by decide) h2
                omega
              have HOK := Lib.hid hok; have HNN := Lib.hid hN; have HFF := Lib.hid hF; have HVV := Lib.hid hV
              have hnk : n + k ≤ 8 * B.length := by have := HLF.out; omega
              obtain ⟨t, ht⟩ : ∃ t, t = n + k := ⟨_, rfl⟩
              have HT := Lib.hid ht
              rw [← ht] at hnk hpos hlt64
              have e4 : IntKind.i64.wrap (t : Int) = (t : Int) := IntWalk.i64_in _ (by omega)
              have e5 : (n : Int) + (k : Int) = (t : Int) := by omega
              have A5 := Lib.hid (H1.out.set1 (m := t))
              have HNK := Lib.hid hnk
              obtain ⟨r, hr⟩ : ∃ r, rgetV (unpackB B) t 0 (k + 1) = r := ⟨_, rfl⟩
              rw [hr] at hpos hlt64
              have HR := Lib.hid hr
              have e6 : IntKind.u64.wrap ((r : Int) - 1) = (r : Int) - 1 := IntWalk.u64_in _ (by omega)
              clear hok hN hF hV hnk ht hg1 hr hpos hlt64
              go_wp2_with fail
              refine (one_any H1.out hB2 HX.out k true HB.out k rfl).mono ?_
              rintro e w5 ⟨rfl, rfl⟩
              go_wp2_with fail
              refine (get_any A5.out hB2 HX.out HNK.out (k + 1) (by omega) _ (by first | rfl | omega)).mono ?_
              rintro e w6 ⟨rfl, a6⟩
              have A6 := Lib.hid a6
              clear a6
              rw [HR.out]
              go_wp2
              go_ret
              exact ⟨by first | rfl | (rw [HVV.out, ← HT.out, HR.out]; rfl) | (rw [if_pos HOK.out, HVV.out, ← HT.out, HR.out]; rfl), by rw [HNN.out, HFF.out, ← HT.out]; exact A6.out⟩
      · have hzk : zerosL ((unpackB B).drop n) = k := zerosL_eq _ k (by have := HUL.out; have := HLF.out; rw [List.length_drop]; omega) hz (.inl (List.getElem?_eq_none (by have := HUL.out; have := HLF.out; rw [List.length_drop]; omega)))
        have hltI : ¬ (k : Int) < (lf : Int) := by omega
        have HZK := Lib.hid hzk
        obtain ⟨q1, q2, q3, A', cap', q4, q5⟩ := H1.out.cells
        have q31 := q3 1
        have q32 := q3 2
        have hB2 := hB
        have w1k : IntKind.i64.wrap (2 * (k : Int)) = 2 * (k : Int) := IntWalk.i64_in _ (by have := HLF.out; omega)
        have w2k : IntKind.i64.wrap (2 * (k : Int) + 1) = 2 * (k : Int) + 1 := IntWalk.i64_in _ (by have := HLF.out; omega)
        have w3k : IntKind.i64.wrap ((k : Int) + 1) = (k : Int) + 1 := IntWalk.i64_in _ (by have := HLF.out; omega)
        clear q5 hzk hz
        by_cases c1 : 63 < k
        · have hok : ¬ rcOk (unpackB B) n 0 := fun h => by have := h.2.1; have := HZK.out; omega
          have hN : rcN (unpackB B) n 0 = n := by simp [rcN, hok]
          have hF : rcF (unpackB B) n 0 = 4 := by have := HZK.out; simp [rcF, this, c1]
          have c1I : (63 : Int) < (k : Int) := by omega
          have HOK := Lib.hid hok; have HNN := Lib.hid hN; have HFF := Lib.hid hF
          clear hok hN hF
          go_wp2
          go_ret
          exact ⟨by first | rfl | rw [if_neg HOK.out], by rw [HNN.out, HFF.out]; exact H1.out.set2⟩
        · have c1I : ¬ (63 : Int) < (k : Int) := by omega
          by_cases c2 : lf < 2 * k + 1
          · have hok : ¬ rcOk (unpackB B) n 0 := fun h => by have := h.2.2; have := HZK.out; have := HUL.out; have := HLF.out; omega
            have hN : rcN (unpackB B) n 0 = n := by simp [rcN, hok]
            have hF : rcF (unpackB B) n 0 = 10 := by
              have h1 := HZK.out
              have h2 : ¬ n + (2 * k + 1) ≤ (unpackB B).length := by have := HUL.out; have := HLF.out; omega
              simp [rcF, h1, c1, h2]
            have c2I : (lf : Int) < 2 * (k : Int) + 1 := by omega
            have HOK := Lib.hid hok; have HNN := Lib.hid hN; have HFF := Lib.hid hF
            clear hok hN hF
            go_wp2
            go_ret
            exact ⟨by first | rfl | rw [if_neg HOK.out], by rw [HNN.out, HFF.out]; exact H1.out.set2⟩
          · exfalso; omega
  · have hok : ¬ rcOk (unpackB B) n f := fun h => hf h.1
    have hN : rcN (unpackB B) n f = n := by simp [rcN, hok]
    have hF : rcF (unpackB B) n f = f := by simp [rcF, hf]
    rw [if_neg hok, hN, hF]
    have hfb : (f != 0) = true := by simpa using hf
    clear hok hN hF hUL hf
    go_enter Try.func47, Try.ntmps47
    go_wp2
    go_ret
    exact ⟨rfl, H.out⟩
end Go.Proofs.Ytnejjjoedmefkaa
