/- carfaxref01: Reader.Count. -/
import Derived.Test.YtnejjjoedmefkaaRefH
namespace Go.Proofs.Ytnejjjoedmefkaa
set_option linter.unusedVariables false
set_option linter.unusedSimpArgs false
open Go.RowKit

theorem rc_long {L : List Bool} {n k : Nat} (hz : zerosL (L.drop n) = k) (h : 63 < k) : ¬ rcOk L n 0 ∧ rcN L n 0 = n ∧ rcF L n 0 = 4 := by
  have hok : ¬ rcOk L n 0 := fun h => by have := h.2.1; omega
  exact ⟨hok, by simp [rcN, hok], by simp [rcF, hz, h]⟩
theorem rc_short {L : List Bool} {n k : Nat} (hz : zerosL (L.drop n) = k) (h : ¬ 63 < k) (h2 : ¬ n + (2 * k + 1) ≤ L.length) : ¬ rcOk L n 0 ∧ rcN L n 0 = n ∧ rcF L n 0 = 10 := by
  have hok : ¬ rcOk L n 0 := fun h => by have := h.2.2; rw [hz] at this; omega
  exact ⟨hok, by simp [rcN, hok], by simp [rcF, hz, h, h2]⟩
theorem rc_full {L : List Bool} {n k : Nat} (hz : zerosL (L.drop n) = k) (h : ¬ 63 < k) (h2 : n + (2 * k + 1) ≤ L.length) (hb : L[n + k]? = some true) :
    rcOk L n 0 ∧ rcV L n 0 = rgetV L (n + k) 0 (k + 1) ∧ rcN L n 0 = n + k + (k + 1) ∧ rcF L n 0 = 0 ∧ 1 ≤ rgetV L (n + k) 0 (k + 1) ∧ rgetV L (n + k) 0 (k + 1) < 18446744073709551616 := by
  have hok : rcOk L n 0 := ⟨rfl, by omega, by rw [hz]; exact h2⟩
  have hg1 : n + k + (k + 1) ≤ L.length := by omega
  have hv : rgetV L (n + k) 0 (k + 1) = bval ((L.drop (n + k)).take (k + 1)) := by simp [rgetV, hg1]
  refine ⟨hok, by simp [rcV, rgetV, hok, hg1, hz], by simp [rcN, hok, hz]; omega, by simp [rcF, hz, h, h2], ?_, ?_⟩
  · have hd : L.drop (n + k) = true :: L.drop (n + k + 1) := by
      have hl := (List.getElem?_eq_some_iff.1 hb).1
      rw [List.drop_eq_getElem_cons hl, (List.getElem?_eq_some_iff.1 hb).2]
    rw [hv, hd, List.take_succ_cons, bval_cons]
    have := Nat.two_pow_pos ((L.drop (n + k + 1)).take k).length
    simp only [Bool.toNat_true]; omega
  · rw [hv]
    have h1 := bval_lt ((L.drop (n + k)).take (k + 1))
    have h2 : ((L.drop (n + k)).take (k + 1)).length ≤ 64 := by rw [List.length_take]; omega
    have h3 : 2 ^ ((L.drop (n + k)).take (k + 1)).length ≤ 2 ^ 64 := Nat.pow_le_pow_right (by decide) h2
    omega

def RcPost (w0 : World) (p : Nat) (V : Value) (L : List Bool) (n : Nat) (f : Int) (e : Ending) (w' : World) : Prop := e = .returned (.int .u64 (if rcOk L n f then (rcV L n f : Int) - 1 else 0)) ∧ AtQ w0 p V L (rcN L n f) (rcF L n f) w'

set_option maxRecDepth 100000 in
theorem qcount_any {w0 w : World} {p : Nat} {V : Value} {L : List Bool} {n : Nat} {f : Int} (h : AtQ w0 p V L n f w) (hL : L.length ≤ 8000000) (hn : n ≤ L.length) :
    Calls Try.prog 53 #[.pointer (some ⟨p, 0, none⟩)] w (RcPost w0 p V L n f) := by
  obtain ⟨A, cap, h1, h2, h3, h4, h5, h6⟩ := h.parts
  have H := Lib.hid h
  clear h
  by_cases hf : f = 0
  · subst hf
    have H6 := Lib.hid h6; have HN := Lib.hid hn
    obtain ⟨lf, hlf⟩ : ∃ lf, n + lf = L.length := ⟨L.length - n, by omega⟩
    have HLF := Lib.hid hlf
    clear h6 hn hlf
    go_enter Try.func53, Try.ntmps53
    go_wp2
    go_loopw [4] (fun i wr => ∃ k : Nat, i = .int .i64 k ∧ k ≤ lf ∧ (∀ j, j < k → (L.drop n)[j]? = some false) ∧ ∃ m, wr = w.drewN m) (fun i _ => lf - (intOf i).toNat)
    case atStart => exact ⟨0, rfl, by omega, by omega, 0, rfl⟩
    case round =>
      obtain ⟨k, rfl, hk, hz, m, rfl⟩ := hrel
      obtain ⟨t, ht⟩ : ∃ t, t = n + k := ⟨_, rfl⟩
      have e2 : (n : Int) + (k : Int) = (t : Int) := by omega
      have e3 : IntKind.i64.wrap (t : Int) = (t : Int) := IntWalk.i64_in _ (by have := HLF.out; omega)
      have e7 : IntKind.i64.wrap ((k : Int) + 1) = (k : Int) + 1 := IntWalk.i64_in _ (by have := HLF.out; omega)
      have HT := Lib.hid ht
      have key : ∀ b, L[t]? = some b ∨ t = L.length → True := fun _ _ => trivial
      clear key
      by_cases hgo : L[t]? = some false
      · have hlt : t < L.length := (List.getElem?_eq_some_iff.1 hgo).1
        obtain ⟨g, o, rfl, hc⟩ := H6.out false t hgo
        have e8 : (t : Int) < (L.length : Int) := by omega
        have hkl : k < lf := by have := HLF.out; omega
        have HZ := Lib.hid hz; have HG := Lib.hid hgo
        clear hz hgo ht hlt
        go_wp2
        go_quiet (fail)
        go_wp2
        go_roundw
        case rel =>
          refine ⟨k + 1, by go_num, by omega, fun j hj => ?_, _, rfl⟩
          by_cases hjk : j = k
          · subst hjk; rw [List.getElem?_drop, ← HT.out]; exact HG.out
          · exact HZ.out j (by omega)
        case measure => simp [intOf]; omega
      · have hzk : zerosL (L.drop n) = k := zerosL_eq _ k (by have := HLF.out; rw [List.length_drop]; omega) hz (by
          rw [List.getElem?_drop, ← ht]
          cases hb : L[t]? with
          | none => exact .inl rfl
          | some b => cases b with
            | false => exact absurd hb hgo
            | true => exact .inr rfl)
        have HW := Lib.hid (fun j => H.out.kpNo ((Kp.refl _ w).drewN j))
        have HZK := Lib.hid hzk
        have htL : t ≤ L.length := by have := HLF.out; omega
        have HTL := Lib.hid htL
        rcases Nat.lt_or_ge t L.length with hlt | hge
        · have hbt : L[t]? = some true := by
            cases hb : L[t] with
            | false => exact absurd (by rw [List.getElem?_eq_getElem hlt, hb]) hgo
            | true => rw [List.getElem?_eq_getElem hlt, hb]
          obtain ⟨g, o, rfl, hc⟩ := H6.out true t hbt
          have e8 : (t : Int) < (L.length : Int) := by omega
          have HBT := Lib.hid hbt
          clear hz hgo hzk hbt ht hlt htL
          by_cases c1 : 63 < k
          · obtain ⟨r1, r2, r3⟩ := rc_long HZK.out c1
            have R1 := Lib.hid r1; have R2 := Lib.hid r2; have R3 := Lib.hid r3
            have c1I : (63 : Int) < (k : Int) := by omega
            clear r1 r2 r3
            go_wp2
            go_quiet (fail)
            go_wp2
            go_ret
            exact ⟨by rw [if_neg R1.out]; rfl, by rw [R2.out, R3.out]; exact (HW.out _).set2⟩
          · have c1I : ¬ (63 : Int) < (k : Int) := by omega
            have HP := Lib.hid (fun j => (HW.out j).set1 (m := t))
            have e9 : k + 1 ≤ 64 := by omega
            by_cases c2 : n + (2 * k + 1) ≤ L.length
            · obtain ⟨r1, r2, r3, r4, r5, r6⟩ := rc_full HZK.out c1 c2 (by rw [← HT.out]; exact HBT.out)
              obtain ⟨g1, g2, g3⟩ := rget_full (L := L) (n := t) (many := k + 1) (by have := HT.out; omega)
              have R1 := Lib.hid r1; have R2 := Lib.hid r2; have R3 := Lib.hid r3; have R4 := Lib.hid r4; have G2 := Lib.hid g2; have G3 := Lib.hid g3
              rw [← HT.out] at r5 r6
              obtain ⟨r, hr⟩ : ∃ r, rgetV L t 0 (k + 1) = r := ⟨_, rfl⟩
              rw [hr] at r5 r6
              have HR := Lib.hid hr
              have e6 : IntKind.u64.wrap ((r : Int) - 1) = (r : Int) - 1 := IntWalk.u64_in _ (by omega)
              clear r1 r2 r3 r4 g1 g2 g3 hr r5 r6 c2
              go_wp2
              go_quiet (fail)
              go_wp2_with fail
              refine (qget_any (HP.out _) hL HTL.out (k + 1) e9 ((k : Int) + 1) (by omega)).mono ?_
              rintro e w6 ⟨rfl, a6⟩
              rw [G2.out, G3.out] at a6
              rw [HR.out]
              obtain ⟨A6, cap6, b1, b2, b3, b4, b5, b6⟩ := a6.parts
              have A6' := Lib.hid a6
              clear a6 b6
              go_wp2
              go_ret
              exact ⟨by rw [if_pos R1.out, R2.out, ← HT.out, HR.out]; rfl, by rw [R3.out, R4.out, ← HT.out]; exact A6'.out⟩
            · obtain ⟨r1, r2, r3⟩ := rc_short HZK.out c1 c2
              obtain ⟨g1, g2, g3⟩ := rget_short (L := L) (n := t) (many := k + 1) (by have := HT.out; omega)
              have R1 := Lib.hid r1; have R2 := Lib.hid r2; have R3 := Lib.hid r3; have G2 := Lib.hid g2; have G3 := Lib.hid g3
              clear r1 r2 r3 g1 g2 g3 c2
              go_wp2
              go_quiet (fail)
              go_wp2_with fail
              refine (qget_any (HP.out _) hL HTL.out (k + 1) e9 ((k : Int) + 1) (by omega)).mono ?_
              rintro e w6 ⟨rfl, a6⟩
              rw [G2.out, G3.out] at a6
              obtain ⟨A6, cap6, b1, b2, b3, b4, b5, b6⟩ := a6.parts
              have A6' := Lib.hid a6
              clear a6 b6
              go_wp2
              go_ret
              exact ⟨by rw [if_neg R1.out]; rfl, by rw [R2.out, R3.out]; exact A6'.out.set1⟩
        · obtain rfl : t = L.length := by omega
          have e8 : decide ((L.length : Int) < (L.length : Int)) = false := by simp
          clear hz hgo hzk ht hge htL
          by_cases c1 : 63 < k
          · obtain ⟨r1, r2, r3⟩ := rc_long HZK.out c1
            have R1 := Lib.hid r1; have R2 := Lib.hid r2; have R3 := Lib.hid r3
            have c1I : (63 : Int) < (k : Int) := by omega
            clear r1 r2 r3
            go_wp2
            go_quiet (fail)
            go_wp2
            go_ret
            exact ⟨by rw [if_neg R1.out]; rfl, by rw [R2.out, R3.out]; exact (HW.out _).set2⟩
          · have c1I : ¬ (63 : Int) < (k : Int) := by omega
            have HP := Lib.hid (fun j => (HW.out j).set1 (m := L.length))
            have e9 : k + 1 ≤ 64 := by omega
            obtain ⟨r1, r2, r3⟩ := rc_short HZK.out c1 (by have := HT.out; omega)
            obtain ⟨g1, g2, g3⟩ := rget_short (L := L) (n := L.length) (many := k + 1) (by omega)
            have R1 := Lib.hid r1; have R2 := Lib.hid r2; have R3 := Lib.hid r3; have G2 := Lib.hid g2; have G3 := Lib.hid g3
            clear r1 r2 r3 g1 g2 g3
            go_wp2
            go_quiet (fail)
            go_wp2_with fail
            refine (qget_any (HP.out _) hL HTL.out (k + 1) e9 ((k : Int) + 1) (by omega)).mono ?_
            rintro e w6 ⟨rfl, a6⟩
            rw [G2.out, G3.out] at a6
            obtain ⟨A6, cap6, b1, b2, b3, b4, b5, b6⟩ := a6.parts
            have A6' := Lib.hid a6
            clear a6 b6
            go_wp2
            go_ret
            exact ⟨by rw [if_neg R1.out]; rfl, by rw [R2.out, R3.out]; exact A6'.out.set1⟩
  · have hok : ¬ rcOk L n f := fun h => hf h.1
    have hN : rcN L n f = n := by simp [rcN, hok]
    have hF : rcF L n f = f := by simp [rcF, hf]
    have HP : Hid (∀ w', AtQ w0 p V L n f w' → RcPost w0 p V L n f (.returned (.int .u64 0)) w') := fun w' hw => ⟨by rw [if_neg hok], by rw [hN, hF]; exact hw⟩
    have hfb : (f != 0) = true := by simpa using hf
    clear hok hN hF h6 hf
    go_enter Try.func53, Try.ntmps53
    go_wp2
    go_ret
    exact HP.out _ H.out
end Go.Proofs.Ytnejjjoedmefkaa
