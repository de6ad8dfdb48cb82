/- carfaxref02.Open: the walk. -/
import Derived.Test.YtnejjjoedmefkaaFrmO
import Derived.Test.YtnejjjoedmefkaaStr
namespace Go.Proofs.Ytnejjjoedmefkaa
set_option linter.unusedVariables false
set_option linter.unusedSimpArgs false
open Go.RowKit

set_option maxRecDepth 100000 in
theorem ropen_any {w : World} {v : Value} {f : List Nat} (h : Rd BK w v f) (hB : f.length ≤ 1000000) (hBx : ∀ x ∈ f, x < 256) :
    Calls Try.prog 50 #[v] w fun e w' => ∃ v', e = .returned (.tuple #[v', .bool (isF f)]) ∧ Rd BK w' v' (openL f) ∧ Kp No w w' := by
  obtain ⟨A, cap, rfl⟩ := h.shape
  have H := Lib.hid h; have HX := Lib.hid hBx
  clear h hBx
  by_cases h4 : f.length < 4
  · have h4I : (f.length : Int) < 4 := by omega
    have hF : isF f = false := by unfold isF; rw [decide_eq_false (by omega)]; rfl
    have ho : openL f = [] := by unfold openL; rw [hF]; rfl
    have HO := Lib.hid ho; have HF := Lib.hid hF
    clear hF ho h4
    go_enter Try.func50, Try.ntmps50
    go_wp2
    go_ret2
    exact ⟨.slice none 0 0, by rw [HF.out]; rfl, by rw [HO.out]; exact Rd.nil _ _, Kp.refl _ _⟩
  · have h4I : ¬ (f.length : Int) < 4 := by omega
    obtain ⟨t, A2, c2, HT, hl2, hr2, HD2, _⟩ := H.out.mid2 elB 2 (f.length - 2) (by omega) (by omega) 2 ((f.length : Int) - 2) rfl (by omega)
    have hxt : ∀ x ∈ t, x < 256 := fun x hx => HX.out x (by rw [HT.out] at hx; exact List.mem_of_mem_drop (List.mem_of_mem_take hx))
    have hmt : midP f = t := by rw [HT.out]; rfl
    have e2 : IntKind.i64.wrap ((f.length : Int) - 2) = (f.length : Int) - 2 := IntWalk.i64_in _ (by omega)
    have htl : t.length ≤ 1000000 := by omega
    have HXT := Lib.hid hxt
    by_cases h1 : t.length ≤ 1000
    · have hE : frameE t = 0 := by simp [frameE, h1]
      have hL : frameL t = frameP t := by simp [frameL, h1]
      have hF : isF f = decide (frameP t = f) := by
        unfold isF; rw [hmt, decide_eq_true (show 4 ≤ f.length by omega), decide_eq_true (show f.length ≤ 1004 by omega)]; simp
      have ho : openL f = if frameP t = f then t else [] := by
        unfold openL; rw [hF, hmt]; by_cases hq : frameP t = f <;> simp [hq]
      have hfx : ∀ x ∈ frameP t, x < 256 := frameP_lt t hxt
      have hfl : (frameP t).length ≤ 1004 := by rw [frameP_len]; omega
      have HO := Lib.hid ho; have HF := Lib.hid hF; have HE := Lib.hid hE; have HL := Lib.hid hL
      have hq := strB_beq hfx HX.out
      obtain ⟨d, hd⟩ : ∃ d, d = decide (frameP t = f) := ⟨_, rfl⟩
      rw [← hd] at hq
      have hF2 : isF f = d := by rw [hF, hd]
      have ho2 : openL f = if d then t else [] := by rw [ho, hd]; by_cases hh : frameP t = f <;> simp [hh]
      have HO := Lib.hid ho2; have HF := Lib.hid hF2; have HE := Lib.hid hE; have HL := Lib.hid hL
      clear ho hF hE hL hxt hmt h4 hl2 hd hF2 ho2 hfx
      go_enter Try.func50, Try.ntmps50
      go_wp2_with fail
      refine (rframe_any HD2.out htl HXT.out).mono ?_
      rintro e w1 ⟨v1, rfl, k1⟩
      rw [HL.out] at k1
      rw [HE.out]
      have hst1 := k1.own.rd.str
      have hst2 := (H.out.kpNo k1.kp).str
      obtain ⟨A3, c3, rfl⟩ := k1.own.rd.shape
      have K1 := Lib.hid k1
      clear k1
      cases d with
      | true =>
        go_wp2
        go_ret2
        exact ⟨.slice A2 t.length c2, by rw [HF.out]; rfl, by rw [HO.out]; exact HD2.out.kpNo K1.out.kp, K1.out.kp⟩
      | false =>
        go_wp2
        go_ret2
        exact ⟨.slice none 0 0, by rw [HF.out]; rfl, by rw [HO.out]; exact Rd.nil _ _, K1.out.kp⟩
    · have hE : frameE t = 4 := by simp [frameE, h1]
      have hF : isF f = false := by unfold isF; rw [decide_eq_false (show ¬ f.length ≤ 1004 by omega)]; simp
      have ho : openL f = [] := by unfold openL; rw [hF]; rfl
      have HO := Lib.hid ho; have HF := Lib.hid hF; have HE := Lib.hid hE
      clear ho hF hE hxt hmt h4 hl2
      go_enter Try.func50, Try.ntmps50
      go_wp2_with fail
      refine (rframe_any HD2.out htl HXT.out).mono ?_
      rintro e w1 ⟨v1, rfl, k1⟩
      rw [HE.out]
      obtain ⟨A3, c3, rfl⟩ := k1.own.rd.shape
      have K1 := Lib.hid k1
      clear k1
      go_wp2
      go_ret2
      exact ⟨.slice none 0 0, by rw [HF.out]; rfl, by rw [HO.out]; exact Rd.nil _ _, K1.out.kp⟩
end Go.Proofs.Ytnejjjoedmefkaa
