/- slices.Delete at windows. -/
import Derived.Test.YtihnbgokkhbjnaaWinA4
import Derived.StillTailTactics
namespace Go.Proofs.Ytihnbgokkhbjnaa
set_option linter.unusedVariables false
set_option linter.unusedSimpArgs false
open Go.RowKit

theorem zeroW : ∀ z, (Try.prog.info? 23).bind (·.zero) = some z → ∀ v ∈ z.cells.toList, v.oneCell' = true := by
  intro z hz
  obtain ⟨i, hi, h0, _, _⟩ := info_parts (P := Try.prog) (e := 23) (z := .agg #[.int .i64 0, .int .i64 0]) (size := 2) (bytes := 16) (by kernel_rfl)
  rw [hi] at hz
  simp only [Option.bind_some, h0, Option.some.injEq] at hz
  subst hz
  intro v hv
  simp [Value.cells] at hv
  subst hv; rfl

theorem delete_any (g cap : Nat) (l : List (Int × Int)) (i n : Nat) (w : World) (hn : n = l.length) (hi : i < l.length) (hl : l.length ≤ 1000000) (hlc : l.length ≤ cap) (hcm : cap ≤ maxLen)
    (hB : OwnB WK 23 w g cap l) (x y : Int) (hx : x = i) (hy : y = i + 1) :
    Calls Try.prog 33 #[.slice (some ⟨g, 0, none⟩) n cap, .int .i64 x, .int .i64 y] w fun e w' =>
      e = .returned (.slice (some ⟨g, 0, none⟩) (l.eraseIdx i).length cap) ∧ Kp (fun k => k = g) w w' ∧ OwnB WK 23 w' g cap (l.eraseIdx i) := by
  have hne : (x == y) = false := by simp; omega
  obtain ⟨n1, hn1⟩ : ∃ n1, n = n1 + 1 := ⟨n - 1, by omega⟩
  have hlen : (l.eraseIdx i).length = n1 := by rw [List.length_eraseIdx_of_lt hi]; omega
  have hels : l.take i ++ l.drop (i + 1) = l.eraseIdx i := (List.eraseIdx_eq_take_drop_succ l i).symm
  obtain ⟨o1, _, s1⟩ := run_slice_3 elW g 0 n cap i (i + 1) n (by omega) (by omega) (by omega) x y n hx (by omega) rfl
  have s2 := run_slice_hi elW g 0 n cap i (by omega) x hx
  obtain ⟨o2, ho2, s3⟩ := run_slice_lo elW g 0 n cap (i + 1) (by omega) y (by omega)
  obtain ⟨o3, ho3, s4⟩ := run_slice_lohi elW g 0 n1 cap n1 n (by omega) (by omega) n1 n rfl rfl
  obtain ⟨w1, hap, hB1, hK1⟩ := (hB.take i).drew.appended elW (l.drop (i + 1)) (by simp; omega) i (n - (i + 1)) n1 (some ⟨g, o2, none⟩) (cap - (i + 1)) (by simp; omega) (by simp; omega) (by simp; omega)
    (fun hpos => ⟨g, o2, rfl, fun j u hu => by
      rw [List.length_drop] at hpos
      rw [ho2 (by omega), Nat.zero_add]
      rw [← WK.encs_drop, List.getElem?_drop] at hu
      exact hB.drew.cells _ u hu⟩)
  rw [hels] at hB1
  obtain ⟨w2, hcl, hB2, hK2⟩ := hB1.cleared elW zeroW o3 (n - n1) (cap - n1) (fun h => by rw [ho3 (by omega), hlen]; show 0 + n1 * 2 = n1 * 2; omega) (by omega)
  have HB := Lib.hid hB2; have HK := Lib.hid (hK1.trans hK2); have HL := Lib.hid hlen; have HA := Lib.hid hap; have HC := Lib.hid hcl
  clear hB hB1 hB2 hK1 hK2 hlen hap hcl hels hx hy hn hn1 ho2 ho3
  unfold maxLen at hcm
  go_enter Try.func33, Try.ntmps33
  go_wp2
  go_still_tail 6, (by kernel_rfl)
  change wpList _ _ _ _ _ w.drew
  go_wp2_with (first | (at_builtin; refine wpl_runAppend rfl (.tmp 22) (.tmp 25) 30 30 rfl rfl rfl HA.out ?_) | (refine wpl_runClear rfl (.tmp 31) 30 rfl rfl HC.out ?_))
  go_ret
  refine ⟨by rw [HL.out]; rfl, (Kp.refl (fun k => k = g) w).drew.trans HK.out, HB.out⟩
end Go.Proofs.Ytihnbgokkhbjnaa
