/- carfaxref01: Bytes. -/
import Derived.Test.YtnejjjoedmefkaaRefC
namespace Go.Proofs.Ytnejjjoedmefkaa
set_option linter.unusedVariables false
set_option linter.unusedSimpArgs false
open Go.RowKit

theorem pow_fact : ∀ k : Fin 8, 128 / 2 ^ k.val = 2 ^ (7 - k.val) := by decide
theorem byteOf_add (c : List Bool) (h : c.length < 8) : byteOf (c ++ [true]) = byteOf (c ++ [false]) + 128 / 2 ^ c.length := by
  rw [byteOf_bit c _ h, byteOf_bit c _ h, pow_fact ⟨c.length, h⟩]
  simp only [Bool.toNat_true, Bool.toNat_false, Nat.add_zero, Nat.add_mul, Nat.one_mul]
theorem packB_trueA (l : List Bool) : ∃ x, (packB (l ++ [false]))[l.length / 8]? = some x ∧ x + 128 / 2 ^ (l.length % 8) < 256 ∧ packB (l ++ [true]) = (packB (l ++ [false])).set (l.length / 8) (x + 128 / 2 ^ (l.length % 8)) := by
  have h3 := lastB_len l
  have hh := packB_head_len l
  have ha := byteOf_add (lastB l) (by omega)
  rw [h3] at ha
  refine ⟨byteOf (lastB l ++ [false]), ?_, ?_, ?_⟩
  · rw [packB_last, List.getElem?_append_right (by omega), hh]; simp
  · rw [← ha]; exact byteOf_lt _ (by rw [List.length_append, h3, List.length_singleton]; omega)
  · rw [packB_last, packB_last, List.set_append_right _ _ (by omega), hh, Nat.sub_self, ← ha]
    rfl
theorem Rd.bitAt {w : World} {l : List Bool} {g o n cap : Nat} (h : Rd QK w (.slice (some ⟨g, o, none⟩) n cap) l) {i : Nat} {x : Bool} (hx : l[i]? = some x) : w.cell? ⟨g, o + i, none⟩ = some (.bool x) := by
  have := h.at rfl hx (j := 0) rfl
  simpa [QK] using this
end Go.Proofs.Ytnejjjoedmefkaa
