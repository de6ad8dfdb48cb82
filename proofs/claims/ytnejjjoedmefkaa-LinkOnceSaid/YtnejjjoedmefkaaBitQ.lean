/- Bits, plain: laying one more bit; the model's operations on bits. -/
import Derived.Test.YtnejjjoedmefkaaBitP
import Derived.Laws.Bits64b
namespace Go.Proofs.Ytnejjjoedmefkaa
set_option linter.unusedVariables false
set_option linter.unusedSimpArgs false

theorem packB_append8 (l m : List Bool) (h : l.length % 8 = 0) : packB (l ++ m) = packB l ++ packB m := by
  induction hn : l.length using Nat.strongRecOn generalizing l with
  | _ n ih =>
    by_cases hl : l = []
    · subst hl; rw [packB_nil]; rfl
    · have hp : 0 < l.length := List.length_pos_iff.2 hl
      have h8 : 8 ≤ l.length := by omega
      have hne : l ++ m ≠ [] := by simp [hl]
      rw [packB_ne hne, packB_ne hl, List.take_append_of_le_length h8, List.drop_append_of_le_length h8, ih (l.drop 8).length (by rw [← hn, List.length_drop]; omega) (l.drop 8) (by rw [List.length_drop]; omega) rfl]
      rfl
theorem packB_small (c : List Bool) (h : 0 < c.length) (h8 : c.length ≤ 8) : packB c = [byteOf c] := by
  rw [packB_ne (by intro e; subst e; simp at h), List.take_of_length_le h8, List.drop_eq_nil_of_le h8, packB_nil]
/-- The last, unfinished byte. -/
def lastB (l : List Bool) : List Bool := l.drop (8 * (l.length / 8))
theorem lastB_len (l : List Bool) : (lastB l).length = l.length % 8 := by unfold lastB; rw [List.length_drop]; omega
theorem packB_last (l : List Bool) (b : Bool) : packB (l ++ [b]) = packB (l.take (8 * (l.length / 8))) ++ [byteOf (lastB l ++ [b])] := by
  have h1 : l ++ [b] = l.take (8 * (l.length / 8)) ++ (lastB l ++ [b]) := by unfold lastB; rw [← List.append_assoc, List.take_append_drop]
  have h2 : (l.take (8 * (l.length / 8))).length = 8 * (l.length / 8) := by rw [List.length_take]; omega
  have h3 := lastB_len l
  rw [h1, packB_append8 _ _ (by rw [h2]; omega), packB_small (lastB l ++ [b]) (by simp) (by rw [List.length_append, h3, List.length_singleton]; omega)]
theorem packB_head_len (l : List Bool) : (packB (l.take (8 * (l.length / 8)))).length = l.length / 8 := by
  rw [packB_len, List.length_take]; omega
theorem packB_false (l : List Bool) : packB (l ++ [false]) = if l.length % 8 = 0 then packB l ++ [0] else packB l := by
  split
  · rename_i h
    rw [packB_append8 l [false] h]
    congr 1
    rw [packB_small _ (by simp) (by simp)]
    rfl
  · rename_i h
    exact packB_zeros l 1 (by omega)
theorem or_fact : ∀ k : Fin 8, ∀ y : Fin 128, (2 * y.val) * 2 ^ (7 - k.val) ||| (128 / 2 ^ k.val) = (2 * y.val + 1) * 2 ^ (7 - k.val) := by decide
theorem byteOf_bit (c : List Bool) (b : Bool) (h : c.length < 8) : byteOf (c ++ [b]) = (2 * bval c + b.toNat) * 2 ^ (7 - c.length) := by
  unfold byteOf
  rw [bval_append, bval_snoc, List.length_replicate, List.length_append, List.length_singleton]
  have : ∀ n, bval (List.replicate n false) = 0 := by
    intro n
    induction n with
    | zero => rfl
    | succ n ih => rw [List.replicate_succ, bval_cons, ih]; simp
  rw [this, show 8 - (c.length + 1) = 7 - c.length by omega]
  rfl
theorem byteOf_or (c : List Bool) (h : c.length < 8) : byteOf (c ++ [true]) = byteOf (c ++ [false]) ||| (128 / 2 ^ c.length) := by
  rw [byteOf_bit c _ h, byteOf_bit c _ h]
  have hlt := bval_lt c
  have : 2 ^ c.length ≤ 2 ^ 7 := Nat.pow_le_pow_right (by decide) (by omega)
  exact (or_fact ⟨c.length, h⟩ ⟨bval c, by omega⟩).symm
/-- A bit that is 1 is laid into the byte where a 0 was laid. -/
theorem packB_true (l : List Bool) : ∃ x, (packB (l ++ [false]))[l.length / 8]? = some x ∧ x < 256 ∧ packB (l ++ [true]) = (packB (l ++ [false])).set (l.length / 8) (x ||| (128 / 2 ^ (l.length % 8))) := by
  have h3 := lastB_len l
  have hh := packB_head_len l
  refine ⟨byteOf (lastB l ++ [false]), ?_, byteOf_lt _ (by rw [List.length_append, h3, List.length_singleton]; omega), ?_⟩
  · rw [packB_last, List.getElem?_append_right (by omega), hh]; simp
  · rw [packB_last, packB_last, List.set_append_right _ _ (by omega), hh, Nat.sub_self, byteOf_or _ (by omega), h3]
    rfl
end Go.Proofs.Ytnejjjoedmefkaa
