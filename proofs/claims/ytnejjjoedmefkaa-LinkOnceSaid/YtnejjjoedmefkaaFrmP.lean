/- Frames, as plain lists. -/
import Derived.Test.YtnejjjoedmefkaaCrc
import Derived.Test.YtnejjjoedmefkaaBitQ
namespace Go.Proofs.Ytnejjjoedmefkaa
set_option linter.unusedVariables false
set_option linter.unusedSimpArgs false

/-- A number's two bytes. -/
def twoP (n : Nat) : List Nat := packB (nbits n 16)
theorem twoP_len (n : Nat) : (twoP n).length = 2 := by unfold twoP; rw [packB_len, nbits_len]
theorem twoP_lt (n : Nat) : ∀ x ∈ twoP n, x < 256 := packB_lt _
theorem unpackB_len2 (l : List Nat) : (unpackB l).length = 8 * l.length := by
  induction l with
  | nil => rfl
  | cons a l ih =>
    have : unpackB (a :: l) = nbits a 8 ++ unpackB l := by simp [unpackB]
    rw [this, List.length_append, ih, nbits_len, List.length_cons]; omega
/-- The number of two bytes. -/
def valP (l : List Nat) : Nat := bval (unpackB l)
theorem valP_lt (l : List Nat) (h : l.length = 2) : valP l < 65536 := by
  have := bval_lt (unpackB l)
  rw [unpackB_len2, h] at this
  exact this
theorem twoP_valP (l : List Nat) (h : l.length = 2) (hl : ∀ x ∈ l, x < 256) : twoP (valP l) = l := by
  unfold twoP valP
  have := nbits_bval (unpackB l)
  rw [unpackB_len2, h] at this
  rw [this, pack_unpack l hl]
theorem valP_twoP (n : Nat) (h : n < 65536) : valP (twoP n) = n := by
  unfold twoP valP
  rw [unpack_pack, nbits_len]
  rw [show 8 * ((16 + 7) / 8) - 16 = 0 from rfl, List.replicate_zero, List.append_nil, bval_nbits]
  exact Nat.mod_eq_of_lt h

/-- The frame of bytes. -/
def frameP (b : List Nat) : List Nat := (twoP b.length ++ b) ++ twoP (crc 65535 (twoP b.length ++ b))
theorem frameP_len (b : List Nat) : (frameP b).length = b.length + 4 := by unfold frameP; simp only [List.length_append, twoP_len]; omega
theorem frameP_lt (b : List Nat) (h : ∀ x ∈ b, x < 256) : ∀ x ∈ frameP b, x < 256 := by
  intro x hx
  unfold frameP at hx
  rcases List.mem_append.1 hx with hx | hx
  · rcases List.mem_append.1 hx with hx | hx
    · exact twoP_lt _ x hx
    · exact h x hx
  · exact twoP_lt _ x hx
def midP (f : List Nat) : List Nat := (f.drop 2).take (f.length - 2 - 2)
theorem midP_len (f : List Nat) (h : 4 ≤ f.length) : (midP f).length = f.length - 4 := by unfold midP; rw [List.length_take, List.length_drop]; omega
theorem midP_frameP (b : List Nat) : midP (frameP b) = b := by
  unfold midP
  rw [frameP_len]
  unfold frameP
  rw [List.append_assoc, List.drop_append_of_le_length (by rw [twoP_len]; exact Nat.le_refl _), List.drop_eq_nil_of_le (by rw [twoP_len]; exact Nat.le_refl _), List.nil_append, List.take_append_of_le_length (by omega), List.take_of_length_le (by omega)]
/-- Are bytes a frame? -/
def isF (f : List Nat) : Bool := decide (4 ≤ f.length) && decide (f.length ≤ 1004) && decide (frameP (midP f) = f)

/-- What the program looks at. -/
def sizeP (f : List Nat) : Nat :=
  if f.length < 4 then 0 else if f.length < valP (f.take 2) + 4 ∨ 1004 < valP (f.take 2) + 4 then 0
  else if valP ((f.drop (valP (f.take 2) + 4 - 2)).take 2) = crc 65535 (f.take (valP (f.take 2) + 4 - 2)) then valP (f.take 2) + 4 else 0

theorem isF_frameP (b : List Nat) (h : b.length ≤ 1000) : isF (frameP b) = true := by
  unfold isF
  rw [midP_frameP, frameP_len]
  simp; omega

theorem take_frame (b : List Nat) : (frameP b).take 2 = twoP b.length := by
  unfold frameP
  rw [List.append_assoc, List.take_append_of_le_length (by rw [twoP_len]; exact Nat.le_refl _), List.take_of_length_le (by rw [twoP_len]; exact Nat.le_refl _)]

theorem sizeP_isF (f : List Nat) (hf : ∀ x ∈ f, x < 256) : (sizeP f = f.length ∧ f.length ≠ 0) ↔ isF f = true := by
  constructor
  · rintro ⟨h, h0⟩
    unfold sizeP at h
    split at h
    · omega
    · split at h
      · omega
      · split at h
        · rename_i h4 hr hs
          have hm : (midP f).length = f.length - 4 := midP_len f (by omega)
          have hv : valP (f.take 2) = f.length - 4 := by omega
          have ht : (f.take 2).length = 2 := by rw [List.length_take]; omega
          have e1 : twoP (midP f).length = f.take 2 := by rw [hm, ← hv]; exact twoP_valP _ ht fun x hx => hf x (List.mem_of_mem_take hx)
          have e2 : f.take 2 ++ midP f = f.take (f.length - 2) := by
            unfold midP
            rw [show f.length - 2 = 2 + (f.length - 2 - 2) by omega, List.take_add]
            simp
          have hd : f.length - 4 + 4 - 2 = f.length - 2 := by omega
          rw [hv, hd] at hs
          have hl2 : ((f.drop (f.length - 2)).take 2) = f.drop (f.length - 2) := List.take_of_length_le (by rw [List.length_drop]; omega)
          rw [hl2] at hs
          have e3 : frameP (midP f) = f := by
            unfold frameP
            rw [e1, e2, ← hs, twoP_valP _ (by rw [List.length_drop]; omega) fun x hx => hf x (List.mem_of_mem_drop hx), List.take_append_drop]
          unfold isF
          rw [e3]
          simp; omega
        · omega
  · intro h
    unfold isF at h
    simp only [Bool.and_eq_true, decide_eq_true_eq] at h
    obtain ⟨⟨h1, h2⟩, h3⟩ := h
    refine ⟨?_, by omega⟩
    have hm : (midP f).length = f.length - 4 := midP_len f h1
    generalize midP f = b at *
    subst h3
    rw [frameP_len] at *
    have hv : valP ((frameP b).take 2) = b.length := by rw [take_frame, valP_twoP _ (by omega)]
    unfold sizeP
    rw [hv, frameP_len, if_neg (by omega), if_neg (by omega)]
    have hA : (twoP b.length ++ b).length = b.length + 4 - 2 := by rw [List.length_append, twoP_len]; omega
    have e1 : (frameP b).take (b.length + 4 - 2) = twoP b.length ++ b := by
      unfold frameP
      rw [List.take_append_of_le_length (by omega), List.take_of_length_le (by omega)]
    have e2 : ((frameP b).drop (b.length + 4 - 2)).take 2 = twoP (crc 65535 (twoP b.length ++ b)) := by
      unfold frameP
      rw [List.drop_append_of_le_length (by omega), List.drop_eq_nil_of_le (by omega), List.nil_append, List.take_of_length_le (by rw [twoP_len]; exact Nat.le_refl _)]
    rw [e1, e2, valP_twoP _ (crc_lt _ (by decide) _), if_pos rfl]
end Go.Proofs.Ytnejjjoedmefkaa
