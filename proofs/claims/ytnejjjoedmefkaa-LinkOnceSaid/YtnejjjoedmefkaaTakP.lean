/- Packets out of bytes, as plain lists. -/
import Derived.Test.YtnejjjoedmefkaaLayB
import Derived.Test.YtnejjjoedmefkaaRefI
namespace Go.Proofs.Ytnejjjoedmefkaa
set_option linter.unusedVariables false
set_option linter.unusedSimpArgs false

def dataP (L : List Bool) (n k : Nat) : List Nat := (List.range k).map fun i => bval ((L.drop (n + 8 * i)).take 8)
def tH (L : List Bool) : Bool := decide (rgetV L 0 0 1 = 1)
def tN1 (L : List Bool) : Nat := rgetN L 0 0 1
def tF1 (L : List Bool) : Int := rgetF L 0 0 1
def tC (L : List Bool) : Nat := if rcOk L (tN1 L) (tF1 L) then rcV L (tN1 L) (tF1 L) - 1 else 0
def tN (L : List Bool) : Nat := rcN L (tN1 L) (tF1 L)
def tF (L : List Bool) : Int := rcF L (tN1 L) (tF1 L)
def tK (L : List Bool) : Nat := if tH L then 0 else (L.length - tN L) / 8
def tOk (L : List Bool) : Bool := decide (tF L = 0) && decide (tK L ≤ 200) && decide (rendV L (tN L + 8 * tK L) 0 = 0)
def tD (L : List Bool) : List Nat := dataP L (tN L) (tK L)

theorem dataP_len (L : List Bool) (n k : Nat) : (dataP L n k).length = k := by simp [dataP]
theorem dataP_succ (L : List Bool) (n k : Nat) : dataP L n (k + 1) = dataP L n k ++ [bval ((L.drop (n + 8 * k)).take 8)] := by
  unfold dataP; rw [List.range_succ, List.map_append]; rfl
theorem bval8 (l : List Bool) : bval (l.take 8) < 256 := by
  have h1 := bval_lt (l.take 8)
  have h2 : (l.take 8).length ≤ 8 := List.length_take_le ..
  have h3 : 2 ^ (l.take 8).length ≤ 2 ^ 8 := Nat.pow_le_pow_right (by decide) h2
  omega
theorem dataP_lt (L : List Bool) (n k : Nat) : ∀ x ∈ dataP L n k, x < 256 := by
  intro x hx
  unfold dataP at hx
  simp only [List.mem_map] at hx
  obtain ⟨i, _, rfl⟩ := hx
  exact bval8 _
theorem unpackB_append (a b : List Nat) : unpackB (a ++ b) = unpackB a ++ unpackB b := by simp [unpackB]
theorem unpack_dataP (L : List Bool) (n : Nat) : ∀ k, n + 8 * k ≤ L.length → unpackB (dataP L n k) = (L.drop n).take (8 * k) := by
  intro k
  induction k with
  | zero => intro _; simp [dataP, unpackB]
  | succ k ih =>
    intro h
    have hl : ((L.drop (n + 8 * k)).take 8).length = 8 := by rw [List.length_take, List.length_drop]; omega
    have e : nbits (bval ((L.drop (n + 8 * k)).take 8)) 8 = (L.drop (n + 8 * k)).take 8 := by
      have := nbits_bval ((L.drop (n + 8 * k)).take 8)
      rwa [hl] at this
    rw [dataP_succ, unpackB_append, ih (by omega)]
    have e2 : unpackB [bval ((L.drop (n + 8 * k)).take 8)] = nbits (bval ((L.drop (n + 8 * k)).take 8)) 8 := by simp [unpackB]
    rw [e2, e, show 8 * (k + 1) = 8 * k + 8 by omega, List.take_add, List.drop_drop]

theorem tF_cases (L : List Bool) (h : tF L = 0) : tF1 L = 0 ∧ rcOk L (tN1 L) 0 ∧ 1 ≤ L.length ∧ tN1 L = 1 := by
  unfold tF at h
  have hf : tF1 L = 0 := by
    by_cases hf : tF1 L = 0
    · exact hf
    · unfold rcF at h; rw [if_neg hf] at h; exact absurd h hf
  have h1 : 1 ≤ L.length := by
    rcases Nat.lt_or_ge 0 L.length with h1 | h1
    · exact h1
    · unfold tF1 rgetF at hf
      rw [if_pos rfl, if_neg (by omega)] at hf
      exact absurd hf (by decide)
  have hn : tN1 L = 1 := by unfold tN1 rgetN; rw [if_pos ⟨rfl, by omega⟩]
  refine ⟨hf, ?_, h1, hn⟩
  rw [hf] at h
  unfold rcF at h
  rw [if_pos rfl] at h
  refine ⟨rfl, ?_, ?_⟩
  · rcases Nat.lt_or_ge 63 (zerosL (L.drop (tN1 L))) with h2 | h2
    · rw [if_pos h2] at h; exact absurd h (by decide)
    · exact h2
  · by_cases h3 : 63 < zerosL (L.drop (tN1 L))
    · rw [if_pos h3] at h; exact absurd h (by decide)
    · rw [if_neg h3] at h
      by_cases h4 : tN1 L + (2 * zerosL (L.drop (tN1 L)) + 1) ≤ L.length
      · exact h4
      · rw [if_neg h4] at h; exact absurd h (by decide)

theorem zerosL_spec (l : List Bool) : l.take (zerosL l) = List.replicate (zerosL l) false ∧ (zerosL l < l.length → l[zerosL l]? = some true) := by
  induction l with
  | nil => simp [zerosL]
  | cons b l ih =>
    cases b with
    | true => simp [zerosL]
    | false =>
      have e : zerosL (false :: l) = zerosL l + 1 := by simp [zerosL]
      rw [e]
      refine ⟨by rw [List.take_succ_cons, ih.1, List.replicate_succ], fun h => ?_⟩
      rw [List.getElem?_cons_succ]
      exact ih.2 (by simpa using h)

theorem blen_of (m k : Nat) (h1 : 2 ^ k ≤ m) (h2 : m < 2 ^ (k + 1)) : blen m = k + 1 := by
  have b1 := blen_le h2
  have b2 := (blen_bound m).1
  rcases Nat.lt_or_ge (blen m) (k + 1) with h | h
  · have : 2 ^ blen m ≤ 2 ^ k := Nat.pow_le_pow_right (by decide) (by omega)
    omega
  · omega

/-- What a count that was read was laid of. -/
theorem rc_back (L : List Bool) (n : Nat) (h : rcOk L n 0) : rcV L n 0 ≠ 0 ∧ rcV L n 0 < 18446744073709551616 ∧ (L.drop n).take (2 * zerosL (L.drop n) + 1) = cbits (rcV L n 0 - 1) := by
  obtain ⟨_, h1, h2⟩ := h
  obtain ⟨z1, z2⟩ := zerosL_spec (L.drop n)
  have hv : rcV L n 0 = bval ((L.drop (n + zerosL (L.drop n))).take (zerosL (L.drop n) + 1)) := by unfold rcV; rw [if_pos ⟨rfl, h1, h2⟩]
  have hlt : zerosL (L.drop n) < (L.drop n).length := by rw [List.length_drop]; omega
  have hb := z2 hlt
  generalize zerosL (L.drop n) = k at *
  have hd : L.drop (n + k) = true :: L.drop (n + k + 1) := by
    rw [List.getElem?_drop] at hb
    have hl := (List.getElem?_eq_some_iff.1 hb).1
    rw [List.drop_eq_getElem_cons hl, (List.getElem?_eq_some_iff.1 hb).2]
  have hl : ((L.drop (n + k)).take (k + 1)).length = k + 1 := by rw [List.length_take, List.length_drop]; omega
  have hlo : 2 ^ k ≤ rcV L n 0 := by
    rw [hv, hd, List.take_succ_cons, bval_cons]
    have : ((L.drop (n + k + 1)).take k).length = k := by rw [List.length_take, List.length_drop]; omega
    rw [this]; simp
  have hhi : rcV L n 0 < 2 ^ (k + 1) := by rw [hv]; have := bval_lt ((L.drop (n + k)).take (k + 1)); rwa [hl] at this
  have hbl := blen_of _ _ hlo hhi
  have h64 : 2 ^ (k + 1) ≤ 2 ^ 64 := Nat.pow_le_pow_right (by decide) (by omega)
  have hpos : 0 < 2 ^ k := Nat.two_pow_pos k
  have hn1 : rcV L n 0 - 1 + 1 = rcV L n 0 := by omega
  refine ⟨by omega, by omega, ?_⟩
  unfold cbits
  rw [hn1, hbl, Nat.add_sub_cancel, hv]
  have hnb := nbits_bval ((L.drop (n + k)).take (k + 1))
  rw [hl] at hnb
  rw [hnb, show 2 * k + 1 = k + (k + 1) by omega, List.take_add, z1, List.drop_drop]

theorem rend_zero (L : List Bool) (n : Nat) (hn : n ≤ L.length) (h : rendV L n 0 = 0) : L.length - n ≤ 7 ∧ L.drop n = List.replicate (L.length - n) false := by
  unfold rendV at h
  rw [if_pos rfl] at h
  have h1 : L.length - n ≤ 7 := by
    rcases Nat.lt_or_ge 7 (L.length - n) with h1 | h1
    · rw [if_pos h1] at h; exact absurd h (by decide)
    · exact h1
  refine ⟨h1, ?_⟩
  rw [if_neg (by omega)] at h
  have h2 : ¬ (L.drop n).any id = true := fun e => by rw [if_pos e] at h; exact absurd h (by decide)
  rw [List.eq_replicate_iff]
  refine ⟨List.length_drop, fun b hb => ?_⟩
  cases b with
  | false => rfl
  | true => exact absurd (List.any_eq_true.2 ⟨true, hb, rfl⟩) h2

/-- What was read is what the bytes were laid of. -/
theorem take_back (x : List Nat) (hx : ∀ y ∈ x, y < 256) (h : tOk (unpackB x) = true) :
    layBad (tH (unpackB x)) (tC (unpackB x)) (tD (unpackB x)) = 0 ∧ packB (layBits (tH (unpackB x)) (tC (unpackB x)) (tD (unpackB x))) = x ∧ tC (unpackB x) < 18446744073709551615 := by
  have hpu := pack_unpack x hx
  have hl8 := unpackB_len2 x
  generalize unpackB x = L at *
  unfold tOk at h
  simp only [Bool.and_eq_true, decide_eq_true_eq] at h
  obtain ⟨⟨h1, h2⟩, h3⟩ := h
  obtain ⟨f1, ok, l1, n1⟩ := tF_cases L h1
  have hb := rc_back L (tN1 L) ok
  have hC : tC L = rcV L (tN1 L) 0 - 1 := by unfold tC; rw [f1, if_pos ok]
  have hN : tN L = tN1 L + (2 * zerosL (L.drop (tN1 L)) + 1) := by unfold tN rcN; rw [f1, if_pos ok]
  have hNl : tN L ≤ L.length := by rw [hN]; exact ok.2.2
  have hK : tN L + 8 * tK L ≤ L.length := by unfold tK; split <;> omega
  have hDl : (tD L).length = tK L := dataP_len ..
  have hClt : tC L < 18446744073709551615 := by omega
  have hHd : tH L = true → tD L = [] := fun e => by
    have : tK L = 0 := by unfold tK; rw [if_pos e]
    exact List.eq_nil_of_length_eq_zero (by omega)
  refine ⟨?_, ?_, hClt⟩
  · unfold layBad
    rw [if_neg (fun h => by rcases h with h | h <;> omega), if_neg (fun ⟨a, b⟩ => b (hHd a))]
  · obtain ⟨e1, e2⟩ := rend_zero L _ hK h3
    have hlay : layBits (tH L) (tC L) (tD L) = L.take (tN L + 8 * tK L) := by
      unfold layBits tD
      rw [unpack_dataP _ _ _ hK, hC, ← hb.2.2, show L.take (tN L + 8 * tK L) = L.take (tN L) ++ (L.drop (tN L)).take (8 * tK L) from List.take_add]
      congr 1
      rw [hN, n1]
      have hd : L = tH L :: L.drop 1 := by
        cases L with
        | nil => simp at l1
        | cons b L =>
          have : tH (b :: L) = b := by
            unfold tH rgetV
            rw [if_pos ⟨rfl, by simp⟩]
            cases b <;> simp [bval]
          rw [this]; rfl
      have ht1 : L.take 1 = [tH L] := by
        conv => lhs; rw [hd]
        rfl
      rw [show L.take (1 + (2 * zerosL (L.drop 1) + 1)) = L.take 1 ++ (L.drop 1).take (2 * zerosL (L.drop 1) + 1) from List.take_add, ht1]
    rw [hlay]
    have hz : L = L.take (tN L + 8 * tK L) ++ List.replicate (L.length - (tN L + 8 * tK L)) false := by
      rw [← e2, List.take_append_drop]
    have hpz := packB_zeros (L.take (tN L + 8 * tK L)) (L.length - (tN L + 8 * tK L)) (by rw [List.length_take]; omega)
    rw [← hz, hpu] at hpz
    exact hpz.symm
end Go.Proofs.Ytnejjjoedmefkaa
