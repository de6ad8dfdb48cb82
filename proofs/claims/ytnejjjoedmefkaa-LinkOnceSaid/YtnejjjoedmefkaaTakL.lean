/- What was laid is read back. -/
import Derived.Test.YtnejjjoedmefkaaTakP
namespace Go.Proofs.Ytnejjjoedmefkaa
set_option linter.unusedVariables false
set_option linter.unusedSimpArgs false

theorem unpack_inj {a b : List Nat} (ha : ∀ x ∈ a, x < 256) (hb : ∀ x ∈ b, x < 256) (h : unpackB a = unpackB b) : a = b := by
  rw [← pack_unpack a ha, ← pack_unpack b hb, h]

theorem nbits_head (m k : Nat) (h1 : 2 ^ k ≤ m) (h2 : m < 2 ^ (k + 1)) : (nbits m (k + 1))[0]? = some true := by
  rw [nbits_get m (k + 1) 0 (by omega)]
  have : m / 2 ^ k = 1 := by
    rw [Nat.div_eq_iff (Nat.two_pow_pos k)]
    rw [Nat.pow_succ] at h2
    omega
  rw [show k + 1 - 1 - 0 = k by omega, this]; rfl

/-- A count, read off the head of bits. -/
theorem rc_lay (n : Nat) (hn : n < 18446744073709551615) (t : List Bool) (L : List Bool) (p : Nat) (hL : L.drop p = cbits n ++ t) (hp : p ≤ L.length) :
    rcOk L p 0 ∧ rcV L p 0 = n + 1 ∧ zerosL (L.drop p) = blen (n + 1) - 1 ∧ rcN L p 0 = p + (cbits n).length ∧ rcF L p 0 = 0 := by
  obtain ⟨k, hk⟩ : ∃ k, blen (n + 1) = k + 1 := ⟨blen (n / 2 + 0) + 0 + (blen (n + 1) - 1 - blen (n / 2 + 0)), by
    have := blen_bound (n + 1)
    have h0 : blen (n + 1) ≠ 0 := by rw [blen_pos (by omega)]; omega
    have h1 : blen (n / 2) ≤ blen (n + 1) - 1 := by
      rw [blen_pos (n := n + 1) (by omega), Nat.add_sub_cancel]
      rcases Nat.lt_or_ge (n / 2) ((n + 1) / 2) with h | h
      · by_cases h0 : n / 2 = 0
        · rw [h0, blen_zero]; omega
        · have b1 := (blen_bound ((n + 1) / 2)).1
          exact blen_le (by omega)
      · rw [show (n + 1) / 2 = n / 2 by omega]; exact Nat.le_refl _
    simp only [Nat.add_zero]
    omega⟩
  have hb := blen_bound (n + 1)
  have hb1 := hb.1
  have hb2 := hb.2 (by omega)
  rw [hk] at hb1 hb2
  rw [Nat.add_sub_cancel] at hb2
  have hc : cbits n = List.replicate k false ++ nbits (n + 1) (k + 1) := by unfold cbits; rw [hk, Nat.add_sub_cancel]
  have hk63 : k ≤ 63 := by have := blen_le64 (n + 1) (by omega); omega
  have hlen : (L.drop p).length = 2 * k + 1 + t.length := by rw [hL, hc]; simp only [List.length_append, List.length_replicate, nbits_len]; omega
  have hlen2 := hlen
  rw [List.length_drop] at hlen2
  have hz : zerosL (L.drop p) = k := by
    refine zerosL_eq _ k (by omega) (fun j hj => ?_) (.inr ?_)
    · rw [hL, hc, List.append_assoc, List.getElem?_append_left (by simpa using hj), List.getElem?_replicate, if_pos hj]
    · rw [hL, hc, List.append_assoc, List.getElem?_append_right (by simp), List.length_replicate, Nat.sub_self, List.getElem?_append_left (by rw [nbits_len]; omega)]
      exact nbits_head _ _ hb2 hb1
  have hok : rcOk L p 0 := ⟨rfl, by omega, by rw [hz]; omega⟩
  have hcl : (cbits n).length = 2 * k + 1 := by rw [hc]; simp only [List.length_append, List.length_replicate, nbits_len]; omega
  refine ⟨hok, ?_, by rw [hz, hk]; rfl, ?_, ?_⟩
  · unfold rcV
    rw [if_pos hok, hz]
    have hd : L.drop (p + k) = nbits (n + 1) (k + 1) ++ t := by
      rw [← List.drop_drop, hL, hc, List.append_assoc, List.drop_append_of_le_length (by simp), List.drop_eq_nil_of_le (by simp), List.nil_append]
    rw [hd, List.take_append_of_le_length (by rw [nbits_len]; exact Nat.le_refl _), List.take_of_length_le (by rw [nbits_len]; exact Nat.le_refl _), bval_nbits]
    exact Nat.mod_eq_of_lt hb1
  · unfold rcN
    rw [if_pos hok, hz, hcl]
  · unfold rcF
    rw [if_pos rfl, hz, if_neg (by omega), if_pos (by omega)]

theorem take_lay (h : Bool) (n : Nat) (d : List Nat) (hd : ∀ x ∈ d, x < 256) (hb : layBad h n d = 0) (hn : n < 18446744073709551616) :
    tOk (unpackB (packB (layBits h n d))) = true ∧ tH (unpackB (packB (layBits h n d))) = h ∧ tC (unpackB (packB (layBits h n d))) = n ∧ tD (unpackB (packB (layBits h n d))) = d := by
  have hc : d.length ≤ 200 ∧ n < 18446744073709551615 ∧ (h = true → d = []) := by
    rcases layBad_cases h n d with ⟨_, e⟩ | ⟨_, _, e⟩ | ⟨_, _, _, _, e⟩ | ⟨a, b, c, e⟩
    · rw [e] at hb; exact absurd hb (by decide)
    · rw [e] at hb; exact absurd hb (by decide)
    · rw [e] at hb; exact absurd hb (by decide)
    · exact ⟨a, by omega, c⟩
  obtain ⟨hd2, hn1, hh⟩ := hc
  rw [unpack_pack]
  obtain ⟨r, hr, hr7⟩ : ∃ r, r = 8 * (((layBits h n d).length + 7) / 8) - (layBits h n d).length ∧ r ≤ 7 := ⟨_, rfl, by omega⟩
  rw [← hr]
  clear hr
  obtain ⟨L, hLe⟩ : ∃ L, L = layBits h n d ++ List.replicate r false := ⟨_, rfl⟩
  rw [← hLe]
  have hL1 : L = h :: (cbits n ++ (unpackB d ++ List.replicate r false)) := by rw [hLe]; unfold layBits; simp
  have hd1 : L.drop 1 = cbits n ++ (unpackB d ++ List.replicate r false) := by rw [hL1]; rfl
  have hlen : L.length = 1 + (cbits n).length + 8 * d.length + r := by rw [hL1]; simp only [List.length_cons, List.length_append, unpackB_len2, List.length_replicate]; omega
  have e1 : rgetV L 0 0 1 = h.toNat := by
    unfold rgetV
    rw [if_pos ⟨rfl, by omega⟩, hL1]
    cases h <;> rfl
  have e2 : tN1 L = 1 := by unfold tN1 rgetN; rw [if_pos ⟨rfl, by omega⟩]
  have e3 : tF1 L = 0 := by unfold tF1 rgetF; rw [if_pos rfl, if_pos (by omega)]
  have eH : tH L = h := by unfold tH; rw [e1]; cases h <;> rfl
  obtain ⟨r1, r2, r3, r4, r5⟩ := rc_lay n hn1 _ L 1 hd1 (by omega)
  have eC : tC L = n := by unfold tC; rw [e2, e3, if_pos r1, r2]; rfl
  have eN : tN L = 1 + (cbits n).length := by unfold tN; rw [e2, e3, r4]
  have eF : tF L = 0 := by unfold tF; rw [e2, e3, r5]
  have eK : tK L = d.length := by
    unfold tK
    rw [eH, eN]
    by_cases hh1 : h = true
    · rw [if_pos hh1, hh hh1]; rfl
    · rw [if_neg hh1]; omega
  have hdn : L.drop (tN L) = unpackB d ++ List.replicate r false := by
    rw [eN, ← List.drop_drop, hd1, List.drop_append_of_le_length (Nat.le_refl _), List.drop_eq_nil_of_le (Nat.le_refl _), List.nil_append]
  have eD : tD L = d := by
    unfold tD
    refine unpack_inj (dataP_lt _ _ _) hd ?_
    rw [unpack_dataP _ _ _ (by rw [eN, eK]; omega), hdn, eK, List.take_append_of_le_length (by rw [unpackB_len2]; exact Nat.le_refl _), List.take_of_length_le (by rw [unpackB_len2]; exact Nat.le_refl _)]
  refine ⟨?_, eH, eC, eD⟩
  unfold tOk
  simp only [Bool.and_eq_true, decide_eq_true_eq]
  refine ⟨⟨eF, by omega⟩, ?_⟩
  have hdr : L.drop (tN L + 8 * tK L) = List.replicate r false := by
    rw [← List.drop_drop, hdn, eK, List.drop_append_of_le_length (by rw [unpackB_len2]; exact Nat.le_refl _), List.drop_eq_nil_of_le (by rw [unpackB_len2]; exact Nat.le_refl _), List.nil_append]
  unfold rendV
  rw [if_pos rfl, if_neg (by rw [eN, eK, hlen]; omega), hdr, if_neg]
  intro e
  rw [List.any_eq_true] at e
  obtain ⟨x, hx, hx2⟩ := e
  have := (List.mem_replicate.1 hx).2
  subst this
  exact absurd hx2 (by decide)
end Go.Proofs.Ytnejjjoedmefkaa
