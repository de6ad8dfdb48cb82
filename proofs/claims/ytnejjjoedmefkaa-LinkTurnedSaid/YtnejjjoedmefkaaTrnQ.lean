/- Bits that are turned: bytes and bits. -/
import Derived.Test.YtnejjjoedmefkaaTrnP
import Derived.Test.YtnejjjoedmefkaaBitS
namespace Go.Proofs.Ytnejjjoedmefkaa
set_option linter.unusedVariables false
set_option linter.unusedSimpArgs false

/-- The bits that are turned: of k bits from the first one on those that c has. -/
def maskL (n first c k : Nat) : List Bool := (List.range n).map fun i => decide (first ≤ i) && decide (i < first + k) && decide (c / 2 ^ (i - first) % 2 = 1)
theorem maskL_len (n first c k : Nat) : (maskL n first c k).length = n := by simp [maskL]
theorem maskL_get (n first c k i : Nat) (h : i < n) : (maskL n first c k)[i]? = some (decide (first ≤ i) && decide (i < first + k) && decide (c / 2 ^ (i - first) % 2 = 1)) := by
  unfold maskL
  rw [List.getElem?_map, List.getElem?_range h]; rfl
theorem xorL_len (a b : List Bool) (h : a.length = b.length) : (xorL a b).length = a.length := by unfold xorL; rw [List.length_zipWith]; omega
theorem xorL_get (a b : List Bool) (i : Nat) (x y : Bool) (hx : a[i]? = some x) (hy : b[i]? = some y) : (xorL a b)[i]? = some (Bool.xor x y) := by
  unfold xorL; rw [List.getElem?_zipWith, hx, hy]
theorem xorL_mask0 (a : List Bool) (first c : Nat) : xorL a (maskL a.length first c 0) = a := by
  refine List.ext_getElem? fun i => ?_
  rcases Nat.lt_or_ge i a.length with h | h
  · rw [xorL_get a _ i _ _ (List.getElem?_eq_getElem h) (maskL_get _ _ _ _ _ h), List.getElem?_eq_getElem h]
    have : (decide (first ≤ i) && decide (i < first + 0) && decide (c / 2 ^ (i - first) % 2 = 1)) = false := by
      by_cases h1 : first ≤ i
      · have : ¬ i < first + 0 := by omega
        simp [this]; omega
      · simp [h1]
    rw [this, Bool.xor_false]
  · rw [List.getElem?_eq_none (by rw [xorL_len _ _ (maskL_len _ _ _ _).symm]; exact h), List.getElem?_eq_none h]
/-- A bit that c has not. -/
theorem mask_skip (n first c k : Nat) (hc : ¬ c / 2 ^ k % 2 = 1) : maskL n first c (k + 1) = maskL n first c k := by
  unfold maskL
  refine List.map_congr_left fun i _ => ?_
  by_cases h : i = first + k
  · subst h
    rw [show first + k - first = k by omega, decide_eq_false hc, Bool.and_false, Bool.and_false]
  · have : decide (i < first + (k + 1)) = decide (i < first + k) := by simp only [decide_eq_decide]; omega
    rw [this]

theorem unpackB_at (B : List Nat) (i x : Nat) (hx : B[i / 8]? = some x) : (unpackB B)[i]? = some (decide (x / 2 ^ (7 - i % 8) % 2 = 1)) := by
  have h := unpackB_get B (i / 8) (i % 8) x hx (Nat.mod_lt _ (by decide))
  rwa [show 8 * (i / 8) + i % 8 = i by omega] at h
theorem byte_flip : ∀ x : Fin 256, ∀ m : Fin 8, ∀ j : Fin 8, decide ((x.val ^^^ 128 / 2 ^ m.val) / 2 ^ (7 - j.val) % 2 = 1) = Bool.xor (decide (x.val / 2 ^ (7 - j.val) % 2 = 1)) (decide (j.val = m.val)) := by decide +kernel

/-- A bit of a byte is turned. -/
theorem unpack_flip (B : List Nat) (first c k : Nat) (a : List Bool) (ha : a.length = 8 * B.length) (hB : ∀ x ∈ B, x < 256) (h : unpackB B = xorL a (maskL a.length first c k)) (hc : c / 2 ^ k % 2 = 1) (hk : first + k < a.length)
    (x : Nat) (hx : B[(first + k) / 8]? = some x) : unpackB (B.set ((first + k) / 8) (x ^^^ 128 / 2 ^ ((first + k) % 8))) = xorL a (maskL a.length first c (k + 1)) := by
  have hx256 := hB x (List.mem_of_getElem? hx)
  have hlen : (unpackB (B.set ((first + k) / 8) (x ^^^ 128 / 2 ^ ((first + k) % 8)))).length = a.length := by rw [unpackB_len2, List.length_set, ha]
  refine List.ext_getElem? fun i => ?_
  rcases Nat.lt_or_ge i a.length with hi | hi
  · obtain ⟨y, hy⟩ : ∃ y, B[i / 8]? = some y := ⟨_, List.getElem?_eq_getElem (by omega)⟩
    obtain ⟨ai, hai⟩ : ∃ ai, a[i]? = some ai := ⟨_, List.getElem?_eq_getElem hi⟩
    have hy256 := hB y (List.mem_of_getElem? hy)
    have h1 : (unpackB B)[i]? = some (decide (y / 2 ^ (7 - i % 8) % 2 = 1)) := unpackB_at B i y hy
    rw [h, xorL_get a _ i _ _ hai (maskL_get _ _ _ _ _ hi)] at h1
    simp only [Option.some.injEq] at h1
    rw [xorL_get a _ i _ _ hai (maskL_get _ _ _ _ _ hi)]
    by_cases hd : i / 8 = (first + k) / 8
    · have hyx : y = x := by rw [hd, hx] at hy; exact (Option.some.inj hy).symm
      subst hyx
      have h2 := unpackB_at (B.set ((first + k) / 8) (y ^^^ 128 / 2 ^ ((first + k) % 8))) i (y ^^^ 128 / 2 ^ ((first + k) % 8)) (by rw [hd, List.getElem?_set_self (by omega)])
      rw [h2, byte_flip ⟨y, hy256⟩ ⟨(first + k) % 8, Nat.mod_lt _ (by decide)⟩ ⟨i % 8, Nat.mod_lt _ (by decide)⟩]
      simp only
      rw [← h1]
      congr 1
      by_cases he : i = first + k
      · subst he
        have q1 : decide (first + k < first + k) = false := by simp
        have q2 : decide (first + k < first + (k + 1)) = true := by simp
        have q3 : decide (first ≤ first + k) = true := by simp
        rw [q1, q2, q3, show first + k - first = k by omega, hc]
        cases ai <;> simp
      · have hm : ¬ i % 8 = (first + k) % 8 := fun e => he (by omega)
        have q : decide (i < first + (k + 1)) = decide (i < first + k) := by simp only [decide_eq_decide]; omega
        rw [q, decide_eq_false hm, Bool.xor_false]
    · have h2 := unpackB_at (B.set ((first + k) / 8) (x ^^^ 128 / 2 ^ ((first + k) % 8))) i y (by rw [List.getElem?_set_ne (fun e => hd e.symm)]; exact hy)
      rw [h2, ← h1]
      have q : decide (i < first + (k + 1)) = decide (i < first + k) := by simp only [decide_eq_decide]; omega
      rw [q]
  · rw [List.getElem?_eq_none (by omega), List.getElem?_eq_none (by rw [xorL_len _ _ (maskL_len _ _ _ _).symm]; exact hi)]

/-- Was any bit turned? -/
def anyC (c k : Nat) : Bool := (List.range k).any fun j => decide (c / 2 ^ j % 2 = 1)
theorem anyC_succ (c k : Nat) : anyC c (k + 1) = (anyC c k || decide (c / 2 ^ k % 2 = 1)) := by
  unfold anyC; rw [List.range_succ, List.any_append]; simp
theorem mask_none (n first c k : Nat) (h : anyC c k = false) : maskL n first c k = maskL n first c 0 := by
  unfold maskL
  refine List.map_congr_left fun i _ => ?_
  by_cases h1 : first ≤ i
  · by_cases h2 : i < first + k
    · have h3 : ¬ c / 2 ^ (i - first) % 2 = 1 := fun e => by
        have : anyC c k = true := by unfold anyC; rw [List.any_eq_true]; exact ⟨i - first, by simp; omega, by simpa using e⟩
        rw [h] at this; cases this
      rw [decide_eq_false h3, Bool.and_false, Bool.and_false]
    · rw [decide_eq_false h2, decide_eq_false (show ¬ i < first + 0 by omega)]
  · rw [decide_eq_false h1]; rfl
theorem mask_split (n first c k : Nat) (h : first + k ≤ n) : maskL n first c k = List.replicate first false ++ (List.range k).map (fun j => decide (c / 2 ^ j % 2 = 1)) ++ List.replicate (n - (first + k)) false := by
  refine List.ext_getElem? fun i => ?_
  rcases Nat.lt_or_ge i n with hi | hi
  · rw [maskL_get _ _ _ _ _ hi]
    rcases Nat.lt_or_ge i first with h1 | h1
    · rw [List.append_assoc, List.getElem?_append_left (by simpa using h1), List.getElem?_replicate, if_pos h1, decide_eq_false (by omega)]; rfl
    · rw [decide_eq_true h1]
      rcases Nat.lt_or_ge i (first + k) with h2 | h2
      · rw [List.getElem?_append_left (by simp; omega), List.getElem?_append_right (by simpa using h1), List.length_replicate, List.getElem?_map, List.getElem?_range (by omega), decide_eq_true h2]
        simp
      · rw [List.getElem?_append_right (by simp; omega), List.getElem?_replicate, if_pos (by simp; omega), decide_eq_false (by omega)]
        simp
  · rw [List.getElem?_eq_none (by rw [maskL_len]; exact hi), List.getElem?_eq_none (by simp; omega)]

/-- Bytes of which up to 16 neighbouring bits are others are no frame. -/
theorem burst_found (b B : List Nat) (first c k : Nat) (hb : ∀ x ∈ b, x < 256) (hB : ∀ x ∈ B, x < 256) (hF : isF b = true) (h : unpackB B = xorL (unpackB b) (maskL (unpackB b).length first c k)) (hk : k ≤ 16) (hn : first + k ≤ (unpackB b).length) (ha : anyC c k = true) : isF B = false := by
  cases hFB : isF B
  · rfl
  exfalso
  have h1 := isF_crc b hF
  have h2 := isF_crc B hFB
  rw [crc_bits _ hb] at h1
  rw [crc_bits _ hB, h] at h2
  have h3 := bcrc_xor (unpackB b) (maskL (unpackB b).length first c k) 65535 0 (maskL_len _ _ _ _).symm
  rw [Nat.xor_zero, h2, h1, Nat.zero_xor, mask_split _ _ _ _ hn] at h3
  refine burst_crc _ _ _ (by simp; exact hk) ?_ h3.symm
  unfold anyC at ha
  rw [List.any_eq_true] at ha
  obtain ⟨j, hj, hc⟩ := ha
  exact List.mem_map.2 ⟨j, hj, hc⟩

/-- The begin of a frame is none. -/
theorem part_none (b : List Nat) (m : Nat) (hb : ∀ x ∈ b, x < 256) (hF : isF b = true) (hm : m < b.length) : isF (b.take m) = false := by
  cases hP : isF (b.take m)
  · rfl
  exfalso
  obtain ⟨h1, h0⟩ := (sizeP_isF (b.take m) (fun x hx => hb x (List.mem_of_mem_take hx))).2 hP
  obtain ⟨h2, _⟩ := (sizeP_isF b hb).2 hF
  have hl : (b.take m).length = m := by rw [List.length_take]; omega
  rw [hl] at h1 h0
  have h4 : 4 ≤ m := by
    unfold sizeP at h1
    rw [hl] at h1
    split at h1
    · omega
    · omega
  have ht : (b.take m).take 2 = b.take 2 := by rw [List.take_take]; congr 1; omega
  unfold sizeP at h1 h2
  rw [ht] at h1
  split at h1
  · omega
  · split at h1
    · omega
    · split at h1
      · split at h2
        · omega
        · split at h2
          · omega
          · split at h2 <;> omega
      · omega
end Go.Proofs.Ytnejjjoedmefkaa
