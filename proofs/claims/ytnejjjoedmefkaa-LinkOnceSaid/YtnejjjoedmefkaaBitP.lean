/- Bits, plain: numbers as bits, bits as bytes. -/
import Derived.Test.YtnejjjoedmefkaaGen
namespace Go.Proofs.Ytnejjjoedmefkaa
set_option linter.unusedVariables false
set_option linter.unusedSimpArgs false

theorem snoc_ind {α : Type} {P : List α → Prop} (h0 : P []) (h1 : ∀ l a, P l → P (l ++ [a])) (l : List α) : P l := by
  rw [← List.reverse_reverse l]
  induction l.reverse with
  | nil => exact h0
  | cons a l ih => rw [List.reverse_cons]; exact h1 _ _ ih

/-- The many lowest bits of a number, the highest first. -/
def nbits (n : Nat) : Nat → List Bool
  | 0 => []
  | k + 1 => decide (n / 2 ^ k % 2 = 1) :: nbits n k
def bval (l : List Bool) : Nat := l.foldl (fun a b => 2 * a + b.toNat) 0

theorem nbits_len (n k : Nat) : (nbits n k).length = k := by
  induction k with
  | zero => rfl
  | succ k ih => simp [nbits, ih]
theorem bval_snoc (l : List Bool) (b : Bool) : bval (l ++ [b]) = 2 * bval l + b.toNat := by simp [bval]
theorem bval_append (l m : List Bool) : bval (l ++ m) = bval l * 2 ^ m.length + bval m := by
  induction m using snoc_ind with
  | h0 => simp [bval]
  | h1 m b ih =>
    rw [← List.append_assoc, bval_snoc, bval_snoc, ih, List.length_append, List.length_singleton, Nat.pow_succ]
    generalize bval l = x; generalize bval m = y; generalize 2 ^ m.length = z
    rw [Nat.mul_add, ← Nat.mul_assoc, Nat.mul_comm 2 x, Nat.mul_assoc x 2 z, Nat.mul_comm 2 z, Nat.add_assoc]
theorem bval_cons (b : Bool) (l : List Bool) : bval (b :: l) = b.toNat * 2 ^ l.length + bval l := by
  have := bval_append [b] l
  simpa [bval] using this
theorem bval_lt (l : List Bool) : bval l < 2 ^ l.length := by
  induction l with
  | nil => simp [bval]
  | cons b l ih =>
    rw [bval_cons, List.length_cons, Nat.pow_succ]
    cases b <;> simp <;> omega
theorem nbits_snoc (n k : Nat) : nbits n (k + 1) = nbits (n / 2) k ++ [decide (n % 2 = 1)] := by
  induction k with
  | zero => simp [nbits]
  | succ k ih =>
    show decide (n / 2 ^ (k + 1) % 2 = 1) :: nbits n (k + 1) = decide (n / 2 / 2 ^ k % 2 = 1) :: nbits (n / 2) k ++ [decide (n % 2 = 1)]
    rw [ih, Nat.div_div_eq_div_mul, Nat.pow_succ, Nat.mul_comm 2]
    rfl
theorem bval_nbits (n k : Nat) : bval (nbits n k) = n % 2 ^ k := by
  induction k generalizing n with
  | zero => simp [nbits, bval, Nat.mod_one]
  | succ k ih =>
    rw [nbits_snoc, bval_snoc, ih, Nat.pow_succ, Nat.mul_comm (2 ^ k) 2, Nat.mod_mul]
    have : (decide (n % 2 = 1)).toNat = n % 2 := by
      rcases Nat.mod_two_eq_zero_or_one n with h | h <;> simp [h]
    omega
theorem nbits_bval (l : List Bool) : nbits (bval l) l.length = l := by
  induction l using snoc_ind with
  | h0 => rfl
  | h1 l b ih =>
    rw [List.length_append, List.length_singleton, nbits_snoc, bval_snoc]
    have h1 : (2 * bval l + b.toNat) / 2 = bval l := by cases b <;> simp <;> omega
    have h2 : decide ((2 * bval l + b.toNat) % 2 = 1) = b := by cases b <;> simp <;> omega
    rw [h1, h2, ih]
theorem nbits_get (n k j : Nat) (h : j < k) : (nbits n k)[j]? = some (decide (n / 2 ^ (k - 1 - j) % 2 = 1)) := by
  induction k generalizing j with
  | zero => omega
  | succ k ih =>
    cases j with
    | zero => simp [nbits]
    | succ j =>
      simp only [nbits, List.getElem?_cons_succ]
      rw [ih j (by omega), show k + 1 - 1 - (j + 1) = k - 1 - j by omega]

/-- Bits as bytes: the last one is filled up by zeros. -/
def byteOf (c : List Bool) : Nat := bval (c ++ List.replicate (8 - c.length) false)
def packB (l : List Bool) : List Nat := if h : l = [] then [] else byteOf (l.take 8) :: packB (l.drop 8)
termination_by l.length
decreasing_by
  have : 0 < l.length := List.length_pos_iff.2 h
  simp; omega
def unpackB (b : List Nat) : List Bool := b.flatMap fun x => nbits x 8

theorem packB_nil : packB [] = [] := by rw [packB]; simp
theorem packB_ne {l : List Bool} (h : l ≠ []) : packB l = byteOf (l.take 8) :: packB (l.drop 8) := by rw [packB]; simp [h]
theorem byteOf_lt (c : List Bool) (h : c.length ≤ 8) : byteOf c < 256 := by
  have := bval_lt (c ++ List.replicate (8 - c.length) false)
  rw [List.length_append, List.length_replicate, show c.length + (8 - c.length) = 8 by omega] at this
  exact this
theorem packB_lt (l : List Bool) : ∀ x ∈ packB l, x < 256 := by
  induction hn : l.length using Nat.strongRecOn generalizing l with
  | _ n ih =>
    by_cases h : l = []
    · subst h; rw [packB_nil]; simp
    · rw [packB_ne h]
      intro x hx
      simp only [List.mem_cons] at hx
      rcases hx with rfl | hx
      · exact byteOf_lt _ (by simp; omega)
      · have : 0 < l.length := List.length_pos_iff.2 h
        exact ih _ (by rw [← hn, List.length_drop]; omega) (l.drop 8) rfl x hx
theorem packB_len (l : List Bool) : (packB l).length = (l.length + 7) / 8 := by
  induction hn : l.length using Nat.strongRecOn generalizing l with
  | _ n ih =>
    by_cases h : l = []
    · subst h; rw [packB_nil]; simp at hn; subst hn; rfl
    · rw [packB_ne h]
      have : 0 < l.length := List.length_pos_iff.2 h
      rw [List.length_cons, ih (l.drop 8).length (by rw [← hn, List.length_drop]; omega) (l.drop 8) rfl, List.length_drop]
      omega
theorem unpack_pack (l : List Bool) : unpackB (packB l) = l ++ List.replicate (8 * ((l.length + 7) / 8) - l.length) false := by
  induction hn : l.length using Nat.strongRecOn generalizing l with
  | _ n ih =>
    by_cases h : l = []
    · subst h; rw [packB_nil]; simp at hn; subst hn; rfl
    · have hp : 0 < l.length := List.length_pos_iff.2 h
      rw [packB_ne h]
      have h8 : nbits (byteOf (l.take 8)) 8 = l.take 8 ++ List.replicate (8 - (l.take 8).length) false := by
        have := nbits_bval (l.take 8 ++ List.replicate (8 - (l.take 8).length) false)
        rw [List.length_append, List.length_replicate, show (l.take 8).length + (8 - (l.take 8).length) = 8 by simp; omega] at this
        exact this
      have ih' := ih (l.drop 8).length (by rw [← hn, List.length_drop]; omega) (l.drop 8) rfl
      unfold unpackB at ih' ⊢
      rw [List.flatMap_cons, ih', h8]
      by_cases h7 : 8 ≤ l.length
      · rw [show (l.take 8).length = 8 by simp; omega, Nat.sub_self, List.replicate_zero, List.append_nil, ← List.append_assoc, List.take_append_drop, List.length_drop]
        congr 2
        omega
      · rw [List.take_of_length_le (by omega), List.drop_eq_nil_of_le (by omega)]
        simp only [List.length_nil, List.nil_append, List.append_assoc]
        congr 1
        have e1 : 8 * ((0 + 7) / 8) - 0 = 0 := by decide
        rw [e1, List.replicate_zero, List.append_nil]
        congr 1
        omega
theorem pack_unpack (b : List Nat) (hb : ∀ x ∈ b, x < 256) : packB (unpackB b) = b := by
  induction b with
  | nil => exact packB_nil
  | cons x b ih =>
    have hl := nbits_len x 8
    have hne : unpackB (x :: b) ≠ [] := by
      intro h
      have := congrArg List.length h
      simp [unpackB, hl] at this
    rw [packB_ne hne]
    have h1 : (unpackB (x :: b)).take 8 = nbits x 8 := by
      unfold unpackB; rw [List.flatMap_cons]; exact (List.take_append_of_le_length (by rw [hl]; exact Nat.le_refl _)).trans (List.take_of_length_le (by rw [hl]; exact Nat.le_refl _))
    have h2 : (unpackB (x :: b)).drop 8 = unpackB b := by
      unfold unpackB; rw [List.flatMap_cons]
      rw [List.drop_append_of_le_length (by rw [hl]; exact Nat.le_refl _), List.drop_of_length_le (by rw [hl]; exact Nat.le_refl _), List.nil_append]
    rw [h1, h2, ih fun y hy => hb y (List.mem_cons_of_mem _ hy)]
    have : byteOf (nbits x 8) = x := by
      unfold byteOf
      rw [hl, Nat.sub_self, List.replicate_zero, List.append_nil, bval_nbits]
      exact Nat.mod_eq_of_lt (hb x List.mem_cons_self)
    rw [this]
theorem packB_zeros (l : List Bool) (k : Nat) (h : l.length + k ≤ 8 * ((l.length + 7) / 8)) : packB (l ++ List.replicate k false) = packB l := by
  have h1 := unpack_pack l
  have h2 := unpack_pack (l ++ List.replicate k false)
  rw [List.length_append, List.length_replicate] at h2
  have e : (l.length + k + 7) / 8 = (l.length + 7) / 8 := by omega
  rw [e, List.append_assoc, List.replicate_append_replicate] at h2
  have e2 : k + (8 * ((l.length + 7) / 8) - (l.length + k)) = 8 * ((l.length + 7) / 8) - l.length := by omega
  rw [e2, ← h1] at h2
  have := congrArg packB h2
  rwa [pack_unpack _ (packB_lt _), pack_unpack _ (packB_lt _)] at this
end Go.Proofs.Ytnejjjoedmefkaa
