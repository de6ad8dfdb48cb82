/- The check sum finds bursts of up to 16 bits: plain. -/
import Derived.Test.YtnejjjoedmefkaaFrmP
import Derived.Test.YtnejjjoedmefkaaTakL
namespace Go.Proofs.Ytnejjjoedmefkaa
set_option linter.unusedVariables false
set_option linter.unusedSimpArgs false

/-- One bit goes into the register. -/
def bstep (r : Nat) (b : Bool) : Nat := rnd (r ^^^ (if b then 32768 else 0))
def bcrc (r : Nat) (l : List Bool) : Nat := l.foldl bstep r
theorem bcrc_append (r : Nat) (l m : List Bool) : bcrc r (l ++ m) = bcrc (bcrc r l) m := by simp [bcrc]
theorem bcrc_cons (r : Nat) (b : Bool) (m : List Bool) : bcrc r (b :: m) = bcrc (bstep r b) m := rfl
theorem rnd_zero : rnd 0 = 0 := rfl
theorem rnds_zero (k : Nat) : rnds k 0 = 0 := by
  induction k with
  | zero => rfl
  | succ k ih => rw [rnds, rnd_zero, ih]
theorem rnds_add (a b r : Nat) : rnds (a + b) r = rnds b (rnds a r) := by
  induction a generalizing r with
  | zero => rw [Nat.zero_add]; rfl
  | succ a ih => rw [show a + 1 + b = (a + b) + 1 by omega, rnds, rnds, ih]
theorem rnd_eq_zero (r : Nat) (h : r < 65536) (h0 : rnd r = 0) : r = 0 := by
  unfold rnd at h0
  by_cases hb : r / 32768 % 2 = 1
  · rw [if_pos hb] at h0
    exfalso
    have h1 : r * 2 % 65536 = 4129 := by
      have := congrArg (· ^^^ 4129) h0
      simp only [Nat.xor_assoc, Nat.xor_self, Nat.xor_zero, Nat.zero_xor] at this
      exact this
    omega
  · rw [if_neg hb, Nat.xor_zero] at h0
    omega
theorem rnds_eq_zero (k : Nat) : ∀ r, r < 65536 → rnds k r = 0 → r = 0 := by
  induction k with
  | zero => intro r _ h; exact h
  | succ k ih => intro r h h0; exact rnd_eq_zero r h (ih _ (rnd_lt r) h0)

/-- k bits go in at once. -/
theorem bcrc_nbits (c : Nat) : ∀ k, k ≤ 16 → ∀ r, bcrc r (nbits c k) = rnds k (r ^^^ (c % 2 ^ k * 2 ^ (16 - k))) := by
  intro k
  induction k with
  | zero => intro _ r; simp [nbits, bcrc, rnds, Nat.mod_one]
  | succ k ih =>
    intro hk r
    have hn : nbits c (k + 1) = decide (c / 2 ^ k % 2 = 1) :: nbits c k := rfl
    rw [hn, bcrc_cons, ih (by omega)]
    unfold bstep
    rw [rnds, rnd_xor, rnd_xor]
    congr 1
    have hp : 2 ^ (16 - k) = 2 ^ (16 - (k + 1)) * 2 := by rw [← Nat.pow_succ]; congr 1; omega
    have hc : c % 2 ^ (k + 1) = c / 2 ^ k % 2 * 2 ^ k + c % 2 ^ k := by
      rw [Nat.pow_succ, Nat.mod_mul, Nat.mul_comm (2 ^ k)]; omega
    have hlow : c % 2 ^ k * 2 ^ (16 - (k + 1)) < 32768 := by
      have h1 : c % 2 ^ k < 2 ^ k := Nat.mod_lt _ (Nat.two_pow_pos k)
      have h2 : 2 ^ k * 2 ^ (16 - (k + 1)) = 32768 := by rw [← Nat.pow_add, show k + (16 - (k + 1)) = 15 by omega]
      have h3 : c % 2 ^ k * 2 ^ (16 - (k + 1)) < 2 ^ k * 2 ^ (16 - (k + 1)) := Nat.mul_lt_mul_of_pos_right h1 (Nat.two_pow_pos _)
      omega
    have htop : c % 2 ^ (k + 1) * 2 ^ (16 - (k + 1)) = (if (decide (c / 2 ^ k % 2 = 1) : Bool) then 32768 else 0) ^^^ (c % 2 ^ k * 2 ^ (16 - (k + 1))) := by
      rw [hc, Nat.add_mul, Nat.mul_assoc]
      have h2 : 2 ^ k * 2 ^ (16 - (k + 1)) = 32768 := by rw [← Nat.pow_add, show k + (16 - (k + 1)) = 15 by omega]
      rw [h2]
      generalize c % 2 ^ k * 2 ^ (16 - (k + 1)) = x at *
      rcases Nat.mod_two_eq_zero_or_one (c / 2 ^ k) with e | e
      · rw [e]; simp
      · rw [e]
        have := xor_split (32768 + x) 15
        have e1 : (32768 + x) / 2 ^ 15 = 1 := by omega
        have e2 : (32768 + x) % 2 ^ 15 = x := by omega
        rw [e1, e2] at this
        simpa using this
    rw [htop, rnd_xor, ← Nat.xor_assoc]
    congr 1
    have hx : rnd (c % 2 ^ k * 2 ^ (16 - (k + 1))) = c % 2 ^ k * 2 ^ (16 - k) := by
      unfold rnd
      rw [if_neg (by omega), Nat.xor_zero, hp, Nat.mod_eq_of_lt (by omega), Nat.mul_assoc]
    exact hx.symm

theorem crc_bits (l : List Nat) (hl : ∀ x ∈ l, x < 256) : ∀ r, crc r l = bcrc r (unpackB l) := by
  induction l with
  | nil => intro r; rfl
  | cons a l ih =>
    intro r
    have ha := hl a (by simp)
    have e : unpackB (a :: l) = nbits a 8 ++ unpackB l := by simp [unpackB]
    rw [e, bcrc_append, bcrc_nbits a 8 (by decide)]
    have hs : crc r (a :: l) = crc (crcStep r a) l := rfl
    rw [hs, ih (fun x hx => hl x (by simp [hx]))]
    unfold crcStep
    rw [Nat.mod_eq_of_lt (show a < 2 ^ 8 from ha), show a * 256 % 65536 = a * 2 ^ (16 - 8) by omega]

/-- A sum behind what it sums leaves the register empty. -/
theorem crc_closed (r : Nat) (hr : r < 65536) (x : List Nat) : crc r (x ++ twoP (crc r x)) = 0 := by
  rw [crc_append, crc_bits _ (twoP_lt _)]
  have h := crc_lt r hr x
  generalize crc r x = c at *
  unfold twoP
  rw [unpack_pack, nbits_len, show 8 * ((16 + 7) / 8) - 16 = 0 from rfl, List.replicate_zero, List.append_nil, bcrc_nbits c 16 (by decide), Nat.mod_eq_of_lt h]
  rw [show c * 2 ^ (16 - 16) = c by simp, Nat.xor_self, rnds_zero]
theorem isF_crc (f : List Nat) (h : isF f = true) : crc 65535 f = 0 := by
  unfold isF at h
  simp only [Bool.and_eq_true, decide_eq_true_eq] at h
  rw [← h.2]
  exact crc_closed _ (by decide) _

/-- Bits that differ. -/
def xorL (a b : List Bool) : List Bool := List.zipWith Bool.xor a b
theorem bcrc_xor (a : List Bool) : ∀ (b : List Bool) (r s : Nat), a.length = b.length → bcrc (r ^^^ s) (xorL a b) = bcrc r a ^^^ bcrc s b := by
  induction a with
  | nil => intro b r s h; cases b with
    | nil => rfl
    | cons _ _ => simp at h
  | cons x a ih =>
    intro b r s h
    cases b with
    | nil => simp at h
    | cons y b =>
      have e : xorL (x :: a) (y :: b) = Bool.xor x y :: xorL a b := rfl
      rw [e, bcrc_cons, bcrc_cons, bcrc_cons, ← ih b _ _ (by simpa using h)]
      congr 1
      unfold bstep
      rw [← rnd_xor]
      congr 1
      rw [xor_pair]
      congr 1
      cases x <;> cases y <;> simp
theorem bcrc_zeros (k : Nat) : ∀ r, bcrc r (List.replicate k false) = rnds k r := by
  induction k with
  | zero => intro r; rfl
  | succ k ih =>
    intro r
    rw [List.replicate_succ, bcrc_cons, ih, rnds]
    unfold bstep
    simp
theorem bval_zero (l : List Bool) (h : bval l = 0) : ∀ x ∈ l, x = false := by
  induction l with
  | nil => intro x hx; simp at hx
  | cons b l ih =>
    rw [bval_cons] at h
    intro x hx
    have hp := Nat.two_pow_pos l.length
    cases b with
    | true => simp at h
    | false =>
      simp at h
      rcases List.mem_cons.1 hx with rfl | hx
      · rfl
      · exact ih h x hx
/-- A burst leaves something in the register. -/
theorem burst_crc (a r : Nat) (l : List Bool) (hl : l.length ≤ 16) (ht : true ∈ l) : bcrc 0 (List.replicate a false ++ l ++ List.replicate r false) ≠ 0 := by
  rw [bcrc_append, bcrc_append, bcrc_zeros, bcrc_zeros, rnds_zero]
  have hb := nbits_bval l
  have hlt := bval_lt l
  have h1 := bcrc_nbits (bval l) l.length hl 0
  rw [hb, Nat.zero_xor, Nat.mod_eq_of_lt hlt] at h1
  rw [h1, ← rnds_add]
  intro h0
  have hc : bval l * 2 ^ (16 - l.length) < 65536 := by
    have h2 : 2 ^ l.length * 2 ^ (16 - l.length) = 65536 := by rw [← Nat.pow_add, show l.length + (16 - l.length) = 16 by omega]
    have h3 := Nat.mul_lt_mul_of_pos_right hlt (Nat.two_pow_pos (16 - l.length))
    omega
  have := rnds_eq_zero _ _ hc h0
  have hp := Nat.two_pow_pos (16 - l.length)
  have hz : bval l = 0 := by
    rcases Nat.eq_zero_or_pos (bval l) with h | h
    · exact h
    · have := Nat.mul_pos h hp; omega
  have := bval_zero l hz true ht
  cases this
end Go.Proofs.Ytnejjjoedmefkaa
