/- The check sum, as plain numbers: by rounds of one bit, and by one step for a byte. -/
import Derived.KernelRfl
namespace Go.Proofs.Ytnejjjoedmefkaa
set_option linter.unusedVariables false
set_option linter.unusedSimpArgs false

theorem xor_mul_pow (a b n : Nat) : (a ^^^ b) * 2 ^ n = a * 2 ^ n ^^^ b * 2 ^ n := by
  rw [← Nat.shiftLeft_eq, ← Nat.shiftLeft_eq, ← Nat.shiftLeft_eq]; exact Nat.shiftLeft_xor_distrib
theorem xor_split (r n : Nat) : r = (r / 2 ^ n) * 2 ^ n ^^^ r % 2 ^ n := by
  apply Nat.eq_of_testBit_eq
  intro i
  rw [Nat.testBit_xor, Nat.testBit_mul_two_pow, Nat.testBit_mod_two_pow, Nat.testBit_div_two_pow]
  by_cases h : n ≤ i
  · have h2 : ¬ i < n := by omega
    simp [h, h2]
  · have h2 : i < n := by omega
    simp [h, h2]
theorem xor_pair (a b c d : Nat) : (a ^^^ b) ^^^ (c ^^^ d) = (a ^^^ c) ^^^ (b ^^^ d) := by
  apply Nat.eq_of_testBit_eq
  intro i
  simp only [Nat.testBit_xor]
  cases a.testBit i <;> cases b.testBit i <;> cases c.testBit i <;> cases d.testBit i <;> rfl

/-- One round. -/
def rnd (r : Nat) : Nat := (r * 2 % 65536) ^^^ (if r / 32768 % 2 = 1 then 4129 else 0)
def rnds : Nat → Nat → Nat
  | 0, r => r
  | k + 1, r => rnds k (rnd r)
theorem rnd_lt (r : Nat) : rnd r < 65536 := by
  unfold rnd
  refine Nat.xor_lt_two_pow (n := 16) (Nat.mod_lt _ (by decide)) ?_
  split <;> decide
theorem rnd_xor (a b : Nat) : rnd (a ^^^ b) = rnd a ^^^ rnd b := by
  unfold rnd
  have h1 : (a ^^^ b) * 2 % 65536 = a * 2 % 65536 ^^^ b * 2 % 65536 := by
    rw [show (2 : Nat) = 2 ^ 1 from rfl, xor_mul_pow, show (65536 : Nat) = 2 ^ 16 from rfl, Nat.xor_mod_two_pow]
  have h2 : (a ^^^ b) / 32768 % 2 = (a / 32768 % 2) ^^^ (b / 32768 % 2) := by
    have e1 : (a ^^^ b) / 2 ^ 15 % 2 ^ 1 = (a / 2 ^ 15 % 2 ^ 1) ^^^ (b / 2 ^ 15 % 2 ^ 1) := by rw [Nat.xor_div_two_pow, Nat.xor_mod_two_pow]
    exact e1
  rw [h1, h2, xor_pair]
  congr 1
  rcases Nat.mod_two_eq_zero_or_one (a / 32768) with ha | ha <;> rcases Nat.mod_two_eq_zero_or_one (b / 32768) with hb | hb <;> rw [ha, hb] <;> rfl
theorem rnds_xor (k : Nat) : ∀ a b, rnds k (a ^^^ b) = rnds k a ^^^ rnds k b := by
  induction k with
  | zero => intro a b; rfl
  | succ k ih => intro a b; rw [rnds, rnds, rnds, rnd_xor, ih]
theorem rnds_lt (k : Nat) : ∀ r, r < 65536 → rnds k r < 65536 := by
  induction k with
  | zero => intro r h; exact h
  | succ k ih => intro r _; exact ih _ (rnd_lt r)
theorem rnds_snoc (k : Nat) : ∀ r, rnds (k + 1) r = rnd (rnds k r) := by
  induction k with
  | zero => intro r; rfl
  | succ k ih => intro r; rw [rnds, ih]; rfl

/-- What a byte does to the register. -/
def crcStep (r c : Nat) : Nat := rnds 8 (r ^^^ (c * 256 % 65536))
def crcT (y : Nat) : Nat := ((y ^^^ y / 16) * 4096 % 65536 ^^^ (y ^^^ y / 16) * 32 % 65536) ^^^ (y ^^^ y / 16)
theorem crcT_eq : ∀ y, y < 256 → rnds 8 (y * 256) = crcT y := of_decide_eq_true (by kernel_rfl)
theorem crc_low : ∀ y, y < 256 → rnds 8 y = y * 256 := of_decide_eq_true (by kernel_rfl)
theorem crcStep_lt (r c : Nat) : crcStep r c < 65536 := by
  unfold crcStep
  exact rnds_lt 7 _ (rnd_lt _)
theorem crcStep_eq (r c : Nat) (hr : r < 65536) (hc : c < 256) :
    crcStep r c = ((r * 256 % 65536 ^^^ (((r / 256 ^^^ c) ^^^ (r / 256 ^^^ c) / 16) * 4096 % 65536)) ^^^ (((r / 256 ^^^ c) ^^^ (r / 256 ^^^ c) / 16) * 32 % 65536)) ^^^ ((r / 256 ^^^ c) ^^^ (r / 256 ^^^ c) / 16) := by
  have hy : r / 256 ^^^ c < 256 := Nat.xor_lt_two_pow (n := 8) (by omega) (by omega)
  have h1 : r ^^^ (c * 256 % 65536) = (r / 256 ^^^ c) * 256 ^^^ r % 256 := by
    have e1 : c * 256 % 65536 = c * 256 := Nat.mod_eq_of_lt (by omega)
    have e2 := xor_split r 8
    have e3 := xor_mul_pow (r / 256) c 8
    rw [e1]
    show r ^^^ c * 2 ^ 8 = (r / 256 ^^^ c) * 2 ^ 8 ^^^ r % 2 ^ 8
    rw [e3]
    conv => lhs; lhs; rw [e2]
    rw [Nat.xor_assoc, Nat.xor_comm (r % 2 ^ 8), ← Nat.xor_assoc]
  have h2 : r * 256 % 65536 = r % 256 * 256 := by omega
  unfold crcStep
  rw [h1, rnds_xor, crcT_eq _ hy, crc_low _ (Nat.mod_lt _ (by decide)), h2]
  unfold crcT
  generalize (r / 256 ^^^ c) ^^^ (r / 256 ^^^ c) / 16 = x
  rw [Nat.xor_comm, ← Nat.xor_assoc, ← Nat.xor_assoc]

def crc (r : Nat) (l : List Nat) : Nat := l.foldl crcStep r
theorem crc_snoc (r : Nat) (l : List Nat) (c : Nat) : crc r (l ++ [c]) = crcStep (crc r l) c := by simp [crc]
theorem crc_append (r : Nat) (l m : List Nat) : crc r (l ++ m) = crc (crc r l) m := by simp [crc]
theorem crc_lt (r : Nat) (hr : r < 65536) (l : List Nat) : crc r l < 65536 := by
  induction l generalizing r with
  | nil => exact hr
  | cons a l ih => exact ih _ (crcStep_lt r a)
end Go.Proofs.Ytnejjjoedmefkaa
