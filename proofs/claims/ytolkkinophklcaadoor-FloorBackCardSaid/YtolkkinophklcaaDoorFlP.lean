/- Floors, plain: cells, kinds, what is beside, what may be. No function of the program. -/
import Derived.Test.YtolkkinophklcaaDoorGen
namespace Go.Proofs.YtolkkinophklcaaDoor
set_option linter.unusedVariables false
set_option linter.unusedSimpArgs false
open Go.RowKit

/-- A string's byte. -/
def bt (s : ByteArray) (i : Nat) : Nat := if h : i < s.size then (s[i]'h).toNat else 0
theorem bt_lt (s : ByteArray) (i : Nat) : bt s i < 256 := by unfold bt; split; exact UInt8.toNat_lt _; decide
theorem bt_at (s : ByteArray) (i : Nat) (h : i < s.size) : (s[i]'h).toNat = bt s i := by unfold bt; rw [dif_pos h]
theorem bt_atI (s : ByteArray) (i : Nat) (h : (i : Int).toNat < s.size) : (s[(i : Int).toNat]'h).toNat = bt s i := bt_at s i h

structure Flr where
  W : Int
  H : Int
  s : ByteArray
def Flr.val (f : Flr) : Value := .agg #[.int .i64 f.W, .int .i64 f.H, .string f.s]
def kindB (c : Nat) : Nat := if c = 35 then 1 else if 97 ≤ c ∧ c ≤ 122 then 2 else if 48 ≤ c ∧ c < 56 then 3 else 0
theorem kindB_le (c : Nat) : kindB c ≤ 3 := by unfold kindB; split; decide; split; decide; split <;> decide
def Flr.kd (f : Flr) (i : Nat) : Nat := kindB (bt f.s i)

/-- What is beside a cell: above, right, below, left. -/
def besideP (W H c : Nat) : List Nat := (if 0 < c / W then [c - W] else []) ++ (if c % W + 1 < W then [c + 1] else []) ++ (if c / W + 1 < H then [c + W] else []) ++ (if 0 < c % W then [c - 1] else [])
def ints (l : List Nat) : List Int := l.map fun (x : Nat) => (x : Int)
/-- The k-th direction's. -/
def bsPart (W H c : Nat) : Nat → List Nat
  | 0 => if 0 < c / W then [c - W] else []
  | 1 => if c % W + 1 < W then [c + 1] else []
  | 2 => if c / W + 1 < H then [c + W] else []
  | 3 => if 0 < c % W then [c - 1] else []
  | _ => []
def bsA (W H c k : Nat) : List Nat := (List.range k).flatMap (bsPart W H c)
theorem bsA_succ (W H c k : Nat) : bsA W H c (k + 1) = bsA W H c k ++ bsPart W H c k := by unfold bsA; rw [List.range_succ, List.flatMap_append]; simp
theorem bsA_four (W H c : Nat) : bsA W H c 4 = besideP W H c := by
  rw [bsA_succ, bsA_succ, bsA_succ, bsA_succ]
  simp [bsA, bsPart, besideP]
theorem bsPart_len (W H c k : Nat) : (bsPart W H c k).length ≤ 1 := by unfold bsPart; split <;> first | (split <;> simp) | simp
theorem bsA_len (W H c k : Nat) : (bsA W H c k).length ≤ k := by
  induction k with
  | zero => simp [bsA]
  | succ k ih => rw [bsA_succ, List.length_append]; have := bsPart_len W H c k; omega
theorem ints_len (l : List Nat) : (ints l).length = l.length := by simp [ints]
theorem ints_app (a b : List Nat) : ints (a ++ b) = ints a ++ ints b := by simp [ints]
end Go.Proofs.YtolkkinophklcaaDoor
