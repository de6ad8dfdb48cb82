/- bits.Writer: Count. -/
import Derived.Test.YtnejjjoedmefkaaBitL
namespace Go.Proofs.Ytnejjjoedmefkaa
set_option linter.unusedVariables false
set_option linter.unusedSimpArgs false
open Go.RowKit

theorem nbits_zero (k : Nat) : nbits 0 k = List.replicate k false := by
  induction k with
  | zero => rfl
  | succ k ih => rw [nbits, ih, List.replicate_succ]; simp
/-- A count's bits. -/
def cbits (n : Nat) : List Bool := List.replicate (blen (n + 1) - 1) false ++ nbits (n + 1) (blen (n + 1))
theorem cbits_len (n : Nat) : (cbits n).length = 2 * blen (n + 1) - 1 := by
  have : blen (n + 1) ≠ 0 := by rw [blen_pos (by omega)]; omega
  unfold cbits
  rw [List.length_append, List.length_replicate, nbits_len]; omega

theorem put_at {w0 w : World} {p : Nat} {l : List Bool} (h : AtW w0 p l w) (n many : Nat) (hn : n < 18446744073709551616) (hm : many ≤ 64) (hl : l.length + many ≤ 1048576) (x y : Int) (hx : x = n) (hy : y = many) :
    Calls Try.prog 36 #[.pointer (some ⟨p, 0, none⟩), .int .u64 x, .int .i64 y] w fun e w' => e = .returned (.int .i64 0) ∧ AtW w0 p (l ++ nbits n many) w' := by
  subst hx hy; exact put_any h n many hn hm hl

set_option maxRecDepth 100000 in
theorem wcount_any {w0 w : World} {p : Nat} {l : List Bool} (h : AtW w0 p l w) (n : Nat) (hn : n < 18446744073709551615) (hl : l.length + 128 ≤ 1048576) :
    Calls Try.prog 37 #[.pointer (some ⟨p, 0, none⟩), .int .u64 (n : Int)] w fun e w' => e = .returned (.int .i64 0) ∧ AtW w0 p (l ++ cbits n) w' := by
  have H := Lib.hid h
  have hc2 : w.cell? ⟨p, 1, none⟩ = some (.int .i64 (l.length : Int)) := by
    obtain ⟨V, hv⟩ := h
    exact (blk_cell hv.blk 1).trans rfl
  clear h
  obtain ⟨m, hm⟩ : ∃ m, m = n + 1 := ⟨_, rfl⟩
  obtain ⟨s, hs⟩ : ∃ s, s = blen m := ⟨_, rfl⟩
  have hs64 : s ≤ 64 := by rw [hs]; exact blen_le (by omega)
  have hs1 : s ≠ 0 := by rw [hs, blen_pos (by omega)]; omega
  obtain ⟨s1, hs2⟩ : ∃ s1, s = s1 + 1 := ⟨s - 1, by omega⟩
  have hcb : cbits n = nbits 0 s1 ++ nbits m s := by unfold cbits; rw [nbits_zero, ← hm, ← hs, hs2, Nat.add_sub_cancel]
  have hmI : IntKind.u64.wrap (m : Int) = (m : Int) := IntWalk.u64_in _ (by omega)
  have hmI2 : (n : Int) + 1 = (m : Int) := by omega
  have hne : ¬ (n : Int) = 18446744073709551615 := by omega
  have hw1 : IntKind.i64.wrap (2 * (s : Int)) = 2 * (s : Int) := IntWalk.i64_in _ (by omega)
  have hw2 : IntKind.i64.wrap (2 * (s : Int) - 1) = 2 * (s : Int) - 1 := IntWalk.i64_in _ (by omega)
  have hw3 : IntKind.i64.wrap (1048576 - (l.length : Int)) = 1048576 - (l.length : Int) := IntWalk.i64_in _ (by omega)
  have hw4 : IntKind.i64.wrap ((s : Int) - 1) = (s1 : Int) := by rw [IntWalk.i64_in _ (by omega)]; omega
  have h3 : ¬ 1048576 - (l.length : Int) < 2 * (s : Int) - 1 := by omega
  have hml : m < 18446744073709551616 := by omega
  have HS := Lib.hid hs; have HC := Lib.hid hcb; have HML := Lib.hid hml; have HL := Lib.hid hl; have H64 := Lib.hid hs64; have HS2 := Lib.hid hs2
  clear hs hcb hm hml hl hn hs1 hs2 hs64
  go_enter Try.func37, Try.ntmps37
  go_wp2_with fail
  refine (len64_any _ m HML.out s HS.out).mono ?_
  rintro e w1 ⟨rfl, rfl⟩
  go_wp2_with fail
  refine (put_at H.out 0 s1 (by decide) (by have := H64.out; have := HS2.out; omega) (by have := H64.out; have := HS2.out; have := HL.out; omega) 0 s1 rfl rfl).mono ?_
  rintro e w2 ⟨rfl, a2⟩
  have A2 := Lib.hid a2
  clear a2
  go_wp2_with fail
  refine (put_at A2.out m s HML.out H64.out (by rw [List.length_append, nbits_len]; have := H64.out; have := HS2.out; have := HL.out; omega) m s rfl rfl).mono ?_
  rintro e w3 ⟨rfl, a3⟩
  have A3 := Lib.hid a3
  clear a3
  go_wp2
  go_ret
  refine ⟨rfl, ?_⟩
  rw [HC.out, ← List.append_assoc]
  exact A3.out
end Go.Proofs.Ytnejjjoedmefkaa
