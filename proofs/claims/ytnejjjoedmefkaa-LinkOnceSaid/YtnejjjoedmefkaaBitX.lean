/- bits.Writer: Put, Out. -/
import Derived.Test.YtnejjjoedmefkaaBitW
namespace Go.Proofs.Ytnejjjoedmefkaa
set_option linter.unusedVariables false
set_option linter.unusedSimpArgs false
open Go.RowKit

theorem AtW.kpNo {w0 w w' : World} {p : Nat} {l : List Bool} (h : AtW w0 p l w) (hk : Kp No w w') : AtW w0 p l w' :=
  let ⟨V, a, b, c, d, e, f⟩ := h
  ⟨V, hk.blk a (no_no _), b.kpNo hk, c, d.no hk, e, f⟩
theorem AtW.kp {w0 w : World} {p : Nat} {l : List Bool} (h : AtW w0 p l w) : Kp No w0 w := let ⟨_, h⟩ := h; h.kp

theorem bits_and_one (n k : Nat) (hn : n < 18446744073709551616) : bits .and .u64 ((n / 2 ^ k : Nat) : Int) 1 = ((n / 2 ^ k % 2 : Nat) : Int) := by
  have := bits_and_u64_nat (n / 2 ^ k) 1 (Nat.lt_of_le_of_lt (Nat.div_le_self _ _) hn) (by omega)
  rw [show ((1 : Nat) : Int) = 1 from rfl] at this
  rw [this, Nat.and_one_is_mod]

set_option maxRecDepth 100000 in
theorem put_any {w0 w : World} {p : Nat} {l : List Bool} (h : AtW w0 p l w) (n many : Nat) (hn : n < 18446744073709551616) (hm : many ≤ 64) (hl : l.length + many ≤ 1048576) :
    Calls Try.prog 36 #[.pointer (some ⟨p, 0, none⟩), .int .u64 (n : Int), .int .i64 (many : Int)] w fun e w' => e = .returned (.int .i64 0) ∧ AtW w0 p (l ++ nbits n many) w' := by
  have H := Lib.hid h
  have hc2 : w.cell? ⟨p, 1, none⟩ = some (.int .i64 (l.length : Int)) := by
    obtain ⟨V, hv⟩ := h
    exact (blk_cell hv.blk 1).trans rfl
  clear h
  have h1 : ¬ (many : Int) < 0 := by omega
  have h2 : ¬ (64 : Int) < (many : Int) := by omega
  have hw1 : IntKind.i64.wrap (1048576 - (l.length : Int)) = 1048576 - (l.length : Int) := IntWalk.i64_in _ (by omega)
  have h3 : ¬ 1048576 - (l.length : Int) < (many : Int) := by omega
  have hw2 : IntKind.i64.wrap ((many : Int) - 1) = (many : Int) - 1 := IntWalk.i64_in _ (by omega)
  go_enter Try.func36, Try.ntmps36
  go_wp2
  go_loopw [8] (fun i wr => ∃ k : Nat, i = .int .i64 ((k : Int) - 1) ∧ k ≤ many ∧ ∃ d, d ++ nbits n k = nbits n many ∧ AtW w0 p (l ++ d) wr) (fun i _ => (intOf i + 1).toNat)
  case atStart => exact ⟨many, rfl, Nat.le_refl _, [], rfl, by simpa using H.out⟩
  case round =>
    obtain ⟨k, rfl, hk, d, hd, hat⟩ := hrel
    have HAT := Lib.hid hat
    have HD := Lib.hid hd
    clear hat hd
    cases k with
    | zero =>
      go_wp2
      go_ret
      refine ⟨rfl, ?_⟩
      rw [← HD.out]
      simpa [nbits] using HAT.out
    | succ k =>
      have HLEN : Hid ((l ++ d).length < 1048576) := by
        show (l ++ d).length < 1048576
        have := congrArg List.length HD.out
        rw [List.length_append, nbits_len, nbits_len] at this
        rw [List.length_append]; omega
      have hcast : ((k + 1 : Nat) : Int) - 1 = (k : Int) := by omega
      rw [hcast]
      have hb := bits_and_one n k hn
      have hpow : (n : Int) / 2 ^ k = ((n / 2 ^ k : Nat) : Int) := by simp
      obtain ⟨b, hbb⟩ : ∃ b, b = decide (n / 2 ^ k % 2 = 1) := ⟨_, rfl⟩
      have hbv : (((n / 2 ^ k % 2 : Nat) : Int) == 1) = b := by
        rw [hbb]
        by_cases c : n / 2 ^ k % 2 = 1
        · simp [c]
        · simp [c]; omega
      have hk0 : (0 : Int) ≤ (k : Int) := by omega
      have hwk : IntKind.i64.wrap ((k : Int) - 1) = (k : Int) - 1 := IntWalk.i64_in _ (by omega)
      have hsn : d ++ [b] ++ nbits n k = nbits n many := by rw [← HD.out, hbb]; simp [nbits]
      have HSN := Lib.hid hsn
      have hk64 : k < 64 := by omega
      have hk64I : (k : Int) ≤ 64 := by omega
      clear hsn hbb hcast hn hm hl h1 h2 h3 hw1 hw2
      generalize ((n / 2 ^ k % 2 : Nat) : Int) = y at *
      generalize ((n / 2 ^ k : Nat) : Int) = q at *
      go_wp2_with fail
      refine (bit_any HAT.out HLEN.out b).mono ?_
      rintro e w5 ⟨rfl, a5⟩
      have A5 := Lib.hid a5
      clear a5
      go_wp2
      go_roundw
      case rel => exact ⟨k, rfl, by omega, d ++ [b], HSN.out, by have := A5.out; rwa [List.append_assoc] at this⟩
      case measure => simp [intOf]

/-- A list in new memory of its own is handed back. -/
def RetB (l : List Nat) (w : World) (en : Ending) (w' : World) : Prop := ∃ v', en = .returned v' ∧ Own BK 5 w' v' l ∧ Kp No w w' ∧ ∀ g, v'.ownBlock = some g → w.heap.size ≤ g

theorem Own.lenb {w : World} {v : Value} {l : List Nat} (h : Own BK 5 w v l) : l.length ≤ maxLen := by
  rcases h with ⟨_, e⟩ | ⟨g, cap, cur, _, _, h1, h2, _⟩
  · simp [e]
  · omega
set_option maxRecDepth 100000 in
theorem out_any {w0 w : World} {p : Nat} {l : List Bool} (h : AtW w0 p l w) (hl : l.length ≤ 1048576) : Calls Try.prog 39 #[.pointer (some ⟨p, 0, none⟩)] w (RetB (packB l) w) := by
  obtain ⟨V, h⟩ := h
  have hc1 := (blk_cell h.blk 0).trans rfl
  simp only [List.getElem?_toArray, List.getElem?_cons_zero, List.getElem?_cons_succ] at hc1
  obtain ⟨A, cap, rfl⟩ := h.own.rd.shape
  have hpl := packB_len l
  have hb : (packB l).length ≤ 200000 := by omega
  have H := Lib.hid h
  clear h hpl hl
  go_enter Try.func39, Try.ntmps39
  go_wp2_with (at_builtin; refine wpl_append elB rfl (.const (.slice none 0 0)) (.tmp 8) rfl rfl rfl (l := []) (m := packB l) ?c1 ?c2 ?c3 ?c4 ?c5)
  case c1 => exact Own.nil _ _ _
  case c2 => exact H.out.own.rd
  case c3 => show 0 + (packB l).length ≤ maxLen; unfold maxLen; omega
  case c4 => show (0 + (packB l).length) * 1 ≤ _; omega
  case c5 =>
    intro v' w' k1 k2 k3
    have K1 := Lib.hid k1; have K2 := Lib.hid k2; have K3 := Lib.hid k3
    clear k1 k2 k3
    go_wp2
    go_ret
    refine ⟨v', rfl, by simpa using K1.out, K2.out.mono fun k _ h => by simp [Value.ownBlock] at h, fun g hg => ?_⟩
    rcases K3.out g hg with h | h
    · simp [Value.ownBlock] at h
    · exact h
end Go.Proofs.Ytnejjjoedmefkaa
