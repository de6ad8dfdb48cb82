/- bits.Reader: one. -/
import Derived.Test.YtnejjjoedmefkaaBitR
namespace Go.Proofs.Ytnejjjoedmefkaa
set_option linter.unusedVariables false
set_option linter.unusedSimpArgs false
open Go.RowKit

theorem unpackB_len (B : List Nat) : (unpackB B).length = 8 * B.length := by
  induction B with
  | nil => rfl
  | cons x B ih =>
    have : unpackB (x :: B) = nbits x 8 ++ unpackB B := rfl
    rw [this, List.length_append, nbits_len, ih, List.length_cons]; omega
theorem unpackB_get (B : List Nat) (d m x : Nat) (hx : B[d]? = some x) (hm : m < 8) : (unpackB B)[8 * d + m]? = some (decide (x / 2 ^ (7 - m) % 2 = 1)) := by
  induction B generalizing d with
  | nil => simp at hx
  | cons y B ih =>
    have h0 : unpackB (y :: B) = nbits y 8 ++ unpackB B := rfl
    rw [h0]
    cases d with
    | zero =>
      simp at hx; subst hx
      rw [List.getElem?_append_left (by rw [nbits_len]; omega), Nat.mul_zero, Nat.zero_add]
      exact nbits_get y 8 m hm
    | succ d =>
      rw [List.getElem?_append_right (by rw [nbits_len]; omega), nbits_len, show 8 * (d + 1) + m - 8 = 8 * d + m by omega]
      exact ih d (by simpa using hx)
theorem bits_and_u8_one (a : Nat) (ha : a < 256) : bits .and .u8 (a : Int) 1 = ((a % 2 : Nat) : Int) := by
  have h1 : (BitVec.ofInt 8 (a : Int)).toNat = a := by
    rw [BitVec.ofInt_natCast, BitVec.toNat_ofNat]; exact Nat.mod_eq_of_lt (by omega)
  have h2 : (BitVec.ofInt 8 (1 : Int)).toNat = 1 := by decide
  show IntKind.u8.wrap ((BitVec.ofInt 8 (a : Int) &&& BitVec.ofInt 8 (1 : Int)).toNat : Int) = _
  rw [BitVec.toNat_and, h1, h2, Nat.and_one_is_mod]
  show (((a % 2 : Nat) : Int) % 256) = _
  omega

set_option maxRecDepth 100000 in
theorem one_any {w0 w : World} {p : Nat} {V : Value} {B : List Nat} {n : Nat} {f : Int} (h : AtR w0 p V B n f w) (hB : B.length ≤ 1000000) (hBx : ∀ x ∈ B, x < 256) (a : Nat) (b : Bool) (hb : (unpackB B)[n + a]? = some b) (y : Int) (hy : y = a) :
    Calls Try.prog 64 #[.pointer (some ⟨p, 0, none⟩), .int .i64 y] w fun e w' => e = .returned (.bool b) ∧ w' = w := by
  subst hy
  obtain ⟨h1, h2, h3, A, cap, h4, h5⟩ := h.cells
  have hlt := (List.getElem?_eq_some_iff.1 hb).1
  rw [unpackB_len] at hlt
  obtain ⟨t, ht⟩ : ∃ t, t = n + a := ⟨_, rfl⟩
  obtain ⟨d, hd⟩ : ∃ d, d = t / 8 := ⟨_, rfl⟩
  obtain ⟨m, hm⟩ : ∃ m, m = t % 8 := ⟨_, rfl⟩
  obtain ⟨x, hx⟩ : ∃ x, B[d]? = some x := ⟨_, List.getElem?_eq_getElem (by omega)⟩
  have hx256 := hBx x (List.mem_of_getElem? hx)
  have hg := unpackB_get B d m x hx (by omega)
  rw [show 8 * d + m = n + a by omega, hb] at hg
  rcases h5 with ⟨hv, he⟩ | ⟨g, o, cap', hv, hr⟩
  · rw [he] at hx; simp at hx
  have hrd : Rd BK w (.slice A B.length cap) B := .inr ⟨g, o, cap', hv, hr⟩
  simp only [Value.slice.injEq] at hv
  obtain ⟨rfl, _, rfl⟩ := hv
  have hxc := hrd.byteAt hx
  obtain ⟨s, hs⟩ : ∃ s, s = 7 - m := ⟨_, rfl⟩
  obtain ⟨q, hq⟩ : ∃ q, q = x / 2 ^ s := ⟨_, rfl⟩
  obtain ⟨z, hz⟩ : ∃ z : Int, z = ((q % 2 : Nat) : Int) := ⟨_, rfl⟩
  have e1 : (n : Int) + (a : Int) = (t : Int) := by omega
  have e2 : IntKind.i64.wrap (t : Int) = (t : Int) := IntWalk.i64_in _ (by omega)
  have e3 : (t : Int) / 8 = (d : Int) := by omega
  have e4 : (t : Int) % 8 = (m : Int) := by omega
  have e5 : IntKind.i64.wrap (d : Int) = (d : Int) := IntWalk.i64_in _ (by omega)
  have e6 : IntKind.i64.wrap (m : Int) = (m : Int) := IntWalk.i64_in _ (by omega)
  have e7 : (7 : Int) - (m : Int) = (s : Int) := by omega
  have e8 : IntKind.i64.wrap (s : Int) = (s : Int) := IntWalk.i64_in _ (by omega)
  have e9 : (x : Int) / 2 ^ s = (q : Int) := by rw [hq]; simp
  have hq256 : q < 256 := by rw [hq]; exact Nat.lt_of_le_of_lt (Nat.div_le_self _ _) hx256
  have e10 : bits .and .u8 (q : Int) 1 = z := by rw [hz]; exact bits_and_u8_one q hq256
  have e11 : (z == 1) = b := by
    have hg := Option.some.inj hg
    rw [← hs, ← hq] at hg
    rw [hg, hz]
    by_cases c : q % 2 = 1
    · simp [c]
    · simp [c]; omega
  have hdI : (d : Int) < (B.length : Int) := by omega
  have hs8 : s < 8 := by omega
  have hs8I : (s : Int) ≤ 8 := by omega
  clear h hb hlt hx hg hr hrd hB hBx hq hz hs hd hm ht hx256 hq256
  go_enter Try.func64, Try.ntmps64
  go_wp2
  go_ret
  exact ⟨rfl, rfl⟩
end Go.Proofs.Ytnejjjoedmefkaa
