/- Arguments: bytes, packets. -/
import Derived.Test.YtnejjjoedmefkaaArg
import Derived.Test.YtnejjjoedmefkaaBitW
import Derived.OpenShut
import Derived.Lib.SmallJoins
namespace Go.Proofs.Ytnejjjoedmefkaa
set_option linter.unusedVariables false
set_option linter.unusedSimpArgs false
open Go.ChangeShapes Go.WideShapes Go.ChangeAt Go.RowKit Go.Joins

theorem own : ownKnob Try.prog.godebug = none := by kernel_rfl
theorem laid : laidOutB Try.prog = true := by kernel_rfl

theorem Kd.encs_split {α : Type} (K : Kd α) (l : List α) : ∀ (j : Nat) (u : Value), (K.encs l)[j]? = some u → ∃ i x j', l[i]? = some x ∧ (K.enc x)[j']? = some u ∧ j = i * K.sz + j' := by
  induction l with
  | nil => intro j u h; simp [Kd.encs] at h
  | cons a l ih =>
    intro j u h
    rw [K.encs_cons] at h
    rcases Nat.lt_or_ge j (K.enc a).length with hj | hj
    · rw [List.getElem?_append_left hj] at h
      exact ⟨0, a, j, rfl, h, by omega⟩
    · rw [List.getElem?_append_right hj, K.len] at h
      obtain ⟨i, x, j', h1, h2, h3⟩ := ih _ _ h
      rw [K.len] at hj
      refine ⟨i + 1, x, j', by simpa using h1, h2, ?_⟩
      rw [Nat.add_mul, Nat.one_mul]; omega
theorem RdA.rd {α : Type} {K : Kd α} {w : World} {A : Option Addr} {n cap : Nat} {l : List α} (h : RdA K w (.slice A n cap) l) (h1 : l.length ≤ cap) (h2 : cap ≤ maxLen) : Rd K w (.slice A l.length cap) l := by
  cases l with
  | nil => exact Rd.empty K w A cap
  | cons a l =>
    obtain ⟨g, o, rfl, _⟩ := h.at (i := 0) (x := a) rfl
    refine .inr ⟨g, o, cap, rfl, h1, h2, fun j u hu => ?_⟩
    obtain ⟨i, x, j', e1, e2, rfl⟩ := K.encs_split _ _ _ hu
    obtain ⟨g', o', hg, hc⟩ := h.at e1
    simp only [Option.some.injEq, Addr.mk.injEq] at hg
    obtain ⟨rfl, rfl, _⟩ := hg
    rw [← Nat.add_assoc]
    exact hc j' u e2

section
variable {H : Type} {enc : TypeId × Value → H} {w : World} {base : Nat} {spare : Nat → Bool} {held : Bool}

theorem byte_dec {n : Nat} {cs : List Value} {y : DataW H × List MemPlace} (h : DataW.trod enc Try.prog w base spare held n 5 cs = some y) : ∃ x : Nat, cs = BK.enc x ∧ x < 256 := by
  obtain ⟨k, e0, _, wk⟩ := DataW.trod_int Try.underlying5 h
  have := bounds_u8 wk
  refine ⟨k.toNat, ?_, by omega⟩
  rw [e0]
  show [Value.int .u8 k] = [.int .u8 ((k.toNat : Nat) : Int)]
  rw [Int.toNat_of_nonneg this.1]
set_option maxRecDepth 100000 in
/-- Bytes that came in. -/
theorem bytes_dec {n : Nat} {v : Value} {y : DataW H × List MemPlace} (h : DataW.trod enc Try.prog w base spare held n 23 [v] = some y) : ∃ l : List Nat, Rd BK w v l ∧ ∀ x ∈ l, x < 256 := by
  obtain ⟨l, h1, h2, A, cap, rfl, h3, h4⟩ := open_rows (K := BK) (fun x : Nat => x < 256) Try.underlying23 (by kernel_rfl) (fun n cs' y hy => byte_dec hy) h
  exact ⟨l, h1.rd h3 h4, h2⟩
set_option maxRecDepth 100000 in
theorem open_bytes {v : Value} {d : DataW H} {p : List MemPlace} {r : Reach} {b0 : Nat} (hv : Value.okWide Try.prog w r b0 23 v) (h : DataW.Trod enc Try.prog w base spare held 23 v d p) : ∃ l : List Nat, Rd BK w v l ∧ ∀ x ∈ l, x < 256 := by
  obtain ⟨a0, len, cap, rfl⟩ := okWide_slice Try.underlying23 hv
  obtain ⟨fuel, hf⟩ := h
  exact bytes_dec hf
set_option maxRecDepth 100000 in
theorem open_packet {v : Value} {d : DataW H} {p : List MemPlace} {r : Reach} {b0 : Nat} (hv : Value.okWide Try.prog w r b0 25 v) (h : DataW.Trod enc Try.prog w base spare held 25 v d p) :
    ∃ (hd : Bool) (n : Nat) (v2 : Value) (l : List Nat), v = .agg #[.bool hd, .int .u64 (n : Int), v2] ∧ n < 18446744073709551616 ∧ Rd BK w v2 l ∧ ∀ x ∈ l, x < 256 := by
  obtain ⟨v0, v1, v2, y0, y1, y2, n, rfl, _, _, h0, h1, h2⟩ := open_agg3 Try.underlying25 (by kernel_rfl) (by kernel_rfl) hv h
  obtain ⟨b, e0, _⟩ := DataW.trod_bool Try.underlying4 h0
  obtain ⟨k, e1, _, wk⟩ := DataW.trod_int Try.underlying22 h1
  obtain ⟨l, h3, h4⟩ := bytes_dec h2
  simp at e0 e1
  subst e0 e1
  have hb := bounds_u64 wk
  refine ⟨b, k.toNat, v2, l, ?_, by omega, h3, h4⟩
  rw [Int.toNat_of_nonneg hb.1]
end
end Go.Proofs.Ytnejjjoedmefkaa
