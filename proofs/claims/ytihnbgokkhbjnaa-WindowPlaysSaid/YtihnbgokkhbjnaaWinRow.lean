/- The laws' arguments: acts, windows. -/
import Derived.Test.YtihnbgokkhbjnaaWinL
import Derived.ProofKit
import Derived.OpenShut
import Derived.Lib.SmallJoins
namespace Go.Proofs.Ytihnbgokkhbjnaa
set_option linter.unusedVariables false
set_option linter.unusedSimpArgs false
open Go.ChangeShapes Go.WideShapes Go.ChangeAt Go.RowKit Go.Joins

theorem own : ownKnob Try.prog.godebug = none := by kernel_rfl
theorem laid : laidOutB Try.prog = true := by kernel_rfl

section
variable {H : Type} {enc : TypeId × Value → H} {w : World} {base : Nat} {spare : Nat → Bool} {held : Bool}

theorem win_dec {n : Nat} {cs : List Value} {y : DataW H × List MemPlace} (h : DataW.trod enc Try.prog w base spare held n 23 cs = some y) : ∃ a b : Int, cs = [.int .i64 a, .int .i64 b] := by
  obtain ⟨ys, n', rfl, hy, hlen, hyl, hf⟩ := DataW.trod_struct Try.underlying23 h
  have hc : Try.prog.cellsOf 23 = 2 := by kernel_rfl
  have hi : Try.prog.cellsOf 3 = 1 := by kernel_rfl
  rw [hc] at hlen
  match cs, hlen with
  | [c0, c1], _ =>
    match ys, hyl with
    | [y0, y1], _ =>
      have h0 := hf 0 _ rfl
      have h1 := hf 1 _ rfl
      simp [hi] at h0 h1
      obtain ⟨a, e0, _, _⟩ := DataW.trod_int Try.underlying3 h0
      obtain ⟨b, e1, _, _⟩ := DataW.trod_int Try.underlying3 h1
      simp at e0 e1
      exact ⟨a, b, by rw [e0, e1]⟩

theorem act_dec {n : Nat} {cs : List Value} {y : DataW H × List MemPlace} (h : DataW.trod enc Try.prog w base spare held n 36 cs = some y) : ∃ x : WAct, cs = AK.enc x ∧ 0 ≤ x.k := by
  obtain ⟨ys, n', rfl, hy, hlen, hyl, hf⟩ := DataW.trod_struct Try.underlying36 h
  have hc : Try.prog.cellsOf 36 = 4 := by kernel_rfl
  have hi : Try.prog.cellsOf 3 = 1 := by kernel_rfl
  have hu : Try.prog.cellsOf 5 = 1 := by kernel_rfl
  have hw : Try.prog.cellsOf 23 = 2 := by kernel_rfl
  rw [hc] at hlen
  match cs, hlen with
  | [c0, c1, c2, c3], _ =>
    match ys, hyl with
    | [y0, y1, y2], _ =>
      have h0 := hf 0 _ rfl
      have h1 := hf 1 _ rfl
      have h2 := hf 2 _ rfl
      simp [hi, hu, hw] at h0 h1 h2
      obtain ⟨k, e0, _, wk⟩ := DataW.trod_int Try.underlying5 h0
      obtain ⟨c, e1, _, _⟩ := DataW.trod_int Try.underlying3 h1
      obtain ⟨a, b, e2⟩ := win_dec h2
      simp at e0 e1 e2
      refine ⟨⟨k, c, (a, b)⟩, by rw [e0, e1, e2.1, e2.2]; rfl, ?_⟩
      have := bounds_u8 wk
      exact this.1

theorem open_acts {r : Reach} {b0 : Nat} {v : Value} {d : DataW H} {p : List MemPlace} (hv : Value.okWide Try.prog w r b0 33 v) (h : DataW.Trod enc Try.prog w base spare held 33 v d p) :
    ∃ (l : List WAct) (A : Option Addr) (cap : Nat), v = .slice A l.length cap ∧ RdA AK w (.slice A l.length cap) l ∧ l.length ≤ cap ∧ cap ≤ maxLen ∧ ∀ a ∈ l, 0 ≤ a.k := by
  obtain ⟨a0, len, cap, rfl⟩ := okWide_slice Try.underlying33 hv
  obtain ⟨fuel, hf⟩ := h
  obtain ⟨l, h1, h2, A, cap', hv', h3, h4⟩ := open_rows (K := AK) (fun x : WAct => 0 ≤ x.k) Try.underlying33 (by kernel_rfl) (fun n cs' y hy => act_dec hy) hf
  simp only [Value.slice.injEq] at hv'
  obtain ⟨rfl, rfl, rfl⟩ := hv'
  exact ⟨l, a0, cap, rfl, h1, h3, h4, h2⟩
end
end Go.Proofs.Ytihnbgokkhbjnaa
