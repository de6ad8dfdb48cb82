/- Steps of carfaxlaw14: arguments. -/
import Derived.Test.YtnejjjoedmefkaaSlH
import Derived.Test.YtnejjjoedmefkaaSl
namespace Go.Proofs.Ytnejjjoedmefkaa
set_option linter.unusedVariables false
set_option linter.unusedSimpArgs false
open Go.ChangeShapes Go.WideShapes Go.ChangeAt Go.RowKit Go.Joins

structure S14 where
  k : Nat
  s : SlH
  t : Int
def SK14 : Kd S14 := { sz := 3, enc := fun x => [.int .u8 (x.k : Int), x.s.val, .int .i64 x.t], len := fun _ => rfl, one := by intro a v hv; simp at hv; rcases hv with rfl | rfl | rfl <;> rfl, pos := by decide }
theorem elS14 : ElT Try.prog 63 69 SK14 40 := ElT.of (z := .agg #[.int .u8 0, .slice none 0 0, .int .i64 0]) (by kernel_rfl) (by kernel_rfl) rfl
def S14.ok (w : World) (x : S14) : Prop := x.s.ok w ∧ x.k < 256 ∧ (Lit.int .i64 x.t).wf = true
theorem Rd.stepAt {w : World} {l : List S14} {g o n cap : Nat} (h : Rd SK14 w (.slice (some ⟨g, o, none⟩) n cap) l) {i : Nat} {x : S14} (hx : l[i]? = some x) : w.cell? ⟨g, o + i * 3, none⟩ = some (.int .u8 (x.k : Int)) ∧ w.cell? ⟨g, o + i * 3 + 1, none⟩ = some (.slice x.s.A x.s.b.length x.s.c) ∧ w.cell? ⟨g, o + i * 3 + 2, none⟩ = some (.int .i64 x.t) := by
  have h0 := h.at rfl hx (j := 0) rfl
  have h1 := h.at rfl hx (j := 1) rfl
  have h2 := h.at rfl hx (j := 2) rfl
  exact ⟨h0, h1, h2⟩

section
variable {H : Type} {enc : TypeId × Value → H} {w : World} {base : Nat} {spare : Nat → Bool} {held : Bool}
set_option maxRecDepth 100000 in
theorem step14_dec {n : Nat} {cs : List Value} {y : DataW H × List MemPlace} (h : DataW.trod enc Try.prog w base spare held n 69 cs = some y) : ∃ x : S14, cs = SK14.enc x ∧ x.ok w := by
  obtain ⟨ys, n', rfl, hy, hlen, hyl, hf⟩ := DataW.trod_struct Try.underlying69 h
  have hc : Try.prog.cellsOf 69 = 3 := by kernel_rfl
  have hu : Try.prog.cellsOf 5 = 1 := by kernel_rfl
  have hb : Try.prog.cellsOf 23 = 1 := by kernel_rfl
  have hi : Try.prog.cellsOf 3 = 1 := by kernel_rfl
  rw [hc] at hlen
  match cs, hlen with
  | [c0, c1, c2], _ =>
    match ys, hyl with
    | [y0, y1, y2], _ =>
      have h0 := hf 0 _ rfl
      have h1 := hf 1 _ rfl
      have h2 := hf 2 _ rfl
      simp [hu, hb, hi] at h0 h1 h2
      obtain ⟨k, e0, _, wk⟩ := DataW.trod_int Try.underlying5 h0
      obtain ⟨x, e1, ok⟩ := slh_dec h1
      obtain ⟨t, e2, _, wt⟩ := DataW.trod_int Try.underlying3 h2
      have hk := bounds_u8 wk
      simp at e0 e2
      have e1' : c1 = x.val := by simpa [SHK] using e1
      refine ⟨⟨k.toNat, x, t⟩, ?_, ok, by show k.toNat < 256; omega, wt⟩
      rw [e0, e1', e2]
      show [Value.int .u8 k, x.val, .int .i64 t] = [.int .u8 ((k.toNat : Nat) : Int), x.val, .int .i64 t]
      rw [Int.toNat_of_nonneg hk.1]
set_option maxRecDepth 100000 in
theorem open_steps14 {v : Value} {d : DataW H} {p : List MemPlace} {r : Reach} {b0 : Nat} (hv : Value.okWide Try.prog w r b0 63 v) (h : DataW.Trod enc Try.prog w base spare held 63 v d p) : ∃ l : List S14, Rd SK14 w v l ∧ ∀ x ∈ l, x.ok w := by
  obtain ⟨a0, len, cap, rfl⟩ := okWide_slice Try.underlying63 hv
  obtain ⟨fuel, hf⟩ := h
  obtain ⟨l, h1, h2, A, cap', hv', h3, h4⟩ := open_rows (K := SK14) (S14.ok w) Try.underlying63 (by kernel_rfl) (fun n cs' y hy => step14_dec hy) hf
  simp only [Value.slice.injEq] at hv'
  obtain ⟨rfl, rfl, rfl⟩ := hv'
  exact ⟨l, h1.rd h3 h4, h2⟩
end
end Go.Proofs.Ytnejjjoedmefkaa
