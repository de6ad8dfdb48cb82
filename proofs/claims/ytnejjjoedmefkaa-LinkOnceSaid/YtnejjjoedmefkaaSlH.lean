/- Slices of slices of bytes. -/
import Derived.Test.YtnejjjoedmefkaaArgB
namespace Go.Proofs.Ytnejjjoedmefkaa
set_option linter.unusedVariables false
set_option linter.unusedSimpArgs false
open Go.ChangeShapes Go.WideShapes Go.ChangeAt Go.RowKit Go.Joins

/-- A slice's head, and what it reads as. -/
structure SlH where
  A : Option Addr
  c : Nat
  b : List Nat
def SlH.val (x : SlH) : Value := .slice x.A x.b.length x.c
def SHK : Kd SlH := { sz := 1, enc := fun x => [x.val], len := fun _ => rfl, one := by intro a v hv; simp at hv; subst hv; rfl, pos := by decide }
def SlH.ok (w : World) (x : SlH) : Prop := Rd BK w x.val x.b ∧ ∀ y ∈ x.b, y < 256
theorem SlH.ok.kpNo {w w' : World} {x : SlH} (h : x.ok w) (hk : Kp No w w') : x.ok w' := ⟨h.1.kpNo hk, h.2⟩
theorem Rd.slAt {w : World} {l : List SlH} {g o n cap : Nat} (h : Rd SHK w (.slice (some ⟨g, o, none⟩) n cap) l) {i : Nat} {x : SlH} (hx : l[i]? = some x) : w.cell? ⟨g, o + i, none⟩ = some (.slice x.A x.b.length x.c) := by
  have := h.at rfl hx (j := 0) rfl
  simpa [SHK, SlH.val] using this

section
variable {H : Type} {enc : TypeId × Value → H} {w : World} {base : Nat} {spare : Nat → Bool} {held : Bool}
theorem slh_dec {n : Nat} {cs : List Value} {y : DataW H × List MemPlace} (h : DataW.trod enc Try.prog w base spare held n 23 cs = some y) : ∃ x : SlH, cs = SHK.enc x ∧ x.ok w := by
  have hc : ∃ v, cs = [v] := by
    rcases Go.Deep.open_slice Try.underlying23 h with ⟨h0, _⟩ | ⟨a, len, cap, m, n, D, Pl, hcs, _⟩
    · exact ⟨_, h0⟩
    · exact ⟨_, hcs⟩
  obtain ⟨v, rfl⟩ := hc
  obtain ⟨b, h1, h2⟩ := bytes_dec h
  obtain ⟨A, c, rfl⟩ := h1.shape
  exact ⟨⟨A, c, b⟩, rfl, h1, h2⟩
set_option maxRecDepth 100000 in
theorem open_bytess {v : Value} {d : DataW H} {p : List MemPlace} {r : Reach} {b0 : Nat} (hv : Value.okWide Try.prog w r b0 58 v) (h : DataW.Trod enc Try.prog w base spare held 58 v d p) : ∃ l : List SlH, Rd SHK w v l ∧ ∀ x ∈ l, x.ok w := by
  obtain ⟨a0, len, cap, rfl⟩ := okWide_slice Try.underlying58 hv
  obtain ⟨fuel, hf⟩ := h
  obtain ⟨l, h1, h2, A, cap', hv', h3, h4⟩ := open_rows (K := SHK) (SlH.ok w) Try.underlying58 (by kernel_rfl) (fun n cs' y hy => slh_dec hy) hf
  simp only [Value.slice.injEq] at hv'
  obtain ⟨rfl, rfl, rfl⟩ := hv'
  exact ⟨l, h1.rd h3 h4, h2⟩
end
end Go.Proofs.Ytnejjjoedmefkaa
