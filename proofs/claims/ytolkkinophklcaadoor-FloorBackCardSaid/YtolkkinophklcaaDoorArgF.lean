/- Arguments: floors. -/
import Derived.Test.YtolkkinophklcaaDoorFlP
import Derived.Test.YtolkkinophklcaaDoorLaw
import Derived.OpenShut
import Derived.Lib.SmallJoins
namespace Go.Proofs.YtolkkinophklcaaDoor
set_option linter.unusedVariables false
set_option linter.unusedSimpArgs false
open Go.ChangeShapes Go.WideShapes Go.ChangeAt Go.RowKit Go.Joins

section
variable {H : Type} {enc : TypeId × Value → H} {w : World} {base : Nat} {spare : Nat → Bool} {held : Bool}
set_option maxRecDepth 100000 in
theorem open_floor {v : Value} {d : DataW H} {p : List MemPlace} {r : Reach} {b0 : Nat} (hv : Value.okWide Tryd.prog w r b0 24 v) (h : DataW.Trod enc Tryd.prog w base spare held 24 v d p) :
    ∃ f : Flr, v = f.val ∧ f.s.size ≤ 9223372036854775807 := by
  obtain ⟨v0, v1, v2, y0, y1, y2, n, rfl, _, _, h0, h1, h2⟩ := open_agg3 Tryd.underlying24 (by kernel_rfl) (by kernel_rfl) hv h
  obtain ⟨a, e0, _, _⟩ := DataW.trod_int Tryd.underlying3 h0
  obtain ⟨b, e1, _, _⟩ := DataW.trod_int Tryd.underlying3 h1
  obtain ⟨s, e2, _, hs⟩ := DataW.trod_string Tryd.underlying9 h2
  simp at e0 e1 e2
  subst e0 e1 e2
  exact ⟨⟨a, b, s⟩, rfl, hs⟩
end
end Go.Proofs.YtolkkinophklcaaDoor
