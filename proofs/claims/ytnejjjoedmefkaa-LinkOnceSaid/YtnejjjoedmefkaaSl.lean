/- Slice expressions, as lists. -/
import Derived.Test.YtnejjjoedmefkaaNew
namespace Go.Proofs.Ytnejjjoedmefkaa
set_option linter.unusedVariables false
set_option linter.unusedSimpArgs false
open Go.RowKit

section
variable {α : Type} {K : Kd α} {P : Program} {t e : TypeId} {bytes : Nat}
theorem Kd.encs_mid (K : Kd α) (l : List α) (a b j : Nat) (u : Value) (h : (K.encs ((l.drop a).take b))[j]? = some u) : (K.encs l)[a * K.sz + j]? = some u := by
  rw [← K.encs_take, List.getElem?_take] at h
  split at h
  · rw [← K.encs_drop, List.getElem?_drop] at h; exact h
  · exact absurd h (by simp)
/-- 's[lo:hi]', as a list. -/
theorem Rd.mid (E : ElT P t e K bytes) {w : World} {v : Value} {l : List α} (h : Rd K w v l) (lo hi : Nat) (h1 : lo ≤ hi) (h2 : hi ≤ l.length) (x y : Int) (hx : x = lo) (hy : y = hi) :
    ∃ v2, (∀ w', (Instr.slice t v (some (.int .i64 x)) (some (.int .i64 y)) none).run P w' = .ok v2 w') ∧ Rd K w v2 ((l.drop lo).take (hi - lo)) ∧ (∀ g, v2.ownBlock = some g → v.ownBlock = some g) := by
  rcases h with ⟨⟨A, c, rfl⟩, rfl⟩ | ⟨g, o, cap, rfl, c1, c2, c3⟩
  · obtain rfl : hi = 0 := by simpa using h2
    obtain rfl : lo = 0 := by omega
    subst hx hy
    exact ⟨_, fun w' => run_slice_e_lohi E A c w', by simpa using Rd.empty K w A c, fun g hg => hg⟩
  · obtain ⟨o', ho, hr⟩ := run_slice_lohi E g o l.length cap lo hi h1 (by omega) x y hx hy
    have hln : ((l.drop lo).take (hi - lo)).length = hi - lo := by rw [List.length_take, List.length_drop]; omega
    refine ⟨_, hr, .inr ⟨g, o', cap - lo, by rw [hln], by rw [hln]; omega, by omega, fun j u hu => ?_⟩, fun g' hg' => hg'⟩
    have hne : lo < cap := by
      rcases Nat.lt_or_ge lo cap with h | h
      · exact h
      · have h0 : (l.drop lo).take (hi - lo) = [] := List.eq_nil_of_length_eq_zero (by omega)
        rw [h0] at hu; simp [Kd.encs] at hu
    have := c3 _ u (K.encs_mid l lo (hi - lo) j u hu)
    rw [ho hne, Nat.add_assoc]
    exact this
/-- The same, with a name for what is read, and the value written out. -/
theorem Rd.upto2 (E : ElT P t e K bytes) {w : World} {v : Value} {l : List α} (h : Rd K w v l) (p : Nat) (hp : p ≤ l.length) (x : Int) (hx : x = p) :
    ∃ s A c, Hid (s = l.take p) ∧ s.length = p ∧ (∀ w', (Instr.slice t v none (some (.int .i64 x)) none).run P w' = .ok (.slice A s.length c) w') ∧ Hid (Rd K w (.slice A s.length c) s) ∧ Hid (∀ g, (Value.slice A s.length c).ownBlock = some g → v.ownBlock = some g) := by
  obtain ⟨v2, h1, h2, h3⟩ := h.upto E p hp x hx
  obtain ⟨A, c, rfl⟩ := h2.shape
  exact ⟨_, A, c, rfl, by rw [List.length_take]; omega, h1, h2, h3⟩
theorem Rd.mid2 (E : ElT P t e K bytes) {w : World} {v : Value} {l : List α} (h : Rd K w v l) (lo hi : Nat) (h1 : lo ≤ hi) (h2 : hi ≤ l.length) (x y : Int) (hx : x = lo) (hy : y = hi) :
    ∃ s A c, Hid (s = (l.drop lo).take (hi - lo)) ∧ s.length = hi - lo ∧ (∀ w', (Instr.slice t v (some (.int .i64 x)) (some (.int .i64 y)) none).run P w' = .ok (.slice A s.length c) w') ∧ Hid (Rd K w (.slice A s.length c) s) ∧ Hid (∀ g, (Value.slice A s.length c).ownBlock = some g → v.ownBlock = some g) := by
  obtain ⟨v2, k1, k2, k3⟩ := h.mid E lo hi h1 h2 x y hx hy
  obtain ⟨A, c, rfl⟩ := k2.shape
  exact ⟨_, A, c, rfl, by rw [List.length_take, List.length_drop]; omega, k1, k2, k3⟩
theorem Rd.from2 (E : ElT P t e K bytes) {w : World} {v : Value} {l : List α} (h : Rd K w v l) (lo : Nat) (h1 : lo ≤ l.length) (x : Int) (hx : x = lo) :
    ∃ s A c, Hid (s = l.drop lo) ∧ s.length = l.length - lo ∧ (∀ w', (Instr.slice t v (some (.int .i64 x)) none none).run P w' = .ok (.slice A s.length c) w') ∧ Hid (Rd K w (.slice A s.length c) s) ∧ Hid (∀ g, (Value.slice A s.length c).ownBlock = some g → v.ownBlock = some g) := by
  obtain ⟨v2, k1, k2, k3⟩ := h.from E lo h1 x hx
  obtain ⟨A, c, rfl⟩ := k2.shape
  exact ⟨_, A, c, rfl, by rw [List.length_drop], k1, k2, k3⟩
end
end Go.Proofs.Ytnejjjoedmefkaa
