/- Slices in new memory. -/
import Derived.Test.YtolkkinophklcaaDoorGen
namespace Go.Proofs.YtolkkinophklcaaDoor
set_option linter.unusedVariables false
set_option linter.unusedSimpArgs false
open Go.RowKit

section
variable {α : Type} {K : Kd α} {P : Program} {t e : TypeId} {bytes : Nat}
/-- 's[:hi]', as a list. -/
theorem Rd.upto (E : ElT P t e K bytes) {w : World} {v : Value} {l : List α} (h : Rd K w v l) (p : Nat) (hp : p ≤ l.length) (x : Int) (hx : x = p) :
    ∃ v2, (∀ w', (Instr.slice t v none (some (.int .i64 x)) none).run P w' = .ok v2 w') ∧ Rd K w v2 (l.take p) ∧ (∀ g, v2.ownBlock = some g → v.ownBlock = some g) := by
  rcases h with ⟨⟨A, c, rfl⟩, rfl⟩ | ⟨g, o, cap, rfl, h1, h2, h3⟩
  · obtain rfl : p = 0 := by simpa using hp
    subst hx
    exact ⟨_, fun w' => run_slice_e_hi E A c w', by simpa using Rd.empty K w A c, fun g hg => hg⟩
  · refine ⟨_, run_slice_hi E g o l.length cap p (by omega) x hx, .inr ⟨g, o, cap, by simp [Nat.min_eq_left hp], by simp; omega, h2, fun j u hu => ?_⟩, fun g' hg' => hg'⟩
    rw [← K.encs_take, List.getElem?_take] at hu
    split at hu
    · exact h3 j u hu
    · exact absurd hu (by simp)

/-- v reads as l, and lies in memory that is newer than w0. -/
structure NewS (K : Kd α) (e : TypeId) (w0 w : World) (v : Value) (l : List α) : Prop where
  own : Own K e w v l
  ge : ∀ g, v.ownBlock = some g → w0.heap.size ≤ g
  kp : Kp No w0 w
theorem NewS.nil (K : Kd α) (e : TypeId) (w : World) : NewS K e w w (.slice none 0 0) [] := ⟨Own.nil _ _ _, by simp [Value.ownBlock], Kp.refl _ _⟩
theorem NewS.kpNo {w0 w w' : World} {v : Value} {l : List α} (h : NewS K e w0 w v l) (hk : Kp No w w') : NewS K e w0 w' v l := ⟨h.own.kpNo hk, h.ge, h.kp.no hk⟩
theorem NewS.alloc {w0 w : World} {v : Value} {l : List α} (h : NewS K e w0 w v l) (o : Obj) : NewS K e w0 (w.alloc o) v l := h.kpNo ((Kp.refl _ _).alloc _)
theorem NewS.app {w0 w w1 w' : World} {v v' : Value} {l l' : List α} {n : Nat} (h : NewS K e w0 w v l) (hk : Kp No w w1) (k1 : Own K e w' v' l') (k2 : Kp (fun k => v.ownBlock = some k) w1 w') (k3 : ∀ g, v'.ownBlock = some g → v.ownBlock = some g ∨ n ≤ g) (hn : w.heap.size ≤ n) : NewS K e w0 w' v' l' := by
  have hs := h.kp.size
  have hs2 := hk.size
  refine ⟨k1, fun g hg => ?_, (h.kp.no hk).trans' k2 fun j hj e => ?_⟩
  · rcases k3 g hg with e | e
    · exact h.ge g e
    · omega
  · have := h.ge j e; omega
theorem NewS.app2 {w0 w w1 w' : World} {v v' : Value} {l l' : List α} {n : Nat} (k1 : Own K e w' v' l') (k2 : Kp (fun k => v.ownBlock = some k) w1 w') (k3 : ∀ g, v'.ownBlock = some g → v.ownBlock = some g ∨ n ≤ g) (hk : Kp No w w1) (h : NewS K e w0 w v l) (hn : w.heap.size ≤ n) : NewS K e w0 w' v' l' := h.app hk k1 k2 k3 hn
theorem NewS.empty (K : Kd α) (e : TypeId) (w : World) : NewS K e w (w.alloc (.cells #[] e)) (.slice (some ⟨w.heap.size, 0, none⟩) 0 0) ([] : List α) :=
  ⟨Own.lit K e w [] [] rfl (by simp), fun g hg => by simp [Value.ownBlock] at hg; omega, (Kp.refl _ _).alloc _⟩
end

end Go.Proofs.YtolkkinophklcaaDoor
