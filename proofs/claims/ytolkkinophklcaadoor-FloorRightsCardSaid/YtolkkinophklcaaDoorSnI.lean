/- One int is appended to a slice in new memory. -/
import Derived.Test.YtolkkinophklcaaDoorInt
import Derived.Test.YtolkkinophklcaaDoorFlP
namespace Go.Proofs.YtolkkinophklcaaDoor
set_option linter.unusedVariables false
set_option linter.unusedSimpArgs false
open Go.RowKit

theorem NewS.from_ {α : Type} {K : Kd α} {e : TypeId} {w w3 w' : World} {v : Value} {l : List α} (h : NewS K e w3 w' v l) (hk : Kp No w w3) : NewS K e w w' v l :=
  ⟨h.own, fun g hg => Nat.le_trans hk.size (h.ge g hg), hk.no h.kp⟩
theorem wpl_snocZ {w w0 : World} {ops : Array Oper} {rest : List Oper} {o : Oper} {a : Act} {Q : Exit → Act → World → Prop} (hgd : o.guard = none) (s x : Operand)
    (ho : o.op = .call { callee := .builtin .append, args := #[s, x], argTypes := #[29, 29] }) {v : Value} {b m : Nat} {n : Nat} {z : Int} {L : List Nat} (hs : a.eval s = v) (hxv : a.eval x = .slice (some ⟨b, 0, none⟩) 1 1) (hb : b = w.heap.size) (hz : z = (n : Int))
    (ns : NewS IK 3 w0 w v (ints L)) (hm : m = L.length) (hl : m ≤ 1000000)
    (h : ∀ A q w', NewS IK 3 w0 w' (.slice A (m + 1) q) (ints (L ++ [n])) → Kp (fun k => v.ownBlock = some k) w w' → (∀ g, (Value.slice A (m + 1) q).ownBlock = some g → v.ownBlock = some g ∨ w.heap.size ≤ g) → wpList Tryd.prog ops Q rest (a.put o.dst (.slice A (m + 1) q)) w') :
    wpList Tryd.prog ops Q (o :: rest) a (w.alloc (.cells #[.int .i64 z] 3)) := by
  subst hb hm hz
  refine wpl_append elI hgd s x ho hs hxv (l := ints L) (m := [(n : Int)]) (ns.own.alloc _) (Rd.litAt IK 3 _ _ [(n : Int)] rfl (by unfold maxLen; simp) _ _ rfl rfl) (by rw [ints_len]; unfold maxLen; simp; omega) (by rw [ints_len]; simp; omega) ?_
  intro v' w' k1 k2 k3
  have e : ints L ++ [(n : Int)] = ints (L ++ [n]) := by simp [ints]
  rw [e] at k1
  have q := NewS.app2 k1 k2 k3 ((Kp.refl No w).alloc (.cells #[.int .i64 (n : Int)] 3)) ns (by simp)
  obtain ⟨A, c, rfl⟩ := k1.rd.shape
  rw [ints_len, List.length_append, List.length_singleton] at q k3 ⊢
  exact h A c w' q (((Kp.refl _ w).alloc _).trans k2) (fun g hg => by
    rcases k3 g hg with h | h
    · exact .inl h
    · simp at h
      exact .inr (by omega))
theorem wpl_snocI {w w0 : World} {ops : Array Oper} {rest : List Oper} {o : Oper} {a : Act} {Q : Exit → Act → World → Prop} (hgd : o.guard = none) (s x : Operand)
    (ho : o.op = .call { callee := .builtin .append, args := #[s, x], argTypes := #[29, 29] }) {v : Value} {b m : Nat} {n : Nat} {L : List Nat} (hs : a.eval s = v) (hxv : a.eval x = .slice (some ⟨b, 0, none⟩) 1 1) (hb : b = w.heap.size)
    (ns : NewS IK 3 w0 w v (ints L)) (hm : m = L.length) (hl : m ≤ 1000000)
    (h : ∀ A q w', NewS IK 3 w0 w' (.slice A (m + 1) q) (ints (L ++ [n])) → Kp (fun k => v.ownBlock = some k) w w' → (∀ g, (Value.slice A (m + 1) q).ownBlock = some g → v.ownBlock = some g ∨ w.heap.size ≤ g) → wpList Tryd.prog ops Q rest (a.put o.dst (.slice A (m + 1) q)) w') :
    wpList Tryd.prog ops Q (o :: rest) a (w.alloc (.cells #[.int .i64 (n : Int)] 3)) :=
  wpl_snocZ hgd s x ho hs hxv hb rfl ns hm hl h
end Go.Proofs.YtolkkinophklcaaDoor
