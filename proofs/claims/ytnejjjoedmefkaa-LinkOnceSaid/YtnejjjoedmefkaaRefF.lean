/- carfaxref01: Of. -/
import Derived.Test.YtnejjjoedmefkaaRefE
import Derived.Deep.RegionHeld3
namespace Go.Proofs.Ytnejjjoedmefkaa
set_option linter.unusedVariables false
set_option linter.unusedSimpArgs false
open Go.RowKit

theorem Kp.ofDrew {S : Nat → Prop} {a b : World} (h : Kp S a.drew b) : Kp S a b := ⟨h.os, h.tape, h.output, h.size, h.block⟩

/-- The step law of append, at a region that draws its order. -/
theorem stp_append {α : Type} {K : Kd α} {P : Program} {t e : TypeId} {bytes : Nat} {w : World} (E : ElT P t e K bytes) {ops : Array Oper} {o : Oper} {a : Act} {K' : Act → World → Prop} {Q : Exit → Act → World → Prop} {Ex : Prop} (hgd : o.guard = none) (s x : Operand)
    (ho : o.op = .call { callee := .builtin .append, args := #[s, x], argTypes := #[t, t] }) {v xv : Value} {l m : List α} (hs : a.eval s = v) (hxv : a.eval x = xv)
    (hown : Own K e w v l) (hx : Rd K w xv m) (h63 : l.length + m.length ≤ maxLen) (hbytes : (l.length + m.length) * bytes ≤ 140737488355328)
    (h : ∀ v' w', Own K e w' v' (l ++ m) → Kp (fun k => v.ownBlock = some k) w w' → (∀ g, v'.ownBlock = some g → v.ownBlock = some g ∨ w.heap.size ≤ g) → K' (a.put o.dst v') w') : if Region.wanted o (yielded ops a.tmps) = true then Oper.wp P o a w K' Q else Ex := by
  have hw : Region.wanted o (yielded ops a.tmps) = true := by simp [Region.wanted, hgd]
  rw [if_pos hw]
  obtain ⟨v', w', hr, h2, h3, h4⟩ := run_append E o.type hown hx h63 hbytes
  unfold Oper.wp execOp
  simp only [ho, resolve, invoke, builtin, Sem.run_bind, Sem.run_pure, Result.andThen_ok, List.map_toArray, List.map_cons, List.map_nil, hs, hxv, hr]
  exact h v' w' h2 h3 h4

/-- The document's reader: p points to it, it has the bits L, stands at n, and has the fault f. -/
structure QdV (w0 : World) (p : Nat) (L : List Bool) (n : Nat) (f : Int) (w : World) (V : Value) : Prop where
  blk : w.heap[p]? = some (.cells #[V, .int .i64 (n : Int), .int .i64 f] 92 (0, 0))
  own : Own QK 4 w V L
  ne : ∀ g, V.ownBlock = some g → g ≠ p
  kp : Kp No w0 w
  po : w0.heap.size ≤ p
  vo : ∀ g, V.ownBlock = some g → w0.heap.size ≤ g
def NewQ (w0 : World) (p : Nat) (L : List Bool) (n : Nat) (f : Int) (w : World) : Prop := ∃ V, QdV w0 p L n f w V

/-- The same reader, that is only read: the slice V is named; since w0 no other block was written. -/
structure AtQ (w0 : World) (p : Nat) (V : Value) (L : List Bool) (n : Nat) (f : Int) (w : World) : Prop where
  blk : w.heap[p]? = some (.cells #[V, .int .i64 (n : Int), .int .i64 f] 92 (0, 0))
  rd : Rd QK w V L
  ne : ∀ g, V.ownBlock = some g → g ≠ p
  kp : Kp (fun k => k = p) w0 w
theorem QdV.at {w0 w : World} {p : Nat} {L : List Bool} {n : Nat} {f : Int} {V : Value} (h : QdV w0 p L n f w V) : AtQ w p V L n f w := ⟨h.blk, h.own.rd, h.ne, Kp.refl _ _⟩
theorem AtQ.kpNo {w0 w w' : World} {p : Nat} {V : Value} {L : List Bool} {n : Nat} {f : Int} (h : AtQ w0 p V L n f w) (hk : Kp No w w') : AtQ w0 p V L n f w' :=
  ⟨hk.blk h.blk (no_no _), h.rd.kpNo hk, h.ne, h.kp.no hk⟩
theorem AtQ.here {w0 w : World} {p : Nat} {V : Value} {L : List Bool} {n : Nat} {f : Int} (h : AtQ w0 p V L n f w) : AtQ w p V L n f w := ⟨h.blk, h.rd, h.ne, Kp.refl _ _⟩
theorem AtQ.far {S : Nat → Prop} {w0 w w' : World} {p : Nat} {V : Value} {L : List Bool} {n : Nat} {f : Int} (h : AtQ w0 p V L n f w) (hk : Kp S w w') (hp : ¬ S p) (hv : ∀ g, V.ownBlock = some g → ¬ S g) : AtQ w' p V L n f w' :=
  ⟨hk.blk h.blk hp, h.rd.kp hk hv, h.ne, Kp.refl _ _⟩
theorem AtQ.old {w0 w : World} {p : Nat} {V : Value} {L : List Bool} {n : Nat} {f : Int} (h : AtQ w0 p V L n f w) (hp : w0.heap.size ≤ p) : Kp No w0 w := h.kp.mono fun k hk e => by omega
theorem AtQ.set1 {w0 w : World} {p : Nat} {V : Value} {L : List Bool} {n m : Nat} {f : Int} (h : AtQ w0 p V L n f w) : AtQ w0 p V L m f (w.setCell ⟨p, 1, none⟩ (.int .i64 (m : Int))) := by
  have hk := (Kp.refl (fun k => k = p) w).setCell (p := ⟨p, 1, none⟩) (fun _ => rfl) (.int .i64 (m : Int))
  exact ⟨(blk_set h.blk 1 _).trans rfl, h.rd.kp hk h.ne, h.ne, h.kp.trans hk⟩
theorem AtQ.set2 {w0 w : World} {p : Nat} {V : Value} {L : List Bool} {n : Nat} {f g : Int} (h : AtQ w0 p V L n f w) : AtQ w0 p V L n g (w.setCell ⟨p, 2, none⟩ (.int .i64 g)) := by
  have hk := (Kp.refl (fun k => k = p) w).setCell (p := ⟨p, 2, none⟩) (fun _ => rfl) (.int .i64 g)
  exact ⟨(blk_set h.blk 2 _).trans rfl, h.rd.kp hk h.ne, h.ne, h.kp.trans hk⟩
end Go.Proofs.Ytnejjjoedmefkaa
