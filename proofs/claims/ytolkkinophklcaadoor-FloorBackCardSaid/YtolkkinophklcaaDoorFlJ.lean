/- floor.joined. -/
import Derived.Test.YtolkkinophklcaaDoorFlDf
import Derived.Test.YtolkkinophklcaaDoorFlB
import Derived.Test.YtolkkinophklcaaDoorMapD
namespace Go.Proofs.YtolkkinophklcaaDoor
set_option linter.unusedVariables false
set_option linter.unusedSimpArgs false
open Go.RowKit

theorem mapB : MapT Tryd.prog 38 3 4 (.bool false) := ⟨by kernel_rfl, by kernel_rfl, fun w => by kernel_rfl⟩
structure JnW (W H : Nat) (s : ByteArray) (bf bm : Nat) (w0 : World) (v : Value) (L N : List Nat) (w : World) : Prop where
  box : w.heap[bf]? = some (.cells #[.int .i64 (W : Int), .int .i64 (H : Int), .string s] 24 (0, 0))
  set : SetI w bm (ints L)
  own : Own IK 3 w v (ints N)
  ge : ∀ g, v.ownBlock = some g → w0.heap.size ≤ g
  kp : Kp (fun k => k = bm) w0 w
  lt : bf < w0.heap.size ∧ bm < w0.heap.size ∧ bf ≠ bm
section
variable {W H bf bm : Nat} {s : ByteArray} {w0 w w1 w' : World} {v v' : Value} {L L' N N' : List Nat}
theorem JnW.no (h : JnW W H s bf bm w0 v L N w) (hk : Kp No w w') : JnW W H s bf bm w0 v L N w' :=
  ⟨hk.blk h.box (no_no _), h.set.kp hk (no_no _), h.own.kpNo hk, h.ge, h.kp.no hk, h.lt⟩
theorem JnW.nm (h : JnW W H s bf bm w0 v L N w) {g : Nat} (hg : v.ownBlock = some g) : g ≠ bm ∧ g ≠ bf := by
  have := h.ge g hg; have := h.lt; omega
theorem JnW.map (h : JnW W H s bf bm w0 v L N w) (hs : SetI w' bm (ints L')) (hk : Kp (fun k => k = bm) w w') : JnW W H s bf bm w0 v L' N w' :=
  ⟨hk.blk h.box h.lt.2.2, hs, h.own.kp hk (fun g hg => (h.nm hg).1), h.ge, h.kp.trans hk, h.lt⟩
theorem JnW.app {n : Nat} (h : JnW W H s bf bm w0 v L N w) (hk : Kp No w w1) (k1 : Own IK 3 w' v' (ints N')) (k2 : Kp (fun k => v.ownBlock = some k) w1 w') (k3 : ∀ g, v'.ownBlock = some g → v.ownBlock = some g ∨ n ≤ g) (hn : w.heap.size ≤ n) : JnW W H s bf bm w0 v' L N' w' := by
  have h1 := h.no hk
  have hs := h.kp.size
  refine ⟨k2.blk h1.box (fun e => (h.nm e).2 rfl), h1.set.kp k2 (fun e => (h.nm e).1 rfl), k1, fun g hg => ?_, h1.kp.trans' k2 fun k hk e => by have := h.ge k e; omega, h.lt⟩
  rcases k3 g hg with e | e
  · exact h.ge g e
  · omega
theorem JnW.one (h : JnW W H s bf bm w0 v L N w) (k : Nat) : JnW W H s bf bm w0 (.slice (some ⟨w.heap.size, 0, none⟩) 1 1) L [k] (w.alloc (.cells #[.int .i64 (k : Int)] 3)) := by
  have h1 := h.no ((Kp.refl No w).alloc (.cells #[.int .i64 (k : Int)] 3))
  refine ⟨h1.box, h1.set, Own.lit IK 3 w [.int .i64 (k : Int)] [(k : Int)] rfl (by unfold maxLen; simp), fun g hg => ?_, h1.kp, h.lt⟩
  have := h.kp.size
  simp [Value.ownBlock] at hg
  omega
end
theorem JnW.cut {W H bf bm : Nat} {s : ByteArray} {w0 w : World} {L N : List Nat} {c2 g p cap m : Nat} (h : JnW W H s bf bm w0 (.slice (some ⟨g, 0, none⟩) p cap) L (N ++ [c2]) w) (hm : m = N.length) : JnW W H s bf bm w0 (.slice (some ⟨g, 0, none⟩) m cap) L N w ∧ w.cell? ⟨g, m, none⟩ = some (.int .i64 (c2 : Int)) ∧ m < cap ∧ p = m + 1 := by
  rcases h.own.b with ⟨hv, _⟩ | ⟨g', cap', hv, hcm, hlc, hob⟩
  · simp at hv
  simp only [Value.slice.injEq, Option.some.injEq, Addr.mk.injEq] at hv
  obtain ⟨⟨rfl, _, _⟩, rfl, rfl⟩ := hv
  have hl : (ints (N ++ [c2])).length = m + 1 := by rw [ints_len]; simp [hm]
  have ht : (ints (N ++ [c2])).take m = ints N := by
    unfold ints; rw [← List.map_take, hm, List.take_left]
  have ho := (hob.take m).own hcm
  rw [ht, ints_len, ← hm] at ho
  refine ⟨⟨h.box, h.set, ho, h.ge, h.kp, h.lt⟩, hob.cells m _ ?_, by omega, hl⟩
  have hg : (ints (N ++ [c2]))[m]? = some (c2 : Int) := by
    unfold ints; rw [List.getElem?_map, hm, List.getElem?_append_right (Nat.le_refl _)]; simp
  have := IK.encs_get (ints (N ++ [c2])) m 0 _ hg (by decide)
  simpa [IK] using this
theorem snoc_cases (N : List Nat) : N = [] ∨ ∃ l b, N = l ++ [b] := by
  rcases List.eq_nil_or_concat N with h | ⟨l, b, h⟩
  · exact .inl h
  · exact .inr ⟨l, b, by rw [h, List.concat_eq_append]⟩
theorem ints_snoc (L : List Nat) (k : Nat) : ints (L ++ [k]) = ints L ++ [(k : Int)] := by simp [ints]
theorem ints_mem {L : List Nat} {k : Nat} : (k : Int) ∈ ints L ↔ k ∈ L := by
  unfold ints
  rw [List.mem_map]
  constructor
  · rintro ⟨a, ha, e⟩
    obtain rfl : a = k := by omega
    exact ha
  · exact fun h => ⟨k, h, rfl⟩
theorem ints_filter (L : List Nat) (k : Nat) : (ints L).filter (fun x => x != (k : Int)) = ints (L.filter fun x => x != k) := by
  unfold ints
  rw [List.filter_map]
  congr 1
  apply List.filter_congr
  intro x _
  simp only [Function.comp, bne]
  congr 1
  by_cases e : x = k
  · subst e; simp
  · rw [beq_eq_false_iff_ne.2 e, beq_eq_false_iff_ne.2 (by omega)]
theorem ints_get {L : List Nat} {i x : Nat} (h : L[i]? = some x) : (ints L)[i]? = some (x : Int) := by unfold ints; rw [List.getElem?_map, h]; rfl
theorem addS_new {L : List Nat} {k : Nat} (h : k ∉ L) : addS (ints L) (k : Int) = ints (L ++ [k]) := by unfold addS; rw [if_neg (fun e => h (ints_mem.1 e)), ints_snoc]
end Go.Proofs.YtolkkinophklcaaDoor
