/- Words on memory that name no function of the program: what a call may change, rows of elements, slices that a call owns. -/
import Derived.Test.YtolkkinophklcaaDoorRows
import Derived.WalkKit
import Derived.WalkSpells
import Derived.Lib.Hide
import Derived.Deep.QuietTactic
import Derived.BigQuiet
import Derived.IntWalk
namespace Go.Proofs.YtolkkinophklcaaDoor
set_option linter.unusedVariables false
set_option linter.unusedSimpArgs false
open Go.RowKit

/-! ### What a call may change -/

/-- Behind a call only the blocks of S, and new ones, may read otherwise. -/
structure Kp (S : Nat → Prop) (w w' : World) : Prop where
  os : w'.os = w.os
  tape : w'.tape = w.tape
  output : w'.output = w.output
  size : w.heap.size ≤ w'.heap.size
  block : ∀ k, k < w.heap.size → ¬ S k → w'.heap[k]? = w.heap[k]?

/-- No block. -/
def No : Nat → Prop := fun _ => False
theorem no_no (k : Nat) : ¬ No k := fun h => h

section
variable {S S2 : Nat → Prop} {a b c w w' : World}
theorem Kp.refl (S : Nat → Prop) (w : World) : Kp S w w := ⟨rfl, rfl, rfl, Nat.le_refl _, fun _ _ _ => rfl⟩
theorem Kp.trans' (h : Kp S a b) (k : Kp S2 b c) (hs : ∀ k, k < a.heap.size → S2 k → S k) : Kp S a c :=
  ⟨k.os.trans h.os, k.tape.trans h.tape, k.output.trans h.output, Nat.le_trans h.size k.size, fun j hj hn =>
    (k.block j (Nat.lt_of_lt_of_le hj h.size) (fun h2 => hn (hs j hj h2))).trans (h.block j hj hn)⟩
theorem Kp.trans (h : Kp S a b) (k : Kp S b c) : Kp S a c := h.trans' k fun _ _ h => h
theorem Kp.no (h : Kp S a b) (k : Kp No b c) : Kp S a c := h.trans' k fun _ _ h => h.elim
theorem Kp.mono (h : Kp S a b) (hs : ∀ k, k < a.heap.size → S k → S2 k) : Kp S2 a b := ⟨h.os, h.tape, h.output, h.size, fun j hj hn => h.block j hj fun h2 => hn (hs j hj h2)⟩
theorem Kp.drew (h : Kp S a w) : Kp S a w.drew := ⟨h.os, h.tape, h.output, h.size, h.block⟩
theorem Kp.drewN (h : Kp S a w) (n : Nat) : Kp S a (w.drewN n) := ⟨h.os, h.tape, h.output, h.size, h.block⟩
theorem Kp.alloc (h : Kp S a w) (o : Obj) : Kp S a (w.alloc o) :=
  ⟨h.os, h.tape, h.output, by simp; have := h.size; omega, fun j hj hn => (Below.heap_alloc w o j (Nat.lt_of_lt_of_le hj h.size)).trans (h.block j hj hn)⟩
theorem Kp.setCell (h : Kp S a w) {p : Addr} (hp : p.block < a.heap.size → S p.block) (u : Value) : Kp S a (w.setCell p u) :=
  ⟨h.os, h.tape, h.output, by simpa using h.size, fun j hj hn => (Below.heap_setCell w p u j (fun e => hn (e ▸ hp (e ▸ hj)))).trans (h.block j hj hn)⟩
theorem Kp.setRow (h : Kp S a w) {g : Nat} (hp : g < a.heap.size → S g) (cs : Array Value) : Kp S a (w.setRow g cs) :=
  ⟨h.os, h.tape, h.output, by simpa [World.setRow] using h.size, fun j hj hn => (setRow_other w g j cs (fun e => hn (e ▸ hp (e ▸ hj)))).trans (h.block j hj hn)⟩
theorem Kp.setBlk (h : Kp S a w) {g : Nat} (hp : g < a.heap.size → S g) (o : Obj) : Kp S a { w with heap := w.heap.setIfInBounds g o } :=
  ⟨h.os, h.tape, h.output, by simpa using h.size, fun j hj hn => by
    have hne : g ≠ j := fun e => hn (e ▸ hp (e ▸ hj))
    exact (by simp [hne] : ({ w with heap := w.heap.setIfInBounds g o } : World).heap[j]? = w.heap[j]?).trans (h.block j hj hn)⟩
theorem Kp.ofBelow (h : Below w.heap.size w w') : Kp No w w' := ⟨h.os, h.tape, h.output, h.size, fun k hk _ => h.block k hk⟩
theorem Kp.below {B : Nat} (h : Kp S w w') (hS : ∀ k, k < B → ¬ S k) (hB : B ≤ w.heap.size) : Below B w w' :=
  ⟨h.os, h.tape, h.output, h.size, fun k hk => h.block k (by omega) (hS k hk)⟩
theorem Kp.belowNo (h : Kp No w w') : Below w.heap.size w w' := h.below (fun k _ => no_no k) (Nat.le_refl _)
theorem Kp.cell (h : Kp S w w') {p : Addr} (hp : p.block < w.heap.size) (hn : ¬ S p.block) : w'.cell? p = w.cell? p := World.cell?_of_block (h.block _ hp hn)
theorem Kp.cellS (h : Kp S w w') {p : Addr} {v : Value} (hv : w.cell? p = some v) (hn : ¬ S p.block) : w'.cell? p = some v := (h.cell (World.block_lt_of_cell? w p hv) hn).trans hv
theorem Kp.blk (h : Kp S w w') {g : Nat} {o : Obj} (hg : w.heap[g]? = some o) (hn : ¬ S g) : w'.heap[g]? = some o := (h.block g (lt_of_block hg) hn).trans hg
theorem Kp.gcell (h : Kp No w w') : ∀ g o, g < w.heap.size → w'.cell? ⟨g, o, none⟩ = w.cell? ⟨g, o, none⟩ := fun g o hg => h.cell (p := ⟨g, o, none⟩) hg (no_no _)
end

/-! ### Blocks -/
section
variable {w : World} {g : Nat} {cs : Array Value} {t : TypeId}
theorem blk_cell (h : w.heap[g]? = some (.cells cs t (0, 0))) (i : Nat) : w.cell? ⟨g, i, none⟩ = cs[i]? := cell_of_row w g i cs t (0, 0) h
theorem blk_free (h : w.heap[g]? = some (.cells cs t (0, 0))) (i : Nat) : w.frozen? ⟨g, i, none⟩ = false := by simp [World.frozen?, h]
theorem blk_set (h : w.heap[g]? = some (.cells cs t (0, 0))) (i : Nat) (v : Value) : (w.setCell ⟨g, i, none⟩ v).heap[g]? = some (.cells (cs.setIfInBounds i v) t (0, 0)) := by
  have hlt := lt_of_block h
  have hv : w.heap[g] = .cells cs t (0, 0) := (Array.getElem?_eq_some_iff.1 h).2
  unfold World.setCell
  simp [Array.getElem?_modify, h]
theorem blk_new (w : World) (o : Obj) : (w.alloc o).heap[w.heap.size]? = some o := heap_alloc_new w o
theorem blk_alloc {o' : Obj} (h : w.heap[g]? = some o') (o : Obj) : (w.alloc o).heap[g]? = some o' := (Below.heap_alloc w o g (lt_of_block h)).trans h
theorem blk_far {o' : Obj} (h : w.heap[g]? = some o') {p : Addr} (hp : g ≠ p.block) (u : Value) : (w.setCell p u).heap[g]? = some o' := (Below.heap_setCell w p u g hp).trans h
end

/-! ### Elements -/

/-- How an element lies in cells. -/
structure Kd (α : Type) where
  sz : Nat
  enc : α → List Value
  len : ∀ a, (enc a).length = sz
  one : ∀ a, ∀ v ∈ enc a, v.oneCell' = true
  pos : 0 < sz

namespace Kd
variable {α : Type} (K : Kd α)
def encs (l : List α) : List Value := l.flatMap K.enc
theorem encs_nil : K.encs [] = [] := rfl
theorem encs_cons (a : α) (l : List α) : K.encs (a :: l) = K.enc a ++ K.encs l := by simp [encs]
theorem encs_append (l m : List α) : K.encs (l ++ m) = K.encs l ++ K.encs m := by simp [encs]
theorem encs_one (a : α) : K.encs [a] = K.enc a := by simp [encs]
theorem length_encs (l : List α) : (K.encs l).length = l.length * K.sz := by
  induction l with
  | nil => simp [encs]
  | cons a l ih => rw [encs_cons, List.length_append, ih, K.len, List.length_cons, Nat.add_mul]; omega
theorem oneCell (l : List α) : ∀ v ∈ K.encs l, v.oneCell' = true := by
  intro v hv
  simp only [encs, List.mem_flatMap] at hv
  obtain ⟨a, _, h⟩ := hv
  exact K.one a v h
theorem encs_take (l : List α) (i : Nat) : (K.encs l).take (i * K.sz) = K.encs (l.take i) := by
  induction l generalizing i with
  | nil => simp [encs]
  | cons a l ih =>
    cases i with
    | zero => simp [encs]
    | succ i =>
      rw [encs_cons, List.take_succ_cons, encs_cons, Nat.add_mul, Nat.one_mul, Nat.add_comm, List.take_append, K.len, Nat.add_sub_cancel_left, ih, List.take_of_length_le (by rw [K.len]; omega)]
theorem encs_drop (l : List α) (i : Nat) : (K.encs l).drop (i * K.sz) = K.encs (l.drop i) := by
  induction l generalizing i with
  | nil => simp [encs]
  | cons a l ih =>
    cases i with
    | zero => simp [encs]
    | succ i =>
      rw [encs_cons, List.drop_succ_cons, Nat.add_mul, Nat.one_mul, Nat.add_comm, List.drop_append, K.len, Nat.add_sub_cancel_left, ih, List.drop_eq_nil_of_le (by rw [K.len]; omega), List.nil_append]
theorem encs_get (l : List α) (i j : Nat) (x : α) (hx : l[i]? = some x) (hj : j < K.sz) : (K.encs l)[i * K.sz + j]? = (K.enc x)[j]? := by
  have h1 : (K.encs l)[i * K.sz + j]? = ((K.encs l).drop (i * K.sz))[j]? := by rw [List.getElem?_drop]
  rw [h1, encs_drop]
  have hi : i < l.length := (List.getElem?_eq_some_iff.1 hx).1
  rw [List.drop_eq_getElem_cons hi, encs_cons, List.getElem?_append_left (by rw [K.len]; exact hj)]
  congr 2
  exact (List.getElem?_eq_some_iff.1 hx).2
end Kd

/-! ### Slices -/
section
variable {α : Type}
/-- v reads as l. -/
def Rd (K : Kd α) (w : World) (v : Value) (l : List α) : Prop :=
  ((∃ A cap, v = .slice A 0 cap) ∧ l = []) ∨ ∃ g o cap, v = .slice (some ⟨g, o, none⟩) l.length cap ∧ l.length ≤ cap ∧ cap ≤ maxLen ∧ ∀ j u, (K.encs l)[j]? = some u → w.cell? ⟨g, o + j, none⟩ = some u

/-- v reads as l, and has its block for itself, from its first cell on. -/
def Own (K : Kd α) (e : TypeId) (w : World) (v : Value) (l : List α) : Prop :=
  (v = .slice none 0 0 ∧ l = []) ∨ ∃ g cap cur, v = .slice (some ⟨g, 0, none⟩) l.length cap ∧ w.heap[g]? = some (.cells cur e (0, 0)) ∧ l.length ≤ cap ∧ cap ≤ maxLen ∧ cur.size = cap * K.sz ∧ cur.toList.take (l.length * K.sz) = K.encs l

variable {K : Kd α} {e : TypeId} {w w' : World} {v : Value} {l : List α}

theorem Own.cells (h : Own K e w v l) : ∀ g o n cap, v = .slice (some ⟨g, o, none⟩) n cap → ∀ j u, (K.encs l)[j]? = some u → w.cell? ⟨g, o + j, none⟩ = some u := by
  intro g o n cap hv j u hu
  rcases h with ⟨rfl, rfl⟩ | ⟨g', cap', cur, rfl, hb, hlc, hcm, hsz, htake⟩
  · simp at hv
  · simp only [Value.slice.injEq, Option.some.injEq, Addr.mk.injEq] at hv
    obtain ⟨⟨rfl, rfl, _⟩, _, _⟩ := hv
    rw [blk_cell hb, Nat.zero_add]
    rw [← htake, List.getElem?_take] at hu
    split at hu
    · simpa using hu
    · cases hu

theorem Own.rd (h : Own K e w v l) : Rd K w v l := by
  rcases h with ⟨hv, hl⟩ | ⟨g, cap, cur, hv, hb, hlc, hcm, hsz, htake⟩
  · exact .inl ⟨⟨none, 0, hv⟩, hl⟩
  · exact .inr ⟨g, 0, cap, hv, hlc, hcm, Own.cells (.inr ⟨g, cap, cur, hv, hb, hlc, hcm, hsz, htake⟩) g 0 _ cap hv⟩

theorem Own.nil (K : Kd α) (e : TypeId) (w : World) : Own K e w (.slice none 0 0) [] := .inl ⟨rfl, rfl⟩
theorem Rd.nil (K : Kd α) (w : World) : Rd K w (.slice none 0 0) [] := .inl ⟨⟨_, _, rfl⟩, rfl⟩
theorem Rd.empty (K : Kd α) (w : World) (A : Option Addr) (c : Nat) : Rd K w (.slice A 0 c) [] := .inl ⟨⟨_, _, rfl⟩, rfl⟩

theorem Own.lt (h : Own K e w v l) {g : Nat} (hg : v.ownBlock = some g) : g < w.heap.size := by
  rcases h with ⟨rfl, _⟩ | ⟨g', _, _, rfl, hb, _⟩
  · simp [Value.ownBlock] at hg
  · simp [Value.ownBlock] at hg; subst hg; exact lt_of_block hb

theorem Own.kp {S : Nat → Prop} (h : Own K e w v l) (hk : Kp S w w') (hn : ∀ g, v.ownBlock = some g → ¬ S g) : Own K e w' v l := by
  rcases h with h | ⟨g, cap, cur, rfl, hb, h⟩
  · exact .inl h
  · exact .inr ⟨g, cap, cur, rfl, hk.blk hb (hn g rfl), h⟩
theorem Own.kpNo (h : Own K e w v l) (hk : Kp No w w') : Own K e w' v l := h.kp hk fun _ _ => no_no _

theorem Rd.kp {S : Nat → Prop} (h : Rd K w v l) (hk : Kp S w w') (hn : ∀ g, v.ownBlock = some g → ¬ S g) : Rd K w' v l := by
  rcases h with h | ⟨g, o, cap, rfl, h1, h2, h3⟩
  · exact .inl h
  · exact .inr ⟨g, o, cap, rfl, h1, h2, fun j u hu => hk.cellS (h3 j u hu) (hn g rfl)⟩
theorem Rd.kpNo (h : Rd K w v l) (hk : Kp No w w') : Rd K w' v l := h.kp hk fun _ _ => no_no _
theorem Own.alloc (h : Own K e w v l) (o : Obj) : Own K e (w.alloc o) v l := h.kpNo ((Kp.refl _ _).alloc o)
theorem Rd.alloc (h : Rd K w v l) (o : Obj) : Rd K (w.alloc o) v l := h.kpNo ((Kp.refl _ _).alloc o)
theorem Own.drewN (h : Own K e w v l) (n : Nat) : Own K e (w.drewN n) v l := h
theorem Rd.drewN (h : Rd K w v l) (n : Nat) : Rd K (w.drewN n) v l := h

/-- The shape of a value that reads. -/
theorem Rd.shape (h : Rd K w v l) : ∃ a cap, v = .slice a l.length cap := by
  rcases h with ⟨⟨A, c, rfl⟩, rfl⟩ | ⟨g, o, cap, rfl, _⟩
  · exact ⟨A, c, rfl⟩
  · exact ⟨_, _, rfl⟩

theorem Rd.cells (h : Rd K w v l) : ∀ g o n cap, v = .slice (some ⟨g, o, none⟩) n cap → ∀ j u, (K.encs l)[j]? = some u → w.cell? ⟨g, o + j, none⟩ = some u := by
  intro g o n cap hv j u hu
  rcases h with ⟨_, rfl⟩ | ⟨g', o', cap', rfl, _, _, h3⟩
  · simp [Kd.encs] at hu
  · simp only [Value.slice.injEq, Option.some.injEq, Addr.mk.injEq] at hv
    obtain ⟨⟨rfl, rfl, _⟩, _, _⟩ := hv
    exact h3 j u hu
theorem Rd.at (h : Rd K w v l) {g o n cap : Nat} (hv : v = .slice (some ⟨g, o, none⟩) n cap) {i j : Nat} {x : α} {u : Value} (hx : l[i]? = some x) (hj : (K.enc x)[j]? = some u) :
    w.cell? ⟨g, o + i * K.sz + j, none⟩ = some u := by
  rw [Nat.add_assoc]
  rcases h with ⟨_, rfl⟩ | ⟨g', o', cap', rfl, h1, h2, h3⟩
  · simp at hx
  · simp only [Value.slice.injEq, Option.some.injEq, Addr.mk.injEq] at hv
    obtain ⟨⟨rfl, rfl, _⟩, _, _⟩ := hv
    have hjl : j < K.sz := by rw [← K.len x]; exact (List.getElem?_eq_some_iff.1 hj).1
    exact h3 _ _ ((K.encs_get l i j x hx hjl).trans hj)

/-- A new block that holds just these elements. -/
theorem Own.lit (K : Kd α) (e : TypeId) (w : World) (cs : List Value) (l : List α) (hc : cs = K.encs l) (hm : l.length ≤ maxLen) :
    Own K e (w.alloc (.cells cs.toArray e)) (.slice (some ⟨w.heap.size, 0, none⟩) l.length l.length) l :=
  .inr ⟨w.heap.size, l.length, cs.toArray, rfl, blk_new w _, Nat.le_refl _, hm, by rw [hc]; simp [K.length_encs], by rw [hc]; simp [← K.length_encs]⟩
end

theorem Rd.litAt {α : Type} (K : Kd α) (e : TypeId) (w : World) (cs : Array Value) (l : List α) (hc : cs.toList = K.encs l) (hm : l.length ≤ maxLen) (b n : Nat) (hb : b = w.heap.size) (hn : n = l.length) :
    Rd K (w.alloc (.cells cs e)) (.slice (some ⟨b, 0, none⟩) n n) l := by
  subst hb hn
  have := (Own.lit K e w cs.toList l hc hm).rd
  rwa [Array.toArray_toList] at this

/-- The element type's row in the program's table. -/
structure ElT (P : Program) (t e : TypeId) {α : Type} (K : Kd α) (bytes : Nat) : Prop where
  und : P.underlying t = some (.slice e)
  info : ∃ i z, P.info? e = some i ∧ i.zero = some z ∧ i.size = K.sz ∧ i.bytes = bytes ∧ z.cells.size = K.sz

theorem ElT.of {P : Program} {t e : TypeId} {α : Type} {K : Kd α} {bytes : Nat} {z : Value} (h1 : P.underlying t = some (.slice e))
    (h2 : (P.info? e).map (fun i => (i.zero, i.size, i.bytes)) = some (some z, K.sz, bytes)) (h3 : z.cells.size = K.sz) : ElT P t e K bytes := by
  obtain ⟨i, hi, hz0, hz1, hz2⟩ := info_parts h2
  exact ⟨h1, i, z, hi, hz0, hz1, hz2, h3⟩

section
variable {α : Type} {K : Kd α} {P : Program} {t e : TypeId} {bytes : Nat} {w : World}

/-- The new block behind an append that grows. -/
theorem own_grown (z : Value) (hz : z.cells.size = K.sz) (l : List α) (n c : Nat) (hn : n = l.length) (hc : n ≤ c) (hm : c ≤ maxLen) (w : World) :
    Own K e (w.drew.alloc (.cells ((K.encs l).toArray ++ Builtin.zeroCells z.cells (c - n)) e)) (.slice (some ⟨w.heap.size, 0, none⟩) n c) l := by
  subst hn
  refine .inr ⟨w.heap.size, c, _, rfl, blk_new w.drew _, hc, hm, ?_, ?_⟩
  · simp only [Array.size_append, List.size_toArray, size_zeroCells, hz, K.length_encs, ← Nat.add_mul]
    congr 1; omega
  · simp only [Array.toList_append]
    rw [← K.length_encs]
    exact List.take_left

theorem run_append (E : ElT P t e K bytes) (ty : TypeId) {v x : Value} {l m : List α} (hown : Own K e w v l) (hx : Rd K w x m) (h63 : l.length + m.length ≤ maxLen) (hbytes : (l.length + m.length) * bytes ≤ 140737488355328) :
    ∃ v' w', (Builtin.append_ #[t, t] ty #[v, x]).run P w = .ok v' w' ∧ Own K e w' v' (l ++ m) ∧ Kp (fun k => v.ownBlock = some k) w w' ∧ (∀ g, v'.ownBlock = some g → v.ownBlock = some g ∨ w.heap.size ≤ g) := by
  obtain ⟨ht, i, z, hi, hz, hsize, hby, hzs⟩ := E
  subst hby
  have hsmall : l.length + m.length ≤ 9223372036854775807 := by simp only [maxLen] at h63; omega
  rcases hx with ⟨⟨A, c, rfl⟩, rfl⟩ | ⟨xg, xo, xc, rfl, hxc, _, hxcell⟩
  · refine ⟨v, w, ?_, by simpa using hown, Kp.refl _ _, fun g hg => .inl hg⟩
    rcases hown with ⟨rfl, rfl⟩ | ⟨g, cap, cur, rfl, hb, hlc, _, _, _⟩
    · cases A <;> simp [Builtin.append_, run_underlying ht, sizeOf, typeInfo, hi, Builtin.lenOf, Builtin.firstCells, loadCells, loadCellsFrom]
    · cases A <;> simp [Builtin.append_, run_underlying ht, sizeOf, typeInfo, hi, Builtin.lenOf, Builtin.firstCells, hlc, storeCells, loadCells, loadCellsFrom]
  · have hadd : ∀ j, (⟨xg, xo, none⟩ : Addr).add j = ⟨xg, xo + j, none⟩ := fun j => by simp [Addr.add_lit]
    have hnews : ∀ j u, (K.encs m)[j]? = some u → w.cell? ((⟨xg, xo, none⟩ : Addr).add j) = some u := fun j u hu => by rw [hadd]; exact hxcell j u hu
    have hl : (K.encs m).length = m.length * i.size := by rw [K.length_encs, hsize]
    rcases hown with ⟨rfl, rfl⟩ | ⟨g, cap, cur, rfl, hb, hlc, hcm, hsz, htake⟩
    · by_cases hm : m.length = 0
      · obtain rfl : m = [] := List.eq_nil_of_length_eq_zero hm
        refine ⟨.slice none 0 0, w, ?_, Own.nil _ _ _, Kp.refl _ _, fun g hg => .inl hg⟩
        simp [Builtin.append_, run_underlying ht, sizeOf, typeInfo, hi, Builtin.lenOf, Builtin.firstCells, loadCells, loadCellsFrom]
      · have hr := run_append_nil (P := P) w t ty e i z ht hi hz ⟨xg, xo, none⟩ m.length xc (K.encs m) hl hnews (by omega) (by simp at hsmall; omega) (by simp at hbytes; omega)
        refine ⟨_, _, hr, ?_, (Kp.refl _ w).drew.alloc _, fun g hg => .inr (by simp [Value.ownBlock] at hg; omega)⟩
        exact own_grown z hzs m _ _ rfl (grownCap_ge w _ _ e) (grownCap_le_maxLen w _ _ e (by simp at h63; omega)) w
    · by_cases hroom : l.length + m.length ≤ cap
      · have hfit : l.length * i.size + (K.encs m).length ≤ cur.size := by rw [hl, hsz, hsize, ← Nat.add_mul]; exact Nat.mul_le_mul_right _ hroom
        have hr := run_append_room (P := P) w t ty e i ht hi g l.length cap cur hb ⟨xg, xo, none⟩ m.length xc (K.encs m) hl hnews (K.oneCell m) hroom hfit
        refine ⟨_, _, hr, ?_, (Kp.refl (fun k => some g = some k) w).setRow (fun _ => rfl) _, fun g hg => .inl hg⟩
        refine .inr ⟨g, cap, _, by simp, setRow_heap w g cur _ e _ hb, by simpa using hroom, hcm, ?_, ?_⟩
        · simp only [List.size_toArray, List.length_append, List.length_take, List.length_drop, Array.length_toList]
          omega
        · rw [hsize, htake, ← K.encs_append, List.length_append, ← List.length_append, ← K.length_encs]
          exact List.take_left
      · have holds : ∀ j u, (K.encs l)[j]? = some u → w.cell? ((⟨g, 0, none⟩ : Addr).add j) = some u := fun j u hu => by
          simp only [Addr.add_lit]
          exact Own.cells (.inr ⟨g, cap, cur, rfl, hb, hlc, hcm, hsz, htake⟩) g 0 _ cap rfl j u hu
        have hr := run_append_grow (P := P) w t ty e i z ht hi hz ⟨g, 0, none⟩ l.length cap (K.encs l) (by rw [K.length_encs, hsize]) holds ⟨xg, xo, none⟩ m.length xc (K.encs m) hl hnews (by omega) (by omega) (growslice_fits (by omega) hbytes)
        refine ⟨_, _, hr, ?_, (Kp.refl _ w).drew.alloc _, fun g hg => .inr (by simp [Value.ownBlock] at hg; omega)⟩
        have := own_grown (e := e) z hzs (l ++ m) (l.length + m.length) _ (by simp) (grownCap_ge w (l.length + m.length) cap e) (grownCap_le_maxLen w (l.length + m.length) cap e h63) w
        rw [K.encs_append, ← List.append_toArray] at this
        exact this
end

section
variable {α : Type} {K : Kd α} {P : Program} {t e : TypeId} {bytes : Nat}
/-- 's[:hi]' -/
theorem run_slice_hi (E : ElT P t e K bytes) (g o n cap hi : Nat) (h : hi ≤ cap) (x : Int) (hx : x = hi) (w : World) :
    (Instr.slice t (.slice (some ⟨g, o, none⟩) n cap) none (some (.int .i64 x)) none).run P w = .ok (.slice (some ⟨g, o, none⟩) hi cap) w := by
  subst hx
  obtain ⟨ht, i, z, hi', hz, hsize, hby, hzs⟩ := E
  simp [Instr.slice, Instr.sliceBounds, Instr.sliceBound, run_underlying ht, sizeOf, typeInfo, hi', asIntOf, h, Addr.add_lit]
/-- 's[lo:]' -/
theorem run_slice_lo (E : ElT P t e K bytes) (g o n cap lo : Nat) (h : lo ≤ n) (x : Int) (hx : x = lo) :
    ∃ o', (lo < cap → o' = o + lo * K.sz) ∧ ∀ w, (Instr.slice t (.slice (some ⟨g, o, none⟩) n cap) (some (.int .i64 x)) none none).run P w = .ok (.slice (some ⟨g, o', none⟩) (n - lo) (cap - lo)) w := by
  subst hx
  obtain ⟨ht, i, z, hi', hz, hsize, hby, hzs⟩ := E
  refine ⟨if cap = lo then o else o + lo * K.sz, fun hlt => if_neg (by omega), fun w => ?_⟩
  by_cases hc : cap = lo
  · subst hc; simp [Instr.slice, Instr.sliceBounds, Instr.sliceBound, run_underlying ht, sizeOf, typeInfo, hi', asIntOf, h]
  · simp [Instr.slice, Instr.sliceBounds, Instr.sliceBound, run_underlying ht, sizeOf, typeInfo, hi', asIntOf, h, hc, Addr.add_lit, hsize]
/-- 's[lo:hi]' -/
theorem run_slice_lohi (E : ElT P t e K bytes) (g o n cap lo hi : Nat) (h : lo ≤ hi) (h' : hi ≤ cap) (x y : Int) (hx : x = lo) (hy : y = hi) :
    ∃ o', (lo < cap → o' = o + lo * K.sz) ∧ ∀ w, (Instr.slice t (.slice (some ⟨g, o, none⟩) n cap) (some (.int .i64 x)) (some (.int .i64 y)) none).run P w = .ok (.slice (some ⟨g, o', none⟩) (hi - lo) (cap - lo)) w := by
  subst hx hy
  obtain ⟨ht, i, z, hi', hz, hsize, hby, hzs⟩ := E
  refine ⟨if cap = lo then o else o + lo * K.sz, fun hlt => if_neg (by omega), fun w => ?_⟩
  by_cases hc : cap = lo
  · subst hc; simp [Instr.slice, Instr.sliceBounds, Instr.sliceBound, run_underlying ht, sizeOf, typeInfo, hi', asIntOf, h, h']
  · simp [Instr.slice, Instr.sliceBounds, Instr.sliceBound, run_underlying ht, sizeOf, typeInfo, hi', asIntOf, h, h', hc, Addr.add_lit, hsize]
/-- 's[lo:hi:max]' -/
theorem run_slice_3 (E : ElT P t e K bytes) (g o n cap lo hi mx : Nat) (h : lo ≤ hi) (h' : hi ≤ mx) (h'' : mx ≤ cap) (x y z : Int) (hx : x = lo) (hy : y = hi) (hz : z = mx) :
    ∃ o', (lo < mx → o' = o + lo * K.sz) ∧ ∀ w, (Instr.slice t (.slice (some ⟨g, o, none⟩) n cap) (some (.int .i64 x)) (some (.int .i64 y)) (some (.int .i64 z))).run P w = .ok (.slice (some ⟨g, o', none⟩) (hi - lo) (mx - lo)) w := by
  subst hx hy hz
  obtain ⟨ht, i, z', hi', hz', hsize, hby, hzs⟩ := E
  refine ⟨if mx = lo then o else o + lo * K.sz, fun hlt => if_neg (by omega), fun w => ?_⟩
  by_cases hc : mx = lo
  · subst hc; simp [Instr.slice, Instr.sliceBounds, Instr.sliceBound, run_underlying ht, sizeOf, typeInfo, hi', asIntOf, h, h', h'']
  · simp [Instr.slice, Instr.sliceBounds, Instr.sliceBound, run_underlying ht, sizeOf, typeInfo, hi', asIntOf, h, h', h'', hc, Addr.add_lit, hsize]
/-- 's[lo:]', 's[:hi]' of nil. -/
theorem run_slice_nil_lo (E : ElT P t e K bytes) (w : World) : (Instr.slice t (.slice none 0 0) (some (.int .i64 0)) none none).run P w = .ok (.slice none 0 0) w := by
  obtain ⟨ht, i, z, hi', hz, hsize, hby, hzs⟩ := E
  simp [Instr.slice, Instr.sliceBounds, Instr.sliceBound, run_underlying ht, sizeOf, typeInfo, hi', asIntOf]
theorem run_slice_nil_hi (E : ElT P t e K bytes) (w : World) : (Instr.slice t (.slice none 0 0) none (some (.int .i64 0)) none).run P w = .ok (.slice none 0 0) w := by
  obtain ⟨ht, i, z, hi', hz, hsize, hby, hzs⟩ := E
  simp [Instr.slice, Instr.sliceBounds, Instr.sliceBound, run_underlying ht, sizeOf, typeInfo, hi', asIntOf]

/-- Slices of an empty one. -/
theorem slice_e_addr (A : Option Addr) (c n : Nat) : (if c = 0 then A else A.map (·.add (0 * n))) = A := by
  split
  · rfl
  · cases A <;> simp [Addr.add]
theorem run_slice_e_lo (E : ElT P t e K bytes) (A : Option Addr) (c : Nat) (w : World) : (Instr.slice t (.slice A 0 c) (some (.int .i64 0)) none none).run P w = .ok (.slice A 0 c) w := by
  obtain ⟨ht, i, z, hi', hz, hsize, hby, hzs⟩ := E
  have hA := slice_e_addr A c i.size
  simp only [Nat.zero_mul] at hA
  simp [Instr.slice, Instr.sliceBounds, Instr.sliceBound, run_underlying ht, sizeOf, typeInfo, hi', asIntOf, hA]
theorem run_slice_e_hi (E : ElT P t e K bytes) (A : Option Addr) (c : Nat) (w : World) : (Instr.slice t (.slice A 0 c) none (some (.int .i64 0)) none).run P w = .ok (.slice A 0 c) w := by
  obtain ⟨ht, i, z, hi', hz, hsize, hby, hzs⟩ := E
  have hA := slice_e_addr A c i.size
  simp only [Nat.zero_mul] at hA
  simp [Instr.slice, Instr.sliceBounds, Instr.sliceBound, run_underlying ht, sizeOf, typeInfo, hi', asIntOf, hA]
theorem run_slice_e_lohi (E : ElT P t e K bytes) (A : Option Addr) (c : Nat) (w : World) : (Instr.slice t (.slice A 0 c) (some (.int .i64 0)) (some (.int .i64 0)) none).run P w = .ok (.slice A 0 c) w := by
  obtain ⟨ht, i, z, hi', hz, hsize, hby, hzs⟩ := E
  have hA := slice_e_addr A c i.size
  simp only [Nat.zero_mul] at hA
  simp [Instr.slice, Instr.sliceBounds, Instr.sliceBound, run_underlying ht, sizeOf, typeInfo, hi', asIntOf, hA]

/-- 's[lo:]', as a list. -/
theorem Rd.from (E : ElT P t e K bytes) {w : World} {v : Value} {l : List α} (h : Rd K w v l) (p : Nat) (hp : p ≤ l.length) (x : Int) (hx : x = p) :
    ∃ v2, (∀ w', (Instr.slice t v (some (.int .i64 x)) none none).run P w' = .ok v2 w') ∧ Rd K w v2 (l.drop p) ∧ (∀ g, v2.ownBlock = some g → v.ownBlock = some g) := by
  rcases h with ⟨⟨A, c, rfl⟩, rfl⟩ | ⟨g, o, cap, rfl, h1, h2, h3⟩
  · obtain rfl : p = 0 := by simpa using hp
    subst hx
    exact ⟨_, fun w' => run_slice_e_lo E A c w', by simpa using Rd.empty K w A c, fun g hg => hg⟩
  · obtain ⟨o', ho', hs⟩ := run_slice_lo E g o l.length cap p hp x hx
    refine ⟨_, hs, .inr ⟨g, o', cap - p, by simp, by simp; omega, by omega, fun j u hu => ?_⟩, fun g' hg' => hg'⟩
    have hj := (List.getElem?_eq_some_iff.1 hu).1
    rw [K.length_encs, List.length_drop] at hj
    have hpl : p < cap := by
      rcases Nat.lt_or_ge p l.length with h | h
      · omega
      · rw [show l.length - p = 0 by omega, Nat.zero_mul] at hj; omega
    rw [ho' hpl, Nat.add_assoc]
    rw [← K.encs_drop, List.getElem?_drop] at hu
    exact h3 _ u hu

/-- Block g, of cap elements, begins with l. -/
def OwnB {α : Type} (K : Kd α) (e : TypeId) (w : World) (g cap : Nat) (l : List α) : Prop :=
  ∃ cur : Array Value, w.heap[g]? = some (.cells cur e (0, 0)) ∧ l.length ≤ cap ∧ cur.size = cap * K.sz ∧ cur.toList.take (l.length * K.sz) = K.encs l

theorem OwnB.own {α : Type} {K : Kd α} {e : TypeId} {w : World} {g cap : Nat} {l : List α} (h : OwnB K e w g cap l) (hm : cap ≤ maxLen) : Own K e w (.slice (some ⟨g, 0, none⟩) l.length cap) l :=
  let ⟨cur, h1, h2, h3, h4⟩ := h
  .inr ⟨g, cap, cur, rfl, h1, h2, hm, h3, h4⟩
theorem OwnB.take {α : Type} {K : Kd α} {e : TypeId} {w : World} {g cap : Nat} {l : List α} (h : OwnB K e w g cap l) (i : Nat) : OwnB K e w g cap (l.take i) := by
  obtain ⟨cur, h1, h2, h3, h4⟩ := h
  refine ⟨cur, h1, by simp; omega, h3, ?_⟩
  rw [← K.encs_take, ← h4, List.take_take]
  rcases Nat.le_total i l.length with hi | hi
  · rw [List.length_take, Nat.min_eq_left hi, Nat.min_eq_left (Nat.mul_le_mul_right _ hi)]
  · rw [List.length_take, Nat.min_eq_right hi, Nat.min_eq_right (Nat.mul_le_mul_right _ hi)]
theorem OwnB.lt {α : Type} {K : Kd α} {e : TypeId} {w : World} {g cap : Nat} {l : List α} (h : OwnB K e w g cap l) : g < w.heap.size := let ⟨_, h1, _⟩ := h; lt_of_block h1
theorem OwnB.drew {α : Type} {K : Kd α} {e : TypeId} {w : World} {g cap : Nat} {l : List α} (h : OwnB K e w g cap l) : OwnB K e w.drew g cap l := h
theorem OwnB.kp {α : Type} {K : Kd α} {e : TypeId} {w w' : World} {g cap : Nat} {l : List α} {S : Nat → Prop} (h : OwnB K e w g cap l) (hk : Kp S w w') (hn : ¬ S g) : OwnB K e w' g cap l :=
  let ⟨cur, h1, h2⟩ := h
  ⟨cur, hk.blk h1 hn, h2⟩
theorem OwnB.cells {α : Type} {K : Kd α} {e : TypeId} {w : World} {g cap : Nat} {l : List α} (h : OwnB K e w g cap l) : ∀ j u, (K.encs l)[j]? = some u → w.cell? ⟨g, j, none⟩ = some u := by
  obtain ⟨cur, h1, h2, h3, h4⟩ := h
  intro j u hu
  rw [blk_cell h1]
  rw [← h4, List.getElem?_take] at hu
  split at hu
  · simpa using hu
  · cases hu
theorem Own.b {α : Type} {K : Kd α} {e : TypeId} {w : World} {v : Value} {l : List α} (h : Own K e w v l) : (v = .slice none 0 0 ∧ l = []) ∨ ∃ g cap, v = .slice (some ⟨g, 0, none⟩) l.length cap ∧ cap ≤ maxLen ∧ l.length ≤ cap ∧ OwnB K e w g cap l := by
  rcases h with h | ⟨g, cap, cur, rfl, h1, h2, h3, h4⟩
  · exact .inl h
  · exact .inr ⟨g, cap, rfl, h3, h2, cur, h1, h2, h4⟩
/-- Elements are written into it. -/
theorem OwnB.write {α : Type} {K : Kd α} {e : TypeId} {w : World} {g cap : Nat} {l : List α} (h : OwnB K e w g cap l) (off : Nat) (m : List α) (ho : off ≤ l.length) (hfit : off + m.length ≤ cap) :
    ∃ cur : Array Value, w.heap[g]? = some (.cells cur e (0, 0)) ∧ (off + m.length) * K.sz ≤ cur.size ∧ cur.size = cap * K.sz ∧
      OwnB K e (w.setRow g (cur.toList.take (off * K.sz) ++ K.encs m ++ cur.toList.drop ((off + m.length) * K.sz)).toArray) g cap (l.take off ++ m ++ l.drop (off + m.length)) := by
  obtain ⟨cur, h1, h2, h3, h4⟩ := h
  have hle : (off + m.length) * K.sz ≤ cur.size := by rw [h3]; exact Nat.mul_le_mul_right _ hfit
  have hle0 : off * K.sz ≤ cur.size := Nat.le_trans (Nat.mul_le_mul_right _ (by omega)) hle
  refine ⟨cur, h1, hle, h3, _, setRow_heap w g cur _ e _ h1, by simp; omega, ?_, ?_⟩
  · simp only [List.size_toArray, List.length_append, List.length_take, List.length_drop, Array.length_toList, K.length_encs]
    rw [← h3]
    have := Nat.add_mul off m.length K.sz
    omega
  · have hA : cur.toList.take (off * K.sz) = K.encs (l.take off) := by
      rw [← K.encs_take, ← h4, List.take_take, Nat.min_eq_left (Nat.mul_le_mul_right _ ho)]
    simp only [K.encs_append, hA, List.append_assoc]
    have hl1 : (K.encs (l.take off)).length = off * K.sz := by rw [K.length_encs, List.length_take, Nat.min_eq_left ho]
    have hl2 : (K.encs m).length = m.length * K.sz := K.length_encs m
    have hlen : (l.take off ++ (m ++ l.drop (off + m.length))).length = off + m.length + (l.length - (off + m.length)) := by simp; omega
    rw [hlen, Nat.add_mul, Nat.add_mul, ← hl1, ← hl2, Nat.add_assoc, List.take_length_add_append, List.take_length_add_append, ← List.append_assoc, ← List.append_assoc]
    congr 1
    rw [← K.encs_drop, ← h4, List.drop_take, ← Nat.sub_mul, hl1, hl2, ← Nat.add_mul]
/-- ...and the same by copy, append and clear. -/
theorem OwnB.copied (E : ElT P t e K bytes) {w : World} {g cap off : Nat} {l : List α} (h : OwnB K e w g cap l) (m : List α) (ho : off ≤ l.length) (hfit : off + m.length ≤ cap) (o' dn dc : Nat) (sp : Option Addr) (sn sc : Nat) (hm : m.length = min sn dn) (ho' : 0 < m.length → o' = off * K.sz)
    (hsrc : 0 < m.length → ∃ sg so, sp = some ⟨sg, so, none⟩ ∧ ∀ j u, (K.encs m)[j]? = some u → w.cell? ⟨sg, so + j, none⟩ = some u) :
    ∃ w', (∀ ty, (Builtin.copy_ #[t, t] ty #[.slice (some ⟨g, o', none⟩) dn dc, .slice sp sn sc]).run P w = .ok (goInt m.length) w') ∧ OwnB K e w' g cap (l.take off ++ m ++ l.drop (off + m.length)) ∧ Kp (fun k => k = g) w w' := by
  obtain ⟨ht, i, z, hi', hz, hsize, hby, hzs⟩ := E
  have hmin : Nat.min sn dn = m.length := hm.symm
  by_cases h0 : m.length = 0
  · obtain rfl : m = [] := List.eq_nil_of_length_eq_zero h0
    have hmin' : Nat.min sn dn = 0 := hmin
    refine ⟨w, fun ty => ?_, by simpa using h, Kp.refl _ _⟩
    cases sp with
    | none => simp [Builtin.copy_, run_underlying ht, sizeOf, typeInfo, hi', Builtin.lenOf, hmin', Builtin.firstCells, storeCells]
    | some a => simp [Builtin.copy_, run_underlying ht, sizeOf, typeInfo, hi', Builtin.lenOf, hmin', Builtin.firstCells, loadCells, loadCellsFrom, storeCells]
  · obtain ⟨sg, so, rfl, hcell⟩ := hsrc (by omega)
    obtain rfl := ho' (by omega)
    obtain ⟨cur, hb, hle, hcs, hw⟩ := h.write off m ho hfit
    refine ⟨_, fun ty => ?_, hw, (Kp.refl (fun k => k = g) w).setRow (fun _ => rfl) _⟩
    have hl : (K.encs m).length = m.length * i.size := by rw [K.length_encs, hsize]
    have hf := run_firstCells_some (P := P) w i.size m.length ⟨sg, so, none⟩ sn sc (K.encs m) hl (fun j u hu => by simp only [Addr.add_lit]; exact hcell j u hu)
    have hst := run_storeCells_at P g (off * K.sz) e (K.encs m) 0 cur w hb (by rw [K.length_encs]; have := Nat.add_mul off m.length K.sz; simp; omega) (K.oneCell m)
    simp only [Nat.add_zero, K.length_encs, ← Nat.add_mul] at hst
    simp [Builtin.copy_, run_underlying ht, sizeOf, typeInfo, hi', Builtin.lenOf, hmin, hf, hst]
theorem OwnB.appended (E : ElT P t e K bytes) {w : World} {g cap : Nat} {l : List α} (h : OwnB K e w g cap l) (m : List α) (hfit : l.length + m.length ≤ cap) (n k r : Nat) (sp : Option Addr) (sc : Nat) (hn : n = l.length) (hk : k = m.length) (hr : r = l.length + m.length)
    (hsrc : 0 < m.length → ∃ sg so, sp = some ⟨sg, so, none⟩ ∧ ∀ j u, (K.encs m)[j]? = some u → w.cell? ⟨sg, so + j, none⟩ = some u) :
    ∃ w', (∀ ty, (Builtin.append_ #[t, t] ty #[.slice (some ⟨g, 0, none⟩) n cap, .slice sp k sc]).run P w = .ok (.slice (some ⟨g, 0, none⟩) r cap) w') ∧ OwnB K e w' g cap (l ++ m) ∧ Kp (fun k => k = g) w w' := by
  subst hn hk hr
  obtain ⟨ht, i, z, hi', hz, hsize, hby, hzs⟩ := E
  by_cases h0 : m.length = 0
  · obtain rfl : m = [] := List.eq_nil_of_length_eq_zero h0
    have hlc : l.length ≤ cap := by simpa using hfit
    refine ⟨w, fun ty => ?_, by simpa using h, Kp.refl _ _⟩
    cases sp with
    | none => simp [Builtin.append_, run_underlying ht, sizeOf, typeInfo, hi', Builtin.lenOf, Builtin.firstCells, storeCells, hlc]
    | some a => simp [Builtin.append_, run_underlying ht, sizeOf, typeInfo, hi', Builtin.lenOf, Builtin.firstCells, loadCells, loadCellsFrom, storeCells, hlc]
  · obtain ⟨sg, so, rfl, hcell⟩ := hsrc (by omega)
    obtain ⟨cur, hb, hle, hcs, hw⟩ := h.write l.length m (Nat.le_refl _) hfit
    simp only [List.take_length, List.drop_eq_nil_of_le (Nat.le_add_right l.length m.length), List.append_nil] at hw
    refine ⟨_, fun ty => ?_, hw, (Kp.refl (fun k => k = g) w).setRow (fun _ => rfl) _⟩
    have := run_append_room (P := P) w t ty e i ht hi' g l.length cap cur hb ⟨sg, so, none⟩ m.length sc (K.encs m) (by rw [K.length_encs, hsize]) (fun j u hu => by simp only [Addr.add_lit]; exact hcell j u hu) (K.oneCell m) hfit (by rw [K.length_encs, hsize, ← Nat.add_mul]; exact hle)
    rw [this, hsize, K.length_encs, ← Nat.add_mul]
theorem zero_encs (K : Kd α) (zc : Array Value) (z0 : α) (hz : zc.toList = K.enc z0) (k : Nat) : (Builtin.zeroCells zc k).toList = K.encs (List.replicate k z0) := by
  have hs : zc.size = K.sz := by rw [← K.len z0, ← hz]; simp
  have hp : 0 < zc.size := by rw [hs]; exact K.pos
  apply List.ext_getElem?
  intro j
  by_cases hj : j < k * zc.size
  · have hq : j / zc.size < k := by rw [Nat.div_lt_iff_lt_mul hp]; exact hj
    have h1 := K.encs_get (List.replicate k z0) (j / zc.size) (j % zc.size) z0 (by simp [hq]) (by rw [← hs]; exact Nat.mod_lt _ hp)
    rw [← hs, Nat.div_add_mod' j zc.size] at h1
    rw [h1, ← hz]
    simp only [Builtin.zeroCells, Array.toList_map, Array.toList_range, List.getElem?_map]
    rw [List.getElem?_range hj, Option.map_some, getElem!_pos zc _ (Nat.mod_lt _ hp)]
    simp [Nat.mod_lt _ hp]
  · rw [List.getElem?_eq_none (by rw [Array.length_toList, size_zeroCells]; omega), List.getElem?_eq_none (by rw [K.length_encs, List.length_replicate, ← hs]; omega)]
/-- 'append(s[:i], make([]T, k)...)' that grows. -/
theorem OwnB.appendMake (E : ElT P t e K bytes) (z0 : α) (hz0 : ∀ z, (P.info? e).bind (·.zero) = some z → z.cells.toList = K.enc z0) (ti : TypeId) (hti : P.underlying ti = some (.int .i64)) {w : World} {g cap : Nat} {l : List α} (h : OwnB K e w g cap l) (k n r : Nat) (hn : n = l.length) (hr : r = l.length + k) (hgrow : cap < l.length + k)
    (h63 : l.length + k ≤ 1000000000000) (hbytes : (l.length + k) * bytes ≤ 140737488355328) (hc : cap ≤ maxLen) (kx : Int) (hk : kx = k) :
    ∃ w' cap', (∀ ty, (Builtin.append_ #[t, ti] ty #[.slice (some ⟨g, 0, none⟩) n cap, .int .i64 kx]).run P w = .ok (.slice (some ⟨w.heap.size, 0, none⟩) r cap') w') ∧ OwnB K e w' w.heap.size cap' (l ++ List.replicate k z0) ∧ cap' ≤ maxLen ∧ Kp No w w' := by
  subst hn hr hk
  obtain ⟨ht, i, z, hi', hz, hsize, hby, hzs⟩ := E
  have hzl : z.cells.toList = K.enc z0 := hz0 z (by simp [hi', hz])
  have hcells : (K.encs l).length = l.length * i.size := by rw [K.length_encs, hsize]
  have hlc := h.choose_spec.2.1
  have hf := run_firstCells_some (P := P) w.drew i.size l.length ⟨g, 0, none⟩ l.length cap (K.encs l) hcells (fun j u hu => by simp only [Addr.add_lit, Nat.zero_add]; exact h.drew.cells j u hu)
  have hzc : (Builtin.zeroCells z.cells k).toList = K.encs (List.replicate k z0) := zero_encs K z.cells z0 hzl k
  have hge := grownCap_ge w (l.length + k) cap e
  have hle := grownCap_le_maxLen w (l.length + k) cap e (by unfold maxLen; omega)
  have hfit := growslice_fits hgrow hbytes
  have hnn : ¬ (281474976710656 : Int) < (k : Int) * i.bytes := by
    have : k * i.bytes ≤ (l.length + k) * i.bytes := Nat.mul_le_mul_right _ (by omega)
    rw [hby] at this
    have h2 : k * i.bytes ≤ 140737488355328 := by rw [hby]; omega
    intro h3
    have h4 : ((k * i.bytes : Nat) : Int) = (k : Int) * i.bytes := by simp
    omega
  refine ⟨w.drew.alloc (.cells ((K.encs l).toArray ++ Builtin.zeroCells z.cells k ++ Builtin.zeroCells z.cells (grownCap w (l.length + k) cap e - (l.length + k))) e), grownCap w (l.length + k) cap e, fun ty => ?_, ?_, hle, (Kp.refl _ w).drew.alloc _⟩
  · have hk1 : IntKind.i64.wrap (k : Int) = (k : Int) := IntWalk.i64_in _ (by omega)
    have hk2 : ¬ ((k : Int) < 0) := by omega
    have hk3 : ¬ (9223372036854775807 : Int) < (l.length : Int) + (k : Int) := by omega
    have hroom : ¬ l.length + k ≤ cap := by omega
    have hfit' : ¬ 281474976710656 < Builtin.nextslicecap (l.length + k) cap * i.bytes := by rw [hby]; omega
    have hkp : 0 < k := by omega
    have hkz : ¬ k * i.size = 0 := by rw [hsize]; exact Nat.ne_of_gt (Nat.mul_pos hkp K.pos)
    have hkz1 : ¬ k = 0 := by omega
    have hkz2 : ¬ i.size = 0 := by rw [hsize]; exact Nat.ne_of_gt K.pos
    simp [Builtin.append_, run_underlying ht, run_underlying hti, sizeOf, typeInfo, hi', Builtin.lenOf, asInt, asIntOf, hk1, hk2, hk3, hnn, hroom, hfit', hkz1, hkz2, Question.forced, hf, newRow, grownCap, zeroValue, hz]
    exact fun h => absurd h hkz
  · refine ⟨_, blk_new w.drew _, by simp; omega, ?_, ?_⟩
    · simp only [Array.size_append, List.size_toArray, size_zeroCells, hzs, K.length_encs, ← Nat.add_mul]
      congr 1; omega
    · simp only [Array.toList_append, hzc, ← K.encs_append, List.append_assoc]
      rw [← K.length_encs]
      exact List.take_left
theorem OwnB.cleared (E : ElT P t e K bytes) (hz1 : ∀ z, (P.info? e).bind (·.zero) = some z → ∀ v ∈ z.cells.toList, v.oneCell' = true) {w : World} {g cap : Nat} {l : List α} (h : OwnB K e w g cap l) (o' n c : Nat) (ho : 0 < n → o' = l.length * K.sz) (hfit : l.length + n ≤ cap) :
    ∃ w', (∀ ty, (Builtin.clear_ #[t] ty #[.slice (some ⟨g, o', none⟩) n c]).run P w = .ok (.tuple #[]) w') ∧ OwnB K e w' g cap l ∧ Kp (fun k => k = g) w w' := by
  obtain ⟨ht, i, z, hi', hz, hsize, hby, hzs⟩ := E
  by_cases h0 : n = 0
  · subst h0
    exact ⟨w, fun ty => by simp [Builtin.clear_, run_underlying ht], h, Kp.refl _ _⟩
  obtain rfl := ho (by omega)
  have hone := hz1 z (by simp [hi', hz])
  have hlen : (Builtin.zeroCells z.cells n).toList.length = n * K.sz := by rw [Array.length_toList, size_zeroCells, hzs]
  have hall : ∀ v ∈ (Builtin.zeroCells z.cells n).toList, v.oneCell' = true := by
    intro v hv
    simp only [Builtin.zeroCells, Array.toList_map, List.mem_map] at hv
    obtain ⟨j, _, rfl⟩ := hv
    have hj : j % z.cells.size < z.cells.size := Nat.mod_lt _ (by rw [hzs]; exact K.pos)
    rw [getElem!_pos z.cells _ hj]
    exact hone _ (by simp)
  obtain ⟨cur, h1, h2, h3, h4⟩ := h
  have hle : (l.length + n) * K.sz ≤ cur.size := by rw [h3]; exact Nat.mul_le_mul_right _ hfit
  have hst := run_storeCells_at P g (l.length * K.sz) e (Builtin.zeroCells z.cells n).toList 0 cur w h1 (by rw [hlen]; have := Nat.add_mul l.length n K.sz; simp; omega) hall
  simp only [Nat.add_zero, hlen] at hst
  generalize hcs : (cur.toList.take (l.length * K.sz) ++ (Builtin.zeroCells z.cells n).toList ++ cur.toList.drop (l.length * K.sz + n * K.sz)).toArray = cs at hst
  refine ⟨w.setRow g cs, fun ty => ?_, ⟨cs, setRow_heap w g cur cs e _ h1, h2, ?_, ?_⟩, (Kp.refl (fun k => k = g) w).setRow (fun _ => rfl) _⟩
  · obtain ⟨n, rfl⟩ : ∃ m, n = m + 1 := ⟨n - 1, by omega⟩
    simp [Builtin.clear_, run_underlying ht, zeroValue, typeInfo, hi', hz, hst]
  · subst hcs
    simp only [List.size_toArray, List.length_append, List.length_take, List.length_drop, Array.length_toList, hlen]
    have := Nat.add_mul l.length n K.sz
    omega
  · subst hcs
    simp only [List.append_assoc]
    rw [List.take_append_of_le_length (by have := Nat.add_mul l.length n K.sz; simp; omega), List.take_take, Nat.min_self, h4]
end

/-- The step law of append, for the walk. -/
theorem wpl_append {α : Type} {K : Kd α} {P : Program} {t e : TypeId} {bytes : Nat} {w : World} (E : ElT P t e K bytes) {ops : Array Oper} {rest : List Oper} {o : Oper} {a : Act} {Q : Exit → Act → World → Prop} (hgd : o.guard = none) (s x : Operand)
    (ho : o.op = .call { callee := .builtin .append, args := #[s, x], argTypes := #[t, t] }) {v xv : Value} {l m : List α} (hs : a.eval s = v) (hxv : a.eval x = xv)
    (hown : Own K e w v l) (hx : Rd K w xv m) (h63 : l.length + m.length ≤ maxLen) (hbytes : (l.length + m.length) * bytes ≤ 140737488355328)
    (h : ∀ v' w', Own K e w' v' (l ++ m) → Kp (fun k => v.ownBlock = some k) w w' → (∀ g, v'.ownBlock = some g → v.ownBlock = some g ∨ w.heap.size ≤ g) → wpList P ops Q rest (a.put o.dst v') w') : wpList P ops Q (o :: rest) a w :=
  wpList_plain hgd fun _ hK => by
    obtain ⟨v', w', hr, h2, h3, h4⟩ := run_append E o.type hown hx h63 hbytes
    unfold Oper.wp execOp
    simp only [ho, resolve, invoke, builtin, Sem.run_bind, Sem.run_pure, Result.andThen_ok, List.map_toArray, List.map_cons, List.map_nil, hs, hxv, hr]
    exact hK _ _ (h v' w' h2 h3 h4)

/-- A builtin whose run is known. -/
theorem wpl_runAppend {P : Program} {w w' : World} {ops : Array Oper} {rest : List Oper} {o : Oper} {a : Act} {Q : Exit → Act → World → Prop} (hgd : o.guard = none) (s x : Operand) (t u : TypeId)
    (ho : o.op = .call { callee := .builtin .append, args := #[s, x], argTypes := #[t, u] }) {v xv v' : Value} (hs : a.eval s = v) (hxv : a.eval x = xv)
    (hr : ∀ ty, (Builtin.append_ #[t, u] ty #[v, xv]).run P w = .ok v' w') (h : wpList P ops Q rest (a.put o.dst v') w') : wpList P ops Q (o :: rest) a w :=
  wpList_plain hgd fun _ hK => by
    unfold Oper.wp execOp
    simp only [ho, resolve, invoke, builtin, Sem.run_bind, Sem.run_pure, Result.andThen_ok, List.map_toArray, List.map_cons, List.map_nil, hs, hxv, hr]
    exact hK _ _ h
theorem wpl_runCopy {P : Program} {w w' : World} {ops : Array Oper} {rest : List Oper} {o : Oper} {a : Act} {Q : Exit → Act → World → Prop} (hgd : o.guard = none) (s x : Operand) (t u : TypeId)
    (ho : o.op = .call { callee := .builtin .copy, args := #[s, x], argTypes := #[t, u] }) {v xv v' : Value} (hs : a.eval s = v) (hxv : a.eval x = xv)
    (hr : ∀ ty, (Builtin.copy_ #[t, u] ty #[v, xv]).run P w = .ok v' w') (h : wpList P ops Q rest (a.put o.dst v') w') : wpList P ops Q (o :: rest) a w :=
  wpList_plain hgd fun _ hK => by
    unfold Oper.wp execOp
    simp only [ho, resolve, invoke, builtin, Sem.run_bind, Sem.run_pure, Result.andThen_ok, List.map_toArray, List.map_cons, List.map_nil, hs, hxv, hr]
    exact hK _ _ h
theorem wpl_runClear {P : Program} {w w' : World} {ops : Array Oper} {rest : List Oper} {o : Oper} {a : Act} {Q : Exit → Act → World → Prop} (hgd : o.guard = none) (s : Operand) (t : TypeId)
    (ho : o.op = .call { callee := .builtin .clear, args := #[s], argTypes := #[t] }) {v v' : Value} (hs : a.eval s = v)
    (hr : ∀ ty, (Builtin.clear_ #[t] ty #[v]).run P w = .ok v' w') (h : wpList P ops Q rest (a.put o.dst v') w') : wpList P ops Q (o :: rest) a w :=
  wpList_plain hgd fun _ hK => by
    unfold Oper.wp execOp
    simp only [ho, resolve, invoke, builtin, Sem.run_bind, Sem.run_pure, Result.andThen_ok, List.map_toArray, List.map_cons, List.map_nil, hs, hr]
    exact hK _ _ h
end Go.Proofs.YtolkkinophklcaaDoor
