/- Words on memory that name no function of the program: what a call may change, rows of elements, slices that a call owns; Contracts of the small functions of package window; slices.BinarySearchFunc at windows; slices.Clone, Index at windows; slices.Index at windows; slices.Delete at windows; slices.Insert at windows; Maps with int keys: what a map holds, look-up, store, delete, len. No function of the program; The table of windows in memory; place, Is; The methods of the table of windows: New, place, Is, Taken. No condition. -/
import Derived.Test.YtgdokpfepfmbmaaDoorRows
import Derived.WalkKit
import Derived.WalkSpells
import Derived.Lib.Hide
import Derived.Deep.QuietTactic
import Derived.BigQuiet
import Derived.IntWalk
import Derived.StillTailTactics
import Derived.Maps.RangeRun

namespace Go.Proofs.YtgdokpfepfmbmaaDoor
set_option linter.unusedVariables false
set_option linter.unusedSimpArgs false
open Go.RowKit

/-! ### What a call may change -/

/-- Behind a call only the blocks of S, and new ones, may read otherwise. -/
structure Kp (S : Nat → Prop) (w w' : World) : Prop where
  os : w'.os = w.os
  tape : w'.tape = w.tape
  output : w'.output = w.output
  size : w.heap.size ≤ w'.heap.size
  block : ∀ k, k < w.heap.size → ¬ S k → w'.heap[k]? = w.heap[k]?

/-- No block. -/
def No : Nat → Prop := fun _ => False
theorem no_no (k : Nat) : ¬ No k := fun h => h

section
variable {S S2 : Nat → Prop} {a b c w w' : World}
theorem Kp.refl (S : Nat → Prop) (w : World) : Kp S w w := ⟨rfl, rfl, rfl, Nat.le_refl _, fun _ _ _ => rfl⟩
theorem Kp.trans' (h : Kp S a b) (k : Kp S2 b c) (hs : ∀ k, k < a.heap.size → S2 k → S k) : Kp S a c :=
  ⟨k.os.trans h.os, k.tape.trans h.tape, k.output.trans h.output, Nat.le_trans h.size k.size, fun j hj hn =>
    (k.block j (Nat.lt_of_lt_of_le hj h.size) (fun h2 => hn (hs j hj h2))).trans (h.block j hj hn)⟩
theorem Kp.trans (h : Kp S a b) (k : Kp S b c) : Kp S a c := h.trans' k fun _ _ h => h
theorem Kp.no (h : Kp S a b) (k : Kp No b c) : Kp S a c := h.trans' k fun _ _ h => h.elim
theorem Kp.mono (h : Kp S a b) (hs : ∀ k, k < a.heap.size → S k → S2 k) : Kp S2 a b := ⟨h.os, h.tape, h.output, h.size, fun j hj hn => h.block j hj fun h2 => hn (hs j hj h2)⟩
theorem Kp.drew (h : Kp S a w) : Kp S a w.drew := ⟨h.os, h.tape, h.output, h.size, h.block⟩
theorem Kp.drewN (h : Kp S a w) (n : Nat) : Kp S a (w.drewN n) := ⟨h.os, h.tape, h.output, h.size, h.block⟩
theorem Kp.alloc (h : Kp S a w) (o : Obj) : Kp S a (w.alloc o) :=
  ⟨h.os, h.tape, h.output, by simp; have := h.size; omega, fun j hj hn => (Below.heap_alloc w o j (Nat.lt_of_lt_of_le hj h.size)).trans (h.block j hj hn)⟩
theorem Kp.setCell (h : Kp S a w) {p : Addr} (hp : p.block < a.heap.size → S p.block) (u : Value) : Kp S a (w.setCell p u) :=
  ⟨h.os, h.tape, h.output, by simpa using h.size, fun j hj hn => (Below.heap_setCell w p u j (fun e => hn (e ▸ hp (e ▸ hj)))).trans (h.block j hj hn)⟩
theorem Kp.setRow (h : Kp S a w) {g : Nat} (hp : g < a.heap.size → S g) (cs : Array Value) : Kp S a (w.setRow g cs) :=
  ⟨h.os, h.tape, h.output, by simpa [World.setRow] using h.size, fun j hj hn => (setRow_other w g j cs (fun e => hn (e ▸ hp (e ▸ hj)))).trans (h.block j hj hn)⟩
theorem Kp.setBlk (h : Kp S a w) {g : Nat} (hp : g < a.heap.size → S g) (o : Obj) : Kp S a { w with heap := w.heap.setIfInBounds g o } :=
  ⟨h.os, h.tape, h.output, by simpa using h.size, fun j hj hn => by
    have hne : g ≠ j := fun e => hn (e ▸ hp (e ▸ hj))
    exact (by simp [hne] : ({ w with heap := w.heap.setIfInBounds g o } : World).heap[j]? = w.heap[j]?).trans (h.block j hj hn)⟩
theorem Kp.ofBelow (h : Below w.heap.size w w') : Kp No w w' := ⟨h.os, h.tape, h.output, h.size, fun k hk _ => h.block k hk⟩
theorem Kp.below {B : Nat} (h : Kp S w w') (hS : ∀ k, k < B → ¬ S k) (hB : B ≤ w.heap.size) : Below B w w' :=
  ⟨h.os, h.tape, h.output, h.size, fun k hk => h.block k (by omega) (hS k hk)⟩
theorem Kp.belowNo (h : Kp No w w') : Below w.heap.size w w' := h.below (fun k _ => no_no k) (Nat.le_refl _)
theorem Kp.cell (h : Kp S w w') {p : Addr} (hp : p.block < w.heap.size) (hn : ¬ S p.block) : w'.cell? p = w.cell? p := World.cell?_of_block (h.block _ hp hn)
theorem Kp.cellS (h : Kp S w w') {p : Addr} {v : Value} (hv : w.cell? p = some v) (hn : ¬ S p.block) : w'.cell? p = some v := (h.cell (World.block_lt_of_cell? w p hv) hn).trans hv
theorem Kp.blk (h : Kp S w w') {g : Nat} {o : Obj} (hg : w.heap[g]? = some o) (hn : ¬ S g) : w'.heap[g]? = some o := (h.block g (lt_of_block hg) hn).trans hg
theorem Kp.gcell (h : Kp No w w') : ∀ g o, g < w.heap.size → w'.cell? ⟨g, o, none⟩ = w.cell? ⟨g, o, none⟩ := fun g o hg => h.cell (p := ⟨g, o, none⟩) hg (no_no _)
end

/-! ### Blocks -/
section
variable {w : World} {g : Nat} {cs : Array Value} {t : TypeId}
theorem blk_cell (h : w.heap[g]? = some (.cells cs t (0, 0))) (i : Nat) : w.cell? ⟨g, i, none⟩ = cs[i]? := cell_of_row w g i cs t (0, 0) h
theorem blk_free (h : w.heap[g]? = some (.cells cs t (0, 0))) (i : Nat) : w.frozen? ⟨g, i, none⟩ = false := by simp [World.frozen?, h]
theorem blk_set (h : w.heap[g]? = some (.cells cs t (0, 0))) (i : Nat) (v : Value) : (w.setCell ⟨g, i, none⟩ v).heap[g]? = some (.cells (cs.setIfInBounds i v) t (0, 0)) := by
  have hlt := lt_of_block h
  have hv : w.heap[g] = .cells cs t (0, 0) := (Array.getElem?_eq_some_iff.1 h).2
  unfold World.setCell
  simp [Array.getElem?_modify, h]
theorem blk_new (w : World) (o : Obj) : (w.alloc o).heap[w.heap.size]? = some o := heap_alloc_new w o
theorem blk_alloc {o' : Obj} (h : w.heap[g]? = some o') (o : Obj) : (w.alloc o).heap[g]? = some o' := (Below.heap_alloc w o g (lt_of_block h)).trans h
theorem blk_far {o' : Obj} (h : w.heap[g]? = some o') {p : Addr} (hp : g ≠ p.block) (u : Value) : (w.setCell p u).heap[g]? = some o' := (Below.heap_setCell w p u g hp).trans h
end

/-! ### Elements -/

/-- How an element lies in cells. -/
structure Kd (α : Type) where
  sz : Nat
  enc : α → List Value
  len : ∀ a, (enc a).length = sz
  one : ∀ a, ∀ v ∈ enc a, v.oneCell' = true
  pos : 0 < sz

namespace Kd
variable {α : Type} (K : Kd α)
def encs (l : List α) : List Value := l.flatMap K.enc
theorem encs_nil : K.encs [] = [] := rfl
theorem encs_cons (a : α) (l : List α) : K.encs (a :: l) = K.enc a ++ K.encs l := by simp [encs]
theorem encs_append (l m : List α) : K.encs (l ++ m) = K.encs l ++ K.encs m := by simp [encs]
theorem encs_one (a : α) : K.encs [a] = K.enc a := by simp [encs]
theorem length_encs (l : List α) : (K.encs l).length = l.length * K.sz := by
  induction l with
  | nil => simp [encs]
  | cons a l ih => rw [encs_cons, List.length_append, ih, K.len, List.length_cons, Nat.add_mul]; omega
theorem oneCell (l : List α) : ∀ v ∈ K.encs l, v.oneCell' = true := by
  intro v hv
  simp only [encs, List.mem_flatMap] at hv
  obtain ⟨a, _, h⟩ := hv
  exact K.one a v h
theorem encs_take (l : List α) (i : Nat) : (K.encs l).take (i * K.sz) = K.encs (l.take i) := by
  induction l generalizing i with
  | nil => simp [encs]
  | cons a l ih =>
    cases i with
    | zero => simp [encs]
    | succ i =>
      rw [encs_cons, List.take_succ_cons, encs_cons, Nat.add_mul, Nat.one_mul, Nat.add_comm, List.take_append, K.len, Nat.add_sub_cancel_left, ih, List.take_of_length_le (by rw [K.len]; omega)]
theorem encs_drop (l : List α) (i : Nat) : (K.encs l).drop (i * K.sz) = K.encs (l.drop i) := by
  induction l generalizing i with
  | nil => simp [encs]
  | cons a l ih =>
    cases i with
    | zero => simp [encs]
    | succ i =>
      rw [encs_cons, List.drop_succ_cons, Nat.add_mul, Nat.one_mul, Nat.add_comm, List.drop_append, K.len, Nat.add_sub_cancel_left, ih, List.drop_eq_nil_of_le (by rw [K.len]; omega), List.nil_append]
theorem encs_get (l : List α) (i j : Nat) (x : α) (hx : l[i]? = some x) (hj : j < K.sz) : (K.encs l)[i * K.sz + j]? = (K.enc x)[j]? := by
  have h1 : (K.encs l)[i * K.sz + j]? = ((K.encs l).drop (i * K.sz))[j]? := by rw [List.getElem?_drop]
  rw [h1, encs_drop]
  have hi : i < l.length := (List.getElem?_eq_some_iff.1 hx).1
  rw [List.drop_eq_getElem_cons hi, encs_cons, List.getElem?_append_left (by rw [K.len]; exact hj)]
  congr 2
  exact (List.getElem?_eq_some_iff.1 hx).2
end Kd

/-! ### Slices -/
section
variable {α : Type}
/-- v reads as l. -/
def Rd (K : Kd α) (w : World) (v : Value) (l : List α) : Prop :=
  ((∃ A cap, v = .slice A 0 cap) ∧ l = []) ∨ ∃ g o cap, v = .slice (some ⟨g, o, none⟩) l.length cap ∧ l.length ≤ cap ∧ cap ≤ maxLen ∧ ∀ j u, (K.encs l)[j]? = some u → w.cell? ⟨g, o + j, none⟩ = some u

/-- v reads as l, and has its block for itself, from its first cell on. -/
def Own (K : Kd α) (e : TypeId) (w : World) (v : Value) (l : List α) : Prop :=
  (v = .slice none 0 0 ∧ l = []) ∨ ∃ g cap cur, v = .slice (some ⟨g, 0, none⟩) l.length cap ∧ w.heap[g]? = some (.cells cur e (0, 0)) ∧ l.length ≤ cap ∧ cap ≤ maxLen ∧ cur.size = cap * K.sz ∧ cur.toList.take (l.length * K.sz) = K.encs l

variable {K : Kd α} {e : TypeId} {w w' : World} {v : Value} {l : List α}

theorem Own.cells (h : Own K e w v l) : ∀ g o n cap, v = .slice (some ⟨g, o, none⟩) n cap → ∀ j u, (K.encs l)[j]? = some u → w.cell? ⟨g, o + j, none⟩ = some u := by
  intro g o n cap hv j u hu
  rcases h with ⟨rfl, rfl⟩ | ⟨g', cap', cur, rfl, hb, hlc, hcm, hsz, htake⟩
  · simp at hv
  · simp only [Value.slice.injEq, Option.some.injEq, Addr.mk.injEq] at hv
    obtain ⟨⟨rfl, rfl, _⟩, _, _⟩ := hv
    rw [blk_cell hb, Nat.zero_add]
    rw [← htake, List.getElem?_take] at hu
    split at hu
    · simpa using hu
    · cases hu

theorem Own.rd (h : Own K e w v l) : Rd K w v l := by
  rcases h with ⟨hv, hl⟩ | ⟨g, cap, cur, hv, hb, hlc, hcm, hsz, htake⟩
  · exact .inl ⟨⟨none, 0, hv⟩, hl⟩
  · exact .inr ⟨g, 0, cap, hv, hlc, hcm, Own.cells (.inr ⟨g, cap, cur, hv, hb, hlc, hcm, hsz, htake⟩) g 0 _ cap hv⟩

theorem Own.nil (K : Kd α) (e : TypeId) (w : World) : Own K e w (.slice none 0 0) [] := .inl ⟨rfl, rfl⟩
theorem Rd.nil (K : Kd α) (w : World) : Rd K w (.slice none 0 0) [] := .inl ⟨⟨_, _, rfl⟩, rfl⟩
theorem Rd.empty (K : Kd α) (w : World) (A : Option Addr) (c : Nat) : Rd K w (.slice A 0 c) [] := .inl ⟨⟨_, _, rfl⟩, rfl⟩

theorem Own.lt (h : Own K e w v l) {g : Nat} (hg : v.ownBlock = some g) : g < w.heap.size := by
  rcases h with ⟨rfl, _⟩ | ⟨g', _, _, rfl, hb, _⟩
  · simp [Value.ownBlock] at hg
  · simp [Value.ownBlock] at hg; subst hg; exact lt_of_block hb

theorem Own.kp {S : Nat → Prop} (h : Own K e w v l) (hk : Kp S w w') (hn : ∀ g, v.ownBlock = some g → ¬ S g) : Own K e w' v l := by
  rcases h with h | ⟨g, cap, cur, rfl, hb, h⟩
  · exact .inl h
  · exact .inr ⟨g, cap, cur, rfl, hk.blk hb (hn g rfl), h⟩
theorem Own.kpNo (h : Own K e w v l) (hk : Kp No w w') : Own K e w' v l := h.kp hk fun _ _ => no_no _

theorem Rd.kp {S : Nat → Prop} (h : Rd K w v l) (hk : Kp S w w') (hn : ∀ g, v.ownBlock = some g → ¬ S g) : Rd K w' v l := by
  rcases h with h | ⟨g, o, cap, rfl, h1, h2, h3⟩
  · exact .inl h
  · exact .inr ⟨g, o, cap, rfl, h1, h2, fun j u hu => hk.cellS (h3 j u hu) (hn g rfl)⟩
theorem Rd.kpNo (h : Rd K w v l) (hk : Kp No w w') : Rd K w' v l := h.kp hk fun _ _ => no_no _
theorem Own.alloc (h : Own K e w v l) (o : Obj) : Own K e (w.alloc o) v l := h.kpNo ((Kp.refl _ _).alloc o)
theorem Rd.alloc (h : Rd K w v l) (o : Obj) : Rd K (w.alloc o) v l := h.kpNo ((Kp.refl _ _).alloc o)
theorem Own.drewN (h : Own K e w v l) (n : Nat) : Own K e (w.drewN n) v l := h
theorem Rd.drewN (h : Rd K w v l) (n : Nat) : Rd K (w.drewN n) v l := h

/-- The shape of a value that reads. -/
theorem Rd.shape (h : Rd K w v l) : ∃ a cap, v = .slice a l.length cap := by
  rcases h with ⟨⟨A, c, rfl⟩, rfl⟩ | ⟨g, o, cap, rfl, _⟩
  · exact ⟨A, c, rfl⟩
  · exact ⟨_, _, rfl⟩

theorem Rd.cells (h : Rd K w v l) : ∀ g o n cap, v = .slice (some ⟨g, o, none⟩) n cap → ∀ j u, (K.encs l)[j]? = some u → w.cell? ⟨g, o + j, none⟩ = some u := by
  intro g o n cap hv j u hu
  rcases h with ⟨_, rfl⟩ | ⟨g', o', cap', rfl, _, _, h3⟩
  · simp [Kd.encs] at hu
  · simp only [Value.slice.injEq, Option.some.injEq, Addr.mk.injEq] at hv
    obtain ⟨⟨rfl, rfl, _⟩, _, _⟩ := hv
    exact h3 j u hu
theorem Rd.at (h : Rd K w v l) {g o n cap : Nat} (hv : v = .slice (some ⟨g, o, none⟩) n cap) {i j : Nat} {x : α} {u : Value} (hx : l[i]? = some x) (hj : (K.enc x)[j]? = some u) :
    w.cell? ⟨g, o + i * K.sz + j, none⟩ = some u := by
  rw [Nat.add_assoc]
  rcases h with ⟨_, rfl⟩ | ⟨g', o', cap', rfl, h1, h2, h3⟩
  · simp at hx
  · simp only [Value.slice.injEq, Option.some.injEq, Addr.mk.injEq] at hv
    obtain ⟨⟨rfl, rfl, _⟩, _, _⟩ := hv
    have hjl : j < K.sz := by rw [← K.len x]; exact (List.getElem?_eq_some_iff.1 hj).1
    exact h3 _ _ ((K.encs_get l i j x hx hjl).trans hj)

/-- A new block that holds just these elements. -/
theorem Own.lit (K : Kd α) (e : TypeId) (w : World) (cs : List Value) (l : List α) (hc : cs = K.encs l) (hm : l.length ≤ maxLen) :
    Own K e (w.alloc (.cells cs.toArray e)) (.slice (some ⟨w.heap.size, 0, none⟩) l.length l.length) l :=
  .inr ⟨w.heap.size, l.length, cs.toArray, rfl, blk_new w _, Nat.le_refl _, hm, by rw [hc]; simp [K.length_encs], by rw [hc]; simp [← K.length_encs]⟩
end

theorem Rd.litAt {α : Type} (K : Kd α) (e : TypeId) (w : World) (cs : Array Value) (l : List α) (hc : cs.toList = K.encs l) (hm : l.length ≤ maxLen) (b n : Nat) (hb : b = w.heap.size) (hn : n = l.length) :
    Rd K (w.alloc (.cells cs e)) (.slice (some ⟨b, 0, none⟩) n n) l := by
  subst hb hn
  have := (Own.lit K e w cs.toList l hc hm).rd
  rwa [Array.toArray_toList] at this

/-- The element type's row in the program's table. -/
structure ElT (P : Program) (t e : TypeId) {α : Type} (K : Kd α) (bytes : Nat) : Prop where
  und : P.underlying t = some (.slice e)
  info : ∃ i z, P.info? e = some i ∧ i.zero = some z ∧ i.size = K.sz ∧ i.bytes = bytes ∧ z.cells.size = K.sz

theorem ElT.of {P : Program} {t e : TypeId} {α : Type} {K : Kd α} {bytes : Nat} {z : Value} (h1 : P.underlying t = some (.slice e))
    (h2 : (P.info? e).map (fun i => (i.zero, i.size, i.bytes)) = some (some z, K.sz, bytes)) (h3 : z.cells.size = K.sz) : ElT P t e K bytes := by
  obtain ⟨i, hi, hz0, hz1, hz2⟩ := info_parts h2
  exact ⟨h1, i, z, hi, hz0, hz1, hz2, h3⟩

section
variable {α : Type} {K : Kd α} {P : Program} {t e : TypeId} {bytes : Nat} {w : World}

/-- The new block behind an append that grows. -/
theorem own_grown (z : Value) (hz : z.cells.size = K.sz) (l : List α) (n c : Nat) (hn : n = l.length) (hc : n ≤ c) (hm : c ≤ maxLen) (w : World) :
    Own K e (w.drew.alloc (.cells ((K.encs l).toArray ++ Builtin.zeroCells z.cells (c - n)) e)) (.slice (some ⟨w.heap.size, 0, none⟩) n c) l := by
  subst hn
  refine .inr ⟨w.heap.size, c, _, rfl, blk_new w.drew _, hc, hm, ?_, ?_⟩
  · simp only [Array.size_append, List.size_toArray, size_zeroCells, hz, K.length_encs, ← Nat.add_mul]
    congr 1; omega
  · simp only [Array.toList_append]
    rw [← K.length_encs]
    exact List.take_left

theorem run_append (E : ElT P t e K bytes) (ty : TypeId) {v x : Value} {l m : List α} (hown : Own K e w v l) (hx : Rd K w x m) (h63 : l.length + m.length ≤ maxLen) (hbytes : (l.length + m.length) * bytes ≤ 140737488355328) :
    ∃ v' w', (Builtin.append_ #[t, t] ty #[v, x]).run P w = .ok v' w' ∧ Own K e w' v' (l ++ m) ∧ Kp (fun k => v.ownBlock = some k) w w' ∧ (∀ g, v'.ownBlock = some g → v.ownBlock = some g ∨ w.heap.size ≤ g) := by
  obtain ⟨ht, i, z, hi, hz, hsize, hby, hzs⟩ := E
  subst hby
  have hsmall : l.length + m.length ≤ 9223372036854775807 := by simp only [maxLen] at h63; omega
  rcases hx with ⟨⟨A, c, rfl⟩, rfl⟩ | ⟨xg, xo, xc, rfl, hxc, _, hxcell⟩
  · refine ⟨v, w, ?_, by simpa using hown, Kp.refl _ _, fun g hg => .inl hg⟩
    rcases hown with ⟨rfl, rfl⟩ | ⟨g, cap, cur, rfl, hb, hlc, _, _, _⟩
    · cases A <;> simp [Builtin.append_, run_underlying ht, sizeOf, typeInfo, hi, Builtin.lenOf, Builtin.firstCells, loadCells, loadCellsFrom]
    · cases A <;> simp [Builtin.append_, run_underlying ht, sizeOf, typeInfo, hi, Builtin.lenOf, Builtin.firstCells, hlc, storeCells, loadCells, loadCellsFrom]
  · have hadd : ∀ j, (⟨xg, xo, none⟩ : Addr).add j = ⟨xg, xo + j, none⟩ := fun j => by simp [Addr.add_lit]
    have hnews : ∀ j u, (K.encs m)[j]? = some u → w.cell? ((⟨xg, xo, none⟩ : Addr).add j) = some u := fun j u hu => by rw [hadd]; exact hxcell j u hu
    have hl : (K.encs m).length = m.length * i.size := by rw [K.length_encs, hsize]
    rcases hown with ⟨rfl, rfl⟩ | ⟨g, cap, cur, rfl, hb, hlc, hcm, hsz, htake⟩
    · by_cases hm : m.length = 0
      · obtain rfl : m = [] := List.eq_nil_of_length_eq_zero hm
        refine ⟨.slice none 0 0, w, ?_, Own.nil _ _ _, Kp.refl _ _, fun g hg => .inl hg⟩
        simp [Builtin.append_, run_underlying ht, sizeOf, typeInfo, hi, Builtin.lenOf, Builtin.firstCells, loadCells, loadCellsFrom]
      · have hr := run_append_nil (P := P) w t ty e i z ht hi hz ⟨xg, xo, none⟩ m.length xc (K.encs m) hl hnews (by omega) (by simp at hsmall; omega) (by simp at hbytes; omega)
        refine ⟨_, _, hr, ?_, (Kp.refl _ w).drew.alloc _, fun g hg => .inr (by simp [Value.ownBlock] at hg; omega)⟩
        exact own_grown z hzs m _ _ rfl (grownCap_ge w _ _ e) (grownCap_le_maxLen w _ _ e (by simp at h63; omega)) w
    · by_cases hroom : l.length + m.length ≤ cap
      · have hfit : l.length * i.size + (K.encs m).length ≤ cur.size := by rw [hl, hsz, hsize, ← Nat.add_mul]; exact Nat.mul_le_mul_right _ hroom
        have hr := run_append_room (P := P) w t ty e i ht hi g l.length cap cur hb ⟨xg, xo, none⟩ m.length xc (K.encs m) hl hnews (K.oneCell m) hroom hfit
        refine ⟨_, _, hr, ?_, (Kp.refl (fun k => some g = some k) w).setRow (fun _ => rfl) _, fun g hg => .inl hg⟩
        refine .inr ⟨g, cap, _, by simp, setRow_heap w g cur _ e _ hb, by simpa using hroom, hcm, ?_, ?_⟩
        · simp only [List.size_toArray, List.length_append, List.length_take, List.length_drop, Array.length_toList]
          omega
        · rw [hsize, htake, ← K.encs_append, List.length_append, ← List.length_append, ← K.length_encs]
          exact List.take_left
      · have holds : ∀ j u, (K.encs l)[j]? = some u → w.cell? ((⟨g, 0, none⟩ : Addr).add j) = some u := fun j u hu => by
          simp only [Addr.add_lit]
          exact Own.cells (.inr ⟨g, cap, cur, rfl, hb, hlc, hcm, hsz, htake⟩) g 0 _ cap rfl j u hu
        have hr := run_append_grow (P := P) w t ty e i z ht hi hz ⟨g, 0, none⟩ l.length cap (K.encs l) (by rw [K.length_encs, hsize]) holds ⟨xg, xo, none⟩ m.length xc (K.encs m) hl hnews (by omega) (by omega) (growslice_fits (by omega) hbytes)
        refine ⟨_, _, hr, ?_, (Kp.refl _ w).drew.alloc _, fun g hg => .inr (by simp [Value.ownBlock] at hg; omega)⟩
        have := own_grown (e := e) z hzs (l ++ m) (l.length + m.length) _ (by simp) (grownCap_ge w (l.length + m.length) cap e) (grownCap_le_maxLen w (l.length + m.length) cap e h63) w
        rw [K.encs_append, ← List.append_toArray] at this
        exact this
end

section
variable {α : Type} {K : Kd α} {P : Program} {t e : TypeId} {bytes : Nat}
/-- 's[:hi]' -/
theorem run_slice_hi (E : ElT P t e K bytes) (g o n cap hi : Nat) (h : hi ≤ cap) (x : Int) (hx : x = hi) (w : World) :
    (Instr.slice t (.slice (some ⟨g, o, none⟩) n cap) none (some (.int .i64 x)) none).run P w = .ok (.slice (some ⟨g, o, none⟩) hi cap) w := by
  subst hx
  obtain ⟨ht, i, z, hi', hz, hsize, hby, hzs⟩ := E
  simp [Instr.slice, Instr.sliceBounds, Instr.sliceBound, run_underlying ht, sizeOf, typeInfo, hi', asIntOf, h, Addr.add_lit]
/-- 's[lo:]' -/
theorem run_slice_lo (E : ElT P t e K bytes) (g o n cap lo : Nat) (h : lo ≤ n) (x : Int) (hx : x = lo) :
    ∃ o', (lo < cap → o' = o + lo * K.sz) ∧ ∀ w, (Instr.slice t (.slice (some ⟨g, o, none⟩) n cap) (some (.int .i64 x)) none none).run P w = .ok (.slice (some ⟨g, o', none⟩) (n - lo) (cap - lo)) w := by
  subst hx
  obtain ⟨ht, i, z, hi', hz, hsize, hby, hzs⟩ := E
  refine ⟨if cap = lo then o else o + lo * K.sz, fun hlt => if_neg (by omega), fun w => ?_⟩
  by_cases hc : cap = lo
  · subst hc; simp [Instr.slice, Instr.sliceBounds, Instr.sliceBound, run_underlying ht, sizeOf, typeInfo, hi', asIntOf, h]
  · simp [Instr.slice, Instr.sliceBounds, Instr.sliceBound, run_underlying ht, sizeOf, typeInfo, hi', asIntOf, h, hc, Addr.add_lit, hsize]
/-- 's[lo:hi]' -/
theorem run_slice_lohi (E : ElT P t e K bytes) (g o n cap lo hi : Nat) (h : lo ≤ hi) (h' : hi ≤ cap) (x y : Int) (hx : x = lo) (hy : y = hi) :
    ∃ o', (lo < cap → o' = o + lo * K.sz) ∧ ∀ w, (Instr.slice t (.slice (some ⟨g, o, none⟩) n cap) (some (.int .i64 x)) (some (.int .i64 y)) none).run P w = .ok (.slice (some ⟨g, o', none⟩) (hi - lo) (cap - lo)) w := by
  subst hx hy
  obtain ⟨ht, i, z, hi', hz, hsize, hby, hzs⟩ := E
  refine ⟨if cap = lo then o else o + lo * K.sz, fun hlt => if_neg (by omega), fun w => ?_⟩
  by_cases hc : cap = lo
  · subst hc; simp [Instr.slice, Instr.sliceBounds, Instr.sliceBound, run_underlying ht, sizeOf, typeInfo, hi', asIntOf, h, h']
  · simp [Instr.slice, Instr.sliceBounds, Instr.sliceBound, run_underlying ht, sizeOf, typeInfo, hi', asIntOf, h, h', hc, Addr.add_lit, hsize]
/-- 's[lo:hi:max]' -/
theorem run_slice_3 (E : ElT P t e K bytes) (g o n cap lo hi mx : Nat) (h : lo ≤ hi) (h' : hi ≤ mx) (h'' : mx ≤ cap) (x y z : Int) (hx : x = lo) (hy : y = hi) (hz : z = mx) :
    ∃ o', (lo < mx → o' = o + lo * K.sz) ∧ ∀ w, (Instr.slice t (.slice (some ⟨g, o, none⟩) n cap) (some (.int .i64 x)) (some (.int .i64 y)) (some (.int .i64 z))).run P w = .ok (.slice (some ⟨g, o', none⟩) (hi - lo) (mx - lo)) w := by
  subst hx hy hz
  obtain ⟨ht, i, z', hi', hz', hsize, hby, hzs⟩ := E
  refine ⟨if mx = lo then o else o + lo * K.sz, fun hlt => if_neg (by omega), fun w => ?_⟩
  by_cases hc : mx = lo
  · subst hc; simp [Instr.slice, Instr.sliceBounds, Instr.sliceBound, run_underlying ht, sizeOf, typeInfo, hi', asIntOf, h, h', h'']
  · simp [Instr.slice, Instr.sliceBounds, Instr.sliceBound, run_underlying ht, sizeOf, typeInfo, hi', asIntOf, h, h', h'', hc, Addr.add_lit, hsize]
/-- 's[lo:]', 's[:hi]' of nil. -/
theorem run_slice_nil_lo (E : ElT P t e K bytes) (w : World) : (Instr.slice t (.slice none 0 0) (some (.int .i64 0)) none none).run P w = .ok (.slice none 0 0) w := by
  obtain ⟨ht, i, z, hi', hz, hsize, hby, hzs⟩ := E
  simp [Instr.slice, Instr.sliceBounds, Instr.sliceBound, run_underlying ht, sizeOf, typeInfo, hi', asIntOf]
theorem run_slice_nil_hi (E : ElT P t e K bytes) (w : World) : (Instr.slice t (.slice none 0 0) none (some (.int .i64 0)) none).run P w = .ok (.slice none 0 0) w := by
  obtain ⟨ht, i, z, hi', hz, hsize, hby, hzs⟩ := E
  simp [Instr.slice, Instr.sliceBounds, Instr.sliceBound, run_underlying ht, sizeOf, typeInfo, hi', asIntOf]

/-- Slices of an empty one. -/
theorem slice_e_addr (A : Option Addr) (c n : Nat) : (if c = 0 then A else A.map (·.add (0 * n))) = A := by
  split
  · rfl
  · cases A <;> simp [Addr.add]
theorem run_slice_e_lo (E : ElT P t e K bytes) (A : Option Addr) (c : Nat) (w : World) : (Instr.slice t (.slice A 0 c) (some (.int .i64 0)) none none).run P w = .ok (.slice A 0 c) w := by
  obtain ⟨ht, i, z, hi', hz, hsize, hby, hzs⟩ := E
  have hA := slice_e_addr A c i.size
  simp only [Nat.zero_mul] at hA
  simp [Instr.slice, Instr.sliceBounds, Instr.sliceBound, run_underlying ht, sizeOf, typeInfo, hi', asIntOf, hA]
theorem run_slice_e_hi (E : ElT P t e K bytes) (A : Option Addr) (c : Nat) (w : World) : (Instr.slice t (.slice A 0 c) none (some (.int .i64 0)) none).run P w = .ok (.slice A 0 c) w := by
  obtain ⟨ht, i, z, hi', hz, hsize, hby, hzs⟩ := E
  have hA := slice_e_addr A c i.size
  simp only [Nat.zero_mul] at hA
  simp [Instr.slice, Instr.sliceBounds, Instr.sliceBound, run_underlying ht, sizeOf, typeInfo, hi', asIntOf, hA]
theorem run_slice_e_lohi (E : ElT P t e K bytes) (A : Option Addr) (c : Nat) (w : World) : (Instr.slice t (.slice A 0 c) (some (.int .i64 0)) (some (.int .i64 0)) none).run P w = .ok (.slice A 0 c) w := by
  obtain ⟨ht, i, z, hi', hz, hsize, hby, hzs⟩ := E
  have hA := slice_e_addr A c i.size
  simp only [Nat.zero_mul] at hA
  simp [Instr.slice, Instr.sliceBounds, Instr.sliceBound, run_underlying ht, sizeOf, typeInfo, hi', asIntOf, hA]

/-- 's[lo:]', as a list. -/
theorem Rd.from (E : ElT P t e K bytes) {w : World} {v : Value} {l : List α} (h : Rd K w v l) (p : Nat) (hp : p ≤ l.length) (x : Int) (hx : x = p) :
    ∃ v2, (∀ w', (Instr.slice t v (some (.int .i64 x)) none none).run P w' = .ok v2 w') ∧ Rd K w v2 (l.drop p) ∧ (∀ g, v2.ownBlock = some g → v.ownBlock = some g) := by
  rcases h with ⟨⟨A, c, rfl⟩, rfl⟩ | ⟨g, o, cap, rfl, h1, h2, h3⟩
  · obtain rfl : p = 0 := by simpa using hp
    subst hx
    exact ⟨_, fun w' => run_slice_e_lo E A c w', by simpa using Rd.empty K w A c, fun g hg => hg⟩
  · obtain ⟨o', ho', hs⟩ := run_slice_lo E g o l.length cap p hp x hx
    refine ⟨_, hs, .inr ⟨g, o', cap - p, by simp, by simp; omega, by omega, fun j u hu => ?_⟩, fun g' hg' => hg'⟩
    have hj := (List.getElem?_eq_some_iff.1 hu).1
    rw [K.length_encs, List.length_drop] at hj
    have hpl : p < cap := by
      rcases Nat.lt_or_ge p l.length with h | h
      · omega
      · rw [show l.length - p = 0 by omega, Nat.zero_mul] at hj; omega
    rw [ho' hpl, Nat.add_assoc]
    rw [← K.encs_drop, List.getElem?_drop] at hu
    exact h3 _ u hu

/-- Block g, of cap elements, begins with l. -/
def OwnB {α : Type} (K : Kd α) (e : TypeId) (w : World) (g cap : Nat) (l : List α) : Prop :=
  ∃ cur : Array Value, w.heap[g]? = some (.cells cur e (0, 0)) ∧ l.length ≤ cap ∧ cur.size = cap * K.sz ∧ cur.toList.take (l.length * K.sz) = K.encs l

theorem OwnB.own {α : Type} {K : Kd α} {e : TypeId} {w : World} {g cap : Nat} {l : List α} (h : OwnB K e w g cap l) (hm : cap ≤ maxLen) : Own K e w (.slice (some ⟨g, 0, none⟩) l.length cap) l :=
  let ⟨cur, h1, h2, h3, h4⟩ := h
  .inr ⟨g, cap, cur, rfl, h1, h2, hm, h3, h4⟩
theorem OwnB.take {α : Type} {K : Kd α} {e : TypeId} {w : World} {g cap : Nat} {l : List α} (h : OwnB K e w g cap l) (i : Nat) : OwnB K e w g cap (l.take i) := by
  obtain ⟨cur, h1, h2, h3, h4⟩ := h
  refine ⟨cur, h1, by simp; omega, h3, ?_⟩
  rw [← K.encs_take, ← h4, List.take_take]
  rcases Nat.le_total i l.length with hi | hi
  · rw [List.length_take, Nat.min_eq_left hi, Nat.min_eq_left (Nat.mul_le_mul_right _ hi)]
  · rw [List.length_take, Nat.min_eq_right hi, Nat.min_eq_right (Nat.mul_le_mul_right _ hi)]
theorem OwnB.lt {α : Type} {K : Kd α} {e : TypeId} {w : World} {g cap : Nat} {l : List α} (h : OwnB K e w g cap l) : g < w.heap.size := let ⟨_, h1, _⟩ := h; lt_of_block h1
theorem OwnB.drew {α : Type} {K : Kd α} {e : TypeId} {w : World} {g cap : Nat} {l : List α} (h : OwnB K e w g cap l) : OwnB K e w.drew g cap l := h
theorem OwnB.kp {α : Type} {K : Kd α} {e : TypeId} {w w' : World} {g cap : Nat} {l : List α} {S : Nat → Prop} (h : OwnB K e w g cap l) (hk : Kp S w w') (hn : ¬ S g) : OwnB K e w' g cap l :=
  let ⟨cur, h1, h2⟩ := h
  ⟨cur, hk.blk h1 hn, h2⟩
theorem OwnB.cells {α : Type} {K : Kd α} {e : TypeId} {w : World} {g cap : Nat} {l : List α} (h : OwnB K e w g cap l) : ∀ j u, (K.encs l)[j]? = some u → w.cell? ⟨g, j, none⟩ = some u := by
  obtain ⟨cur, h1, h2, h3, h4⟩ := h
  intro j u hu
  rw [blk_cell h1]
  rw [← h4, List.getElem?_take] at hu
  split at hu
  · simpa using hu
  · cases hu
theorem Own.b {α : Type} {K : Kd α} {e : TypeId} {w : World} {v : Value} {l : List α} (h : Own K e w v l) : (v = .slice none 0 0 ∧ l = []) ∨ ∃ g cap, v = .slice (some ⟨g, 0, none⟩) l.length cap ∧ cap ≤ maxLen ∧ l.length ≤ cap ∧ OwnB K e w g cap l := by
  rcases h with h | ⟨g, cap, cur, rfl, h1, h2, h3, h4⟩
  · exact .inl h
  · exact .inr ⟨g, cap, rfl, h3, h2, cur, h1, h2, h4⟩
/-- Elements are written into it. -/
theorem OwnB.write {α : Type} {K : Kd α} {e : TypeId} {w : World} {g cap : Nat} {l : List α} (h : OwnB K e w g cap l) (off : Nat) (m : List α) (ho : off ≤ l.length) (hfit : off + m.length ≤ cap) :
    ∃ cur : Array Value, w.heap[g]? = some (.cells cur e (0, 0)) ∧ (off + m.length) * K.sz ≤ cur.size ∧ cur.size = cap * K.sz ∧
      OwnB K e (w.setRow g (cur.toList.take (off * K.sz) ++ K.encs m ++ cur.toList.drop ((off + m.length) * K.sz)).toArray) g cap (l.take off ++ m ++ l.drop (off + m.length)) := by
  obtain ⟨cur, h1, h2, h3, h4⟩ := h
  have hle : (off + m.length) * K.sz ≤ cur.size := by rw [h3]; exact Nat.mul_le_mul_right _ hfit
  have hle0 : off * K.sz ≤ cur.size := Nat.le_trans (Nat.mul_le_mul_right _ (by omega)) hle
  refine ⟨cur, h1, hle, h3, _, setRow_heap w g cur _ e _ h1, by simp; omega, ?_, ?_⟩
  · simp only [List.size_toArray, List.length_append, List.length_take, List.length_drop, Array.length_toList, K.length_encs]
    rw [← h3]
    have := Nat.add_mul off m.length K.sz
    omega
  · have hA : cur.toList.take (off * K.sz) = K.encs (l.take off) := by
      rw [← K.encs_take, ← h4, List.take_take, Nat.min_eq_left (Nat.mul_le_mul_right _ ho)]
    simp only [K.encs_append, hA, List.append_assoc]
    have hl1 : (K.encs (l.take off)).length = off * K.sz := by rw [K.length_encs, List.length_take, Nat.min_eq_left ho]
    have hl2 : (K.encs m).length = m.length * K.sz := K.length_encs m
    have hlen : (l.take off ++ (m ++ l.drop (off + m.length))).length = off + m.length + (l.length - (off + m.length)) := by simp; omega
    rw [hlen, Nat.add_mul, Nat.add_mul, ← hl1, ← hl2, Nat.add_assoc, List.take_length_add_append, List.take_length_add_append, ← List.append_assoc, ← List.append_assoc]
    congr 1
    rw [← K.encs_drop, ← h4, List.drop_take, ← Nat.sub_mul, hl1, hl2, ← Nat.add_mul]
/-- ...and the same by copy, append and clear. -/
theorem OwnB.copied (E : ElT P t e K bytes) {w : World} {g cap off : Nat} {l : List α} (h : OwnB K e w g cap l) (m : List α) (ho : off ≤ l.length) (hfit : off + m.length ≤ cap) (o' dn dc : Nat) (sp : Option Addr) (sn sc : Nat) (hm : m.length = min sn dn) (ho' : 0 < m.length → o' = off * K.sz)
    (hsrc : 0 < m.length → ∃ sg so, sp = some ⟨sg, so, none⟩ ∧ ∀ j u, (K.encs m)[j]? = some u → w.cell? ⟨sg, so + j, none⟩ = some u) :
    ∃ w', (∀ ty, (Builtin.copy_ #[t, t] ty #[.slice (some ⟨g, o', none⟩) dn dc, .slice sp sn sc]).run P w = .ok (goInt m.length) w') ∧ OwnB K e w' g cap (l.take off ++ m ++ l.drop (off + m.length)) ∧ Kp (fun k => k = g) w w' := by
  obtain ⟨ht, i, z, hi', hz, hsize, hby, hzs⟩ := E
  have hmin : Nat.min sn dn = m.length := hm.symm
  by_cases h0 : m.length = 0
  · obtain rfl : m = [] := List.eq_nil_of_length_eq_zero h0
    have hmin' : Nat.min sn dn = 0 := hmin
    refine ⟨w, fun ty => ?_, by simpa using h, Kp.refl _ _⟩
    cases sp with
    | none => simp [Builtin.copy_, run_underlying ht, sizeOf, typeInfo, hi', Builtin.lenOf, hmin', Builtin.firstCells, storeCells]
    | some a => simp [Builtin.copy_, run_underlying ht, sizeOf, typeInfo, hi', Builtin.lenOf, hmin', Builtin.firstCells, loadCells, loadCellsFrom, storeCells]
  · obtain ⟨sg, so, rfl, hcell⟩ := hsrc (by omega)
    obtain rfl := ho' (by omega)
    obtain ⟨cur, hb, hle, hcs, hw⟩ := h.write off m ho hfit
    refine ⟨_, fun ty => ?_, hw, (Kp.refl (fun k => k = g) w).setRow (fun _ => rfl) _⟩
    have hl : (K.encs m).length = m.length * i.size := by rw [K.length_encs, hsize]
    have hf := run_firstCells_some (P := P) w i.size m.length ⟨sg, so, none⟩ sn sc (K.encs m) hl (fun j u hu => by simp only [Addr.add_lit]; exact hcell j u hu)
    have hst := run_storeCells_at P g (off * K.sz) e (K.encs m) 0 cur w hb (by rw [K.length_encs]; have := Nat.add_mul off m.length K.sz; simp; omega) (K.oneCell m)
    simp only [Nat.add_zero, K.length_encs, ← Nat.add_mul] at hst
    simp [Builtin.copy_, run_underlying ht, sizeOf, typeInfo, hi', Builtin.lenOf, hmin, hf, hst]
theorem OwnB.appended (E : ElT P t e K bytes) {w : World} {g cap : Nat} {l : List α} (h : OwnB K e w g cap l) (m : List α) (hfit : l.length + m.length ≤ cap) (n k r : Nat) (sp : Option Addr) (sc : Nat) (hn : n = l.length) (hk : k = m.length) (hr : r = l.length + m.length)
    (hsrc : 0 < m.length → ∃ sg so, sp = some ⟨sg, so, none⟩ ∧ ∀ j u, (K.encs m)[j]? = some u → w.cell? ⟨sg, so + j, none⟩ = some u) :
    ∃ w', (∀ ty, (Builtin.append_ #[t, t] ty #[.slice (some ⟨g, 0, none⟩) n cap, .slice sp k sc]).run P w = .ok (.slice (some ⟨g, 0, none⟩) r cap) w') ∧ OwnB K e w' g cap (l ++ m) ∧ Kp (fun k => k = g) w w' := by
  subst hn hk hr
  obtain ⟨ht, i, z, hi', hz, hsize, hby, hzs⟩ := E
  by_cases h0 : m.length = 0
  · obtain rfl : m = [] := List.eq_nil_of_length_eq_zero h0
    have hlc : l.length ≤ cap := by simpa using hfit
    refine ⟨w, fun ty => ?_, by simpa using h, Kp.refl _ _⟩
    cases sp with
    | none => simp [Builtin.append_, run_underlying ht, sizeOf, typeInfo, hi', Builtin.lenOf, Builtin.firstCells, storeCells, hlc]
    | some a => simp [Builtin.append_, run_underlying ht, sizeOf, typeInfo, hi', Builtin.lenOf, Builtin.firstCells, loadCells, loadCellsFrom, storeCells, hlc]
  · obtain ⟨sg, so, rfl, hcell⟩ := hsrc (by omega)
    obtain ⟨cur, hb, hle, hcs, hw⟩ := h.write l.length m (Nat.le_refl _) hfit
    simp only [List.take_length, List.drop_eq_nil_of_le (Nat.le_add_right l.length m.length), List.append_nil] at hw
    refine ⟨_, fun ty => ?_, hw, (Kp.refl (fun k => k = g) w).setRow (fun _ => rfl) _⟩
    have := run_append_room (P := P) w t ty e i ht hi' g l.length cap cur hb ⟨sg, so, none⟩ m.length sc (K.encs m) (by rw [K.length_encs, hsize]) (fun j u hu => by simp only [Addr.add_lit]; exact hcell j u hu) (K.oneCell m) hfit (by rw [K.length_encs, hsize, ← Nat.add_mul]; exact hle)
    rw [this, hsize, K.length_encs, ← Nat.add_mul]
theorem zero_encs (K : Kd α) (zc : Array Value) (z0 : α) (hz : zc.toList = K.enc z0) (k : Nat) : (Builtin.zeroCells zc k).toList = K.encs (List.replicate k z0) := by
  have hs : zc.size = K.sz := by rw [← K.len z0, ← hz]; simp
  have hp : 0 < zc.size := by rw [hs]; exact K.pos
  apply List.ext_getElem?
  intro j
  by_cases hj : j < k * zc.size
  · have hq : j / zc.size < k := by rw [Nat.div_lt_iff_lt_mul hp]; exact hj
    have h1 := K.encs_get (List.replicate k z0) (j / zc.size) (j % zc.size) z0 (by simp [hq]) (by rw [← hs]; exact Nat.mod_lt _ hp)
    rw [← hs, Nat.div_add_mod' j zc.size] at h1
    rw [h1, ← hz]
    simp only [Builtin.zeroCells, Array.toList_map, Array.toList_range, List.getElem?_map]
    rw [List.getElem?_range hj, Option.map_some, getElem!_pos zc _ (Nat.mod_lt _ hp)]
    simp [Nat.mod_lt _ hp]
  · rw [List.getElem?_eq_none (by rw [Array.length_toList, size_zeroCells]; omega), List.getElem?_eq_none (by rw [K.length_encs, List.length_replicate, ← hs]; omega)]
/-- 'append(s[:i], make([]T, k)...)' that grows. -/
theorem OwnB.appendMake (E : ElT P t e K bytes) (z0 : α) (hz0 : ∀ z, (P.info? e).bind (·.zero) = some z → z.cells.toList = K.enc z0) (ti : TypeId) (hti : P.underlying ti = some (.int .i64)) {w : World} {g cap : Nat} {l : List α} (h : OwnB K e w g cap l) (k n r : Nat) (hn : n = l.length) (hr : r = l.length + k) (hgrow : cap < l.length + k)
    (h63 : l.length + k ≤ 1000000000000) (hbytes : (l.length + k) * bytes ≤ 140737488355328) (hc : cap ≤ maxLen) (kx : Int) (hk : kx = k) :
    ∃ w' cap', (∀ ty, (Builtin.append_ #[t, ti] ty #[.slice (some ⟨g, 0, none⟩) n cap, .int .i64 kx]).run P w = .ok (.slice (some ⟨w.heap.size, 0, none⟩) r cap') w') ∧ OwnB K e w' w.heap.size cap' (l ++ List.replicate k z0) ∧ cap' ≤ maxLen ∧ Kp No w w' := by
  subst hn hr hk
  obtain ⟨ht, i, z, hi', hz, hsize, hby, hzs⟩ := E
  have hzl : z.cells.toList = K.enc z0 := hz0 z (by simp [hi', hz])
  have hcells : (K.encs l).length = l.length * i.size := by rw [K.length_encs, hsize]
  have hlc := h.choose_spec.2.1
  have hf := run_firstCells_some (P := P) w.drew i.size l.length ⟨g, 0, none⟩ l.length cap (K.encs l) hcells (fun j u hu => by simp only [Addr.add_lit, Nat.zero_add]; exact h.drew.cells j u hu)
  have hzc : (Builtin.zeroCells z.cells k).toList = K.encs (List.replicate k z0) := zero_encs K z.cells z0 hzl k
  have hge := grownCap_ge w (l.length + k) cap e
  have hle := grownCap_le_maxLen w (l.length + k) cap e (by unfold maxLen; omega)
  have hfit := growslice_fits hgrow hbytes
  have hnn : ¬ (281474976710656 : Int) < (k : Int) * i.bytes := by
    have : k * i.bytes ≤ (l.length + k) * i.bytes := Nat.mul_le_mul_right _ (by omega)
    rw [hby] at this
    have h2 : k * i.bytes ≤ 140737488355328 := by rw [hby]; omega
    intro h3
    have h4 : ((k * i.bytes : Nat) : Int) = (k : Int) * i.bytes := by simp
    omega
  refine ⟨w.drew.alloc (.cells ((K.encs l).toArray ++ Builtin.zeroCells z.cells k ++ Builtin.zeroCells z.cells (grownCap w (l.length + k) cap e - (l.length + k))) e), grownCap w (l.length + k) cap e, fun ty => ?_, ?_, hle, (Kp.refl _ w).drew.alloc _⟩
  · have hk1 : IntKind.i64.wrap (k : Int) = (k : Int) := IntWalk.i64_in _ (by omega)
    have hk2 : ¬ ((k : Int) < 0) := by omega
    have hk3 : ¬ (9223372036854775807 : Int) < (l.length : Int) + (k : Int) := by omega
    have hroom : ¬ l.length + k ≤ cap := by omega
    have hfit' : ¬ 281474976710656 < Builtin.nextslicecap (l.length + k) cap * i.bytes := by rw [hby]; omega
    have hkp : 0 < k := by omega
    have hkz : ¬ k * i.size = 0 := by rw [hsize]; exact Nat.ne_of_gt (Nat.mul_pos hkp K.pos)
    have hkz1 : ¬ k = 0 := by omega
    have hkz2 : ¬ i.size = 0 := by rw [hsize]; exact Nat.ne_of_gt K.pos
    simp [Builtin.append_, run_underlying ht, run_underlying hti, sizeOf, typeInfo, hi', Builtin.lenOf, asInt, asIntOf, hk1, hk2, hk3, hnn, hroom, hfit', hkz1, hkz2, Question.forced, hf, newRow, grownCap, zeroValue, hz]
    exact fun h => absurd h hkz
  · refine ⟨_, blk_new w.drew _, by simp; omega, ?_, ?_⟩
    · simp only [Array.size_append, List.size_toArray, size_zeroCells, hzs, K.length_encs, ← Nat.add_mul]
      congr 1; omega
    · simp only [Array.toList_append, hzc, ← K.encs_append, List.append_assoc]
      rw [← K.length_encs]
      exact List.take_left
theorem OwnB.cleared (E : ElT P t e K bytes) (hz1 : ∀ z, (P.info? e).bind (·.zero) = some z → ∀ v ∈ z.cells.toList, v.oneCell' = true) {w : World} {g cap : Nat} {l : List α} (h : OwnB K e w g cap l) (o' n c : Nat) (ho : 0 < n → o' = l.length * K.sz) (hfit : l.length + n ≤ cap) :
    ∃ w', (∀ ty, (Builtin.clear_ #[t] ty #[.slice (some ⟨g, o', none⟩) n c]).run P w = .ok (.tuple #[]) w') ∧ OwnB K e w' g cap l ∧ Kp (fun k => k = g) w w' := by
  obtain ⟨ht, i, z, hi', hz, hsize, hby, hzs⟩ := E
  by_cases h0 : n = 0
  · subst h0
    exact ⟨w, fun ty => by simp [Builtin.clear_, run_underlying ht], h, Kp.refl _ _⟩
  obtain rfl := ho (by omega)
  have hone := hz1 z (by simp [hi', hz])
  have hlen : (Builtin.zeroCells z.cells n).toList.length = n * K.sz := by rw [Array.length_toList, size_zeroCells, hzs]
  have hall : ∀ v ∈ (Builtin.zeroCells z.cells n).toList, v.oneCell' = true := by
    intro v hv
    simp only [Builtin.zeroCells, Array.toList_map, List.mem_map] at hv
    obtain ⟨j, _, rfl⟩ := hv
    have hj : j % z.cells.size < z.cells.size := Nat.mod_lt _ (by rw [hzs]; exact K.pos)
    rw [getElem!_pos z.cells _ hj]
    exact hone _ (by simp)
  obtain ⟨cur, h1, h2, h3, h4⟩ := h
  have hle : (l.length + n) * K.sz ≤ cur.size := by rw [h3]; exact Nat.mul_le_mul_right _ hfit
  have hst := run_storeCells_at P g (l.length * K.sz) e (Builtin.zeroCells z.cells n).toList 0 cur w h1 (by rw [hlen]; have := Nat.add_mul l.length n K.sz; simp; omega) hall
  simp only [Nat.add_zero, hlen] at hst
  generalize hcs : (cur.toList.take (l.length * K.sz) ++ (Builtin.zeroCells z.cells n).toList ++ cur.toList.drop (l.length * K.sz + n * K.sz)).toArray = cs at hst
  refine ⟨w.setRow g cs, fun ty => ?_, ⟨cs, setRow_heap w g cur cs e _ h1, h2, ?_, ?_⟩, (Kp.refl (fun k => k = g) w).setRow (fun _ => rfl) _⟩
  · obtain ⟨n, rfl⟩ : ∃ m, n = m + 1 := ⟨n - 1, by omega⟩
    simp [Builtin.clear_, run_underlying ht, zeroValue, typeInfo, hi', hz, hst]
  · subst hcs
    simp only [List.size_toArray, List.length_append, List.length_take, List.length_drop, Array.length_toList, hlen]
    have := Nat.add_mul l.length n K.sz
    omega
  · subst hcs
    simp only [List.append_assoc]
    rw [List.take_append_of_le_length (by have := Nat.add_mul l.length n K.sz; simp; omega), List.take_take, Nat.min_self, h4]
end

/-- The step law of append, for the walk. -/
theorem wpl_append {α : Type} {K : Kd α} {P : Program} {t e : TypeId} {bytes : Nat} {w : World} (E : ElT P t e K bytes) {ops : Array Oper} {rest : List Oper} {o : Oper} {a : Act} {Q : Exit → Act → World → Prop} (hgd : o.guard = none) (s x : Operand)
    (ho : o.op = .call { callee := .builtin .append, args := #[s, x], argTypes := #[t, t] }) {v xv : Value} {l m : List α} (hs : a.eval s = v) (hxv : a.eval x = xv)
    (hown : Own K e w v l) (hx : Rd K w xv m) (h63 : l.length + m.length ≤ maxLen) (hbytes : (l.length + m.length) * bytes ≤ 140737488355328)
    (h : ∀ v' w', Own K e w' v' (l ++ m) → Kp (fun k => v.ownBlock = some k) w w' → (∀ g, v'.ownBlock = some g → v.ownBlock = some g ∨ w.heap.size ≤ g) → wpList P ops Q rest (a.put o.dst v') w') : wpList P ops Q (o :: rest) a w :=
  wpList_plain hgd fun _ hK => by
    obtain ⟨v', w', hr, h2, h3, h4⟩ := run_append E o.type hown hx h63 hbytes
    unfold Oper.wp execOp
    simp only [ho, resolve, invoke, builtin, Sem.run_bind, Sem.run_pure, Result.andThen_ok, List.map_toArray, List.map_cons, List.map_nil, hs, hxv, hr]
    exact hK _ _ (h v' w' h2 h3 h4)

/-- A builtin whose run is known. -/
theorem wpl_runAppend {P : Program} {w w' : World} {ops : Array Oper} {rest : List Oper} {o : Oper} {a : Act} {Q : Exit → Act → World → Prop} (hgd : o.guard = none) (s x : Operand) (t u : TypeId)
    (ho : o.op = .call { callee := .builtin .append, args := #[s, x], argTypes := #[t, u] }) {v xv v' : Value} (hs : a.eval s = v) (hxv : a.eval x = xv)
    (hr : ∀ ty, (Builtin.append_ #[t, u] ty #[v, xv]).run P w = .ok v' w') (h : wpList P ops Q rest (a.put o.dst v') w') : wpList P ops Q (o :: rest) a w :=
  wpList_plain hgd fun _ hK => by
    unfold Oper.wp execOp
    simp only [ho, resolve, invoke, builtin, Sem.run_bind, Sem.run_pure, Result.andThen_ok, List.map_toArray, List.map_cons, List.map_nil, hs, hxv, hr]
    exact hK _ _ h
theorem wpl_runCopy {P : Program} {w w' : World} {ops : Array Oper} {rest : List Oper} {o : Oper} {a : Act} {Q : Exit → Act → World → Prop} (hgd : o.guard = none) (s x : Operand) (t u : TypeId)
    (ho : o.op = .call { callee := .builtin .copy, args := #[s, x], argTypes := #[t, u] }) {v xv v' : Value} (hs : a.eval s = v) (hxv : a.eval x = xv)
    (hr : ∀ ty, (Builtin.copy_ #[t, u] ty #[v, xv]).run P w = .ok v' w') (h : wpList P ops Q rest (a.put o.dst v') w') : wpList P ops Q (o :: rest) a w :=
  wpList_plain hgd fun _ hK => by
    unfold Oper.wp execOp
    simp only [ho, resolve, invoke, builtin, Sem.run_bind, Sem.run_pure, Result.andThen_ok, List.map_toArray, List.map_cons, List.map_nil, hs, hxv, hr]
    exact hK _ _ h
theorem wpl_runClear {P : Program} {w w' : World} {ops : Array Oper} {rest : List Oper} {o : Oper} {a : Act} {Q : Exit → Act → World → Prop} (hgd : o.guard = none) (s : Operand) (t : TypeId)
    (ho : o.op = .call { callee := .builtin .clear, args := #[s], argTypes := #[t] }) {v v' : Value} (hs : a.eval s = v)
    (hr : ∀ ty, (Builtin.clear_ #[t] ty #[v]).run P w = .ok v' w') (h : wpList P ops Q rest (a.put o.dst v') w') : wpList P ops Q (o :: rest) a w :=
  wpList_plain hgd fun _ hK => by
    unfold Oper.wp execOp
    simp only [ho, resolve, invoke, builtin, Sem.run_bind, Sem.run_pure, Result.andThen_ok, List.map_toArray, List.map_cons, List.map_nil, hs, hr]
    exact hK _ _ h
end Go.Proofs.YtgdokpfepfmbmaaDoor

namespace Go.Proofs.YtgdokpfepfmbmaaDoor
set_option linter.unusedVariables false
set_option linter.unusedSimpArgs false
open Go.RowKit

theorem wdright_any (a b : Int) (w : World) :
    Calls Tryd.prog 43 #[.agg #[.int .i64 a, .int .i64 b]] w fun e w' => e = .returned (.bool (decide (0 ≤ a ∧ a < b ∧ b ≤ 1048576))) ∧ w' = w.alloc (.cells #[.int .i64 a, .int .i64 b] 43) := by
  by_cases h1 : 0 ≤ a
  · by_cases h2 : a < b
    · go_enter Tryd.func43, Tryd.ntmps43
      go_wp2
      go_ret
      exact ⟨by simp [*] <;> omega, rfl⟩
    · go_enter Tryd.func43, Tryd.ntmps43
      go_wp2
      go_ret
      exact ⟨by simp [*] <;> omega, rfl⟩
  · go_enter Tryd.func43, Tryd.ntmps43
    go_wp2
    go_ret
    exact ⟨by simp [*] <;> omega, rfl⟩

theorem lit_any (a b m : Int) (w : World) :
    Calls Tryd.prog 75 #[.agg #[.int .i64 a, .int .i64 b], .int .i64 m] w fun e w' => e = .returned (.int .i64 (if b ≤ m then -1 else 1)) ∧ w' = w.alloc (.cells #[.int .i64 a, .int .i64 b] 43) := by
  by_cases h1 : b ≤ m
  · go_enter Tryd.func75, Tryd.ntmps75
    go_wp2
    go_ret
    exact ⟨by simp [*] <;> omega, rfl⟩
  · go_enter Tryd.func75, Tryd.ntmps75
    go_wp2
    go_ret
    exact ⟨by simp [*] <;> omega, rfl⟩
end Go.Proofs.YtgdokpfepfmbmaaDoor

namespace Go.Proofs.YtgdokpfepfmbmaaDoor
set_option linter.unusedVariables false
set_option linter.unusedSimpArgs false
open Go.RowKit

theorem lit_gr (a b m : Int) (w : World) :
    Calls Tryd.prog 75 #[.agg #[.int .i64 a, .int .i64 b], .int .i64 m] w fun e w' => e = .returned (.int .i64 (if b ≤ m then -1 else 1)) ∧ Below w.heap.size w w' :=
  (lit_any a b m w).mono fun _ _ ⟨h1, h2⟩ => ⟨h1, h2 ▸ (Below.refl _ _).alloc (Nat.le_refl _) _⟩

theorem bcell {W w1 : World} (hb : Below W.heap.size W w1) : (∀ b o, b < W.heap.size → w1.cell? ⟨b, o, none⟩ = W.cell? ⟨b, o, none⟩) ∧ (∀ b o, b < W.heap.size → w1.frozen? ⟨b, o, none⟩ = W.frozen? ⟨b, o, none⟩) :=
  ⟨fun b o h => hb.cell (p := ⟨b, o, none⟩) h, fun b o h => hb.frozen (p := ⟨b, o, none⟩) h⟩

def place (l : List (Int × Int)) (m : Int) : Nat := (l.takeWhile (fun x => decide (x.2 ≤ m))).length

theorem place_eq (l : List (Int × Int)) (m : Int) (a : Nat) (hal : a ≤ l.length) (h1 : ∀ (k : Nat) (x : Int × Int), l[k]? = some x → k < a → x.2 ≤ m) (h2 : ∀ (k : Nat) (x : Int × Int), l[k]? = some x → a ≤ k → m < x.2) : place l m = a := by
  induction l generalizing a with
  | nil => simp at hal; simp [place, hal]
  | cons y l ih =>
    cases a with
    | zero => have := h2 0 y rfl (Nat.le_refl _); simp [place, Int.not_le.2 this]
    | succ a =>
      have h0 := h1 0 y rfl (by omega)
      have := ih a (by simp at hal; omega) (fun k x hk hka => h1 (k + 1) x (by simpa using hk) (by omega)) (fun k x hk hka => h2 (k + 1) x (by simpa using hk) (by omega))
      simp [place, h0] at this ⊢
      exact this

theorem bsearch (g o cap : Nat) (l : List (Int × Int)) (m : Int) (w : World) (hg : g < w.heap.size) (hlen : l.length ≤ 1000000000000) (hcap : l.length ≤ cap)
    (hc : ∀ i x, l[i]? = some x → w.cell? ⟨g, o + i * 2, none⟩ = some (.int .i64 x.1) ∧ w.cell? ⟨g, o + i * 2 + 1, none⟩ = some (.int .i64 x.2))
    (hs : ∀ (i j : Nat) (x y : Int × Int), l[i]? = some x → l[j]? = some y → i ≤ j → y.2 ≤ m → x.2 ≤ m) :
    Calls Tryd.prog 74 #[.slice (some ⟨g, o, none⟩) l.length cap, .int .i64 m, .func (.func 75) #[] #[]] w fun e w' => e = .returned (.tuple #[.int .i64 (place l m), .bool false]) ∧ Below w.heap.size w w' := by
  go_enter Tryd.func74, Tryd.ntmps74
  go_wp2
  go_loopw [9, 10] (fun i j wr => ∃ a b : Nat, i = .int .i64 a ∧ j = .int .i64 b ∧ a ≤ b ∧ b ≤ l.length ∧ (∀ k x, l[k]? = some x → k < a → x.2 ≤ m) ∧ (∀ k x, l[k]? = some x → b ≤ k → m < x.2) ∧ Below w.heap.size w wr) (fun i j _ => ((intOf j) - (intOf i)).toNat)
  case atStart => exact ⟨0, l.length, rfl, rfl, by omega, by omega, by intros; omega, by intro k x hk; have := (List.getElem?_eq_some_iff.1 hk).1; omega, Below.refl _ _⟩
  case round =>
    obtain ⟨a, b, rfl, rfl, hab, hbl, h1, h2, hB⟩ := hrel
    by_cases hlt : a < b
    · have hh : (a + b) / 2 < l.length := by omega
      obtain ⟨x, hx⟩ : ∃ x, l[(a + b) / 2]? = some x := ⟨_, List.getElem?_eq_getElem hh⟩
      obtain ⟨hc1, hc2⟩ := hc _ _ hx
      obtain ⟨hbc, _⟩ := bcell hB
      have hc1' := (hbc g (o + (a + b) / 2 * 2) hg).trans hc1
      have hc2' := (hbc g (o + (a + b) / 2 * 2 + 1) hg).trans hc2
      have H1 := Lib.hid h1
      have H2 := Lib.hid h2
      have HS := Lib.hid hs
      clear hc1 hc2 hbc hc hs h1 h2
      by_cases hm : x.2 ≤ m
      · go_wp2_with (go_at_call 75; refine (lit_gr _ _ _ _).mono ?_; rintro e w1 ⟨rfl, hb1⟩)
        go_roundw
        case rel =>
          refine ⟨(a + b) / 2 + 1, b, by go_num, rfl, by omega, hbl, ?_, H2.out, hB.trans (hb1.mono hB.size)⟩
          intro k y hk hka
          exact HS.out _ _ _ _ hk hx (by omega) hm
        case measure => simp [intOf]; omega
      · go_wp2_with (go_at_call 75; refine (lit_gr _ _ _ _).mono ?_; rintro e w1 ⟨rfl, hb1⟩)
        go_roundw
        case rel =>
          refine ⟨a, (a + b) / 2, rfl, by go_num, by omega, by omega, H1.out, ?_, hB.trans (hb1.mono hB.size)⟩
          intro k y hk hka
          exact Int.not_le.1 fun h => absurd (HS.out _ _ _ _ hx hk (by omega) h) (by omega)
        case measure => simp [intOf]; omega
    · obtain rfl : a = b := by omega
      have hp : Hid (place l m = a) := place_eq l m a hbl h1 h2
      by_cases ha : a < l.length
      · obtain ⟨x, hx⟩ : ∃ x, l[a]? = some x := ⟨_, List.getElem?_eq_getElem ha⟩
        obtain ⟨hc1, hc2⟩ := hc _ _ hx
        obtain ⟨hbc, _⟩ := bcell hB
        have hc1' := (hbc g (o + a * 2) hg).trans hc1
        have hc2' := (hbc g (o + a * 2 + 1) hg).trans hc2
        have hm : ¬ x.2 ≤ m := Int.not_le.2 (h2 _ _ hx (Nat.le_refl _))
        clear hc1 hc2 hbc hc hs h1 h2
        go_wp2_with (go_at_call 75; refine (lit_gr _ _ _ _).mono ?_; rintro e w1 ⟨rfl, hb1⟩)
        go_ret2
        exact ⟨by rw [hp.out]; simp [hm], hB.trans (hb1.mono hB.size)⟩
      · clear hc hs h1 h2
        go_wp2
        go_ret2
        exact ⟨by rw [hp.out]; simp [ha], hB⟩
end Go.Proofs.YtgdokpfepfmbmaaDoor

namespace Go.Proofs.YtgdokpfepfmbmaaDoor
set_option linter.unusedVariables false
set_option linter.unusedSimpArgs false
open Go.RowKit

/-- A window's cells. -/
def WK : Kd (Int × Int) := { sz := 2, enc := fun x => [.int .i64 x.1, .int .i64 x.2], len := fun _ => rfl, one := by intro a v hv; simp at hv; rcases hv with rfl | rfl <;> rfl, pos := by decide }
theorem elW : ElT Tryd.prog 55 43 WK 16 := ElT.of (z := .agg #[.int .i64 0, .int .i64 0]) (by kernel_rfl) (by kernel_rfl) rfl

theorem Rd.winAt {w : World} {l : List (Int × Int)} {g o n cap : Nat} (h : Rd WK w (.slice (some ⟨g, o, none⟩) n cap) l) {i : Nat} {x : Int × Int} (hx : l[i]? = some x) :
    w.cell? ⟨g, o + i * 2, none⟩ = some (.int .i64 x.1) ∧ w.cell? ⟨g, o + i * 2 + 1, none⟩ = some (.int .i64 x.2) :=
  ⟨h.at rfl hx (j := 0) rfl, h.at rfl hx (j := 1) rfl⟩

theorem eqlW (x y : Int × Int) (b : Bool) (hb : b = decide (x = y)) (w : World) : (binOp .eql 43 (.agg #[.int .i64 x.1, .int .i64 x.2]) (.agg #[.int .i64 y.1, .int .i64 y.2])).run Tryd.prog w = .ok (.bool b) w := by
  subst hb
  have h : decide (x = y) = (decide (x.1 = y.1) && decide (x.2 = y.2)) := by
    rw [← Bool.decide_and]; exact decide_eq_decide.2 Prod.ext_iff
  rw [h]
  by_cases h1 : x.1 = y.1 <;> by_cases h2 : x.2 = y.2 <;> simp [binOp, Op.equal, Op.maxDepth, go_sem, h1, h2]

/-- A slice of its own in new memory is handed back. -/
def RetNew {α : Type} (K : Kd α) (e : TypeId) (l : List α) (w : World) (en : Ending) (w' : World) : Prop :=
  ∃ v', en = .returned v' ∧ Own K e w' v' l ∧ Kp No w w' ∧ ∀ g, v'.ownBlock = some g → w.heap.size ≤ g

theorem clone_any (v : Value) (l : List (Int × Int)) (w : World) (h : Rd WK w v l) (hl : l.length ≤ 1000000) :
    Calls Tryd.prog 50 #[v] w (RetNew WK 43 l w) := by
  have qe := fun (w : World) (a : Option Addr) (n c : Nat) => Lib.run_eql_slice_nil (P := Tryd.prog) w 55 43 a n c 0 0 Tryd.underlying55
  have hrd := h
  obtain ⟨A, cap, rfl⟩ := h.shape
  cases A with
  | none =>
    obtain rfl : l = [] := by
      rcases h with ⟨_, e⟩ | ⟨g, o, c, e, _⟩
      · exact e
      · simp at e
    clear h hrd
    go_enter Tryd.func50, Tryd.ntmps50
    go_wp2
    go_ret
    exact ⟨_, rfl, Own.nil _ _ _, Kp.refl _ _, fun g hg => by simp [Value.ownBlock] at hg⟩
  | some a0 =>
    have H := Lib.hid hrd
    clear h hrd
    go_enter Tryd.func50, Tryd.ntmps50
    go_wp2_with (at_builtin; refine wpl_append elW rfl (.tmp 5) (.tmp 6) rfl rfl rfl (l := []) (m := l) ?c1 ?c2 ?c3 ?c4 ?c5)
    case c1 => exact Own.lit WK 43 w [] [] rfl (by simp)
    case c2 => exact H.out.alloc _
    case c3 => unfold maxLen; simp; omega
    case c4 => simp; omega
    case c5 =>
      intro v' w' h1 h2 h3
      have K1 := Lib.hid h1; have K2 := Lib.hid h2; have K3 := Lib.hid h3; clear h1 h2 h3
      go_wp2
      go_ret
      refine ⟨_, rfl, by simpa using K1.out, ((Kp.refl No w).alloc _).trans' K2.out ?_, ?_⟩
      · intro k hk h; simp [Value.ownBlock] at h; omega
      · intro g hg; rcases K3.out g hg with h | h
        · simp [Value.ownBlock] at h; omega
        · first | omega | (simp at h; omega)
end Go.Proofs.YtgdokpfepfmbmaaDoor

namespace Go.Proofs.YtgdokpfepfmbmaaDoor
set_option linter.unusedVariables false
set_option linter.unusedSimpArgs false
open Go.RowKit
end Go.Proofs.YtgdokpfepfmbmaaDoor

namespace Go.Proofs.YtgdokpfepfmbmaaDoor
set_option linter.unusedVariables false
set_option linter.unusedSimpArgs false
open Go.RowKit
end Go.Proofs.YtgdokpfepfmbmaaDoor

namespace Go.Proofs.YtgdokpfepfmbmaaDoor
set_option linter.unusedVariables false
set_option linter.unusedSimpArgs false
open Go.RowKit

theorem zeroW' : ∀ z, (Tryd.prog.info? 43).bind (·.zero) = some z → z.cells.toList = WK.enc (0, 0) := by
  intro z hz
  obtain ⟨i, hi, h0, _, _⟩ := info_parts (P := Tryd.prog) (e := 43) (z := .agg #[.int .i64 0, .int .i64 0]) (size := 2) (bytes := 16) (by kernel_rfl)
  rw [hi] at hz
  simp only [Option.bind_some, h0, Option.some.injEq] at hz
  subst hz
  rfl

theorem ov_a : Extern.findNext Tryd.f76 = none := by kernel_rfl
theorem ov_b : Extern.find Tryd.f76 = some (Extern.SlicesOverlaps.overlaps #[55, 55] #[4]) := by kernel_rfl
theorem ov_c : Tryd.f76.name = "slices.overlaps[carfax/api.Window]" := by kernel_rfl
theorem ov_d : Tryd.f76.body = none := by kernel_rfl
theorem ov_e (t : TypeId) (r : Array TypeId) (a b : Addr) (la ca lb cb : Nat) : Extern.SlicesOverlaps.overlaps #[t, t] r #[.slice (some a) la ca, .slice (some b) lb cb] = (do
    let .slice elem ← underlying t | stuck "slices.overlaps: slice type expected"
    let size ← sizeOf elem
    if la = 0 ∨ lb = 0 ∨ size = 0 then pure (.bool false)
    else if a.block != b.block && (← frozen a) && (← frozen b) then unsupported .addressObserved
    else do
      if a.block != b.block then do
        noView a; noView b
        if ← mayBeOne a b then return .bool ((← choose (.extern "sameAddr.stringBytes" 2)) == 1)
      pure (.bool (a.block == b.block && a.off < b.off + lb * size && b.off < a.off + la * size))) := rfl
theorem overlaps_no (g gx o3 k c : Nat) (cs cs' : Array Value) (w : World) (hne : gx ≠ g) (h1 : w.heap[g]? = some (.cells cs 43 (0, 0))) (h2 : w.heap[gx]? = some (.cells cs' 43 (0, 0))) :
   (callFunc 76 #[.slice (some ⟨gx, 0, none⟩) 1 1, .slice (some ⟨g, o3, none⟩) k c]).run Tryd.prog w = .ok (.value (.bool false)) w := by
  have s1 : w.shape? g = some (43, cs.size) := by simp [World.shape?, h1]
  have s2 : w.shape? gx = some (43, cs'.size) := by simp [World.shape?, h2]
  have f1 := fun i => blk_free h1 i
  have f2 := fun i => blk_free h2 i
  obtain ⟨ht, i, z, hi, hz, hsize, hby, hzs⟩ := elW
  simp [callFunc, ov_a, ov_b, ov_c, ov_d]
  rw [ov_e]
  simp [run_underlying ht, sizeOf, typeInfo, hi, noView, viewAt, mayBeOne, stringish, s1, s2, f1, f2, hne]

def insL (l : List (Int × Int)) (i : Nat) (x : Int × Int) : List (Int × Int) := l.take i ++ [x] ++ l.drop i

/-- What Insert hands back: a slice of its own that reads as l, in the old block, or in a new one. -/
def RetOwn {α : Type} (K : Kd α) (e : TypeId) (l : List α) (v : Value) (w : World) (en : Ending) (w' : World) : Prop :=
  ∃ v', en = .returned v' ∧ Own K e w' v' l ∧ Kp (fun k => v.ownBlock = some k) w w' ∧ ∀ g, v'.ownBlock = some g → v.ownBlock = some g ∨ w.heap.size ≤ g

/-- At the end: append. -/
theorem insert_end (v : Value) (l : List (Int × Int)) (x : Int × Int) (gx : Nat) (w : World) (hown : Own WK 43 w v l) (hl : l.length ≤ 1000000) (hx : Rd WK w (.slice (some ⟨gx, 0, none⟩) 1 1) [x]) (n : Int) (hn : n = l.length) :
    Calls Tryd.prog 45 #[v, .int .i64 n, .slice (some ⟨gx, 0, none⟩) 1 1] w (RetOwn WK 43 (l ++ [x]) v w) := by
  have key : ∃ s2, (∀ w, (Instr.slice 55 v (some (.int .i64 n)) none none).run Tryd.prog w = .ok s2 w) ∧ ∃ A c, v = .slice A l.length c := by
    rcases hown.b with ⟨rfl, rfl⟩ | ⟨g, cap, rfl, hm, hc, hB⟩
    · subst hn; exact ⟨_, fun w => run_slice_nil_lo elW w, _, _, rfl⟩
    · obtain ⟨o', _, h⟩ := run_slice_lo elW g 0 l.length cap l.length (Nat.le_refl _) n hn
      exact ⟨_, h, _, _, rfl⟩
  obtain ⟨s2, hs2, A, c, rfl⟩ := key
  have H := Lib.hid hown; have HX := Lib.hid hx
  have he : (n == (l.length : Int)) = true := by simp [hn]
  clear hown hx hn
  go_enter Tryd.func45, Tryd.ntmps45
  go_wp2_with (at_builtin; refine wpl_append elW rfl (.tmp 23) (.tmp 24) rfl rfl rfl (l := l) (m := [x]) H.out HX.out ?c3 ?c4 ?c5)
  case c3 => unfold maxLen; simp; omega
  case c4 => simp; omega
  case c5 =>
    intro v' w' h1 h2 h3
    have K1 := Lib.hid h1; have K2 := Lib.hid h2; have K3 := Lib.hid h3; clear h1 h2 h3
    go_wp2
    go_ret
    exact ⟨_, rfl, K1.out, K2.out, K3.out⟩

theorem ins_list (l : List (Int × Int)) (i k : Nat) (x z : Int × Int) (hi : i ≤ l.length) (hk : k = l.length + 1 - i) :
    ((((l.take i ++ List.replicate k z).take i ++ [x] ++ (l.take i ++ List.replicate k z).drop (i + 1)).take (i + 1)) ++ l.drop i ++ ((l.take i ++ List.replicate k z).take i ++ [x] ++ (l.take i ++ List.replicate k z).drop (i + 1)).drop (i + 1 + (l.drop i).length)) = l.take i ++ [x] ++ l.drop i := by
  have h1 : (l.take i ++ List.replicate k z).take i = l.take i := by
    rw [List.take_append_of_le_length (by simp; omega), List.take_take, Nat.min_self]
  have hl : (l.take i).length = i := by simp; omega
  rw [h1]
  have h2 : (l.take i ++ [x] ++ (l.take i ++ List.replicate k z).drop (i + 1)).take (i + 1) = l.take i ++ [x] := by
    rw [List.take_append_of_le_length (by simp; omega), List.take_of_length_le (by simp; omega)]
  have h3 : (l.take i ++ [x] ++ (l.take i ++ List.replicate k z).drop (i + 1)).drop (i + 1 + (l.drop i).length) = [] := List.drop_eq_nil_of_le (by simp; omega)
  rw [h2, h3, List.append_nil]

set_option maxRecDepth 100000 in
/-- Where there is no room. -/
theorem insert_grow (g : Nat) (l : List (Int × Int)) (x : Int × Int) (gx : Nat) (w : World) (i : Nat) (hi : i < l.length) (hB : OwnB WK 43 w g l.length l) (hl : l.length ≤ 1000000) (hx : Rd WK w (.slice (some ⟨gx, 0, none⟩) 1 1) [x]) (n : Int) (hn : n = i) :
    Calls Tryd.prog 45 #[.slice (some ⟨g, 0, none⟩) l.length l.length, .int .i64 n, .slice (some ⟨gx, 0, none⟩) 1 1] w (RetOwn WK 43 (insL l i x) (.slice (some ⟨g, 0, none⟩) l.length l.length) w) := by
  have hxlt : gx < w.heap.size := World.block_lt_of_cell? w ⟨gx, 0, none⟩ (Rd.winAt hx (i := 0) (x := x) rfl).1
  obtain ⟨o1, ho1, s1⟩ := run_slice_lo elW g 0 l.length l.length i (by omega) n hn
  have s2 := run_slice_hi elW g 0 l.length l.length i (by omega) n hn
  obtain ⟨w1, cap', a1, hB1, hc1, hK1⟩ := (hB.take i).appendMake elW (0, 0) zeroW' 3 (by kernel_rfl) (l.length + 1 - i) i (l.length + 1) (by simp; omega) (by simp; omega) (by simp; omega) (by simp; omega) (by simp; omega) (by unfold maxLen; omega) ((l.length : Int) + 1 - n) (by omega)
  have hcl : l.length + 1 ≤ cap' := by have := hB1.choose_spec.2.1; simp at this; omega
  obtain ⟨o2, ho2, s3⟩ := run_slice_lo elW w.heap.size 0 (l.length + 1) cap' i (by omega) n hn
  obtain ⟨w2, a2, hB2, hK2⟩ := hB1.copied elW (off := i) [x] (by simp; omega) (by simp; omega) o2 (l.length + 1 - i) (cap' - i) (some ⟨gx, 0, none⟩) 1 1 (by simp; omega) (fun _ => by rw [ho2 (by omega), Nat.zero_add])
    (fun _ => ⟨gx, 0, rfl, (hx.kpNo hK1).cells gx 0 1 1 rfl⟩)
  obtain ⟨o3, ho3, s4⟩ := run_slice_lo elW w.heap.size 0 (l.length + 1) cap' (i + 1) (by omega) (n + 1) (by omega)
  have hgl := hB.lt
  have hBs : OwnB WK 43 w2.drew g l.length l := ((hB.kp hK1 (no_no _)).kp hK2 (by omega)).drew
  obtain ⟨w3, a3, hB3, hK3⟩ := hB2.drew.copied elW (off := i + 1) (l.drop i) (by simp; omega) (by simp; omega) o3 (l.length - i) (cap' - (i + 1)) (some ⟨g, o1, none⟩) (l.length - i) (l.length - i) (by simp) (fun hp => by simp at hp; rw [ho3 (by omega), Nat.zero_add])
    (fun hp => ⟨g, o1, rfl, fun j u hu => by
      rw [ho1 (by omega), Nat.zero_add]
      rw [← WK.encs_drop, List.getElem?_drop] at hu
      exact hBs.cells _ u hu⟩)
  rw [show i + [x].length = i + 1 from rfl, ins_list l i _ x (0, 0) (by omega) rfl] at hB3
  have hKK : Kp No w w3 := (hK1.trans' (hK2.drew.trans hK3) (fun k hk h => by have := hK1.size; omega)).mono (fun k _ h => h)
  have hlen3 : (l.take i ++ [x] ++ l.drop i).length = l.length + 1 := by simp; omega
  have hfin : RetOwn WK 43 (insL l i x) (.slice (some ⟨g, 0, none⟩) l.length l.length) w (.returned (.slice (some ⟨w.heap.size, 0, none⟩) (l.length + 1) cap')) w3 :=
    ⟨_, rfl, by have := hB3.own hc1; rw [hlen3] at this; exact this, hKK.mono (fun k _ h => h.elim), fun g' hg' => .inr (by simp [Value.ownBlock] at hg'; omega)⟩
  have HF := Lib.hid hfin; have H1 := Lib.hid a1; have H2 := Lib.hid a2; have H3 := Lib.hid a3
  have n0 : 0 ≤ n := by omega
  have n1 : n < l.length := by omega
  have hw1 : IntKind.i64.wrap (n + 1) = n + 1 := IntWalk.i64_in _ (by omega)
  have he : (n == (l.length : Int)) = false := by simp; omega
  have hcap : l.length ≤ cap' := by omega
  clear hfin a1 a2 a3 hB hB1 hB2 hB3 hBs hK1 hK2 hK3 hKK hlen3 hx hn ho1 ho2 ho3 hcl hc1
  go_enter Tryd.func45, Tryd.ntmps45
  go_wp2_with (first | (at_builtin; refine wpl_runAppend rfl (.tmp 34) (.tmp 39) 55 3 rfl rfl rfl H1.out ?_) | (refine wpl_runCopy rfl (.tmp 43) (.tmp 44) 55 55 rfl rfl rfl H2.out ?_))
  go_still_tail 8, (by kernel_rfl)
  change wpList _ _ _ _ _ w2.drew
  go_wp2_with (refine wpl_runCopy rfl (.tmp 50) (.tmp 53) 55 55 rfl rfl rfl H3.out ?_)
  go_ret
  exact HF.out

theorem ins_list2 (l : List (Int × Int)) (i : Nat) (x : Int × Int) (hi : i < l.length) :
    ((l.take (i + 1) ++ l.drop i ++ l.drop (i + 1 + (l.drop i).length)).take i ++ [x] ++ (l.take (i + 1) ++ l.drop i ++ l.drop (i + 1 + (l.drop i).length)).drop (i + 1)) = l.take i ++ [x] ++ l.drop i := by
  have h3 : l.drop (i + 1 + (l.drop i).length) = [] := List.drop_eq_nil_of_le (by simp; omega)
  rw [h3, List.append_nil]
  have h1 : (l.take (i + 1) ++ l.drop i).take i = l.take i := by
    rw [List.take_append_of_le_length (by simp; omega), List.take_take, Nat.min_eq_left (by omega)]
  have h2 : (l.take (i + 1) ++ l.drop i).drop (i + 1) = l.drop i := by
    have hl : (l.take (i + 1)).length = i + 1 := by simp; omega
    rw [List.drop_append, hl, List.drop_eq_nil_of_le (by simp; omega), Nat.sub_self, List.nil_append, List.drop_zero]
  rw [h1, h2]

set_option maxRecDepth 100000 in
/-- Where there is room. -/
theorem insert_room (g cap : Nat) (l : List (Int × Int)) (x : Int × Int) (gx : Nat) (w : World) (i : Nat) (hi : i < l.length) (hB : OwnB WK 43 w g cap l) (hc : l.length < cap) (hcm : cap ≤ maxLen) (hl : l.length ≤ 1000000) (hx : OwnB WK 43 w gx 1 [x]) (hne : gx ≠ g) (n : Int) (hn : n = i) :
    Calls Tryd.prog 45 #[.slice (some ⟨g, 0, none⟩) l.length cap, .int .i64 n, .slice (some ⟨gx, 0, none⟩) 1 1] w (RetOwn WK 43 (insL l i x) (.slice (some ⟨g, 0, none⟩) l.length cap) w) := by
  obtain ⟨o1, ho1, s1⟩ := run_slice_lo elW g 0 l.length cap i (by omega) n hn
  have s2 := run_slice_hi elW g 0 l.length cap (l.length + 1) (by omega) ((l.length : Int) + 1) (by omega)
  obtain ⟨o3, ho3, s3⟩ := run_slice_lo elW g 0 (l.length + 1) cap (i + 1) (by omega) (n + 1) (by omega)
  obtain ⟨o4, ho4, s4⟩ := run_slice_lo elW g 0 (l.length + 1) cap i (by omega) n hn
  obtain ⟨w2, a2, hB2, hK2⟩ := hB.drew.copied elW (off := i + 1) (l.drop i) (by omega) (by simp; omega) o3 (l.length - i) (cap - (i + 1)) (some ⟨g, o4, none⟩) (l.length + 1 - i) (cap - i) (by simp; omega) (fun hp => by simp at hp; rw [ho3 (by omega), Nat.zero_add])
    (fun hp => ⟨g, o4, rfl, fun j u hu => by
      rw [ho4 (by omega), Nat.zero_add]
      rw [← WK.encs_drop, List.getElem?_drop] at hu
      exact hB.drew.cells _ u hu⟩)
  obtain ⟨w3, a3, hB3, hK3⟩ := hB2.copied elW (off := i) [x] (by simp; omega) (by simp; omega) o4 (l.length + 1 - i) (cap - i) (some ⟨gx, 0, none⟩) 1 1 (by simp; omega) (fun _ => by rw [ho4 (by omega), Nat.zero_add])
    (fun _ => ⟨gx, 0, rfl, fun j u hu => by rw [Nat.zero_add]; exact (hx.drew.kp hK2 hne).cells j u hu⟩)
  rw [show i + [x].length = i + 1 from rfl, ins_list2 l i x hi] at hB3
  have hlen3 : (l.take i ++ [x] ++ l.drop i).length = l.length + 1 := by simp; omega
  have hfin : RetOwn WK 43 (insL l i x) (.slice (some ⟨g, 0, none⟩) l.length cap) w (.returned (.slice (some ⟨g, 0, none⟩) (l.length + 1) cap)) w3 :=
    ⟨_, rfl, by have := hB3.own hcm; rw [hlen3] at this; exact this, (((Kp.refl (fun k => k = g) w).drew.trans hK2).trans hK3).mono (fun k _ h => by simp [Value.ownBlock, h]), fun g' hg' => .inl hg'⟩
  have HF := Lib.hid hfin; have H2 := Lib.hid a2; have H3 := Lib.hid a3
  have n0 : 0 ≤ n := by omega
  have n1 : n < l.length := by omega
  have hw1 : IntKind.i64.wrap (n + 1) = n + 1 := IntWalk.i64_in _ (by omega)
  have he : (n == (l.length : Int)) = false := by simp; omega
  unfold maxLen at hcm
  have hov := overlaps_no g gx o3 (l.length - i) (cap - (i + 1)) _ _ w hne hB.choose_spec.1 hx.choose_spec.1
  clear hfin a2 a3 hB hB2 hB3 hK2 hK3 hlen3 hx hn ho1 ho3 ho4
  go_enter Tryd.func45, Tryd.ntmps45
  go_wp2_with (simp only [hov])
  go_still_tail 8, (by kernel_rfl)
  change wpList _ _ _ _ _ w.drew
  go_wp2_with (first | (refine wpl_runCopy rfl (.tmp 73) (.tmp 76) 55 55 rfl rfl rfl H2.out ?_) | (refine wpl_runCopy rfl (.tmp 80) (.tmp 81) 55 55 rfl rfl rfl H3.out ?_))
  go_ret
  exact HF.out

theorem insert_any (v : Value) (l : List (Int × Int)) (x : Int × Int) (gx : Nat) (w : World) (i : Nat) (hi : i ≤ l.length) (hown : Own WK 43 w v l) (hl : l.length ≤ 1000000) (hx : OwnB WK 43 w gx 1 [x]) (hne : v.ownBlock ≠ some gx) (n : Int) (hn : n = i) :
    Calls Tryd.prog 45 #[v, .int .i64 n, .slice (some ⟨gx, 0, none⟩) 1 1] w (RetOwn WK 43 (insL l i x) v w) := by
  have hxr : Rd WK w (.slice (some ⟨gx, 0, none⟩) 1 1) [x] := (hx.own (by decide)).rd
  by_cases he : i = l.length
  · have : insL l i x = l ++ [x] := by simp [insL, he]
    rw [this]
    exact insert_end v l x gx w hown hl hxr n (by omega)
  · rcases hown.b with ⟨rfl, rfl⟩ | ⟨g, cap, rfl, hm, hc, hB⟩
    · simp at hi; simp [hi] at he
    · by_cases hr : l.length < cap
      · exact insert_room g cap l x gx w i (by omega) hB hr hm hl hx (fun e => hne (by rw [e]; rfl)) n hn
      · obtain rfl : cap = l.length := by omega
        exact insert_grow g l x gx w i (by omega) hB hl hxr n hn
end Go.Proofs.YtgdokpfepfmbmaaDoor

namespace Go.Proofs.YtgdokpfepfmbmaaDoor
set_option linter.unusedVariables false
set_option linter.unusedSimpArgs false
open Go.RowKit

/-- Map bm holds es, in this order. -/
def MapI (w : World) (bm : Nat) (es : List (Int × Value)) : Prop :=
  ∃ arr clk, w.heap[bm]? = some (.map arr clk) ∧ arr.toList.map (fun e => (e.key, e.val)) = es.map (fun x => (Value.int .i64 x.1, x.2)) ∧ (es.map (·.1)).Nodup ∧ (∀ e ∈ arr.toList, e.born < clk) ∧ (arr.toList.map (·.born)).Nodup

def findI (c : Int) : List (Int × Value) → Nat → Option (Nat × Value)
  | [], _ => none
  | x :: xs, i => if c == x.1 then some (i, x.2) else findI c xs (i + 1)
def getV (es : List (Int × Value)) (c : Int) (z : Value) : Value := ((findI c es 0).map (·.2)).getD z
def hasV (es : List (Int × Value)) (c : Int) : Bool := (findI c es 0).isSome
def updV : List (Int × Value) → Int → Value → List (Int × Value)
  | [], c, v => [(c, v)]
  | x :: xs, c, v => if c == x.1 then (c, v) :: xs else x :: updV xs c v
def delV (es : List (Int × Value)) (c : Int) : List (Int × Value) := es.filter (fun x => !(x.1 == c))

theorem findI_shift (c : Int) (xs : List (Int × Value)) (i : Nat) : findI c xs i = (findI c xs 0).map fun r => (i + r.1, r.2) := by
  induction xs generalizing i with
  | nil => rfl
  | cons x xs ih =>
    unfold findI
    split
    · simp
    · rw [ih (i + 1), ih (0 + 1)]
      cases findI c xs 0 with
      | none => rfl
      | some r => simp; omega

theorem findNow_I (c : Int) : ∀ (es : List MapEntry) (xs : List (Int × Value)) (i : Nat), es.map (fun e => (e.key, e.val)) = xs.map (fun x => (Value.int .i64 x.1, x.2)) →
    Instr.findNow (.int .i64) (.int .i64 c) es i = some (findI c xs i)
  | [], [], _, _ => rfl
  | [], x :: xs, _, h => by simp at h
  | e :: es, [], _, h => by simp at h
  | e :: es, x :: xs, i, h => by
    simp only [List.map_cons, List.cons.injEq, Prod.mk.injEq] at h
    obtain ⟨⟨h1, h2⟩, h3⟩ := h
    have ih := findNow_I c es xs (i + 1) h3
    simp only [Instr.findNow, h1, h2, Instr.sameNow, findI, if_true]
    by_cases hc : c = x.1
    · simp [hc]
    · have hcb : (c == x.1) = false := by simp [hc]
      simp [hcb, ih]

section
variable {P : Program} {tm k e : TypeId} {w : World} {bm : Nat} {es : List (Int × Value)}

structure MapT (P : Program) (tm k e : TypeId) (z : Value) : Prop where
  und : P.underlying tm = some (.map k e)
  key : P.underlying k = some (.int .i64)
  zero : ∀ w, (zeroValue e).run P w = .ok z w

theorem MapI.heap (h : MapI w bm es) : ∃ o, w.heap[bm]? = some o := let ⟨_, _, h1, _⟩ := h; ⟨_, h1⟩
theorem MapI.lt (h : MapI w bm es) : bm < w.heap.size := let ⟨_, _, h1, _⟩ := h; lt_of_block h1
theorem MapI.kp {w' : World} {S : Nat → Prop} (h : MapI w bm es) (hk : Kp S w w') (hn : ¬ S bm) : MapI w' bm es :=
  let ⟨arr, clk, h1, h2⟩ := h
  ⟨arr, clk, hk.blk h1 hn, h2⟩
theorem MapI.made (w : World) : MapI (w.alloc (.map #[] 0)) w.heap.size [] := ⟨#[], 0, blk_new w _, rfl, by simp, by simp, by simp⟩

theorem run_checkKey (hk : P.underlying k = some (.int .i64)) (b : Bool) (n : Nat) (c : Int) (w : World) : (Instr.checkKey b (n + 1) k (.int .i64 c)).run P w = .ok () w := by
  simp [Instr.checkKey, run_underlying hk]

theorem MapI.look {z : Value} (T : MapT P tm k e z) (h : MapI w bm es) (c : Int) : (Instr.lookup tm (.map (some bm)) (.int .i64 c) false).run P w = .ok (getV es c z) w := by
  obtain ⟨arr, clk, hb, hm, _⟩ := h
  have hf := findNow_I c arr.toList es 0 hm
  have hck := run_checkKey (P := P) (k := k) T.key arr.isEmpty 9999 c w
  simp only [Instr.lookup, Instr.findKey]
  simp [run_underlying T.und, run_underlying T.key, MapKept.run_getObj_map hb, hck, hf]
  cases hr : findI c es 0 with
  | none => simp [getV, hr, T.zero w]
  | some r => simp [getV, hr]

theorem MapI.lookOk {z : Value} (T : MapT P tm k e z) (h : MapI w bm es) (c : Int) : (Instr.lookup tm (.map (some bm)) (.int .i64 c) true).run P w = .ok (.tuple #[getV es c z, .bool (hasV es c)]) w := by
  obtain ⟨arr, clk, hb, hm, _⟩ := h
  have hf := findNow_I c arr.toList es 0 hm
  have hck := run_checkKey (P := P) (k := k) T.key arr.isEmpty 9999 c w
  simp only [Instr.lookup, Instr.findKey]
  simp [run_underlying T.und, run_underlying T.key, MapKept.run_getObj_map hb, hck, hf]
  cases hr : findI c es 0 with
  | none => simp [getV, hasV, hr, T.zero w]
  | some r => simp [getV, hasV, hr]

theorem findI_some {c : Int} {xs : List (Int × Value)} {j : Nat} {u : Value} (h : findI c xs 0 = some (j, u)) : xs[j]? = some (c, u) ∧ ∀ v, updV xs c v = xs.set j (c, v) := by
  induction xs generalizing j with
  | nil => simp [findI] at h
  | cons x xs ih =>
    unfold findI at h
    by_cases hc : c = x.1
    · simp [hc] at h
      obtain ⟨rfl, rfl⟩ := h
      refine ⟨by simp [hc], fun v => by simp [updV, hc]⟩
    · simp only [beq_eq_false_iff_ne.2 hc] at h
      rw [findI_shift] at h
      simp only [Bool.false_eq_true, if_false, Option.map_eq_some_iff, Prod.mk.injEq, Prod.exists] at h
      obtain ⟨a, b, hr, rfl, rfl⟩ := h
      obtain ⟨i1, i2⟩ := ih hr
      refine ⟨by rw [Nat.add_comm]; simpa using i1, fun v => ?_⟩
      rw [Nat.add_comm]
      simp [updV, hc, i2 v]

theorem findI_none {c : Int} {xs : List (Int × Value)} (h : findI c xs 0 = none) : c ∉ xs.map (·.1) ∧ ∀ v, updV xs c v = xs ++ [(c, v)] := by
  induction xs with
  | nil => simp [updV]
  | cons x xs ih =>
    unfold findI at h
    by_cases hc : c = x.1
    · simp [hc] at h
    · simp only [beq_eq_false_iff_ne.2 hc] at h
      rw [findI_shift] at h
      simp only [Bool.false_eq_true, if_false, Option.map_eq_none_iff] at h
      obtain ⟨i1, i2⟩ := ih h
      refine ⟨by simp only [List.map_cons, List.mem_cons, not_or]; exact ⟨hc, i1⟩, fun v => by simp [updV, hc, i2 v]⟩

theorem MapI.upd {z : Value} (T : MapT P tm k e z) (h : MapI w bm es) (c : Int) (v : Value) :
    ∃ w', (Instr.mapUpdate tm (.map (some bm)) (.int .i64 c) v).run P w = .ok () w' ∧ MapI w' bm (updV es c v) ∧ Kp (fun j => j = bm) w w' := by
  obtain ⟨arr, clk, hb, hm, hnd, hborn, hbn⟩ := h
  have hlt := lt_of_block hb
  have hf := findNow_I c arr.toList es 0 hm
  have hck := run_checkKey (P := P) (k := k) T.key false 9999 c w
  cases hr : findI c es 0 with
  | none =>
    rw [hr] at hf
    obtain ⟨hnc, hu⟩ := findI_none hr
    refine ⟨{ w with heap := w.heap.setIfInBounds bm (.map (arr.push ⟨.int .i64 c, v, clk⟩) (clk + 1)) }, ?_, ?_, (Kp.refl (fun j => j = bm) w).setBlk (fun _ => rfl) _⟩
    · simp only [Instr.mapUpdate, Instr.findKey]
      simp [run_underlying T.und, run_underlying T.key, MapKept.run_getObj_map hb, hck, hf]
      simp [setObj, Sem.run, hb]
    · refine ⟨_, _, by simp [hlt]; exact ⟨rfl, rfl⟩, ?_, ?_, ?_, ?_⟩
      · simp [hu, hm]
      · rw [hu, List.map_append, List.nodup_append]
        refine ⟨hnd, by simp, ?_⟩
        intro a ha b hb' hab
        simp at hb'
        subst hb' hab
        exact hnc ha
      · intro e he
        simp at he
        rcases he with he | rfl
        · have := hborn e (by simpa using he); omega
        · simp
      · simp only [Array.toList_push, List.map_append, List.map_cons, List.map_nil]
        rw [List.nodup_append]
        refine ⟨hbn, by simp, ?_⟩
        intro a ha b hb' hab
        simp at hb'
        subst hb' hab
        obtain ⟨e, he, rfl⟩ := List.mem_map.1 ha
        have := hborn e he
        omega
  | some r =>
    obtain ⟨j, u⟩ := r
    rw [hr] at hf
    obtain ⟨hj, hu⟩ := findI_some hr
    obtain ⟨e0, he0, hek⟩ : ∃ e0, arr[j]? = some e0 ∧ e0.key = .int .i64 c := by
      have : (arr.toList.map (fun e => (e.key, e.val)))[j]? = some (Value.int .i64 c, u) := by rw [hm]; simp [hj]
      rw [List.getElem?_map] at this
      simp only [Option.map_eq_some_iff, Prod.mk.injEq] at this
      obtain ⟨e0, h1, h2, _⟩ := this
      exact ⟨e0, by simpa using h1, h2⟩
    have hjl : j < arr.size := (Array.getElem?_eq_some_iff.1 he0).1
    have hje : arr[j] = e0 := (Array.getElem?_eq_some_iff.1 he0).2
    have hkts : (Instr.keyThatStays (.int .i64 c) (.int .i64 c)).run P w = .ok (.int .i64 c) w := by simp [Instr.keyThatStays, Instr.sameBits]
    refine ⟨{ w with heap := w.heap.setIfInBounds bm (.map (arr.modify j fun e => { e with key := .int .i64 c, val := v }) clk) }, ?_, ?_, (Kp.refl (fun j => j = bm) w).setBlk (fun _ => rfl) _⟩
    · simp only [Instr.mapUpdate, Instr.findKey]
      simp [run_underlying T.und, run_underlying T.key, MapKept.run_getObj_map hb, hck, hf, he0, hek, hkts]
      simp [setObj, Sem.run, hb]
    · have hl : (arr.modify j fun e => { e with key := .int .i64 c, val := v }).toList = arr.toList.set j { e0 with key := .int .i64 c, val := v } := by
        apply List.ext_getElem?
        intro i
        rw [Array.getElem?_toList, Array.getElem?_modify, List.getElem?_set]
        by_cases hij : j = i
        · subst hij; simp [hje, hjl]
        · simp [hij]
      refine ⟨_, _, by simp [hlt]; exact ⟨rfl, rfl⟩, ?_, ?_, ?_, ?_⟩
      · rw [hl, List.map_set, hm, hu, List.map_set]
      · rw [hu, List.map_set]
        have : (es.map (·.1)).set j c = es.map (·.1) := by
          apply List.ext_getElem?
          intro i
          rw [List.getElem?_set]
          by_cases hij : j = i
          · subst hij; simp [hj]; exact (List.getElem?_eq_some_iff.1 hj).1
          · simp [hij]
        rw [this]; exact hnd
      · intro e he
        rw [hl] at he
        rcases List.mem_or_eq_of_mem_set he with h | rfl
        · exact hborn e h
        · exact hborn e0 (by simpa using Array.mem_of_getElem? he0)
      · rw [hl, List.map_set]
        have : (arr.toList.map (·.born)).set j e0.born = arr.toList.map (·.born) := by
          apply List.ext_getElem?
          intro i
          rw [List.getElem?_set]
          by_cases hij : j = i
          · subst hij; simp [hje, hjl]
          · simp [hij]
        rw [this]; exact hbn

/-! ### Ranging over a map -/

/-- Iterator r over map bm, that holds es; the entries of the keys 'done' have come. -/
def RangeI (w : World) (r bm : Nat) (es : List (Int × Value)) (done : List Int) : Prop :=
  ∃ arr clk seen since, w.heap[bm]? = some (.map arr clk) ∧ w.heap[r]? = some (.mapIter (some bm) since seen clk) ∧ arr.toList.map (fun e => (e.key, e.val)) = es.map (fun x => (Value.int .i64 x.1, x.2)) ∧ (es.map (·.1)).Nodup ∧
    (∀ e ∈ arr.toList, e.born < since) ∧ since ≤ clk ∧ (arr.toList.map (·.born)).Nodup ∧ ∀ e ∈ arr.toList, ∀ c, e.key = .int .i64 c → (seen.contains e.born = true ↔ c ∈ done)

theorem RangeI.map {r : Nat} {done : List Int} (h : RangeI w r bm es done) : MapI w bm es :=
  let ⟨arr, clk, _, _, h1, _, h3, h4, h5, h6, h7, _⟩ := h
  ⟨arr, clk, h1, h3, h4, fun e he => by have := h5 e he; omega, h7⟩
theorem RangeI.kp {w' : World} {S : Nat → Prop} {r : Nat} {done : List Int} (h : RangeI w r bm es done) (hk : Kp S w w') (h1 : ¬ S bm) (h2 : ¬ S r) : RangeI w' r bm es done :=
  let ⟨arr, clk, seen, since, a1, a2, a3⟩ := h
  ⟨arr, clk, seen, since, hk.blk a1 h1, hk.blk a2 h2, a3⟩
theorem RangeI.ne {r : Nat} {done : List Int} (h : RangeI w r bm es done) : r ≠ bm := by
  obtain ⟨arr, clk, seen, since, a1, a2, _⟩ := h
  rintro rfl
  rw [a1] at a2
  simp at a2
theorem RangeI.lt {r : Nat} {done : List Int} (h : RangeI w r bm es done) : r < w.heap.size := let ⟨_, _, _, _, _, a2, _⟩ := h; lt_of_block a2

theorem entry_of {arr : Array MapEntry} (hm : arr.toList.map (fun e => (e.key, e.val)) = es.map (fun x => (Value.int .i64 x.1, x.2))) {e : MapEntry} (he : e ∈ arr.toList) : ∃ x ∈ es, e.key = .int .i64 x.1 ∧ e.val = x.2 := by
  have : (e.key, e.val) ∈ es.map (fun x => (Value.int .i64 x.1, x.2)) := hm ▸ List.mem_map_of_mem (f := fun e : MapEntry => (e.key, e.val)) he
  obtain ⟨x, hx, hxe⟩ := List.mem_map.1 this
  simp only [Prod.mk.injEq] at hxe
  exact ⟨x, hx, hxe.1.symm, hxe.2.symm⟩
theorem of_entry {arr : Array MapEntry} (hm : arr.toList.map (fun e => (e.key, e.val)) = es.map (fun x => (Value.int .i64 x.1, x.2))) {x : Int × Value} (hx : x ∈ es) : ∃ e ∈ arr.toList, e.key = .int .i64 x.1 ∧ e.val = x.2 := by
  have : (Value.int .i64 x.1, x.2) ∈ arr.toList.map (fun e => (e.key, e.val)) := hm ▸ List.mem_map_of_mem (f := fun x : Int × Value => (Value.int .i64 x.1, x.2)) hx
  obtain ⟨e, he, hxe⟩ := List.mem_map.1 this
  simp only [Prod.mk.injEq] at hxe
  exact ⟨e, he, hxe⟩

theorem key_born {arr : Array MapEntry} (hm : arr.toList.map (fun e => (e.key, e.val)) = es.map (fun x => (Value.int .i64 x.1, x.2))) (hnd : (es.map (·.1)).Nodup) {e e' : MapEntry} (he : e ∈ arr.toList) (he' : e' ∈ arr.toList) {c : Int} (h1 : e.key = .int .i64 c) (h2 : e'.key = .int .i64 c) : e = e' := by
  obtain ⟨i, hi, rfl⟩ := List.getElem_of_mem he
  obtain ⟨j, hj, rfl⟩ := List.getElem_of_mem he'
  have key : ∀ (i : Nat) (hi : i < arr.toList.length), arr.toList[i].key = .int .i64 c → (es.map (·.1))[i]? = some c := by
    intro i hi h
    have h3 := congrArg (fun l => l[i]?) hm
    simp only [List.getElem?_map, List.getElem?_eq_getElem hi, Option.map_some, h] at h3
    cases hx : es[i]? with
    | none => rw [hx] at h3; simp at h3
    | some x => rw [hx] at h3; simp at h3; simp [hx, h3.1]
  have k1 := key i hi h1
  have k2 := key j hj h2
  have hli := (List.getElem?_eq_some_iff.1 k1).1
  have hlj := (List.getElem?_eq_some_iff.1 k2).1
  have e1 := (List.getElem?_eq_some_iff.1 k1).2
  have e2 := (List.getElem?_eq_some_iff.1 k2).2
  rcases Nat.lt_trichotomy i j with h | h | h
  · exact absurd (e1.trans e2.symm) (List.pairwise_iff_getElem.1 hnd i j hli hlj h)
  · subst h; rfl
  · exact absurd (e2.trans e1.symm) (List.pairwise_iff_getElem.1 hnd j i hlj hli h)

theorem MapI.range {z : Value} (T : MapT P tm k e z) (h : MapI w bm es) :
    (Instr.range tm (.map (some bm))).run P w = .ok (.pointer (some ⟨w.heap.size, 0, none⟩)) (w.alloc (.mapIter (some bm) ((h.choose_spec).choose) #[] ((h.choose_spec).choose))) ∧ RangeI (w.alloc (.mapIter (some bm) ((h.choose_spec).choose) #[] ((h.choose_spec).choose))) w.heap.size bm es [] := by
  obtain ⟨hb, hm, hnd, hborn, hbn⟩ := h.choose_spec.choose_spec
  refine ⟨run_range_map w tm k e bm _ _ T.und hb, _, _, #[], _, blk_alloc hb _, blk_new w _, hm, hnd, hborn, Nat.le_refl _, hbn, by simp⟩

theorem RangeI.next {r : Nat} {done : List Int} (ty : TypeId) (h : RangeI w r bm es done) :
    ((∀ x ∈ es, x.1 ∈ done) ∧ (Instr.next (.pointer (some ⟨r, 0, none⟩)) false ty).run P w = .ok (.tuple #[.bool false]) w) ∨
    ∃ x ∈ es, x.1 ∉ done ∧ ∃ w', (Instr.next (.pointer (some ⟨r, 0, none⟩)) false ty).run P w = .ok (.tuple #[.bool true, .int .i64 x.1, x.2]) w' ∧ RangeI w' r bm es (x.1 :: done) ∧ Kp (fun j => j = r) w w' ∧
      (Instr.entry (.pointer (some ⟨r, 0, none⟩))).run P w' = .ok (.tuple #[.int .i64 x.1, x.2]) w' := by
  have hrb := h.ne
  obtain ⟨arr, clk, seen, since, a1, a2, a3, a4, a5, a6, a7, a8⟩ := h
  rcases run_next_at (P := P) w ty r bm since clk seen arr clk a2 a1 a5 a6 with ⟨h0, hr⟩ | ⟨e, he, w1, hw1, hr⟩
  · refine .inl ⟨fun x hx => ?_, hr⟩
    obtain ⟨e, he, hk, _⟩ := of_entry a3 hx
    exact (a8 e he x.1 hk).1 (all_seen arr seen h0 e he)
  · obtain ⟨he1, he2⟩ := mem_left he
    obtain ⟨x, hx, hk, hv⟩ := entry_of a3 he1
    have hb1 : w1.heap[bm]? = some (.map arr clk) := by rcases hw1 with rfl | rfl <;> exact a1
    have hr1 : w1.heap[r]? = some (.mapIter (some bm) since seen clk) := by rcases hw1 with rfl | rfl <;> exact a2
    have hk1 : Kp (fun j => j = r) w w1 := by
      rcases hw1 with rfl | rfl
      · exact Kp.refl _ _
      · exact (Kp.refl _ _).drew
    have hkk : Kp (fun j => j = r) w (ChangeMaps.setBlock w1 r (.mapIter (some bm) since (seen.push e.born) clk)) := hk1.setBlk (fun _ => rfl) _
    have hb2 : (ChangeMaps.setBlock w1 r (.mapIter (some bm) since (seen.push e.born) clk)).heap[bm]? = some (.map arr clk) := by
      simp [ChangeMaps.setBlock, hrb, hb1]
    have hr2 : (ChangeMaps.setBlock w1 r (.mapIter (some bm) since (seen.push e.born) clk)).heap[r]? = some (.mapIter (some bm) since (seen.push e.born) clk) := by
      have := lt_of_block hr1
      simp [ChangeMaps.setBlock, this]
    refine .inr ⟨x, hx, fun hd => ?_, _, by rw [← hk, ← hv]; exact hr, ⟨arr, clk, seen.push e.born, since, hb2, hr2, a3, a4, a5, a6, a7, ?_⟩, hkk, ?_⟩
    · have := (a8 e he1 x.1 hk).2 hd
      rw [he2] at this
      cases this
    · intro e' he' c hc
      rw [contains_push, Bool.or_eq_true, a8 e' he' c hc, List.mem_cons]
      constructor
      · rintro (h | h)
        · exact .inr h
        · have hbe : e'.born = e.born := by simpa using h
          obtain rfl := born_inj a7 he' he1 hbe
          rw [hk] at hc
          simp at hc
          exact .inl hc.symm
      · rintro (rfl | h)
        · exact .inr (by rw [key_born a3 a4 he' he1 hc hk]; simp)
        · exact .inl h
    · have := run_entry_at (P := P) _ r bm since seen arr clk e hr2 hb2 he1 a7
      rw [this, hk, hv]

theorem RangeI.upd {z : Value} {r : Nat} {done : List Int} (T : MapT P tm k e z) (h : RangeI w r bm es done) (c : Int) (hc : c ∈ es.map (·.1)) (v : Value) :
    ∃ w', (Instr.mapUpdate tm (.map (some bm)) (.int .i64 c) v).run P w = .ok () w' ∧ RangeI w' r bm (updV es c v) done ∧ Kp (fun j => j = bm) w w' := by
  have hrb := h.ne
  obtain ⟨arr, clk, seen, since, hb, hit, hm, hnd, hborn, hsc, hbn, hseen⟩ := h
  have hlt := lt_of_block hb
  have hf := findNow_I c arr.toList es 0 hm
  have hck := run_checkKey (P := P) (k := k) T.key false 9999 c w
  cases hr : findI c es 0 with
  | none => exact absurd hc (findI_none hr).1
  | some q =>
    obtain ⟨j, u⟩ := q
    rw [hr] at hf
    obtain ⟨hj, hu⟩ := findI_some hr
    obtain ⟨e0, he0, hek⟩ : ∃ e0, arr[j]? = some e0 ∧ e0.key = .int .i64 c := by
      have : (arr.toList.map (fun e => (e.key, e.val)))[j]? = some (Value.int .i64 c, u) := by rw [hm]; simp [hj]
      rw [List.getElem?_map] at this
      simp only [Option.map_eq_some_iff, Prod.mk.injEq] at this
      obtain ⟨e0, h1, h2, _⟩ := this
      exact ⟨e0, by simpa using h1, h2⟩
    have hjl : j < arr.size := (Array.getElem?_eq_some_iff.1 he0).1
    have hje : arr[j] = e0 := (Array.getElem?_eq_some_iff.1 he0).2
    have hkts : (Instr.keyThatStays (.int .i64 c) (.int .i64 c)).run P w = .ok (.int .i64 c) w := by simp [Instr.keyThatStays, Instr.sameBits]
    have hl : (arr.modify j fun e => { e with key := .int .i64 c, val := v }).toList = arr.toList.set j { e0 with key := .int .i64 c, val := v } := by
      apply List.ext_getElem?
      intro i
      rw [Array.getElem?_toList, Array.getElem?_modify, List.getElem?_set]
      by_cases hij : j = i
      · subst hij; simp [hje, hjl]
      · simp [hij]
    have he0m : e0 ∈ arr.toList := by simpa using Array.mem_of_getElem? he0
    refine ⟨{ w with heap := w.heap.setIfInBounds bm (.map (arr.modify j fun e => { e with key := .int .i64 c, val := v }) clk) }, ?_, ?_, (Kp.refl (fun j => j = bm) w).setBlk (fun _ => rfl) _⟩
    · simp only [Instr.mapUpdate, Instr.findKey]
      simp [run_underlying T.und, run_underlying T.key, MapKept.run_getObj_map hb, hck, hf, he0, hek, hkts]
      simp [setObj, Sem.run, hb]
    · refine ⟨arr.modify j fun e => { e with key := .int .i64 c, val := v }, clk, seen, since, by simp [hlt], by simp [Ne.symm hrb, hit], ?_, ?_, ?_, hsc, ?_, ?_⟩
      · rw [hl, List.map_set, hm, hu, List.map_set]
      · rw [hu, List.map_set]
        have : (es.map (·.1)).set j c = es.map (·.1) := by
          apply List.ext_getElem?
          intro i
          rw [List.getElem?_set]
          by_cases hij : j = i
          · subst hij; simp [hj]; exact (List.getElem?_eq_some_iff.1 hj).1
          · simp [hij]
        rw [this]; exact hnd
      · intro e he
        rw [hl] at he
        rcases List.mem_or_eq_of_mem_set he with h | rfl
        · exact hborn e h
        · exact hborn e0 he0m
      · rw [hl, List.map_set]
        have : (arr.toList.map (·.born)).set j e0.born = arr.toList.map (·.born) := by
          apply List.ext_getElem?
          intro i
          rw [List.getElem?_set]
          by_cases hij : j = i
          · subst hij; simp [hje, hjl]
          · simp [hij]
        rw [this]; exact hbn
      · intro e he c' hc'
        rw [hl] at he
        rcases List.mem_or_eq_of_mem_set he with h | rfl
        · exact hseen e h c' hc'
        · simp only at hc'
          exact hseen e0 he0m c' (hek.trans hc')
end
end Go.Proofs.YtgdokpfepfmbmaaDoor

namespace Go.Proofs.YtgdokpfepfmbmaaDoor
set_option linter.unusedVariables false
set_option linter.unusedSimpArgs false
open Go.RowKit

theorem bsearch_nil (A : Option Addr) (c0 : Nat) (m : Int) (w : World) :
    Calls Tryd.prog 74 #[.slice A 0 c0, .int .i64 m, .func (.func 75) #[] #[]] w fun e w' => e = .returned (.tuple #[.int .i64 0, .bool false]) ∧ w' = w := by
  go_enter Tryd.func74, Tryd.ntmps74
  go_wp2
  go_loopw [9, 10] (fun i j wr => i = .int .i64 0 ∧ j = .int .i64 0 ∧ wr = w) (fun i j _ => 0)
  case atStart => exact ⟨rfl, rfl, rfl⟩
  case round =>
    obtain ⟨rfl, rfl, rfl⟩ := hrel
    go_wp2
    go_ret2
    exact ⟨by simp, rfl⟩

/-- Windows in order. -/
def Sor (l : List (Int × Int)) : Prop := ∀ (i j : Nat) (x y : Int × Int), l[i]? = some x → l[j]? = some y → i ≤ j → x.2 ≤ y.2

theorem bsearch_any (v : Value) (l : List (Int × Int)) (m : Int) (w : World) (h : Rd WK w v l) (hl : l.length ≤ 1000000) (hs : Sor l) :
    Calls Tryd.prog 74 #[v, .int .i64 m, .func (.func 75) #[] #[]] w fun e w' => e = .returned (.tuple #[.int .i64 (place l m), .bool false]) ∧ Kp No w w' := by
  rcases h with ⟨⟨A, c0, rfl⟩, rfl⟩ | ⟨g, o, cap, rfl, h1, h2, h3⟩
  · exact (bsearch_nil A c0 m w).mono fun e w' ⟨he, hw⟩ => ⟨by rw [he]; rfl, hw ▸ Kp.refl _ _⟩
  · have hr : Rd WK w (.slice (some ⟨g, o, none⟩) l.length cap) l := .inr ⟨g, o, cap, rfl, h1, h2, h3⟩
    by_cases he : l.length = 0
    · obtain rfl : l = [] := List.eq_nil_of_length_eq_zero he
      go_enter Tryd.func74, Tryd.ntmps74
      go_wp2
      go_loopw [9, 10] (fun i j wr => i = .int .i64 0 ∧ j = .int .i64 0 ∧ wr = w) (fun i j _ => 0)
      case atStart => exact ⟨rfl, rfl, rfl⟩
      case round =>
        obtain ⟨rfl, rfl, rfl⟩ := hrel
        go_wp2
        go_ret2
        exact ⟨by simp [place], Kp.refl _ _⟩
    · have hg : g < w.heap.size := by
        obtain ⟨x, hx⟩ : ∃ x, l[0]? = some x := ⟨_, List.getElem?_eq_getElem (by omega)⟩
        exact World.block_lt_of_cell? w _ (hr.winAt hx).1
      exact (bsearch g o cap l m w hg (by omega) h1 (fun i x hx => hr.winAt hx) (fun i j x y hx hy hij hm => Int.le_trans (hs i j x y hx hy hij) hm)).mono fun e w' ⟨he, hb⟩ => ⟨he, Kp.ofBelow hb⟩

/-! ### The table -/

def setT (T : Int → List (Int × Int)) (c : Int) (l : List (Int × Int)) : Int → List (Int × Int) := fun c' => if c' = c then l else T c'

def RepT (w : World) (bt : Nat) (T : Int → List (Int × Int)) (F : Nat → Prop) : Prop :=
  ∃ bm es, w.heap[bt]? = some (.cells #[.map (some bm)] 96 (0, 0)) ∧ MapI w bm es ∧ (∀ x ∈ es, Own WK 43 w x.2 (T x.1)) ∧ (∀ c, c ∉ es.map (·.1) → T c = []) ∧
    (∀ x ∈ es, ∀ y ∈ es, ∀ g, x.2.ownBlock = some g → y.2.ownBlock = some g → x = y) ∧ ∀ b, F b ↔ b = bm ∨ ∃ x ∈ es, x.2.ownBlock = some b

theorem mapW : MapT Tryd.prog 94 3 55 (.slice none 0 0) := ⟨by kernel_rfl, by kernel_rfl, fun w => by kernel_rfl⟩

theorem mem_updV {es : List (Int × Value)} {c : Int} {v : Value} (hnd : (es.map (·.1)).Nodup) (x : Int × Value) : x ∈ updV es c v ↔ x = (c, v) ∨ (x ∈ es ∧ x.1 ≠ c) := by
  induction es with
  | nil => simp [updV]
  | cons y es ih =>
    simp only [List.map_cons, List.nodup_cons] at hnd
    have ih := ih hnd.2
    by_cases hc : c = y.1
    · simp only [updV, hc, beq_self_eq_true, if_true, List.mem_cons]
      constructor
      · rintro (rfl | h)
        · exact .inl rfl
        · exact .inr ⟨.inr h, fun e => hnd.1 (e ▸ List.mem_map_of_mem h)⟩
      · rintro (rfl | ⟨rfl | h, h2⟩)
        · exact .inl rfl
        · exact absurd rfl h2
        · exact .inr h
    · simp only [updV, beq_eq_false_iff_ne.2 hc, Bool.false_eq_true, if_false, List.mem_cons, ih]
      constructor
      · rintro (rfl | rfl | ⟨h, h2⟩)
        · exact .inr ⟨.inl rfl, fun e => hc e.symm⟩
        · exact .inl rfl
        · exact .inr ⟨.inr h, h2⟩
      · rintro (rfl | ⟨rfl | h, h2⟩)
        · exact .inr (.inl rfl)
        · exact .inl rfl
        · exact .inr (.inr ⟨h, h2⟩)

theorem getV_cases (es : List (Int × Value)) (c : Int) (z : Value) : ((c, getV es c z) ∈ es) ∨ (getV es c z = z ∧ c ∉ es.map (·.1)) := by
  unfold getV
  cases hr : findI c es 0 with
  | none => exact .inr ⟨rfl, (findI_none hr).1⟩
  | some r => obtain ⟨j, u⟩ := r; exact .inl (List.mem_of_getElem? (findI_some hr).1)

theorem nodup_key {es : List (Int × Value)} (hnd : (es.map (·.1)).Nodup) {x y : Int × Value} (hx : x ∈ es) (hy : y ∈ es) (h : x.1 = y.1) : x = y := by
  induction es with
  | nil => simp at hx
  | cons z es ih =>
    simp only [List.map_cons, List.nodup_cons] at hnd
    simp only [List.mem_cons] at hx hy
    rcases hx with rfl | hx <;> rcases hy with rfl | hy
    · rfl
    · exact absurd (h ▸ List.mem_map_of_mem hy) hnd.1
    · exact absurd (h ▸ List.mem_map_of_mem hx) hnd.1
    · exact ih hnd.2 hx hy

theorem RepT.lt {w : World} {bt : Nat} {T : Int → List (Int × Int)} {F : Nat → Prop} (h : RepT w bt T F) : bt < w.heap.size ∧ ∀ b, F b → b < w.heap.size := by
  obtain ⟨bm, es, h1, h2, h3, h4, h5, h6⟩ := h
  refine ⟨lt_of_block h1, fun b hb => ?_⟩
  rcases (h6 b).1 hb with rfl | ⟨x, hx, hxb⟩
  · exact h2.lt
  · exact (h3 x hx).lt hxb

/-- The table's own cell is none of those that its methods change. -/
theorem RepT.bt_not {w : World} {bt : Nat} {T : Int → List (Int × Int)} {F : Nat → Prop} (h : RepT w bt T F) : ¬ F bt := by
  obtain ⟨bm, es, h1, h2, h3, h4, h5, h6⟩ := h
  intro hb
  rcases (h6 bt).1 hb with rfl | ⟨x, hx, hxb⟩
  · obtain ⟨arr, clk, h2', _⟩ := h2
    rw [h1] at h2'
    simp at h2'
  · rcases h3 x hx with ⟨hv, _⟩ | ⟨g, cap, cur, hv, hb', _⟩
    · rw [hv] at hxb; simp [Value.ownBlock] at hxb
    · rw [hv] at hxb
      simp [Value.ownBlock] at hxb
      subst hxb
      rw [h1] at hb'
      simp at hb'

theorem RepT.kp {w w' : World} {bt : Nat} {T : Int → List (Int × Int)} {F S : Nat → Prop} (h : RepT w bt T F) (hk : Kp S w w') (h1 : ¬ S bt) (h2 : ∀ b, F b → ¬ S b) : RepT w' bt T F := by
  obtain ⟨bm, es, a1, a2, a3, a4, a5, a6⟩ := h
  exact ⟨bm, es, hk.blk a1 h1, a2.kp hk (h2 bm ((a6 bm).2 (.inl rfl))), fun x hx => (a3 x hx).kp hk fun g hg => h2 g ((a6 g).2 (.inr ⟨x, hx, hg⟩)), a4, a5, a6⟩
theorem RepT.kpNo {w w' : World} {bt : Nat} {T : Int → List (Int × Int)} {F : Nat → Prop} (h : RepT w bt T F) (hk : Kp No w w') : RepT w' bt T F := h.kp hk (no_no _) fun _ _ => no_no _

theorem RepT.at {w : World} {bt : Nat} {T : Int → List (Int × Int)} {F : Nat → Prop} (h : RepT w bt T F) (c : Int) :
    ∃ bm v, w.cell? ⟨bt, 0, none⟩ = some (.map (some bm)) ∧ (∀ n, (Instr.lookup 94 (.map (some bm)) (.int .i64 c) false).run Tryd.prog (w.drewN n) = .ok v (w.drewN n)) ∧ Own WK 43 w v (T c) ∧ (∀ g, v.ownBlock = some g → F g) ∧
      ∀ w1 v' l', Kp (fun k => v.ownBlock = some k) w w1 → Own WK 43 w1 v' l' → (∀ g, v'.ownBlock = some g → v.ownBlock = some g ∨ w.heap.size ≤ g) →
        ∃ w2 F', (Instr.mapUpdate 94 (.map (some bm)) (.int .i64 c) v').run Tryd.prog w1 = .ok () w2 ∧ RepT w2 bt (setT T c l') F' ∧ Kp F w w2 ∧ ∀ k, F' k → F k ∨ w.heap.size ≤ k := by
  have hbt := h.bt_not
  have hlt := h.lt
  obtain ⟨bm, es, a1, a2, a3, a4, a5, a6⟩ := h
  have hown : Own WK 43 w (getV es c (.slice none 0 0)) (T c) := by
    rcases getV_cases es c (.slice none 0 0) with hm | ⟨hz, hn⟩
    · exact a3 _ hm
    · rw [hz, a4 c hn]; exact Own.nil _ _ _
  have hF : ∀ g, (getV es c (.slice none 0 0)).ownBlock = some g → F g := by
    intro g hg
    rcases getV_cases es c (.slice none 0 0) with hm | ⟨hz, _⟩
    · exact (a6 g).2 (.inr ⟨_, hm, hg⟩)
    · rw [hz] at hg; simp [Value.ownBlock] at hg
  refine ⟨bm, getV es c (.slice none 0 0), (blk_cell a1 0).trans rfl, fun n => MapI.look (w := w.drewN n) mapW a2 c, hown, hF, ?_⟩
  intro w1 v' l' hk hown' hblk
  have hbm : ¬ ((getV es c (.slice none 0 0)).ownBlock = some bm) := by
    intro hb
    obtain ⟨arr, clk, h2', _⟩ := a2
    rcases hown with ⟨hv, _⟩ | ⟨g, cap, cur, hv, hb', _⟩
    · rw [hv] at hb; simp [Value.ownBlock] at hb
    · rw [hv] at hb
      simp [Value.ownBlock] at hb
      subst hb
      rw [h2'] at hb'
      simp at hb'
  have hM1 : MapI w1 bm es := a2.kp hk hbm
  obtain ⟨w2, hr, hM2, hk2⟩ := hM1.upd mapW c v'
  have hnd : (es.map (·.1)).Nodup := let ⟨_, _, _, _, h, _⟩ := a2; h
  have hv'bm : ¬ (v'.ownBlock = some bm) := fun e => by
    rcases hblk bm e with h | h
    · exact hbm h
    · have := hlt.2 bm ((a6 bm).2 (.inl rfl)); omega
  have hkF : Kp F w w2 := (hk.mono fun k _ hk' => hF k hk').trans' hk2 fun k hk' e => by subst e; exact (a6 k).2 (.inl rfl)
  refine ⟨w2, fun b => b = bm ∨ ∃ x ∈ updV es c v', x.2.ownBlock = some b, hr, ⟨bm, updV es c v', hkF.blk a1 hbt, hM2, ?_, ?_, ?_, fun b => Iff.rfl⟩, hkF, ?_⟩
  · intro x hx
    rcases (mem_updV hnd x).1 hx with rfl | ⟨hx', hne⟩
    · simp only [setT, if_true]
      exact hown'.kp hk2 fun g hg e => hv'bm (e ▸ hg)
    · simp only [setT, if_neg hne]
      refine (((a3 x hx').kp hk ?_)).kp hk2 ?_
      · intro g hg hg2
        rcases getV_cases es c (.slice none 0 0) with hm | ⟨hz, _⟩
        · exact hne (congrArg Prod.fst (a5 _ hx' _ hm g hg hg2))
        · rw [hz] at hg2; simp [Value.ownBlock] at hg2
      · rintro g hg rfl
        obtain ⟨arr, clk, h2', _⟩ := a2
        rcases a3 x hx' with ⟨hv, _⟩ | ⟨g', cap, cur, hv, hb', _⟩
        · rw [hv] at hg; simp [Value.ownBlock] at hg
        · rw [hv] at hg
          simp [Value.ownBlock] at hg
          subst hg
          rw [h2'] at hb'
          simp at hb'
  · intro c' hc'
    have hcc : c' ≠ c := by
      rintro rfl
      exact hc' (List.mem_map.2 ⟨(c', v'), (mem_updV hnd _).2 (.inl rfl), rfl⟩)
    simp only [setT, if_neg hcc]
    refine a4 c' fun hm => hc' ?_
    obtain ⟨x, hx, rfl⟩ := List.mem_map.1 hm
    exact List.mem_map.2 ⟨x, (mem_updV hnd _).2 (.inr ⟨hx, hcc⟩), rfl⟩
  · intro x hx y hy g hgx hgy
    have key : ∀ z, z ∈ es → z.1 ≠ c → z.2.ownBlock = some g → v'.ownBlock = some g → False := by
      intro z hz hzc hzg hvg
      rcases hblk g hvg with h | h
      · rcases getV_cases es c (.slice none 0 0) with hm | ⟨hz', _⟩
        · exact hzc (congrArg Prod.fst (a5 _ hz _ hm g hzg h))
        · rw [hz'] at h; simp [Value.ownBlock] at h
      · have := (a3 z hz).lt hzg; omega
    rcases (mem_updV hnd x).1 hx with rfl | ⟨hx', hxc⟩ <;> rcases (mem_updV hnd y).1 hy with rfl | ⟨hy', hyc⟩
    · rfl
    · exact (key y hy' hyc hgy hgx).elim
    · exact (key x hx' hxc hgx hgy).elim
    · exact a5 x hx' y hy' g hgx hgy
  · intro k hk'
    rcases hk' with rfl | ⟨x, hx, hxk⟩
    · exact .inl ((a6 k).2 (.inl rfl))
    · rcases (mem_updV hnd x).1 hx with rfl | ⟨hx', _⟩
      · rcases hblk k hxk with h | h
        · exact .inl (hF k h)
        · exact .inr h
      · exact .inl ((a6 k).2 (.inr ⟨x, hx', hxk⟩))
end Go.Proofs.YtgdokpfepfmbmaaDoor

namespace Go.Proofs.YtgdokpfepfmbmaaDoor
set_option linter.unusedVariables false
set_option linter.unusedSimpArgs false
open Go.RowKit

theorem Rd.winAt0 {w : World} {l : List (Int × Int)} {g n cap : Nat} (h : Rd WK w (.slice (some ⟨g, 0, none⟩) n cap) l) {i : Nat} {x : Int × Int} (hx : l[i]? = some x) :
    w.cell? ⟨g, i * 2, none⟩ = some (.int .i64 x.1) ∧ w.cell? ⟨g, i * 2 + 1, none⟩ = some (.int .i64 x.2) := by
  have := h.winAt hx
  rwa [Nat.zero_add] at this

/-- Of a cell: windows that may be, in order, none of which meets another. -/
structure WFL (l : List (Int × Int)) : Prop where
  rt : ∀ x ∈ l, 0 ≤ x.1 ∧ x.1 < x.2 ∧ x.2 ≤ 1048576
  ord : l.Pairwise (fun a b => a.2 ≤ b.1)
  len : l.length ≤ 4096
theorem WFL.sor {l : List (Int × Int)} (h : WFL l) : Sor l := by
  intro i j x y hx hy hij
  rcases Nat.lt_or_ge i j with hlt | hge
  · have hi := (List.getElem?_eq_some_iff.1 hx).1
    have hj := (List.getElem?_eq_some_iff.1 hy).1
    have h1 := List.pairwise_iff_getElem.1 h.ord i j hi hj hlt
    have h2 := h.rt y (List.mem_of_getElem? hy)
    have e1 := (List.getElem?_eq_some_iff.1 hx).2
    have e2 := (List.getElem?_eq_some_iff.1 hy).2
    rw [e1, e2] at h1
    omega
  · obtain rfl : i = j := by omega
    rw [hx] at hy
    injection hy with hy
    subst hy
    exact Int.le_refl _
def WFT (T : Int → List (Int × Int)) : Prop := ∀ c, WFL (T c)

theorem place_any {w : World} {bt : Nat} {T : Int → List (Int × Int)} {F : Nat → Prop} (h : RepT w bt T F) (hT : WFT T) (c m : Int) :
    Calls Tryd.prog 44 #[.pointer (some ⟨bt, 0, none⟩), .int .i64 c, .int .i64 m] w fun e w' => e = .returned (.int .i64 (place (T c) m)) ∧ Kp No w w' := by
  obtain ⟨bm, v, h1, h2, h3, _, _⟩ := h.at c
  have h2 := h2 0
  change Sem.run _ _ w = .ok v w at h2
  have H := Lib.hid h3.rd
  have HT := Lib.hid hT
  clear h3 hT h
  go_enter Tryd.func44, Tryd.ntmps44
  go_wp2_with (go_at_call 74; refine (bsearch_any v (T c) m w H.out (Nat.le_trans (HT.out c).len (by decide)) (HT.out c).sor).mono ?_; rintro e w' ⟨rfl, hk⟩)
  go_ret
  exact ⟨rfl, hk⟩

def isF (l : List (Int × Int)) (m : Int) : Bool := decide (0 ≤ m) && decide (m < 1048576) && (match l[place l m]? with | none => true | some x => decide (m < x.1))

theorem place_le (l : List (Int × Int)) (m : Int) : place l m ≤ l.length := by
  unfold place; exact List.Sublist.length_le (List.takeWhile_sublist _)

theorem wis_any {w : World} {bt : Nat} {T : Int → List (Int × Int)} {F : Nat → Prop} (h : RepT w bt T F) (hT : WFT T) (c m : Int) :
    Calls Tryd.prog 28 #[.pointer (some ⟨bt, 0, none⟩), .int .i64 c, .int .i64 m] w fun e w' => e = .returned (.bool (isF (T c) m)) ∧ Kp No w w' := by
  obtain ⟨bm, v, h1, h2, h3, _, _⟩ := h.at c
  have h2 := h2 0
  change Sem.run _ _ w = .ok v w at h2
  have HR := Lib.hid h
  have H := Lib.hid h3.rd
  have HT := Lib.hid hT
  obtain ⟨A, cap, rfl⟩ := h3.rd.shape
  clear h3 hT h
  by_cases m0 : m < 0
  · have hf : isF (T c) m = false := by simp [isF]; omega
    have HF := Lib.hid hf; clear hf
    go_enter Tryd.func28, Tryd.ntmps28
    go_wp2
    go_ret
    exact ⟨by rw [HF.out]; rfl, Kp.refl _ _⟩
  by_cases m1 : 1048576 ≤ m
  · have hf : isF (T c) m = false := by simp [isF]; omega
    have HF := Lib.hid hf; clear hf
    go_enter Tryd.func28, Tryd.ntmps28
    go_wp2
    go_ret
    exact ⟨by rw [HF.out]; rfl, Kp.refl _ _⟩
  have hle := place_le (T c) m
  by_cases hp : place (T c) m = (T c).length
  · have hf : isF (T c) m = true := by
      have : (T c)[place (T c) m]? = none := by rw [hp]; simp
      simp only [isF, this]; simp; omega
    have HF := Lib.hid hf; clear hf
    have hp' : ((place (T c) m : Int) == ((T c).length : Int)) = true := by simp [hp]
    clear hp
    go_enter Tryd.func28, Tryd.ntmps28
    go_wp2_with (go_at_call 44; refine (place_any HR.out HT.out c m).mono ?_; rintro e w' ⟨rfl, hk⟩)
    go_ret
    exact ⟨by rw [HF.out]; rfl, hk⟩
  · obtain ⟨x, hx⟩ : ∃ x, (T c)[place (T c) m]? = some x := ⟨_, List.getElem?_eq_getElem (by omega)⟩
    have hf : isF (T c) m = decide (m < x.1) := by simp only [isF, hx]; simp; omega
    have HF := Lib.hid hf; clear hf
    have hp' : ((place (T c) m : Int) == ((T c).length : Int)) = false := by simp; omega
    have hlt : place (T c) m < (T c).length := by omega
    have HX := Lib.hid hx
    rcases H.out with ⟨hv, he⟩ | ⟨g, o, cap', hv, _⟩
    · rw [he] at hlt; simp at hlt
    simp only [Value.slice.injEq] at hv
    obtain ⟨rfl, _, rfl⟩ := hv
    clear hp hx
    go_enter Tryd.func28, Tryd.ntmps28
    go_wp2_with (go_at_call 44; refine (place_any HR.out HT.out c m).mono ?_; rintro e w' ⟨rfl, hk⟩; obtain ⟨hc1, hc2⟩ := (H.out.kpNo hk).winAt HX.out)
    go_ret
    exact ⟨by rw [HF.out]; rfl, hk⟩

theorem taken_any {w : World} {bt : Nat} {T : Int → List (Int × Int)} {F : Nat → Prop} (h : RepT w bt T F) (hT : WFT T) (c : Int) :
    Calls Tryd.prog 24 #[.pointer (some ⟨bt, 0, none⟩), .int .i64 c] w (RetNew WK 43 (T c) w) := by
  obtain ⟨bm, v, h1, h2, h3, _, _⟩ := h.at c
  have h2 := h2 0
  change Sem.run _ _ w = .ok v w at h2
  have H := Lib.hid h3.rd
  have HT := Lib.hid hT
  clear h3 hT h
  go_enter Tryd.func24, Tryd.ntmps24
  go_wp2_with (go_at_call 50; refine (clone_any v (T c) w H.out (Nat.le_trans (HT.out c).len (by decide))).mono ?_; rintro e w' ⟨v', rfl, k1, k2, k3⟩; (have K1 := Lib.hid k1); (have K2 := Lib.hid k2); (have K3 := Lib.hid k3); clear k1 k2 k3)
  go_ret
  exact ⟨_, rfl, K1.out, K2.out, K3.out⟩

theorem new_any (w : World) : Calls Tryd.prog 29 #[] w fun e w' => ∃ bt F, e = .returned (.pointer (some ⟨bt, 0, none⟩)) ∧ RepT w' bt (fun _ => []) F ∧ Kp No w w' ∧ w.heap.size ≤ bt ∧ ∀ k, F k → w.heap.size ≤ k := by
  have hmm := @run_makeMap Tryd.prog
  go_enter Tryd.func29, Tryd.ntmps29
  go_wp2
  go_ret
  refine ⟨w.heap.size + 1, fun b => b = w.heap.size, rfl, ⟨w.heap.size, [], ?_, ?_, by simp, by simp, by simp, by simp⟩, ((Kp.refl _ _).alloc _).alloc _, by omega, by intro k hk; omega⟩
  · have := blk_new (w.alloc (.map #[] 0)) (.cells #[.map (some w.heap.size)] 96)
    simpa using this
  · exact (MapI.made w).kp ((Kp.refl No _).alloc _) (no_no _)
end Go.Proofs.YtgdokpfepfmbmaaDoor
