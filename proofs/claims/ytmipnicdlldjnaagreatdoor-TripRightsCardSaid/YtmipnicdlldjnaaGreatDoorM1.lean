/- A drawn region walked by hand, where operations are not wanted: the kit's laws with the operation laid open. No function of the program; Words on memory that name no function of the program: what a call may change, rows of elements, slices that a call owns; Floors, plain: cells, kinds, what is beside, what may be. No function of the program; Floors, plain: what hangs together, docks, which floors may be. No function of the program; Floors, plain: how docks are found. No function of the program; Slices in new memory; Slices of ints; carfaxref03.SameInts; What all laws here answer; two facts on the program; floor.kind, floor.beside; floor.beside. No condition. -/
import Derived.Deep.RegionHeld3
import Derived.Test.YtmipnicdlldjnaaGreatDoorRows
import Derived.WalkKit
import Derived.WalkSpells
import Derived.Lib.Hide
import Derived.Deep.QuietTactic
import Derived.BigQuiet
import Derived.IntWalk
import Derived.Deep.LoopGhost

namespace Go.Proofs.YtmipnicdlldjnaaGreatDoor
set_option linter.unusedVariables false
set_option linter.unusedSimpArgs false
section
variable {P : Program} {ops : Array Oper} {Q : Exit → Act → World → Prop} {md : Region.Mode} {S : World → Prop}
/-- wpAnyH_take, with the operation laid open. -/
theorem takeH {i : Nat} {d : Option Tmp} {o : Op} {t : TypeId} {ps : String} {af : Array Edge} {g : Option (Nat × Bool)} {v : Value} {fuel : Nat} {listed : Array Bool} {a : Act} {w : World} (hi : ops[i]? = some ⟨d, o, t, ps, af, g⟩)
    (hs : Region.noSelect ops = true) (hf : Region.free md ops listed i = true) (hr : (Region.ready md ops listed).contains i = true)
    (hQ : ∀ c a w, Q (.panic c) (a.put d v) w → Q (.panic c) a w) (hy : YieldsIf P ops S ⟨d, o, t, ps, af, g⟩ v a) (hS : S w)
    (h : wpAnyH P md ops Q S fuel (listed.setIfInBounds i true) (a.put d v) w) : wpAnyH P md ops Q S (fuel + 1) listed a w := wpAnyH_take hi hs hf hr hQ hy hS h
theorem consH {fuel : Nat} {listed : Array Bool} {a : Act} {w : World} {i : Nat} {d : Option Tmp} {o : Op} {t : TypeId} {ps : String} {af : Array Edge} {g : Option (Nat × Bool)} {rs : List Nat} (ho : ops[i]? = some ⟨d, o, t, ps, af, g⟩)
    (h : ∀ K' : Act → World → Prop, Shut (∀ a w, S w → (S w → wpAnyH P md ops Q S fuel (listed.setIfInBounds i true) a w) → K' a w) → if Region.wanted ⟨d, o, t, ps, af, g⟩ (yielded ops a.tmps) = true then Oper.wp P ⟨d, o, t, ps, af, g⟩ a w K' Q else K' (a.put d undef) w)
    (hs : AllReadyH P md ops Q S fuel listed a w rs) : AllReadyH P md ops Q S fuel listed a w (i :: rs) := AllReadyH.cons ho h hs
end
end Go.Proofs.YtmipnicdlldjnaaGreatDoor

namespace Go.Proofs.YtmipnicdlldjnaaGreatDoor
set_option linter.unusedVariables false
set_option linter.unusedSimpArgs false
open Go.RowKit

/-! ### What a call may change -/

/-- Behind a call only the blocks of S, and new ones, may read otherwise. -/
structure Kp (S : Nat → Prop) (w w' : World) : Prop where
  os : w'.os = w.os
  tape : w'.tape = w.tape
  output : w'.output = w.output
  size : w.heap.size ≤ w'.heap.size
  block : ∀ k, k < w.heap.size → ¬ S k → w'.heap[k]? = w.heap[k]?

/-- No block. -/
def No : Nat → Prop := fun _ => False
theorem no_no (k : Nat) : ¬ No k := fun h => h

section
variable {S S2 : Nat → Prop} {a b c w w' : World}
theorem Kp.refl (S : Nat → Prop) (w : World) : Kp S w w := ⟨rfl, rfl, rfl, Nat.le_refl _, fun _ _ _ => rfl⟩
theorem Kp.trans' (h : Kp S a b) (k : Kp S2 b c) (hs : ∀ k, k < a.heap.size → S2 k → S k) : Kp S a c :=
  ⟨k.os.trans h.os, k.tape.trans h.tape, k.output.trans h.output, Nat.le_trans h.size k.size, fun j hj hn =>
    (k.block j (Nat.lt_of_lt_of_le hj h.size) (fun h2 => hn (hs j hj h2))).trans (h.block j hj hn)⟩
theorem Kp.trans (h : Kp S a b) (k : Kp S b c) : Kp S a c := h.trans' k fun _ _ h => h
theorem Kp.no (h : Kp S a b) (k : Kp No b c) : Kp S a c := h.trans' k fun _ _ h => h.elim
theorem Kp.mono (h : Kp S a b) (hs : ∀ k, k < a.heap.size → S k → S2 k) : Kp S2 a b := ⟨h.os, h.tape, h.output, h.size, fun j hj hn => h.block j hj fun h2 => hn (hs j hj h2)⟩
theorem Kp.drew (h : Kp S a w) : Kp S a w.drew := ⟨h.os, h.tape, h.output, h.size, h.block⟩
theorem Kp.drewN (h : Kp S a w) (n : Nat) : Kp S a (w.drewN n) := ⟨h.os, h.tape, h.output, h.size, h.block⟩
theorem Kp.alloc (h : Kp S a w) (o : Obj) : Kp S a (w.alloc o) :=
  ⟨h.os, h.tape, h.output, by simp; have := h.size; omega, fun j hj hn => (Below.heap_alloc w o j (Nat.lt_of_lt_of_le hj h.size)).trans (h.block j hj hn)⟩
theorem Kp.setCell (h : Kp S a w) {p : Addr} (hp : p.block < a.heap.size → S p.block) (u : Value) : Kp S a (w.setCell p u) :=
  ⟨h.os, h.tape, h.output, by simpa using h.size, fun j hj hn => (Below.heap_setCell w p u j (fun e => hn (e ▸ hp (e ▸ hj)))).trans (h.block j hj hn)⟩
theorem Kp.setRow (h : Kp S a w) {g : Nat} (hp : g < a.heap.size → S g) (cs : Array Value) : Kp S a (w.setRow g cs) :=
  ⟨h.os, h.tape, h.output, by simpa [World.setRow] using h.size, fun j hj hn => (setRow_other w g j cs (fun e => hn (e ▸ hp (e ▸ hj)))).trans (h.block j hj hn)⟩
theorem Kp.setBlk (h : Kp S a w) {g : Nat} (hp : g < a.heap.size → S g) (o : Obj) : Kp S a { w with heap := w.heap.setIfInBounds g o } :=
  ⟨h.os, h.tape, h.output, by simpa using h.size, fun j hj hn => by
    have hne : g ≠ j := fun e => hn (e ▸ hp (e ▸ hj))
    exact (by simp [hne] : ({ w with heap := w.heap.setIfInBounds g o } : World).heap[j]? = w.heap[j]?).trans (h.block j hj hn)⟩
theorem Kp.ofBelow (h : Below w.heap.size w w') : Kp No w w' := ⟨h.os, h.tape, h.output, h.size, fun k hk _ => h.block k hk⟩
theorem Kp.below {B : Nat} (h : Kp S w w') (hS : ∀ k, k < B → ¬ S k) (hB : B ≤ w.heap.size) : Below B w w' :=
  ⟨h.os, h.tape, h.output, h.size, fun k hk => h.block k (by omega) (hS k hk)⟩
theorem Kp.belowNo (h : Kp No w w') : Below w.heap.size w w' := h.below (fun k _ => no_no k) (Nat.le_refl _)
theorem Kp.cell (h : Kp S w w') {p : Addr} (hp : p.block < w.heap.size) (hn : ¬ S p.block) : w'.cell? p = w.cell? p := World.cell?_of_block (h.block _ hp hn)
theorem Kp.cellS (h : Kp S w w') {p : Addr} {v : Value} (hv : w.cell? p = some v) (hn : ¬ S p.block) : w'.cell? p = some v := (h.cell (World.block_lt_of_cell? w p hv) hn).trans hv
theorem Kp.blk (h : Kp S w w') {g : Nat} {o : Obj} (hg : w.heap[g]? = some o) (hn : ¬ S g) : w'.heap[g]? = some o := (h.block g (lt_of_block hg) hn).trans hg
theorem Kp.gcell (h : Kp No w w') : ∀ g o, g < w.heap.size → w'.cell? ⟨g, o, none⟩ = w.cell? ⟨g, o, none⟩ := fun g o hg => h.cell (p := ⟨g, o, none⟩) hg (no_no _)
end

/-! ### Blocks -/
section
variable {w : World} {g : Nat} {cs : Array Value} {t : TypeId}
theorem blk_cell (h : w.heap[g]? = some (.cells cs t (0, 0))) (i : Nat) : w.cell? ⟨g, i, none⟩ = cs[i]? := cell_of_row w g i cs t (0, 0) h
theorem blk_free (h : w.heap[g]? = some (.cells cs t (0, 0))) (i : Nat) : w.frozen? ⟨g, i, none⟩ = false := by simp [World.frozen?, h]
theorem blk_set (h : w.heap[g]? = some (.cells cs t (0, 0))) (i : Nat) (v : Value) : (w.setCell ⟨g, i, none⟩ v).heap[g]? = some (.cells (cs.setIfInBounds i v) t (0, 0)) := by
  have hlt := lt_of_block h
  have hv : w.heap[g] = .cells cs t (0, 0) := (Array.getElem?_eq_some_iff.1 h).2
  unfold World.setCell
  simp [Array.getElem?_modify, h]
theorem blk_new (w : World) (o : Obj) : (w.alloc o).heap[w.heap.size]? = some o := heap_alloc_new w o
theorem blk_alloc {o' : Obj} (h : w.heap[g]? = some o') (o : Obj) : (w.alloc o).heap[g]? = some o' := (Below.heap_alloc w o g (lt_of_block h)).trans h
theorem blk_far {o' : Obj} (h : w.heap[g]? = some o') {p : Addr} (hp : g ≠ p.block) (u : Value) : (w.setCell p u).heap[g]? = some o' := (Below.heap_setCell w p u g hp).trans h
end

/-! ### Elements -/

/-- How an element lies in cells. -/
structure Kd (α : Type) where
  sz : Nat
  enc : α → List Value
  len : ∀ a, (enc a).length = sz
  one : ∀ a, ∀ v ∈ enc a, v.oneCell' = true
  pos : 0 < sz

namespace Kd
variable {α : Type} (K : Kd α)
def encs (l : List α) : List Value := l.flatMap K.enc
theorem encs_nil : K.encs [] = [] := rfl
theorem encs_cons (a : α) (l : List α) : K.encs (a :: l) = K.enc a ++ K.encs l := by simp [encs]
theorem encs_append (l m : List α) : K.encs (l ++ m) = K.encs l ++ K.encs m := by simp [encs]
theorem encs_one (a : α) : K.encs [a] = K.enc a := by simp [encs]
theorem length_encs (l : List α) : (K.encs l).length = l.length * K.sz := by
  induction l with
  | nil => simp [encs]
  | cons a l ih => rw [encs_cons, List.length_append, ih, K.len, List.length_cons, Nat.add_mul]; omega
theorem oneCell (l : List α) : ∀ v ∈ K.encs l, v.oneCell' = true := by
  intro v hv
  simp only [encs, List.mem_flatMap] at hv
  obtain ⟨a, _, h⟩ := hv
  exact K.one a v h
theorem encs_take (l : List α) (i : Nat) : (K.encs l).take (i * K.sz) = K.encs (l.take i) := by
  induction l generalizing i with
  | nil => simp [encs]
  | cons a l ih =>
    cases i with
    | zero => simp [encs]
    | succ i =>
      rw [encs_cons, List.take_succ_cons, encs_cons, Nat.add_mul, Nat.one_mul, Nat.add_comm, List.take_append, K.len, Nat.add_sub_cancel_left, ih, List.take_of_length_le (by rw [K.len]; omega)]
theorem encs_drop (l : List α) (i : Nat) : (K.encs l).drop (i * K.sz) = K.encs (l.drop i) := by
  induction l generalizing i with
  | nil => simp [encs]
  | cons a l ih =>
    cases i with
    | zero => simp [encs]
    | succ i =>
      rw [encs_cons, List.drop_succ_cons, Nat.add_mul, Nat.one_mul, Nat.add_comm, List.drop_append, K.len, Nat.add_sub_cancel_left, ih, List.drop_eq_nil_of_le (by rw [K.len]; omega), List.nil_append]
theorem encs_get (l : List α) (i j : Nat) (x : α) (hx : l[i]? = some x) (hj : j < K.sz) : (K.encs l)[i * K.sz + j]? = (K.enc x)[j]? := by
  have h1 : (K.encs l)[i * K.sz + j]? = ((K.encs l).drop (i * K.sz))[j]? := by rw [List.getElem?_drop]
  rw [h1, encs_drop]
  have hi : i < l.length := (List.getElem?_eq_some_iff.1 hx).1
  rw [List.drop_eq_getElem_cons hi, encs_cons, List.getElem?_append_left (by rw [K.len]; exact hj)]
  congr 2
  exact (List.getElem?_eq_some_iff.1 hx).2
end Kd

/-! ### Slices -/
section
variable {α : Type}
/-- v reads as l. -/
def Rd (K : Kd α) (w : World) (v : Value) (l : List α) : Prop :=
  ((∃ A cap, v = .slice A 0 cap) ∧ l = []) ∨ ∃ g o cap, v = .slice (some ⟨g, o, none⟩) l.length cap ∧ l.length ≤ cap ∧ cap ≤ maxLen ∧ ∀ j u, (K.encs l)[j]? = some u → w.cell? ⟨g, o + j, none⟩ = some u

/-- v reads as l, and has its block for itself, from its first cell on. -/
def Own (K : Kd α) (e : TypeId) (w : World) (v : Value) (l : List α) : Prop :=
  (v = .slice none 0 0 ∧ l = []) ∨ ∃ g cap cur, v = .slice (some ⟨g, 0, none⟩) l.length cap ∧ w.heap[g]? = some (.cells cur e (0, 0)) ∧ l.length ≤ cap ∧ cap ≤ maxLen ∧ cur.size = cap * K.sz ∧ cur.toList.take (l.length * K.sz) = K.encs l

variable {K : Kd α} {e : TypeId} {w w' : World} {v : Value} {l : List α}

theorem Own.cells (h : Own K e w v l) : ∀ g o n cap, v = .slice (some ⟨g, o, none⟩) n cap → ∀ j u, (K.encs l)[j]? = some u → w.cell? ⟨g, o + j, none⟩ = some u := by
  intro g o n cap hv j u hu
  rcases h with ⟨rfl, rfl⟩ | ⟨g', cap', cur, rfl, hb, hlc, hcm, hsz, htake⟩
  · simp at hv
  · simp only [Value.slice.injEq, Option.some.injEq, Addr.mk.injEq] at hv
    obtain ⟨⟨rfl, rfl, _⟩, _, _⟩ := hv
    rw [blk_cell hb, Nat.zero_add]
    rw [← htake, List.getElem?_take] at hu
    split at hu
    · simpa using hu
    · cases hu

theorem Own.rd (h : Own K e w v l) : Rd K w v l := by
  rcases h with ⟨hv, hl⟩ | ⟨g, cap, cur, hv, hb, hlc, hcm, hsz, htake⟩
  · exact .inl ⟨⟨none, 0, hv⟩, hl⟩
  · exact .inr ⟨g, 0, cap, hv, hlc, hcm, Own.cells (.inr ⟨g, cap, cur, hv, hb, hlc, hcm, hsz, htake⟩) g 0 _ cap hv⟩

theorem Own.nil (K : Kd α) (e : TypeId) (w : World) : Own K e w (.slice none 0 0) [] := .inl ⟨rfl, rfl⟩
theorem Rd.nil (K : Kd α) (w : World) : Rd K w (.slice none 0 0) [] := .inl ⟨⟨_, _, rfl⟩, rfl⟩
theorem Rd.empty (K : Kd α) (w : World) (A : Option Addr) (c : Nat) : Rd K w (.slice A 0 c) [] := .inl ⟨⟨_, _, rfl⟩, rfl⟩

theorem Own.lt (h : Own K e w v l) {g : Nat} (hg : v.ownBlock = some g) : g < w.heap.size := by
  rcases h with ⟨rfl, _⟩ | ⟨g', _, _, rfl, hb, _⟩
  · simp [Value.ownBlock] at hg
  · simp [Value.ownBlock] at hg; subst hg; exact lt_of_block hb

theorem Own.kp {S : Nat → Prop} (h : Own K e w v l) (hk : Kp S w w') (hn : ∀ g, v.ownBlock = some g → ¬ S g) : Own K e w' v l := by
  rcases h with h | ⟨g, cap, cur, rfl, hb, h⟩
  · exact .inl h
  · exact .inr ⟨g, cap, cur, rfl, hk.blk hb (hn g rfl), h⟩
theorem Own.kpNo (h : Own K e w v l) (hk : Kp No w w') : Own K e w' v l := h.kp hk fun _ _ => no_no _

theorem Rd.kp {S : Nat → Prop} (h : Rd K w v l) (hk : Kp S w w') (hn : ∀ g, v.ownBlock = some g → ¬ S g) : Rd K w' v l := by
  rcases h with h | ⟨g, o, cap, rfl, h1, h2, h3⟩
  · exact .inl h
  · exact .inr ⟨g, o, cap, rfl, h1, h2, fun j u hu => hk.cellS (h3 j u hu) (hn g rfl)⟩
theorem Rd.kpNo (h : Rd K w v l) (hk : Kp No w w') : Rd K w' v l := h.kp hk fun _ _ => no_no _
theorem Own.alloc (h : Own K e w v l) (o : Obj) : Own K e (w.alloc o) v l := h.kpNo ((Kp.refl _ _).alloc o)
theorem Rd.alloc (h : Rd K w v l) (o : Obj) : Rd K (w.alloc o) v l := h.kpNo ((Kp.refl _ _).alloc o)
theorem Own.drewN (h : Own K e w v l) (n : Nat) : Own K e (w.drewN n) v l := h
theorem Rd.drewN (h : Rd K w v l) (n : Nat) : Rd K (w.drewN n) v l := h

/-- The shape of a value that reads. -/
theorem Rd.shape (h : Rd K w v l) : ∃ a cap, v = .slice a l.length cap := by
  rcases h with ⟨⟨A, c, rfl⟩, rfl⟩ | ⟨g, o, cap, rfl, _⟩
  · exact ⟨A, c, rfl⟩
  · exact ⟨_, _, rfl⟩

theorem Rd.cells (h : Rd K w v l) : ∀ g o n cap, v = .slice (some ⟨g, o, none⟩) n cap → ∀ j u, (K.encs l)[j]? = some u → w.cell? ⟨g, o + j, none⟩ = some u := by
  intro g o n cap hv j u hu
  rcases h with ⟨_, rfl⟩ | ⟨g', o', cap', rfl, _, _, h3⟩
  · simp [Kd.encs] at hu
  · simp only [Value.slice.injEq, Option.some.injEq, Addr.mk.injEq] at hv
    obtain ⟨⟨rfl, rfl, _⟩, _, _⟩ := hv
    exact h3 j u hu
theorem Rd.at (h : Rd K w v l) {g o n cap : Nat} (hv : v = .slice (some ⟨g, o, none⟩) n cap) {i j : Nat} {x : α} {u : Value} (hx : l[i]? = some x) (hj : (K.enc x)[j]? = some u) :
    w.cell? ⟨g, o + i * K.sz + j, none⟩ = some u := by
  rw [Nat.add_assoc]
  rcases h with ⟨_, rfl⟩ | ⟨g', o', cap', rfl, h1, h2, h3⟩
  · simp at hx
  · simp only [Value.slice.injEq, Option.some.injEq, Addr.mk.injEq] at hv
    obtain ⟨⟨rfl, rfl, _⟩, _, _⟩ := hv
    have hjl : j < K.sz := by rw [← K.len x]; exact (List.getElem?_eq_some_iff.1 hj).1
    exact h3 _ _ ((K.encs_get l i j x hx hjl).trans hj)

/-- A new block that holds just these elements. -/
theorem Own.lit (K : Kd α) (e : TypeId) (w : World) (cs : List Value) (l : List α) (hc : cs = K.encs l) (hm : l.length ≤ maxLen) :
    Own K e (w.alloc (.cells cs.toArray e)) (.slice (some ⟨w.heap.size, 0, none⟩) l.length l.length) l :=
  .inr ⟨w.heap.size, l.length, cs.toArray, rfl, blk_new w _, Nat.le_refl _, hm, by rw [hc]; simp [K.length_encs], by rw [hc]; simp [← K.length_encs]⟩
end

theorem Rd.litAt {α : Type} (K : Kd α) (e : TypeId) (w : World) (cs : Array Value) (l : List α) (hc : cs.toList = K.encs l) (hm : l.length ≤ maxLen) (b n : Nat) (hb : b = w.heap.size) (hn : n = l.length) :
    Rd K (w.alloc (.cells cs e)) (.slice (some ⟨b, 0, none⟩) n n) l := by
  subst hb hn
  have := (Own.lit K e w cs.toList l hc hm).rd
  rwa [Array.toArray_toList] at this

/-- The element type's row in the program's table. -/
structure ElT (P : Program) (t e : TypeId) {α : Type} (K : Kd α) (bytes : Nat) : Prop where
  und : P.underlying t = some (.slice e)
  info : ∃ i z, P.info? e = some i ∧ i.zero = some z ∧ i.size = K.sz ∧ i.bytes = bytes ∧ z.cells.size = K.sz

theorem ElT.of {P : Program} {t e : TypeId} {α : Type} {K : Kd α} {bytes : Nat} {z : Value} (h1 : P.underlying t = some (.slice e))
    (h2 : (P.info? e).map (fun i => (i.zero, i.size, i.bytes)) = some (some z, K.sz, bytes)) (h3 : z.cells.size = K.sz) : ElT P t e K bytes := by
  obtain ⟨i, hi, hz0, hz1, hz2⟩ := info_parts h2
  exact ⟨h1, i, z, hi, hz0, hz1, hz2, h3⟩

section
variable {α : Type} {K : Kd α} {P : Program} {t e : TypeId} {bytes : Nat} {w : World}

/-- The new block behind an append that grows. -/
theorem own_grown (z : Value) (hz : z.cells.size = K.sz) (l : List α) (n c : Nat) (hn : n = l.length) (hc : n ≤ c) (hm : c ≤ maxLen) (w : World) :
    Own K e (w.drew.alloc (.cells ((K.encs l).toArray ++ Builtin.zeroCells z.cells (c - n)) e)) (.slice (some ⟨w.heap.size, 0, none⟩) n c) l := by
  subst hn
  refine .inr ⟨w.heap.size, c, _, rfl, blk_new w.drew _, hc, hm, ?_, ?_⟩
  · simp only [Array.size_append, List.size_toArray, size_zeroCells, hz, K.length_encs, ← Nat.add_mul]
    congr 1; omega
  · simp only [Array.toList_append]
    rw [← K.length_encs]
    exact List.take_left

theorem run_append (E : ElT P t e K bytes) (ty : TypeId) {v x : Value} {l m : List α} (hown : Own K e w v l) (hx : Rd K w x m) (h63 : l.length + m.length ≤ maxLen) (hbytes : (l.length + m.length) * bytes ≤ 140737488355328) :
    ∃ v' w', (Builtin.append_ #[t, t] ty #[v, x]).run P w = .ok v' w' ∧ Own K e w' v' (l ++ m) ∧ Kp (fun k => v.ownBlock = some k) w w' ∧ (∀ g, v'.ownBlock = some g → v.ownBlock = some g ∨ w.heap.size ≤ g) := by
  obtain ⟨ht, i, z, hi, hz, hsize, hby, hzs⟩ := E
  subst hby
  have hsmall : l.length + m.length ≤ 9223372036854775807 := by simp only [maxLen] at h63; omega
  rcases hx with ⟨⟨A, c, rfl⟩, rfl⟩ | ⟨xg, xo, xc, rfl, hxc, _, hxcell⟩
  · refine ⟨v, w, ?_, by simpa using hown, Kp.refl _ _, fun g hg => .inl hg⟩
    rcases hown with ⟨rfl, rfl⟩ | ⟨g, cap, cur, rfl, hb, hlc, _, _, _⟩
    · cases A <;> simp [Builtin.append_, run_underlying ht, sizeOf, typeInfo, hi, Builtin.lenOf, Builtin.firstCells, loadCells, loadCellsFrom]
    · cases A <;> simp [Builtin.append_, run_underlying ht, sizeOf, typeInfo, hi, Builtin.lenOf, Builtin.firstCells, hlc, storeCells, loadCells, loadCellsFrom]
  · have hadd : ∀ j, (⟨xg, xo, none⟩ : Addr).add j = ⟨xg, xo + j, none⟩ := fun j => by simp [Addr.add_lit]
    have hnews : ∀ j u, (K.encs m)[j]? = some u → w.cell? ((⟨xg, xo, none⟩ : Addr).add j) = some u := fun j u hu => by rw [hadd]; exact hxcell j u hu
    have hl : (K.encs m).length = m.length * i.size := by rw [K.length_encs, hsize]
    rcases hown with ⟨rfl, rfl⟩ | ⟨g, cap, cur, rfl, hb, hlc, hcm, hsz, htake⟩
    · by_cases hm : m.length = 0
      · obtain rfl : m = [] := List.eq_nil_of_length_eq_zero hm
        refine ⟨.slice none 0 0, w, ?_, Own.nil _ _ _, Kp.refl _ _, fun g hg => .inl hg⟩
        simp [Builtin.append_, run_underlying ht, sizeOf, typeInfo, hi, Builtin.lenOf, Builtin.firstCells, loadCells, loadCellsFrom]
      · have hr := run_append_nil (P := P) w t ty e i z ht hi hz ⟨xg, xo, none⟩ m.length xc (K.encs m) hl hnews (by omega) (by simp at hsmall; omega) (by simp at hbytes; omega)
        refine ⟨_, _, hr, ?_, (Kp.refl _ w).drew.alloc _, fun g hg => .inr (by simp [Value.ownBlock] at hg; omega)⟩
        exact own_grown z hzs m _ _ rfl (grownCap_ge w _ _ e) (grownCap_le_maxLen w _ _ e (by simp at h63; omega)) w
    · by_cases hroom : l.length + m.length ≤ cap
      · have hfit : l.length * i.size + (K.encs m).length ≤ cur.size := by rw [hl, hsz, hsize, ← Nat.add_mul]; exact Nat.mul_le_mul_right _ hroom
        have hr := run_append_room (P := P) w t ty e i ht hi g l.length cap cur hb ⟨xg, xo, none⟩ m.length xc (K.encs m) hl hnews (K.oneCell m) hroom hfit
        refine ⟨_, _, hr, ?_, (Kp.refl (fun k => some g = some k) w).setRow (fun _ => rfl) _, fun g hg => .inl hg⟩
        refine .inr ⟨g, cap, _, by simp, setRow_heap w g cur _ e _ hb, by simpa using hroom, hcm, ?_, ?_⟩
        · simp only [List.size_toArray, List.length_append, List.length_take, List.length_drop, Array.length_toList]
          omega
        · rw [hsize, htake, ← K.encs_append, List.length_append, ← List.length_append, ← K.length_encs]
          exact List.take_left
      · have holds : ∀ j u, (K.encs l)[j]? = some u → w.cell? ((⟨g, 0, none⟩ : Addr).add j) = some u := fun j u hu => by
          simp only [Addr.add_lit]
          exact Own.cells (.inr ⟨g, cap, cur, rfl, hb, hlc, hcm, hsz, htake⟩) g 0 _ cap rfl j u hu
        have hr := run_append_grow (P := P) w t ty e i z ht hi hz ⟨g, 0, none⟩ l.length cap (K.encs l) (by rw [K.length_encs, hsize]) holds ⟨xg, xo, none⟩ m.length xc (K.encs m) hl hnews (by omega) (by omega) (growslice_fits (by omega) hbytes)
        refine ⟨_, _, hr, ?_, (Kp.refl _ w).drew.alloc _, fun g hg => .inr (by simp [Value.ownBlock] at hg; omega)⟩
        have := own_grown (e := e) z hzs (l ++ m) (l.length + m.length) _ (by simp) (grownCap_ge w (l.length + m.length) cap e) (grownCap_le_maxLen w (l.length + m.length) cap e h63) w
        rw [K.encs_append, ← List.append_toArray] at this
        exact this
end

section
variable {α : Type} {K : Kd α} {P : Program} {t e : TypeId} {bytes : Nat}
/-- 's[:hi]' -/
theorem run_slice_hi (E : ElT P t e K bytes) (g o n cap hi : Nat) (h : hi ≤ cap) (x : Int) (hx : x = hi) (w : World) :
    (Instr.slice t (.slice (some ⟨g, o, none⟩) n cap) none (some (.int .i64 x)) none).run P w = .ok (.slice (some ⟨g, o, none⟩) hi cap) w := by
  subst hx
  obtain ⟨ht, i, z, hi', hz, hsize, hby, hzs⟩ := E
  simp [Instr.slice, Instr.sliceBounds, Instr.sliceBound, run_underlying ht, sizeOf, typeInfo, hi', asIntOf, h, Addr.add_lit]
/-- 's[lo:]' -/
theorem run_slice_lo (E : ElT P t e K bytes) (g o n cap lo : Nat) (h : lo ≤ n) (x : Int) (hx : x = lo) :
    ∃ o', (lo < cap → o' = o + lo * K.sz) ∧ ∀ w, (Instr.slice t (.slice (some ⟨g, o, none⟩) n cap) (some (.int .i64 x)) none none).run P w = .ok (.slice (some ⟨g, o', none⟩) (n - lo) (cap - lo)) w := by
  subst hx
  obtain ⟨ht, i, z, hi', hz, hsize, hby, hzs⟩ := E
  refine ⟨if cap = lo then o else o + lo * K.sz, fun hlt => if_neg (by omega), fun w => ?_⟩
  by_cases hc : cap = lo
  · subst hc; simp [Instr.slice, Instr.sliceBounds, Instr.sliceBound, run_underlying ht, sizeOf, typeInfo, hi', asIntOf, h]
  · simp [Instr.slice, Instr.sliceBounds, Instr.sliceBound, run_underlying ht, sizeOf, typeInfo, hi', asIntOf, h, hc, Addr.add_lit, hsize]
/-- 's[lo:hi]' -/
theorem run_slice_lohi (E : ElT P t e K bytes) (g o n cap lo hi : Nat) (h : lo ≤ hi) (h' : hi ≤ cap) (x y : Int) (hx : x = lo) (hy : y = hi) :
    ∃ o', (lo < cap → o' = o + lo * K.sz) ∧ ∀ w, (Instr.slice t (.slice (some ⟨g, o, none⟩) n cap) (some (.int .i64 x)) (some (.int .i64 y)) none).run P w = .ok (.slice (some ⟨g, o', none⟩) (hi - lo) (cap - lo)) w := by
  subst hx hy
  obtain ⟨ht, i, z, hi', hz, hsize, hby, hzs⟩ := E
  refine ⟨if cap = lo then o else o + lo * K.sz, fun hlt => if_neg (by omega), fun w => ?_⟩
  by_cases hc : cap = lo
  · subst hc; simp [Instr.slice, Instr.sliceBounds, Instr.sliceBound, run_underlying ht, sizeOf, typeInfo, hi', asIntOf, h, h']
  · simp [Instr.slice, Instr.sliceBounds, Instr.sliceBound, run_underlying ht, sizeOf, typeInfo, hi', asIntOf, h, h', hc, Addr.add_lit, hsize]
/-- 's[lo:hi:max]' -/
theorem run_slice_3 (E : ElT P t e K bytes) (g o n cap lo hi mx : Nat) (h : lo ≤ hi) (h' : hi ≤ mx) (h'' : mx ≤ cap) (x y z : Int) (hx : x = lo) (hy : y = hi) (hz : z = mx) :
    ∃ o', (lo < mx → o' = o + lo * K.sz) ∧ ∀ w, (Instr.slice t (.slice (some ⟨g, o, none⟩) n cap) (some (.int .i64 x)) (some (.int .i64 y)) (some (.int .i64 z))).run P w = .ok (.slice (some ⟨g, o', none⟩) (hi - lo) (mx - lo)) w := by
  subst hx hy hz
  obtain ⟨ht, i, z', hi', hz', hsize, hby, hzs⟩ := E
  refine ⟨if mx = lo then o else o + lo * K.sz, fun hlt => if_neg (by omega), fun w => ?_⟩
  by_cases hc : mx = lo
  · subst hc; simp [Instr.slice, Instr.sliceBounds, Instr.sliceBound, run_underlying ht, sizeOf, typeInfo, hi', asIntOf, h, h', h'']
  · simp [Instr.slice, Instr.sliceBounds, Instr.sliceBound, run_underlying ht, sizeOf, typeInfo, hi', asIntOf, h, h', h'', hc, Addr.add_lit, hsize]
/-- 's[lo:]', 's[:hi]' of nil. -/
theorem run_slice_nil_lo (E : ElT P t e K bytes) (w : World) : (Instr.slice t (.slice none 0 0) (some (.int .i64 0)) none none).run P w = .ok (.slice none 0 0) w := by
  obtain ⟨ht, i, z, hi', hz, hsize, hby, hzs⟩ := E
  simp [Instr.slice, Instr.sliceBounds, Instr.sliceBound, run_underlying ht, sizeOf, typeInfo, hi', asIntOf]
theorem run_slice_nil_hi (E : ElT P t e K bytes) (w : World) : (Instr.slice t (.slice none 0 0) none (some (.int .i64 0)) none).run P w = .ok (.slice none 0 0) w := by
  obtain ⟨ht, i, z, hi', hz, hsize, hby, hzs⟩ := E
  simp [Instr.slice, Instr.sliceBounds, Instr.sliceBound, run_underlying ht, sizeOf, typeInfo, hi', asIntOf]

/-- Slices of an empty one. -/
theorem slice_e_addr (A : Option Addr) (c n : Nat) : (if c = 0 then A else A.map (·.add (0 * n))) = A := by
  split
  · rfl
  · cases A <;> simp [Addr.add]
theorem run_slice_e_lo (E : ElT P t e K bytes) (A : Option Addr) (c : Nat) (w : World) : (Instr.slice t (.slice A 0 c) (some (.int .i64 0)) none none).run P w = .ok (.slice A 0 c) w := by
  obtain ⟨ht, i, z, hi', hz, hsize, hby, hzs⟩ := E
  have hA := slice_e_addr A c i.size
  simp only [Nat.zero_mul] at hA
  simp [Instr.slice, Instr.sliceBounds, Instr.sliceBound, run_underlying ht, sizeOf, typeInfo, hi', asIntOf, hA]
theorem run_slice_e_hi (E : ElT P t e K bytes) (A : Option Addr) (c : Nat) (w : World) : (Instr.slice t (.slice A 0 c) none (some (.int .i64 0)) none).run P w = .ok (.slice A 0 c) w := by
  obtain ⟨ht, i, z, hi', hz, hsize, hby, hzs⟩ := E
  have hA := slice_e_addr A c i.size
  simp only [Nat.zero_mul] at hA
  simp [Instr.slice, Instr.sliceBounds, Instr.sliceBound, run_underlying ht, sizeOf, typeInfo, hi', asIntOf, hA]
theorem run_slice_e_lohi (E : ElT P t e K bytes) (A : Option Addr) (c : Nat) (w : World) : (Instr.slice t (.slice A 0 c) (some (.int .i64 0)) (some (.int .i64 0)) none).run P w = .ok (.slice A 0 c) w := by
  obtain ⟨ht, i, z, hi', hz, hsize, hby, hzs⟩ := E
  have hA := slice_e_addr A c i.size
  simp only [Nat.zero_mul] at hA
  simp [Instr.slice, Instr.sliceBounds, Instr.sliceBound, run_underlying ht, sizeOf, typeInfo, hi', asIntOf, hA]

/-- 's[lo:]', as a list. -/
theorem Rd.from (E : ElT P t e K bytes) {w : World} {v : Value} {l : List α} (h : Rd K w v l) (p : Nat) (hp : p ≤ l.length) (x : Int) (hx : x = p) :
    ∃ v2, (∀ w', (Instr.slice t v (some (.int .i64 x)) none none).run P w' = .ok v2 w') ∧ Rd K w v2 (l.drop p) ∧ (∀ g, v2.ownBlock = some g → v.ownBlock = some g) := by
  rcases h with ⟨⟨A, c, rfl⟩, rfl⟩ | ⟨g, o, cap, rfl, h1, h2, h3⟩
  · obtain rfl : p = 0 := by simpa using hp
    subst hx
    exact ⟨_, fun w' => run_slice_e_lo E A c w', by simpa using Rd.empty K w A c, fun g hg => hg⟩
  · obtain ⟨o', ho', hs⟩ := run_slice_lo E g o l.length cap p hp x hx
    refine ⟨_, hs, .inr ⟨g, o', cap - p, by simp, by simp; omega, by omega, fun j u hu => ?_⟩, fun g' hg' => hg'⟩
    have hj := (List.getElem?_eq_some_iff.1 hu).1
    rw [K.length_encs, List.length_drop] at hj
    have hpl : p < cap := by
      rcases Nat.lt_or_ge p l.length with h | h
      · omega
      · rw [show l.length - p = 0 by omega, Nat.zero_mul] at hj; omega
    rw [ho' hpl, Nat.add_assoc]
    rw [← K.encs_drop, List.getElem?_drop] at hu
    exact h3 _ u hu

/-- Block g, of cap elements, begins with l. -/
def OwnB {α : Type} (K : Kd α) (e : TypeId) (w : World) (g cap : Nat) (l : List α) : Prop :=
  ∃ cur : Array Value, w.heap[g]? = some (.cells cur e (0, 0)) ∧ l.length ≤ cap ∧ cur.size = cap * K.sz ∧ cur.toList.take (l.length * K.sz) = K.encs l

theorem OwnB.own {α : Type} {K : Kd α} {e : TypeId} {w : World} {g cap : Nat} {l : List α} (h : OwnB K e w g cap l) (hm : cap ≤ maxLen) : Own K e w (.slice (some ⟨g, 0, none⟩) l.length cap) l :=
  let ⟨cur, h1, h2, h3, h4⟩ := h
  .inr ⟨g, cap, cur, rfl, h1, h2, hm, h3, h4⟩
theorem OwnB.take {α : Type} {K : Kd α} {e : TypeId} {w : World} {g cap : Nat} {l : List α} (h : OwnB K e w g cap l) (i : Nat) : OwnB K e w g cap (l.take i) := by
  obtain ⟨cur, h1, h2, h3, h4⟩ := h
  refine ⟨cur, h1, by simp; omega, h3, ?_⟩
  rw [← K.encs_take, ← h4, List.take_take]
  rcases Nat.le_total i l.length with hi | hi
  · rw [List.length_take, Nat.min_eq_left hi, Nat.min_eq_left (Nat.mul_le_mul_right _ hi)]
  · rw [List.length_take, Nat.min_eq_right hi, Nat.min_eq_right (Nat.mul_le_mul_right _ hi)]
theorem OwnB.lt {α : Type} {K : Kd α} {e : TypeId} {w : World} {g cap : Nat} {l : List α} (h : OwnB K e w g cap l) : g < w.heap.size := let ⟨_, h1, _⟩ := h; lt_of_block h1
theorem OwnB.drew {α : Type} {K : Kd α} {e : TypeId} {w : World} {g cap : Nat} {l : List α} (h : OwnB K e w g cap l) : OwnB K e w.drew g cap l := h
theorem OwnB.kp {α : Type} {K : Kd α} {e : TypeId} {w w' : World} {g cap : Nat} {l : List α} {S : Nat → Prop} (h : OwnB K e w g cap l) (hk : Kp S w w') (hn : ¬ S g) : OwnB K e w' g cap l :=
  let ⟨cur, h1, h2⟩ := h
  ⟨cur, hk.blk h1 hn, h2⟩
theorem OwnB.cells {α : Type} {K : Kd α} {e : TypeId} {w : World} {g cap : Nat} {l : List α} (h : OwnB K e w g cap l) : ∀ j u, (K.encs l)[j]? = some u → w.cell? ⟨g, j, none⟩ = some u := by
  obtain ⟨cur, h1, h2, h3, h4⟩ := h
  intro j u hu
  rw [blk_cell h1]
  rw [← h4, List.getElem?_take] at hu
  split at hu
  · simpa using hu
  · cases hu
theorem Own.b {α : Type} {K : Kd α} {e : TypeId} {w : World} {v : Value} {l : List α} (h : Own K e w v l) : (v = .slice none 0 0 ∧ l = []) ∨ ∃ g cap, v = .slice (some ⟨g, 0, none⟩) l.length cap ∧ cap ≤ maxLen ∧ l.length ≤ cap ∧ OwnB K e w g cap l := by
  rcases h with h | ⟨g, cap, cur, rfl, h1, h2, h3, h4⟩
  · exact .inl h
  · exact .inr ⟨g, cap, rfl, h3, h2, cur, h1, h2, h4⟩
/-- Elements are written into it. -/
theorem OwnB.write {α : Type} {K : Kd α} {e : TypeId} {w : World} {g cap : Nat} {l : List α} (h : OwnB K e w g cap l) (off : Nat) (m : List α) (ho : off ≤ l.length) (hfit : off + m.length ≤ cap) :
    ∃ cur : Array Value, w.heap[g]? = some (.cells cur e (0, 0)) ∧ (off + m.length) * K.sz ≤ cur.size ∧ cur.size = cap * K.sz ∧
      OwnB K e (w.setRow g (cur.toList.take (off * K.sz) ++ K.encs m ++ cur.toList.drop ((off + m.length) * K.sz)).toArray) g cap (l.take off ++ m ++ l.drop (off + m.length)) := by
  obtain ⟨cur, h1, h2, h3, h4⟩ := h
  have hle : (off + m.length) * K.sz ≤ cur.size := by rw [h3]; exact Nat.mul_le_mul_right _ hfit
  have hle0 : off * K.sz ≤ cur.size := Nat.le_trans (Nat.mul_le_mul_right _ (by omega)) hle
  refine ⟨cur, h1, hle, h3, _, setRow_heap w g cur _ e _ h1, by simp; omega, ?_, ?_⟩
  · simp only [List.size_toArray, List.length_append, List.length_take, List.length_drop, Array.length_toList, K.length_encs]
    rw [← h3]
    have := Nat.add_mul off m.length K.sz
    omega
  · have hA : cur.toList.take (off * K.sz) = K.encs (l.take off) := by
      rw [← K.encs_take, ← h4, List.take_take, Nat.min_eq_left (Nat.mul_le_mul_right _ ho)]
    simp only [K.encs_append, hA, List.append_assoc]
    have hl1 : (K.encs (l.take off)).length = off * K.sz := by rw [K.length_encs, List.length_take, Nat.min_eq_left ho]
    have hl2 : (K.encs m).length = m.length * K.sz := K.length_encs m
    have hlen : (l.take off ++ (m ++ l.drop (off + m.length))).length = off + m.length + (l.length - (off + m.length)) := by simp; omega
    rw [hlen, Nat.add_mul, Nat.add_mul, ← hl1, ← hl2, Nat.add_assoc, List.take_length_add_append, List.take_length_add_append, ← List.append_assoc, ← List.append_assoc]
    congr 1
    rw [← K.encs_drop, ← h4, List.drop_take, ← Nat.sub_mul, hl1, hl2, ← Nat.add_mul]
/-- ...and the same by copy, append and clear. -/
theorem OwnB.copied (E : ElT P t e K bytes) {w : World} {g cap off : Nat} {l : List α} (h : OwnB K e w g cap l) (m : List α) (ho : off ≤ l.length) (hfit : off + m.length ≤ cap) (o' dn dc : Nat) (sp : Option Addr) (sn sc : Nat) (hm : m.length = min sn dn) (ho' : 0 < m.length → o' = off * K.sz)
    (hsrc : 0 < m.length → ∃ sg so, sp = some ⟨sg, so, none⟩ ∧ ∀ j u, (K.encs m)[j]? = some u → w.cell? ⟨sg, so + j, none⟩ = some u) :
    ∃ w', (∀ ty, (Builtin.copy_ #[t, t] ty #[.slice (some ⟨g, o', none⟩) dn dc, .slice sp sn sc]).run P w = .ok (goInt m.length) w') ∧ OwnB K e w' g cap (l.take off ++ m ++ l.drop (off + m.length)) ∧ Kp (fun k => k = g) w w' := by
  obtain ⟨ht, i, z, hi', hz, hsize, hby, hzs⟩ := E
  have hmin : Nat.min sn dn = m.length := hm.symm
  by_cases h0 : m.length = 0
  · obtain rfl : m = [] := List.eq_nil_of_length_eq_zero h0
    have hmin' : Nat.min sn dn = 0 := hmin
    refine ⟨w, fun ty => ?_, by simpa using h, Kp.refl _ _⟩
    cases sp with
    | none => simp [Builtin.copy_, run_underlying ht, sizeOf, typeInfo, hi', Builtin.lenOf, hmin', Builtin.firstCells, storeCells]
    | some a => simp [Builtin.copy_, run_underlying ht, sizeOf, typeInfo, hi', Builtin.lenOf, hmin', Builtin.firstCells, loadCells, loadCellsFrom, storeCells]
  · obtain ⟨sg, so, rfl, hcell⟩ := hsrc (by omega)
    obtain rfl := ho' (by omega)
    obtain ⟨cur, hb, hle, hcs, hw⟩ := h.write off m ho hfit
    refine ⟨_, fun ty => ?_, hw, (Kp.refl (fun k => k = g) w).setRow (fun _ => rfl) _⟩
    have hl : (K.encs m).length = m.length * i.size := by rw [K.length_encs, hsize]
    have hf := run_firstCells_some (P := P) w i.size m.length ⟨sg, so, none⟩ sn sc (K.encs m) hl (fun j u hu => by simp only [Addr.add_lit]; exact hcell j u hu)
    have hst := run_storeCells_at P g (off * K.sz) e (K.encs m) 0 cur w hb (by rw [K.length_encs]; have := Nat.add_mul off m.length K.sz; simp; omega) (K.oneCell m)
    simp only [Nat.add_zero, K.length_encs, ← Nat.add_mul] at hst
    simp [Builtin.copy_, run_underlying ht, sizeOf, typeInfo, hi', Builtin.lenOf, hmin, hf, hst]
theorem OwnB.appended (E : ElT P t e K bytes) {w : World} {g cap : Nat} {l : List α} (h : OwnB K e w g cap l) (m : List α) (hfit : l.length + m.length ≤ cap) (n k r : Nat) (sp : Option Addr) (sc : Nat) (hn : n = l.length) (hk : k = m.length) (hr : r = l.length + m.length)
    (hsrc : 0 < m.length → ∃ sg so, sp = some ⟨sg, so, none⟩ ∧ ∀ j u, (K.encs m)[j]? = some u → w.cell? ⟨sg, so + j, none⟩ = some u) :
    ∃ w', (∀ ty, (Builtin.append_ #[t, t] ty #[.slice (some ⟨g, 0, none⟩) n cap, .slice sp k sc]).run P w = .ok (.slice (some ⟨g, 0, none⟩) r cap) w') ∧ OwnB K e w' g cap (l ++ m) ∧ Kp (fun k => k = g) w w' := by
  subst hn hk hr
  obtain ⟨ht, i, z, hi', hz, hsize, hby, hzs⟩ := E
  by_cases h0 : m.length = 0
  · obtain rfl : m = [] := List.eq_nil_of_length_eq_zero h0
    have hlc : l.length ≤ cap := by simpa using hfit
    refine ⟨w, fun ty => ?_, by simpa using h, Kp.refl _ _⟩
    cases sp with
    | none => simp [Builtin.append_, run_underlying ht, sizeOf, typeInfo, hi', Builtin.lenOf, Builtin.firstCells, storeCells, hlc]
    | some a => simp [Builtin.append_, run_underlying ht, sizeOf, typeInfo, hi', Builtin.lenOf, Builtin.firstCells, loadCells, loadCellsFrom, storeCells, hlc]
  · obtain ⟨sg, so, rfl, hcell⟩ := hsrc (by omega)
    obtain ⟨cur, hb, hle, hcs, hw⟩ := h.write l.length m (Nat.le_refl _) hfit
    simp only [List.take_length, List.drop_eq_nil_of_le (Nat.le_add_right l.length m.length), List.append_nil] at hw
    refine ⟨_, fun ty => ?_, hw, (Kp.refl (fun k => k = g) w).setRow (fun _ => rfl) _⟩
    have := run_append_room (P := P) w t ty e i ht hi' g l.length cap cur hb ⟨sg, so, none⟩ m.length sc (K.encs m) (by rw [K.length_encs, hsize]) (fun j u hu => by simp only [Addr.add_lit]; exact hcell j u hu) (K.oneCell m) hfit (by rw [K.length_encs, hsize, ← Nat.add_mul]; exact hle)
    rw [this, hsize, K.length_encs, ← Nat.add_mul]
theorem zero_encs (K : Kd α) (zc : Array Value) (z0 : α) (hz : zc.toList = K.enc z0) (k : Nat) : (Builtin.zeroCells zc k).toList = K.encs (List.replicate k z0) := by
  have hs : zc.size = K.sz := by rw [← K.len z0, ← hz]; simp
  have hp : 0 < zc.size := by rw [hs]; exact K.pos
  apply List.ext_getElem?
  intro j
  by_cases hj : j < k * zc.size
  · have hq : j / zc.size < k := by rw [Nat.div_lt_iff_lt_mul hp]; exact hj
    have h1 := K.encs_get (List.replicate k z0) (j / zc.size) (j % zc.size) z0 (by simp [hq]) (by rw [← hs]; exact Nat.mod_lt _ hp)
    rw [← hs, Nat.div_add_mod' j zc.size] at h1
    rw [h1, ← hz]
    simp only [Builtin.zeroCells, Array.toList_map, Array.toList_range, List.getElem?_map]
    rw [List.getElem?_range hj, Option.map_some, getElem!_pos zc _ (Nat.mod_lt _ hp)]
    simp [Nat.mod_lt _ hp]
  · rw [List.getElem?_eq_none (by rw [Array.length_toList, size_zeroCells]; omega), List.getElem?_eq_none (by rw [K.length_encs, List.length_replicate, ← hs]; omega)]
/-- 'append(s[:i], make([]T, k)...)' that grows. -/
theorem OwnB.appendMake (E : ElT P t e K bytes) (z0 : α) (hz0 : ∀ z, (P.info? e).bind (·.zero) = some z → z.cells.toList = K.enc z0) (ti : TypeId) (hti : P.underlying ti = some (.int .i64)) {w : World} {g cap : Nat} {l : List α} (h : OwnB K e w g cap l) (k n r : Nat) (hn : n = l.length) (hr : r = l.length + k) (hgrow : cap < l.length + k)
    (h63 : l.length + k ≤ 1000000000000) (hbytes : (l.length + k) * bytes ≤ 140737488355328) (hc : cap ≤ maxLen) (kx : Int) (hk : kx = k) :
    ∃ w' cap', (∀ ty, (Builtin.append_ #[t, ti] ty #[.slice (some ⟨g, 0, none⟩) n cap, .int .i64 kx]).run P w = .ok (.slice (some ⟨w.heap.size, 0, none⟩) r cap') w') ∧ OwnB K e w' w.heap.size cap' (l ++ List.replicate k z0) ∧ cap' ≤ maxLen ∧ Kp No w w' := by
  subst hn hr hk
  obtain ⟨ht, i, z, hi', hz, hsize, hby, hzs⟩ := E
  have hzl : z.cells.toList = K.enc z0 := hz0 z (by simp [hi', hz])
  have hcells : (K.encs l).length = l.length * i.size := by rw [K.length_encs, hsize]
  have hlc := h.choose_spec.2.1
  have hf := run_firstCells_some (P := P) w.drew i.size l.length ⟨g, 0, none⟩ l.length cap (K.encs l) hcells (fun j u hu => by simp only [Addr.add_lit, Nat.zero_add]; exact h.drew.cells j u hu)
  have hzc : (Builtin.zeroCells z.cells k).toList = K.encs (List.replicate k z0) := zero_encs K z.cells z0 hzl k
  have hge := grownCap_ge w (l.length + k) cap e
  have hle := grownCap_le_maxLen w (l.length + k) cap e (by unfold maxLen; omega)
  have hfit := growslice_fits hgrow hbytes
  have hnn : ¬ (281474976710656 : Int) < (k : Int) * i.bytes := by
    have : k * i.bytes ≤ (l.length + k) * i.bytes := Nat.mul_le_mul_right _ (by omega)
    rw [hby] at this
    have h2 : k * i.bytes ≤ 140737488355328 := by rw [hby]; omega
    intro h3
    have h4 : ((k * i.bytes : Nat) : Int) = (k : Int) * i.bytes := by simp
    omega
  refine ⟨w.drew.alloc (.cells ((K.encs l).toArray ++ Builtin.zeroCells z.cells k ++ Builtin.zeroCells z.cells (grownCap w (l.length + k) cap e - (l.length + k))) e), grownCap w (l.length + k) cap e, fun ty => ?_, ?_, hle, (Kp.refl _ w).drew.alloc _⟩
  · have hk1 : IntKind.i64.wrap (k : Int) = (k : Int) := IntWalk.i64_in _ (by omega)
    have hk2 : ¬ ((k : Int) < 0) := by omega
    have hk3 : ¬ (9223372036854775807 : Int) < (l.length : Int) + (k : Int) := by omega
    have hroom : ¬ l.length + k ≤ cap := by omega
    have hfit' : ¬ 281474976710656 < Builtin.nextslicecap (l.length + k) cap * i.bytes := by rw [hby]; omega
    have hkp : 0 < k := by omega
    have hkz : ¬ k * i.size = 0 := by rw [hsize]; exact Nat.ne_of_gt (Nat.mul_pos hkp K.pos)
    have hkz1 : ¬ k = 0 := by omega
    have hkz2 : ¬ i.size = 0 := by rw [hsize]; exact Nat.ne_of_gt K.pos
    simp [Builtin.append_, run_underlying ht, run_underlying hti, sizeOf, typeInfo, hi', Builtin.lenOf, asInt, asIntOf, hk1, hk2, hk3, hnn, hroom, hfit', hkz1, hkz2, Question.forced, hf, newRow, grownCap, zeroValue, hz]
    exact fun h => absurd h hkz
  · refine ⟨_, blk_new w.drew _, by simp; omega, ?_, ?_⟩
    · simp only [Array.size_append, List.size_toArray, size_zeroCells, hzs, K.length_encs, ← Nat.add_mul]
      congr 1; omega
    · simp only [Array.toList_append, hzc, ← K.encs_append, List.append_assoc]
      rw [← K.length_encs]
      exact List.take_left
theorem OwnB.cleared (E : ElT P t e K bytes) (hz1 : ∀ z, (P.info? e).bind (·.zero) = some z → ∀ v ∈ z.cells.toList, v.oneCell' = true) {w : World} {g cap : Nat} {l : List α} (h : OwnB K e w g cap l) (o' n c : Nat) (ho : 0 < n → o' = l.length * K.sz) (hfit : l.length + n ≤ cap) :
    ∃ w', (∀ ty, (Builtin.clear_ #[t] ty #[.slice (some ⟨g, o', none⟩) n c]).run P w = .ok (.tuple #[]) w') ∧ OwnB K e w' g cap l ∧ Kp (fun k => k = g) w w' := by
  obtain ⟨ht, i, z, hi', hz, hsize, hby, hzs⟩ := E
  by_cases h0 : n = 0
  · subst h0
    exact ⟨w, fun ty => by simp [Builtin.clear_, run_underlying ht], h, Kp.refl _ _⟩
  obtain rfl := ho (by omega)
  have hone := hz1 z (by simp [hi', hz])
  have hlen : (Builtin.zeroCells z.cells n).toList.length = n * K.sz := by rw [Array.length_toList, size_zeroCells, hzs]
  have hall : ∀ v ∈ (Builtin.zeroCells z.cells n).toList, v.oneCell' = true := by
    intro v hv
    simp only [Builtin.zeroCells, Array.toList_map, List.mem_map] at hv
    obtain ⟨j, _, rfl⟩ := hv
    have hj : j % z.cells.size < z.cells.size := Nat.mod_lt _ (by rw [hzs]; exact K.pos)
    rw [getElem!_pos z.cells _ hj]
    exact hone _ (by simp)
  obtain ⟨cur, h1, h2, h3, h4⟩ := h
  have hle : (l.length + n) * K.sz ≤ cur.size := by rw [h3]; exact Nat.mul_le_mul_right _ hfit
  have hst := run_storeCells_at P g (l.length * K.sz) e (Builtin.zeroCells z.cells n).toList 0 cur w h1 (by rw [hlen]; have := Nat.add_mul l.length n K.sz; simp; omega) hall
  simp only [Nat.add_zero, hlen] at hst
  generalize hcs : (cur.toList.take (l.length * K.sz) ++ (Builtin.zeroCells z.cells n).toList ++ cur.toList.drop (l.length * K.sz + n * K.sz)).toArray = cs at hst
  refine ⟨w.setRow g cs, fun ty => ?_, ⟨cs, setRow_heap w g cur cs e _ h1, h2, ?_, ?_⟩, (Kp.refl (fun k => k = g) w).setRow (fun _ => rfl) _⟩
  · obtain ⟨n, rfl⟩ : ∃ m, n = m + 1 := ⟨n - 1, by omega⟩
    simp [Builtin.clear_, run_underlying ht, zeroValue, typeInfo, hi', hz, hst]
  · subst hcs
    simp only [List.size_toArray, List.length_append, List.length_take, List.length_drop, Array.length_toList, hlen]
    have := Nat.add_mul l.length n K.sz
    omega
  · subst hcs
    simp only [List.append_assoc]
    rw [List.take_append_of_le_length (by have := Nat.add_mul l.length n K.sz; simp; omega), List.take_take, Nat.min_self, h4]
end

/-- The step law of append, for the walk. -/
theorem wpl_append {α : Type} {K : Kd α} {P : Program} {t e : TypeId} {bytes : Nat} {w : World} (E : ElT P t e K bytes) {ops : Array Oper} {rest : List Oper} {o : Oper} {a : Act} {Q : Exit → Act → World → Prop} (hgd : o.guard = none) (s x : Operand)
    (ho : o.op = .call { callee := .builtin .append, args := #[s, x], argTypes := #[t, t] }) {v xv : Value} {l m : List α} (hs : a.eval s = v) (hxv : a.eval x = xv)
    (hown : Own K e w v l) (hx : Rd K w xv m) (h63 : l.length + m.length ≤ maxLen) (hbytes : (l.length + m.length) * bytes ≤ 140737488355328)
    (h : ∀ v' w', Own K e w' v' (l ++ m) → Kp (fun k => v.ownBlock = some k) w w' → (∀ g, v'.ownBlock = some g → v.ownBlock = some g ∨ w.heap.size ≤ g) → wpList P ops Q rest (a.put o.dst v') w') : wpList P ops Q (o :: rest) a w :=
  wpList_plain hgd fun _ hK => by
    obtain ⟨v', w', hr, h2, h3, h4⟩ := run_append E o.type hown hx h63 hbytes
    unfold Oper.wp execOp
    simp only [ho, resolve, invoke, builtin, Sem.run_bind, Sem.run_pure, Result.andThen_ok, List.map_toArray, List.map_cons, List.map_nil, hs, hxv, hr]
    exact hK _ _ (h v' w' h2 h3 h4)

/-- A builtin whose run is known. -/
theorem wpl_runAppend {P : Program} {w w' : World} {ops : Array Oper} {rest : List Oper} {o : Oper} {a : Act} {Q : Exit → Act → World → Prop} (hgd : o.guard = none) (s x : Operand) (t u : TypeId)
    (ho : o.op = .call { callee := .builtin .append, args := #[s, x], argTypes := #[t, u] }) {v xv v' : Value} (hs : a.eval s = v) (hxv : a.eval x = xv)
    (hr : ∀ ty, (Builtin.append_ #[t, u] ty #[v, xv]).run P w = .ok v' w') (h : wpList P ops Q rest (a.put o.dst v') w') : wpList P ops Q (o :: rest) a w :=
  wpList_plain hgd fun _ hK => by
    unfold Oper.wp execOp
    simp only [ho, resolve, invoke, builtin, Sem.run_bind, Sem.run_pure, Result.andThen_ok, List.map_toArray, List.map_cons, List.map_nil, hs, hxv, hr]
    exact hK _ _ h
theorem wpl_runCopy {P : Program} {w w' : World} {ops : Array Oper} {rest : List Oper} {o : Oper} {a : Act} {Q : Exit → Act → World → Prop} (hgd : o.guard = none) (s x : Operand) (t u : TypeId)
    (ho : o.op = .call { callee := .builtin .copy, args := #[s, x], argTypes := #[t, u] }) {v xv v' : Value} (hs : a.eval s = v) (hxv : a.eval x = xv)
    (hr : ∀ ty, (Builtin.copy_ #[t, u] ty #[v, xv]).run P w = .ok v' w') (h : wpList P ops Q rest (a.put o.dst v') w') : wpList P ops Q (o :: rest) a w :=
  wpList_plain hgd fun _ hK => by
    unfold Oper.wp execOp
    simp only [ho, resolve, invoke, builtin, Sem.run_bind, Sem.run_pure, Result.andThen_ok, List.map_toArray, List.map_cons, List.map_nil, hs, hxv, hr]
    exact hK _ _ h
theorem wpl_runClear {P : Program} {w w' : World} {ops : Array Oper} {rest : List Oper} {o : Oper} {a : Act} {Q : Exit → Act → World → Prop} (hgd : o.guard = none) (s : Operand) (t : TypeId)
    (ho : o.op = .call { callee := .builtin .clear, args := #[s], argTypes := #[t] }) {v v' : Value} (hs : a.eval s = v)
    (hr : ∀ ty, (Builtin.clear_ #[t] ty #[v]).run P w = .ok v' w') (h : wpList P ops Q rest (a.put o.dst v') w') : wpList P ops Q (o :: rest) a w :=
  wpList_plain hgd fun _ hK => by
    unfold Oper.wp execOp
    simp only [ho, resolve, invoke, builtin, Sem.run_bind, Sem.run_pure, Result.andThen_ok, List.map_toArray, List.map_cons, List.map_nil, hs, hr]
    exact hK _ _ h
end Go.Proofs.YtmipnicdlldjnaaGreatDoor

namespace Go.Proofs.YtmipnicdlldjnaaGreatDoor
set_option linter.unusedVariables false
set_option linter.unusedSimpArgs false
open Go.RowKit

/-- A string's byte. -/
def bt (s : ByteArray) (i : Nat) : Nat := if h : i < s.size then (s[i]'h).toNat else 0
theorem bt_lt (s : ByteArray) (i : Nat) : bt s i < 256 := by unfold bt; split; exact UInt8.toNat_lt _; decide
theorem bt_at (s : ByteArray) (i : Nat) (h : i < s.size) : (s[i]'h).toNat = bt s i := by unfold bt; rw [dif_pos h]
theorem bt_atI (s : ByteArray) (i : Nat) (h : (i : Int).toNat < s.size) : (s[(i : Int).toNat]'h).toNat = bt s i := bt_at s i h

structure Flr where
  W : Int
  H : Int
  s : ByteArray
def Flr.val (f : Flr) : Value := .agg #[.int .i64 f.W, .int .i64 f.H, .string f.s]
def kindB (c : Nat) : Nat := if c = 35 then 1 else if 97 ≤ c ∧ c ≤ 122 then 2 else if 48 ≤ c ∧ c < 56 then 3 else 0
theorem kindB_le (c : Nat) : kindB c ≤ 3 := by unfold kindB; split; decide; split; decide; split <;> decide
def Flr.kd (f : Flr) (i : Nat) : Nat := kindB (bt f.s i)

/-- What is beside a cell: above, right, below, left. -/
def besideP (W H c : Nat) : List Nat := (if 0 < c / W then [c - W] else []) ++ (if c % W + 1 < W then [c + 1] else []) ++ (if c / W + 1 < H then [c + W] else []) ++ (if 0 < c % W then [c - 1] else [])
def ints (l : List Nat) : List Int := l.map fun (x : Nat) => (x : Int)
/-- The k-th direction's. -/
def bsPart (W H c : Nat) : Nat → List Nat
  | 0 => if 0 < c / W then [c - W] else []
  | 1 => if c % W + 1 < W then [c + 1] else []
  | 2 => if c / W + 1 < H then [c + W] else []
  | 3 => if 0 < c % W then [c - 1] else []
  | _ => []
def bsA (W H c k : Nat) : List Nat := (List.range k).flatMap (bsPart W H c)
theorem bsA_succ (W H c k : Nat) : bsA W H c (k + 1) = bsA W H c k ++ bsPart W H c k := by unfold bsA; rw [List.range_succ, List.flatMap_append]; simp
theorem bsA_four (W H c : Nat) : bsA W H c 4 = besideP W H c := by
  rw [bsA_succ, bsA_succ, bsA_succ, bsA_succ]
  simp [bsA, bsPart, besideP]
theorem bsPart_len (W H c k : Nat) : (bsPart W H c k).length ≤ 1 := by unfold bsPart; split <;> first | (split <;> simp) | simp
theorem bsA_len (W H c k : Nat) : (bsA W H c k).length ≤ k := by
  induction k with
  | zero => simp [bsA]
  | succ k ih => rw [bsA_succ, List.length_append]; have := bsPart_len W H c k; omega
theorem ints_len (l : List Nat) : (ints l).length = l.length := by simp [ints]
theorem ints_app (a b : List Nat) : ints (a ++ b) = ints a ++ ints b := by simp [ints]
end Go.Proofs.YtmipnicdlldjnaaGreatDoor

namespace Go.Proofs.YtmipnicdlldjnaaGreatDoor
set_option linter.unusedVariables false
set_option linter.unusedSimpArgs false
open Go.RowKit

def kdS (s : ByteArray) (i : Nat) : Nat := kindB (bt s i)
def laneI (s : ByteArray) (i : Nat) : Prop := i < s.size ∧ kdS s i = 2
instance (s : ByteArray) (i : Nat) : Decidable (laneI s i) := inferInstanceAs (Decidable (_ ∧ _))
theorem beside_mem {W H c j : Nat} : j ∈ besideP W H c ↔ (0 < c / W ∧ j = c - W) ∨ (c % W + 1 < W ∧ j = c + 1) ∨ (c / W + 1 < H ∧ j = c + W) ∨ (0 < c % W ∧ j = c - 1) := by
  unfold besideP
  simp only [List.mem_append]
  constructor
  · rintro (((h | h) | h) | h)
    all_goals
      split at h
      · simp at h; simp [*]
      · simp at h
  · rintro (⟨h, rfl⟩ | ⟨h, rfl⟩ | ⟨h, rfl⟩ | ⟨h, rfl⟩)
    · exact .inl (.inl (.inl (by simp [h])))
    · exact .inl (.inl (.inr (by simp [h])))
    · exact .inl (.inr (by simp [h]))
    · exact .inr (by simp [h])
theorem beside_lt {W H c j : Nat} (hW : 1 ≤ W) (hc : c < W * H) (h : j ∈ besideP W H c) : j < W * H := by
  have hm := Nat.div_add_mod c W
  have hl := Nat.mod_lt c hW
  rcases beside_mem.1 h with ⟨_, rfl⟩ | ⟨h1, rfl⟩ | ⟨h1, rfl⟩ | ⟨_, rfl⟩
  · omega
  · have : c / W < H := Nat.div_lt_of_lt_mul hc
    have h2 : W * (c / W + 1) ≤ W * H := Nat.mul_le_mul_left W this
    rw [Nat.mul_add] at h2
    omega
  · have h2 : W * (c / W + 1 + 1) ≤ W * H := Nat.mul_le_mul_left W h1
    rw [Nat.mul_add, Nat.mul_add] at h2
    omega
  · omega
theorem beside_symm {W H c j : Nat} (hW : 1 ≤ W) (hc : c < W * H) (h : j ∈ besideP W H c) : c ∈ besideP W H j := by
  have hm := Nat.div_add_mod c W
  have hl := Nat.mod_lt c hW
  have hdc : c / W < H := Nat.div_lt_of_lt_mul hc
  rw [beside_mem]
  rcases beside_mem.1 h with ⟨h1, rfl⟩ | ⟨h1, rfl⟩ | ⟨h1, rfl⟩ | ⟨h1, rfl⟩
  · have h2 : W * 1 ≤ W * (c / W) := Nat.mul_le_mul_left W h1
    have h3 : (c - W) / W + 1 = c / W := by
      have : c = (c - W) + W := by omega
      conv => rhs; rw [this, Nat.add_div_right _ hW]
    exact .inr (.inr (.inl ⟨by omega, by omega⟩))
  · have h3 : (c + 1) % W = c % W + 1 := by
      rw [Nat.add_mod, Nat.mod_eq_of_lt (a := c % W + 1 % W)]
      · by_cases h : W = 1
        · omega
        · rw [Nat.mod_eq_of_lt (by omega : 1 < W)]
      · by_cases h : W = 1
        · omega
        · rw [Nat.mod_eq_of_lt (by omega : 1 < W)]; omega
    exact .inr (.inr (.inr ⟨by omega, by omega⟩))
  · exact .inl ⟨Nat.div_pos (Nat.le_add_left W c) hW, by omega⟩
  · have h3 : (c - 1) % W + 1 = c % W := by
      have e : c - 1 = W * (c / W) + (c % W - 1) := by omega
      rw [e, Nat.mul_add_mod, Nat.mod_eq_of_lt (by omega)]; omega
    exact .inr (.inl ⟨by omega, by omega⟩)
theorem beside_ne {W H c : Nat} (hW : 1 ≤ W) : c ∉ besideP W H c := by
  intro h
  have hm := Nat.div_add_mod c W
  rcases beside_mem.1 h with ⟨h1, e⟩ | ⟨h1, e⟩ | ⟨h1, e⟩ | ⟨h1, e⟩
  · have h2 : W * 1 ≤ W * (c / W) := Nat.mul_le_mul_left W h1
    omega
  · omega
  · omega
  · have := Nat.mod_le c W; omega

/-- j is reached from i, through lanes. -/
inductive Conn (W H : Nat) (s : ByteArray) (i : Nat) : Nat → Prop
  | refl : Conn W H s i i
  | step {j k : Nat} : Conn W H s i j → k ∈ besideP W H j → laneI s k → Conn W H s i k
section
variable {W H i j k : Nat} {s : ByteArray}
theorem Conn.trans (h : Conn W H s i j) (g : Conn W H s j k) : Conn W H s i k := by
  induction g with
  | refl => exact h
  | step _ h1 h2 ih => exact .step ih h1 h2
theorem Conn.lane (h : Conn W H s i j) (hi : laneI s i) : laneI s j := by cases h with | refl => exact hi | step _ _ h => exact h
theorem Conn.symm (hW : 1 ≤ W) (hl : s.size = W * H) (h : Conn W H s i j) (hi : laneI s i) : Conn W H s j i := by
  induction h with
  | refl => exact .refl
  | step h0 h1 h2 ih =>
    have hj := h0.lane hi
    exact (Conn.step .refl (beside_symm hW (by rw [← hl]; exact hj.1) h1) hj).trans ih
/-- Whatever holds where the way begins, and goes on to lanes beside, holds where it comes. -/
theorem Conn.closed {p : Nat → Prop} (h : Conn W H s i j) (h0 : p i) (hs : ∀ j k, p j → k ∈ besideP W H j → laneI s k → p k) : p j := by
  induction h with
  | refl => exact h0
  | step _ h1 h2 ih => exact hs _ _ ih h1 h2
end
def joinedP (W H : Nat) (s : ByteArray) : Prop := (∃ i, laneI s i) ∧ ∀ i j, laneI s i → laneI s j → Conn W H s i j
theorem joined_one {W H l : Nat} {s : ByteArray} (hW : 1 ≤ W) (hs : s.size = W * H) (hl : laneI s l) : joinedP W H s ↔ ∀ j, laneI s j → Conn W H s l j :=
  ⟨fun h j hj => h.2 l j hl hj, fun h => ⟨⟨l, hl⟩, fun i j hi hj => ((h i hi).symm hW hs hl).trans (h j hj)⟩⟩

/-! ### Docks -/
structure DocksL (s : ByteArray) (ds : List Nat) : Prop where
  ne : ds ≠ []
  at_ : ∀ r i, ds[r]? = some i → i < s.size ∧ kdS s i = 3 ∧ bt s i = 48 + r
  all : ∀ i, i < s.size → kdS s i = 3 → ds[bt s i - 48]? = some i
theorem kd_dock {c : Nat} (h : kindB c = 3) : 48 ≤ c ∧ c < 56 := by
  unfold kindB at h
  split at h
  · cases h
  · split at h
    · cases h
    · split at h
      · assumption
      · cases h
theorem kd_lane {c : Nat} (h : kindB c = 2) : 97 ≤ c ∧ c ≤ 122 := by
  unfold kindB at h
  split at h
  · cases h
  · split at h
    · assumption
    · split at h <;> cases h
theorem kd_wall {c : Nat} (h : kindB c = 1) : c = 35 := by
  unfold kindB at h
  split at h
  · assumption
  · split at h
    · cases h
    · split at h <;> cases h
theorem DocksL.uniq {s : ByteArray} {a b : List Nat} (ha : DocksL s a) (hb : DocksL s b) : a = b := by
  have key : ∀ {a b : List Nat}, DocksL s a → DocksL s b → ∀ r i : Nat, a[r]? = some i → b[r]? = some i := by
    intro a b ha hb r i h
    obtain ⟨h1, h2, h3⟩ := ha.at_ r i h
    have := hb.all i h1 h2
    rwa [h3, Nat.add_sub_cancel_left] at this
  apply List.ext_getElem?
  intro r
  cases h : a[r]? with
  | some i => exact (key ha hb r i h).symm
  | none =>
    cases h' : b[r]? with
    | none => rfl
    | some i => rw [key hb ha r i h'] at h; cases h
theorem DocksL.len {s : ByteArray} {ds : List Nat} (h : DocksL s ds) : ds.length ≤ 8 := by
  rcases Nat.lt_or_ge 8 ds.length with hl | hl
  · obtain ⟨h1, h2, h3⟩ := h.at_ 8 _ (List.getElem?_eq_getElem hl)
    have := kd_dock h2
    unfold kdS at h2
    omega
  · exact hl

/-- Which floors may be. -/
structure RightP (f : Flr) : Prop where
  w1 : 1 ≤ f.W
  w2 : f.W ≤ 16
  h1 : 1 ≤ f.H
  h2 : f.H ≤ 16
  len : (f.s.size : Int) = f.W * f.H
  kinds : ∀ i, i < f.s.size → kdS f.s i ≠ 0
  docks : ∃ ds, DocksL f.s ds
  join : joinedP f.W.toNat f.H.toNat f.s
  by_ : ∀ i, i < f.s.size → kdS f.s i = 3 → ∃ j ∈ besideP f.W.toNat f.H.toNat i, laneI f.s j
open Classical in
noncomputable def rightB (f : Flr) : Bool := decide (RightP f)
open Classical in
theorem rightB_t {f : Flr} (h : RightP f) : rightB f = true := by unfold rightB; exact decide_eq_true h
open Classical in
theorem rightB_f {f : Flr} (h : ¬ RightP f) : rightB f = false := by unfold rightB; exact decide_eq_false h
theorem rightB_iff {f : Flr} : rightB f = true ↔ RightP f := by unfold rightB; simp
end Go.Proofs.YtmipnicdlldjnaaGreatDoor

namespace Go.Proofs.YtmipnicdlldjnaaGreatDoor
set_option linter.unusedVariables false
set_option linter.unusedSimpArgs false
open Go.RowKit

/-- Behind k cells: a: at its number, where each dock is (and one more); n: how many. -/
structure DkI (s : ByteArray) (k : Nat) (a : List Nat) (n : Nat) : Prop where
  len : a.length = 8
  sound : ∀ r i : Nat, a[r]? = some (i + 1) → i < k ∧ kdS s i = 3 ∧ bt s i = 48 + r
  full : ∀ i, i < k → kdS s i = 3 → a[bt s i - 48]? = some (i + 1)
  cnt : n = (a.filter fun x => x != 0).length
theorem filter_set (a : List Nat) : ∀ (r x : Nat), a[r]? = some 0 → x ≠ 0 → ((a.set r x).filter fun x => x != 0).length = (a.filter fun x => x != 0).length + 1 := by
  induction a with
  | nil => intro r x h; simp at h
  | cons y ys ih =>
    intro r x h hx
    rcases r with _ | r
    · simp at h; subst h; simp [hx]
    · simp at h
      have := ih r x h hx
      simp only [List.set_cons_succ, List.filter_cons]
      split <;> simp [this]
section
variable {s : ByteArray} {k n : Nat} {a : List Nat}
theorem DkI.start (s : ByteArray) : DkI s 0 (List.replicate 8 0) 0 := ⟨rfl, fun r i h => by
    rw [List.getElem?_replicate] at h
    split at h <;> simp at h, fun i h => by omega, rfl⟩
theorem DkI.n8 (h : DkI s k a n) : n ≤ 8 := by rw [h.cnt, ← h.len]; exact List.length_filter_le _ _
theorem DkI.skip (h : DkI s k a n) (hk : kdS s k ≠ 3) : DkI s (k + 1) a n :=
  ⟨h.len, fun r i e => by have := h.sound r i e; exact ⟨by omega, this.2⟩, fun i hi h3 => by
    rcases Nat.lt_or_ge i k with h4 | h4
    · exact h.full i h4 h3
    · obtain rfl : i = k := by omega
      exact absurd h3 hk, h.cnt⟩
theorem DkI.take (h : DkI s k a n) {r : Nat} (hk : kdS s k = 3) (hr : bt s k = 48 + r) (h0 : a[r]? = some 0) : DkI s (k + 1) (a.set r (k + 1)) (n + 1) := by
  have hrl : r < a.length := (List.getElem?_eq_some_iff.1 h0).1
  refine ⟨by rw [List.length_set]; exact h.len, fun r' i e => ?_, fun i hi h3 => ?_, by rw [filter_set a r (k + 1) h0 (by omega), ← h.cnt]⟩
  · by_cases hrr : r = r'
    · subst hrr
      rw [List.getElem?_set_self hrl] at e
      simp at e; subst e; exact ⟨by omega, hk, hr⟩
    · rw [List.getElem?_set_ne hrr] at e
      have := h.sound r' i e; exact ⟨by omega, this.2⟩
  · rcases Nat.lt_or_ge i k with h4 | h4
    · have h5 := h.full i h4 h3
      rw [List.getElem?_set]
      by_cases hrr : r = bt s i - 48
      · rw [← hrr] at h5; rw [h0] at h5; simp at h5
      · rw [if_neg hrr]; exact h5
    · obtain rfl : i = k := by omega
      have : bt s i - 48 = r := by omega
      rw [this, List.getElem?_set, if_pos rfl, if_pos hrl]
theorem DkI.twice (h : DkI s k a n) (hks : k < s.size) {r x : Nat} (hk : kdS s k = 3) (hr : bt s k = 48 + r) (h0 : a[r]? = some (x + 1)) : ¬ ∃ ds, DocksL s ds := by
  rintro ⟨ds, hd⟩
  obtain ⟨h1, h2, h3⟩ := h.sound r x h0
  have e1 := hd.all k hks hk
  have e2 := hd.all x (by omega) h2
  rw [h3, ← hr, e1] at e2
  simp at e2
  omega
theorem DkI.shape (h : DkI s s.size a n) {ds : List Nat} (hd : DocksL s ds) : a = ds.map (· + 1) ++ List.replicate (8 - ds.length) 0 ∧ n = ds.length := by
  have hl := hd.len
  have ha : a = ds.map (· + 1) ++ List.replicate (8 - ds.length) 0 := by
    apply List.ext_getElem?
    intro r
    rcases Nat.lt_or_ge r ds.length with h1 | h1
    · rw [List.getElem?_append_left (by simpa using h1), List.getElem?_map]
      obtain ⟨h2, h3, h4⟩ := hd.at_ r _ (List.getElem?_eq_getElem h1)
      have := h.full _ h2 h3
      rw [h4, Nat.add_sub_cancel_left] at this
      rw [this, List.getElem?_eq_getElem h1]; rfl
    · rw [List.getElem?_append_right (by simpa using h1), List.getElem?_replicate, List.length_map]
      rcases Nat.lt_or_ge r 8 with h8 | h8
      · rw [if_pos (by omega)]
        have hra : r < a.length := by rw [h.len]; exact h8
        rw [List.getElem?_eq_getElem hra]
        rcases hx : a[r] with _ | x
        · rfl
        · exfalso
          obtain ⟨q1, q2, q3⟩ := h.sound r x (by rw [List.getElem?_eq_getElem hra, hx])
          have := hd.all x q1 q2
          rw [q3, Nat.add_sub_cancel_left] at this
          have := (List.getElem?_eq_some_iff.1 this).1
          omega
      · rw [if_neg (by omega), List.getElem?_eq_none (by rw [h.len]; exact h8)]
  refine ⟨ha, ?_⟩
  rw [h.cnt, ha, List.filter_append, List.length_append]
  have e1 : (ds.map (· + 1)).filter (fun x => x != 0) = ds.map (· + 1) := by
    rw [List.filter_eq_self]
    intro x hx
    obtain ⟨y, _, rfl⟩ := List.mem_map.1 hx
    simp
  have e2 : (List.replicate (8 - ds.length) 0).filter (fun x => x != 0) = [] := by
    rw [List.filter_eq_nil_iff]
    intro x hx
    rw [(List.mem_replicate.1 hx).2]; simp
  rw [e1, e2]; simp
theorem DkI.hole (h : DkI s s.size a n) {j : Nat} (hj : j < n) (h0 : a[j]? = some 0) : ¬ ∃ ds, DocksL s ds := by
  rintro ⟨ds, hd⟩
  obtain ⟨e1, e2⟩ := h.shape hd
  rw [e1, List.getElem?_append_left (by simp; omega), List.getElem?_map, List.getElem?_eq_getElem (by omega)] at h0
  simp at h0
theorem DkI.none (h : DkI s s.size a 0) : ¬ ∃ ds, DocksL s ds := by
  rintro ⟨ds, hd⟩
  have := (h.shape hd).2
  exact hd.ne (List.eq_nil_of_length_eq_zero this.symm)
theorem DkI.docks (h : DkI s s.size a n) (h0 : 0 < n) (hall : ∀ j, j < n → a[j]? ≠ some 0) : DocksL s ((a.take n).map (· - 1)) := by
  have hn8 := h.n8
  have hla := h.len
  have hrest : ∀ r : Nat, n ≤ r → ∀ x, a[r]? ≠ some (x + 1) := by
    intro r hr x e
    have h1 : a = a.take n ++ a.drop n := (List.take_append_drop n a).symm
    have h2 : (a.take n).filter (fun x => x != 0) = a.take n := by
      rw [List.filter_eq_self]
      intro y hy
      obtain ⟨j, hj⟩ := List.getElem?_of_mem hy
      rw [List.getElem?_take] at hj
      split at hj
      · rename_i hjn
        have := hall j hjn
        rw [hj] at this
        simpa using this
      · cases hj
    have h3 := h.cnt
    rw [h1, List.filter_append, h2, List.length_append, List.length_take, Nat.min_eq_left (by omega)] at h3
    have h4 : (a.drop n).filter (fun x => x != 0) = [] := List.eq_nil_of_length_eq_zero (by omega)
    rw [List.filter_eq_nil_iff] at h4
    have h5 : x + 1 ∈ a.drop n := by
      apply List.mem_of_getElem? (i := r - n)
      rw [List.getElem?_drop, show n + (r - n) = r by omega]; exact e
    have := h4 _ h5
    simp at this
  refine ⟨fun e => ?_, fun r i e => ?_, fun i hi h3 => ?_⟩
  · have h9 : ((a.take n).map (· - 1)).length = n := by rw [List.length_map, List.length_take]; omega
    rw [e] at h9; simp at h9; omega
  · rw [List.getElem?_map, List.getElem?_take] at e
    split at e
    · rename_i hr
      have hra : r < a.length := by omega
      have hne := hall r hr
      rw [List.getElem?_eq_getElem hra] at e hne
      simp at e hne
      exact h.sound r i (by rw [List.getElem?_eq_getElem hra]; congr 1; omega)
    · simp at e
  · have e := h.full i hi h3
    have hr : bt s i - 48 < n := by
      rcases Nat.lt_or_ge (bt s i - 48) n with h4 | h4
      · exact h4
      · exact absurd e (hrest _ h4 i)
    rw [List.getElem?_map, List.getElem?_take, if_pos hr, e]; rfl
end
end Go.Proofs.YtmipnicdlldjnaaGreatDoor

namespace Go.Proofs.YtmipnicdlldjnaaGreatDoor
set_option linter.unusedVariables false
set_option linter.unusedSimpArgs false
open Go.RowKit

section
variable {α : Type} {K : Kd α} {P : Program} {t e : TypeId} {bytes : Nat}
/-- 's[:hi]', as a list. -/
theorem Rd.upto (E : ElT P t e K bytes) {w : World} {v : Value} {l : List α} (h : Rd K w v l) (p : Nat) (hp : p ≤ l.length) (x : Int) (hx : x = p) :
    ∃ v2, (∀ w', (Instr.slice t v none (some (.int .i64 x)) none).run P w' = .ok v2 w') ∧ Rd K w v2 (l.take p) ∧ (∀ g, v2.ownBlock = some g → v.ownBlock = some g) := by
  rcases h with ⟨⟨A, c, rfl⟩, rfl⟩ | ⟨g, o, cap, rfl, h1, h2, h3⟩
  · obtain rfl : p = 0 := by simpa using hp
    subst hx
    exact ⟨_, fun w' => run_slice_e_hi E A c w', by simpa using Rd.empty K w A c, fun g hg => hg⟩
  · refine ⟨_, run_slice_hi E g o l.length cap p (by omega) x hx, .inr ⟨g, o, cap, by simp [Nat.min_eq_left hp], by simp; omega, h2, fun j u hu => ?_⟩, fun g' hg' => hg'⟩
    rw [← K.encs_take, List.getElem?_take] at hu
    split at hu
    · exact h3 j u hu
    · exact absurd hu (by simp)

/-- v reads as l, and lies in memory that is newer than w0. -/
structure NewS (K : Kd α) (e : TypeId) (w0 w : World) (v : Value) (l : List α) : Prop where
  own : Own K e w v l
  ge : ∀ g, v.ownBlock = some g → w0.heap.size ≤ g
  kp : Kp No w0 w
theorem NewS.nil (K : Kd α) (e : TypeId) (w : World) : NewS K e w w (.slice none 0 0) [] := ⟨Own.nil _ _ _, by simp [Value.ownBlock], Kp.refl _ _⟩
theorem NewS.kpNo {w0 w w' : World} {v : Value} {l : List α} (h : NewS K e w0 w v l) (hk : Kp No w w') : NewS K e w0 w' v l := ⟨h.own.kpNo hk, h.ge, h.kp.no hk⟩
theorem NewS.alloc {w0 w : World} {v : Value} {l : List α} (h : NewS K e w0 w v l) (o : Obj) : NewS K e w0 (w.alloc o) v l := h.kpNo ((Kp.refl _ _).alloc _)
theorem NewS.app {w0 w w1 w' : World} {v v' : Value} {l l' : List α} {n : Nat} (h : NewS K e w0 w v l) (hk : Kp No w w1) (k1 : Own K e w' v' l') (k2 : Kp (fun k => v.ownBlock = some k) w1 w') (k3 : ∀ g, v'.ownBlock = some g → v.ownBlock = some g ∨ n ≤ g) (hn : w.heap.size ≤ n) : NewS K e w0 w' v' l' := by
  have hs := h.kp.size
  have hs2 := hk.size
  refine ⟨k1, fun g hg => ?_, (h.kp.no hk).trans' k2 fun j hj e => ?_⟩
  · rcases k3 g hg with e | e
    · exact h.ge g e
    · omega
  · have := h.ge j e; omega
theorem NewS.app2 {w0 w w1 w' : World} {v v' : Value} {l l' : List α} {n : Nat} (k1 : Own K e w' v' l') (k2 : Kp (fun k => v.ownBlock = some k) w1 w') (k3 : ∀ g, v'.ownBlock = some g → v.ownBlock = some g ∨ n ≤ g) (hk : Kp No w w1) (h : NewS K e w0 w v l) (hn : w.heap.size ≤ n) : NewS K e w0 w' v' l' := h.app hk k1 k2 k3 hn
theorem NewS.empty (K : Kd α) (e : TypeId) (w : World) : NewS K e w (w.alloc (.cells #[] e)) (.slice (some ⟨w.heap.size, 0, none⟩) 0 0) ([] : List α) :=
  ⟨Own.lit K e w [] [] rfl (by simp), fun g hg => by simp [Value.ownBlock] at hg; omega, (Kp.refl _ _).alloc _⟩
end

end Go.Proofs.YtmipnicdlldjnaaGreatDoor

namespace Go.Proofs.YtmipnicdlldjnaaGreatDoor
set_option linter.unusedVariables false
set_option linter.unusedSimpArgs false
open Go.RowKit

/-- An int's cell. -/
def IK : Kd Int := { sz := 1, enc := fun x => [.int .i64 x], len := fun _ => rfl, one := by intro a v hv; simp at hv; subst hv; rfl, pos := by decide }
theorem elI : ElT Tryz.prog 24 3 IK 8 := ElT.of (z := .int .i64 0) (by kernel_rfl) (by kernel_rfl) rfl
theorem Rd.intAt {w : World} {l : List Int} {g o n cap : Nat} (h : Rd IK w (.slice (some ⟨g, o, none⟩) n cap) l) {i : Nat} {x : Int} (hx : l[i]? = some x) : w.cell? ⟨g, o + i, none⟩ = some (.int .i64 x) := by
  have := h.at rfl hx (j := 0) rfl
  simpa [IK] using this
theorem Rd.lenI {α : Type} {K : Kd α} {w : World} {v : Value} {l : List α} (h : Rd K w v l) : l.length ≤ maxLen := by
  rcases h with ⟨_, rfl⟩ | ⟨_, _, _, _, h1, h2, _⟩
  · simp
  · omega

set_option maxRecDepth 100000 in
theorem sameInts_any {w : World} {v v' : Value} {a b : List Int} (hv : Rd IK w v a) (hv' : Rd IK w v' b) (d : Bool) (hd : d = decide (a = b)) :
    Calls Tryz.prog 14 #[v, v'] w fun e w' => e = .returned (.bool d) ∧ Kp No w w' := by
  have hla := hv.lenI
  obtain ⟨A, ca, rfl⟩ := hv.shape
  obtain ⟨B, cb, rfl⟩ := hv'.shape
  have H := Lib.hid hv; have H' := Lib.hid hv'; have HD := Lib.hid hd
  unfold maxLen at hla
  clear hv hv' hd
  by_cases hl : a.length = b.length
  · have hlI : (a.length : Int) = (b.length : Int) := by omega
    have hlb : ((a.length : Int) != (b.length : Int)) = false := by simp [hl]
    have HLL := Lib.hid hl
    have hlN : (a.length != b.length) = false := by simp [hl]
    clear hl hlI
    go_enter Tryz.func14, Tryz.ntmps14
    go_wp2
    go_loopw [5] (fun i wr => ∃ k : Nat, i = .int .i64 k ∧ k ≤ a.length ∧ a.take k = b.take k ∧ Kp No w wr) (fun i _ => a.length - (intOf i).toNat)
    case atStart => exact ⟨0, rfl, by omega, rfl, Kp.refl _ _⟩
    case round =>
      obtain ⟨k, rfl, hk, ht, hkp⟩ := hrel
      have KP := Lib.hid hkp; have HT := Lib.hid ht
      clear hkp ht
      by_cases hlt : k < a.length
      · have hltI : (k : Int) < (a.length : Int) := by omega
        have hltB : (k : Int) < (b.length : Int) := by have := HLL.out; omega
        have h0 : (0 : Int) ≤ (k : Int) := by omega
        have hwk : IntKind.i64.wrap ((k : Int) + 1) = (k : Int) + 1 := IntWalk.i64_in _ (by omega)
        obtain ⟨x, hx⟩ : ∃ x, a[k]? = some x := ⟨_, List.getElem?_eq_getElem hlt⟩
        obtain ⟨y, hy⟩ : ∃ y, b[k]? = some y := ⟨_, List.getElem?_eq_getElem (by have := HLL.out; omega)⟩
        rcases H.out with ⟨_, he⟩ | ⟨g, o, cap', hv, _⟩
        · rw [he] at hlt; simp at hlt
        simp only [Value.slice.injEq] at hv
        obtain ⟨rfl, _, rfl⟩ := hv
        rcases H'.out with ⟨_, he⟩ | ⟨g', o', cap'', hv, _⟩
        · rw [he] at hy; simp at hy
        simp only [Value.slice.injEq] at hv
        obtain ⟨rfl, _, rfl⟩ := hv
        have hc := (H.out.kpNo KP.out).intAt hx
        have hc' := (H'.out.kpNo KP.out).intAt hy
        have HX := Lib.hid hx; have HY := Lib.hid hy
        clear hx hy hlt
        by_cases hxy : x = y
        · subst hxy
          go_wp2
          go_quiet (fail)
          go_wp2
          go_roundw
          case rel => exact ⟨k + 1, by go_num, by omega, by rw [List.take_add_one, List.take_add_one, HT.out, HX.out, HY.out], KP.out.drewN _⟩
          case measure => simp [intOf]; omega
        · have hxb : (x != y) = true := by simpa using hxy
          have hne : d = false := by
            rw [HD.out, decide_eq_false_iff_not]
            intro e
            have h1 := HX.out
            rw [e, HY.out] at h1
            simp only [Option.some.injEq] at h1
            exact hxy h1.symm
          have HNE := Lib.hid hne
          clear hxy hne
          go_wp2
          go_quiet (fail)
          go_wp2
          go_ret
          exact ⟨by rw [HNE.out]; rfl, KP.out.drewN _⟩
      · obtain rfl : k = a.length := by omega
        have hd0 : ¬ (a.length : Int) < (a.length : Int) := by omega
        have hE : d = true := by
          rw [HD.out, decide_eq_true_eq]
          have h1 := HT.out
          rwa [List.take_length, HLL.out, List.take_length] at h1
        have HE := Lib.hid hE
        clear hlt hE
        go_wp2
        go_ret
        exact ⟨by rw [HE.out]; rfl, KP.out⟩
  · have hlb : ((a.length : Int) != (b.length : Int)) = true := by simp; omega
    have hlN : (a.length != b.length) = true := by simp [hl]
    have hE : d = false := by
      rw [HD.out, decide_eq_false_iff_not]
      intro e; exact hl (by rw [e])
    have HE := Lib.hid hE
    clear hE hl
    go_enter Tryz.func14, Tryz.ntmps14
    go_wp2
    go_ret
    exact ⟨by rw [HE.out]; rfl, Kp.refl _ _⟩
end Go.Proofs.YtmipnicdlldjnaaGreatDoor

namespace Go.Proofs.YtmipnicdlldjnaaGreatDoor
set_option linter.unusedVariables false
set_option linter.unusedSimpArgs false
open Go.RowKit
theorem own : ownKnob Tryz.prog.godebug = none := by kernel_rfl
theorem laid : laidOutB Tryz.prog = true := by kernel_rfl
def LawR (w : World) (e : Ending) (w' : World) : Prop := e = .returned (.bool true) ∧ Kp No w w'
end Go.Proofs.YtmipnicdlldjnaaGreatDoor

namespace Go.Proofs.YtmipnicdlldjnaaGreatDoor
set_option linter.unusedVariables false
set_option linter.unusedSimpArgs false
open Go.RowKit

set_option maxRecDepth 100000 in
theorem kind_any (c : Nat) (w : World) : Calls Tryz.prog 51 #[.int .u8 (c : Int)] w fun e w' => e = .returned (.int .i64 (kindB c : Int)) ∧ w' = w := by
  obtain ⟨K, hK⟩ : ∃ K, K = kindB c := ⟨_, rfl⟩
  have HK := Lib.hid hK
  rw [← hK]
  clear hK
  by_cases h1 : c = 35
  · have e : K = 1 := by rw [HK.out]; unfold kindB; rw [if_pos h1]
    subst h1 e
    go_enter Tryz.func51, Tryz.ntmps51
    go_wp2
    go_ret
    exact ⟨rfl, rfl⟩
  · have h1b : ((c : Int) == 35) = false := by simp; omega
    by_cases h2 : 97 ≤ c
    · have h2I : (97 : Int) ≤ (c : Int) := by omega
      by_cases h3 : c ≤ 122
      · have h3I : (c : Int) ≤ 122 := by omega
        have e : K = 2 := by rw [HK.out]; unfold kindB; rw [if_neg h1, if_pos ⟨h2, h3⟩]
        subst e
        clear h1 h2 h3
        go_enter Tryz.func51, Tryz.ntmps51
        go_wp2
        go_ret
        exact ⟨rfl, rfl⟩
      · have h3I : ¬ (c : Int) ≤ 122 := by omega
        have h4I : (48 : Int) ≤ (c : Int) := by omega
        have h5I : ¬ (c : Int) < 56 := by omega
        have e : K = 0 := by rw [HK.out]; unfold kindB; rw [if_neg h1, if_neg (by omega), if_neg (by omega)]
        subst e
        clear h1 h2 h3
        go_enter Tryz.func51, Tryz.ntmps51
        go_wp2
        go_ret
        exact ⟨rfl, rfl⟩
    · have h2I : ¬ (97 : Int) ≤ (c : Int) := by omega
      by_cases h4 : 48 ≤ c
      · have h4I : (48 : Int) ≤ (c : Int) := by omega
        by_cases h5 : c < 56
        · have h5I : (c : Int) < 56 := by omega
          have e : K = 3 := by rw [HK.out]; unfold kindB; rw [if_neg h1, if_neg (by omega), if_pos ⟨h4, h5⟩]
          subst e
          clear h1 h2 h4 h5
          go_enter Tryz.func51, Tryz.ntmps51
          go_wp2
          go_ret
          exact ⟨rfl, rfl⟩
        · have h5I : ¬ (c : Int) < 56 := by omega
          have e : K = 0 := by rw [HK.out]; unfold kindB; rw [if_neg h1, if_neg (by omega), if_neg (by omega)]
          subst e
          clear h1 h2 h4 h5
          go_enter Tryz.func51, Tryz.ntmps51
          go_wp2
          go_ret
          exact ⟨rfl, rfl⟩
      · have h4I : ¬ (48 : Int) ≤ (c : Int) := by omega
        have e : K = 0 := by rw [HK.out]; unfold kindB; rw [if_neg h1, if_neg (by omega), if_neg (by omega)]
        subst e
        clear h1 h2 h4
        go_enter Tryz.func51, Tryz.ntmps51
        go_wp2
        go_ret
        exact ⟨rfl, rfl⟩
end Go.Proofs.YtmipnicdlldjnaaGreatDoor

namespace Go.Proofs.YtmipnicdlldjnaaGreatDoor
set_option linter.unusedVariables false
set_option linter.unusedSimpArgs false
open Go.RowKit

theorem dir_0 (w : World) : (Instr.index 129 (.agg #[.int .i64 0, .int .i64 (-1), .int .i64 1, .int .i64 0, .int .i64 0, .int .i64 1, .int .i64 (-1), .int .i64 0]) (.int .i64 0)).run Tryz.prog w = .ok (.agg #[.int .i64 0, .int .i64 (-1)]) w := by kernel_rfl
theorem dir_1 (w : World) : (Instr.index 129 (.agg #[.int .i64 0, .int .i64 (-1), .int .i64 1, .int .i64 0, .int .i64 0, .int .i64 1, .int .i64 (-1), .int .i64 0]) (.int .i64 1)).run Tryz.prog w = .ok (.agg #[.int .i64 1, .int .i64 0]) w := by kernel_rfl
theorem dir_2 (w : World) : (Instr.index 129 (.agg #[.int .i64 0, .int .i64 (-1), .int .i64 1, .int .i64 0, .int .i64 0, .int .i64 1, .int .i64 (-1), .int .i64 0]) (.int .i64 2)).run Tryz.prog w = .ok (.agg #[.int .i64 0, .int .i64 1]) w := by kernel_rfl
theorem dir_3 (w : World) : (Instr.index 129 (.agg #[.int .i64 0, .int .i64 (-1), .int .i64 1, .int .i64 0, .int .i64 0, .int .i64 1, .int .i64 (-1), .int .i64 0]) (.int .i64 3)).run Tryz.prog w = .ok (.agg #[.int .i64 (-1), .int .i64 0]) w := by kernel_rfl

def BsI (W H c : Nat) (f : ByteArray) (bf : Nat) (w0 : World) (v : Value) (k : Nat) (w : World) : Prop := w.heap[bf]? = some (.cells #[.int .i64 (W : Int), .int .i64 (H : Int), .string f] 23 (0, 0)) ∧ NewS IK 3 w0 w v (ints (bsA W H c k))

set_option maxHeartbeats 1000000 in
set_option maxRecDepth 100000 in
theorem beside_any (W H c : Nat) (s : ByteArray) (hW1 : 1 ≤ W) (hW : W ≤ 16) (hH1 : 1 ≤ H) (hH : H ≤ 16) (hc : c < W * H) (w : World) :
    Calls Tryz.prog 56 #[(Flr.mk W H s).val, .int .i64 (c : Int)] w fun e w' => ∃ v, e = .returned v ∧ NewS IK 3 w w' v (ints (besideP W H c)) := by
  unfold Flr.val
  obtain ⟨x, hx⟩ : ∃ x, x = c % W := ⟨_, rfl⟩
  obtain ⟨y, hy⟩ : ∃ y, y = c / W := ⟨_, rfl⟩
  have hxW : x < W := by rw [hx]; exact Nat.mod_lt _ hW1
  have hyH : y < H := by rw [hy]; exact Nat.div_lt_of_lt_mul hc
  have hcy : W * y + x = c := by rw [hx, hy]; exact Nat.div_add_mod c W
  have hc256 : c < 256 := Nat.lt_of_lt_of_le hc (Nat.mul_le_mul hW hH)
  have hxI : (c : Int).tmod (W : Int) = (x : Int) := by rw [Int.tmod_eq_emod_of_nonneg (by omega), hx]; rfl
  have hyI : (c : Int).tdiv (W : Int) = (y : Int) := by rw [Int.tdiv_eq_ediv_of_nonneg (by omega), hy]; rfl
  have hyW : IntKind.i64.wrap (y : Int) = (y : Int) := IntWalk.i64_in _ (by omega)
  have hW0 : (W : Int) ≠ 0 := by omega
  have hW0b : ((W : Int) == 0) = false := by simp; omega
  have HX := Lib.hid hx; have HY := Lib.hid hy; have HCY := Lib.hid hcy
  clear hx hy hcy hc
  go_enter Tryz.func56, Tryz.ntmps56
  go_wp2_with (go_quiet (fail))
  obtain ⟨bf, hbf⟩ : ∃ bf, bf = w.heap.size := ⟨_, rfl⟩
  obtain ⟨w0, hw0⟩ : ∃ w0, w0 = (w.alloc (.cells #[.int .i64 (W : Int), .int .i64 (H : Int), .string s] 23)).drewN nq := ⟨_, rfl⟩
  have K0 := Lib.hid (show Kp No w w0 by rw [hw0]; exact ((Kp.refl _ _).alloc _).drewN _)
  have B0 := Lib.hid (show w0.heap[bf]? = some (.cells #[.int .i64 (W : Int), .int .i64 (H : Int), .string s] 23 (0, 0)) by rw [hw0, hbf]; exact blk_new w _)
  rw [← hbf, ← hw0]
  go_loopg [7, 25] 5 (fun g2 v kk wr => ∃ k : Nat, g2 = 5 - k ∧ kk = .int .i64 k ∧ k ≤ 4 ∧ BsI W H c s bf w0 v k wr)
  case atStart => exact ⟨0, rfl, rfl, by omega, B0.out, NewS.nil _ _ _⟩
  case round =>
    obtain ⟨k, hgk, rfl, hk, hb, hv⟩ := hrel
    have hv2 := bsA_len W H c k
    obtain ⟨A, q, rfl⟩ := hv.own.rd.shape
    have HB := Lib.hid hb; have HV := Lib.hid hv
    have hb0 : wr.cell? ⟨bf, 0, none⟩ = some (.int .i64 (W : Int)) := blk_cell hb 0
    have hb1 : wr.cell? ⟨bf, 1, none⟩ = some (.int .i64 (H : Int)) := blk_cell hb 1
    have hn : (ints (bsA W H c k)).length ≤ 4 := by rw [ints_len]; omega
    clear hb hv hv2 hW0 hW0b hxI hyI hyW hbf hw0
    obtain rfl | rfl | rfl | rfl | rfl : k = 0 ∨ k = 1 ∨ k = 2 ∨ k = 3 ∨ k = 4 := by omega
    · have HA := Lib.hid (bsA_succ W H c 0)
      by_cases hd : 0 < y
      · obtain ⟨p, hp⟩ : ∃ p, p = x := ⟨_, rfl⟩
        obtain ⟨q1, hq⟩ : ∃ q1, q1 = y - 1 := ⟨_, rfl⟩
        have hwx : IntKind.i64.wrap ((x : Int)) = (p : Int) := by rw [IntWalk.i64_in _ (by omega)]; omega
        have hwy : IntKind.i64.wrap ((y : Int) + (-1)) = (q1 : Int) := by rw [IntWalk.i64_in _ (by omega)]; omega
        have hp0 : (0 : Int) ≤ (p : Int) := by omega
        have hpW : (p : Int) < (W : Int) := by omega
        have hq0 : (0 : Int) ≤ (q1 : Int) := by omega
        have hqH : (q1 : Int) < (H : Int) := by omega
        obtain ⟨vv, hvv⟩ : ∃ vv, vv = c - W := ⟨_, rfl⟩
        have hval : q1 * W + p = vv := by
          rw [hvv]
          have := HCY.out
          rw [Nat.mul_comm] at this
          have hle : 1 * W ≤ y * W := Nat.mul_le_mul_right W hd
          rw [hq, hp, Nat.sub_mul]; omega
        obtain ⟨m, hm⟩ : ∃ m, m = q1 * W := ⟨_, rfl⟩
        have hz1 : IntKind.i64.wrap ((q1 : Int) * (W : Int)) = (m : Int) := by rw [← Int.natCast_mul, ← hm, IntWalk.i64_in _ (by omega)]
        have hz2 : IntKind.i64.wrap ((m : Int) + (p : Int)) = (vv : Int) := by rw [IntWalk.i64_in _ (by omega)]; omega
        have HD := Lib.hid (show bsPart W H c 0 = [vv] by unfold bsPart; rw [← HX.out, ← HY.out, hvv] ; simp; omega)
        clear hp hq hd hval hm hvv
        have hix := dir_0
        go_wp2_with fail
        obtain ⟨wd, hwd⟩ : ∃ wd, wd = wr.alloc (.cells #[.int .i64 (0), .int .i64 (-1)] 128) := ⟨_, rfl⟩
        obtain ⟨bd, hbd⟩ : ∃ bd, bd = wr.heap.size := ⟨_, rfl⟩
        have e0 : wd.cell? ⟨bd, 0, none⟩ = some (.int .i64 (0)) := by rw [hwd, hbd]; exact blk_cell (blk_new wr _) 0
        have e1 : wd.cell? ⟨bd, 1, none⟩ = some (.int .i64 (-1)) := by rw [hwd, hbd]; exact blk_cell (blk_new wr _) 1
        have HBD := Lib.hid (show wd.heap[bf]? = some (.cells #[.int .i64 (W : Int), .int .i64 (H : Int), .string s] 23 (0, 0)) by rw [hwd]; exact blk_alloc HB.out _)
        have HVD := Lib.hid (show NewS IK 3 w0 wd _ _ by rw [hwd]; exact HV.out.alloc _)
        have b0 : wd.cell? ⟨bf, 0, none⟩ = some (.int .i64 (W : Int)) := blk_cell HBD.out 0
        have b1 : wd.cell? ⟨bf, 1, none⟩ = some (.int .i64 (H : Int)) := blk_cell HBD.out 1
        rw [← hwd, ← hbd]
        clear hwd hbd hb0 hb1 hix
        go_wp2_with (first | (at_builtin; refine wpl_append elI rfl (.tmp 54) (.tmp 61) rfl rfl rfl (l := ints (bsA W H c 0)) (m := [(vv : Int)]) ?c1 ?c2 ?c3 ?c4 ?c5) | go_quiet (fail))
        case c1 => exact (HVD.out.own.drewN _).alloc _
        case c2 => exact Rd.litAt IK 3 _ _ [(vv : Int)] rfl (by unfold maxLen; simp) _ _ rfl rfl
        case c3 => show (ints (bsA W H c 0)).length + 1 ≤ maxLen; unfold maxLen; omega
        case c4 => show ((ints (bsA W H c 0)).length + 1) * 8 ≤ _; omega
        case c5 =>
          intro v' w' k1 k2 k3
          have q := NewS.app2 k1 k2 k3 (((Kp.refl No wd).drewN _).alloc _) HVD.out (Nat.le_succ _)
          have hb2 := k2.blk (blk_alloc HBD.out _) (fun e => by have := HVD.out.ge _ e; have := lt_of_block B0.out; omega)
          have hE : ints (bsA W H c 0) ++ [(vv : Int)] = ints (bsA W H c (0 + 1)) := by rw [HA.out, HD.out, ints_app]; rfl
          rw [hE] at q
          obtain ⟨A5, c5, rfl⟩ := q.own.rd.shape
          have Q := Lib.hid q; have HB2 := Lib.hid hb2
          clear q k1 k2 k3 hb2 hE b0 b1 e0 e1
          go_wp2
          go_roundg (5 - (0 + 1))
          case measure => omega
          case rel => exact ⟨0 + 1, rfl, by go_num, by omega, HB2.out, Q.out⟩

      · have hwx : IntKind.i64.wrap (x : Int) = (x : Int) := IntWalk.i64_in _ (by omega)
        obtain rfl : y = 0 := by omega
        have hp0 : (0 : Int) ≤ (x : Int) := by omega
        have hpW : (x : Int) < (W : Int) := by omega
        have hwy : IntKind.i64.wrap (((0 : Nat) : Int) + (-1)) = -1 := by decide
        have HD := Lib.hid (show bsPart W H c 0 = [] by unfold bsPart; rw [← HX.out, ← HY.out] ; simp)
        clear hd
        have hix := dir_0
        go_wp2_with fail
        obtain ⟨wd, hwd⟩ : ∃ wd, wd = wr.alloc (.cells #[.int .i64 (0), .int .i64 (-1)] 128) := ⟨_, rfl⟩
        obtain ⟨bd, hbd⟩ : ∃ bd, bd = wr.heap.size := ⟨_, rfl⟩
        have e0 : wd.cell? ⟨bd, 0, none⟩ = some (.int .i64 (0)) := by rw [hwd, hbd]; exact blk_cell (blk_new wr _) 0
        have e1 : wd.cell? ⟨bd, 1, none⟩ = some (.int .i64 (-1)) := by rw [hwd, hbd]; exact blk_cell (blk_new wr _) 1
        have HBD := Lib.hid (show wd.heap[bf]? = some (.cells #[.int .i64 (W : Int), .int .i64 (H : Int), .string s] 23 (0, 0)) by rw [hwd]; exact blk_alloc HB.out _)
        have HVD := Lib.hid (show NewS IK 3 w0 wd _ _ by rw [hwd]; exact HV.out.alloc _)
        have b0 : wd.cell? ⟨bf, 0, none⟩ = some (.int .i64 (W : Int)) := blk_cell HBD.out 0
        have b1 : wd.cell? ⟨bf, 1, none⟩ = some (.int .i64 (H : Int)) := blk_cell HBD.out 1
        rw [← hwd, ← hbd]
        clear hwd hbd hb0 hb1 hix
        have HVE := Lib.hid (show NewS IK 3 w0 wd _ (ints (bsA W H c (0 + 1))) by rw [HA.out, HD.out, List.append_nil]; exact HVD.out)
        have hlen : (ints (bsA W H c 0)).length = (ints (bsA W H c (0 + 1))).length := by rw [HA.out, HD.out, List.append_nil]
        have HLN := Lib.hid hlen
        clear hlen
        go_wp2_with (go_quiet (fail))
        rw [HLN.out]
        go_roundg (5 - (0 + 1))
        case measure => omega
        case rel => exact ⟨0 + 1, rfl, by go_num, by omega, HBD.out, by rw [← HLN.out]; exact HVE.out.kpNo ((Kp.refl _ _).drewN _)⟩
    · have HA := Lib.hid (bsA_succ W H c 1)
      by_cases hd : x + 1 < W
      · obtain ⟨p, hp⟩ : ∃ p, p = x + 1 := ⟨_, rfl⟩
        obtain ⟨q1, hq⟩ : ∃ q1, q1 = y := ⟨_, rfl⟩
        have hwx : IntKind.i64.wrap ((x : Int) + (1)) = (p : Int) := by rw [IntWalk.i64_in _ (by omega)]; omega
        have hwy : IntKind.i64.wrap ((y : Int)) = (q1 : Int) := by rw [IntWalk.i64_in _ (by omega)]; omega
        have hp0 : (0 : Int) ≤ (p : Int) := by omega
        have hpW : (p : Int) < (W : Int) := by omega
        have hq0 : (0 : Int) ≤ (q1 : Int) := by omega
        have hqH : (q1 : Int) < (H : Int) := by omega
        obtain ⟨vv, hvv⟩ : ∃ vv, vv = c + 1 := ⟨_, rfl⟩
        have hval : q1 * W + p = vv := by
          rw [hvv]
          have := HCY.out
          rw [Nat.mul_comm] at this
          rw [hq, hp]; omega
        obtain ⟨m, hm⟩ : ∃ m, m = q1 * W := ⟨_, rfl⟩
        have hz1 : IntKind.i64.wrap ((q1 : Int) * (W : Int)) = (m : Int) := by rw [← Int.natCast_mul, ← hm, IntWalk.i64_in _ (by omega)]
        have hz2 : IntKind.i64.wrap ((m : Int) + (p : Int)) = (vv : Int) := by rw [IntWalk.i64_in _ (by omega)]; omega
        have HD := Lib.hid (show bsPart W H c 1 = [vv] by unfold bsPart; rw [← HX.out, ← HY.out, hvv] ; simp; omega)
        clear hp hq hd hval hm hvv
        have hix := dir_1
        go_wp2_with fail
        obtain ⟨wd, hwd⟩ : ∃ wd, wd = wr.alloc (.cells #[.int .i64 (1), .int .i64 (0)] 128) := ⟨_, rfl⟩
        obtain ⟨bd, hbd⟩ : ∃ bd, bd = wr.heap.size := ⟨_, rfl⟩
        have e0 : wd.cell? ⟨bd, 0, none⟩ = some (.int .i64 (1)) := by rw [hwd, hbd]; exact blk_cell (blk_new wr _) 0
        have e1 : wd.cell? ⟨bd, 1, none⟩ = some (.int .i64 (0)) := by rw [hwd, hbd]; exact blk_cell (blk_new wr _) 1
        have HBD := Lib.hid (show wd.heap[bf]? = some (.cells #[.int .i64 (W : Int), .int .i64 (H : Int), .string s] 23 (0, 0)) by rw [hwd]; exact blk_alloc HB.out _)
        have HVD := Lib.hid (show NewS IK 3 w0 wd _ _ by rw [hwd]; exact HV.out.alloc _)
        have b0 : wd.cell? ⟨bf, 0, none⟩ = some (.int .i64 (W : Int)) := blk_cell HBD.out 0
        have b1 : wd.cell? ⟨bf, 1, none⟩ = some (.int .i64 (H : Int)) := blk_cell HBD.out 1
        rw [← hwd, ← hbd]
        clear hwd hbd hb0 hb1 hix
        go_wp2_with (first | (at_builtin; refine wpl_append elI rfl (.tmp 54) (.tmp 61) rfl rfl rfl (l := ints (bsA W H c 1)) (m := [(vv : Int)]) ?c1 ?c2 ?c3 ?c4 ?c5) | go_quiet (fail))
        case c1 => exact (HVD.out.own.drewN _).alloc _
        case c2 => exact Rd.litAt IK 3 _ _ [(vv : Int)] rfl (by unfold maxLen; simp) _ _ rfl rfl
        case c3 => show (ints (bsA W H c 1)).length + 1 ≤ maxLen; unfold maxLen; omega
        case c4 => show ((ints (bsA W H c 1)).length + 1) * 8 ≤ _; omega
        case c5 =>
          intro v' w' k1 k2 k3
          have q := NewS.app2 k1 k2 k3 (((Kp.refl No wd).drewN _).alloc _) HVD.out (Nat.le_succ _)
          have hb2 := k2.blk (blk_alloc HBD.out _) (fun e => by have := HVD.out.ge _ e; have := lt_of_block B0.out; omega)
          have hE : ints (bsA W H c 1) ++ [(vv : Int)] = ints (bsA W H c (1 + 1)) := by rw [HA.out, HD.out, ints_app]; rfl
          rw [hE] at q
          obtain ⟨A5, c5, rfl⟩ := q.own.rd.shape
          have Q := Lib.hid q; have HB2 := Lib.hid hb2
          clear q k1 k2 k3 hb2 hE b0 b1 e0 e1
          go_wp2
          go_roundg (5 - (1 + 1))
          case measure => omega
          case rel => exact ⟨1 + 1, rfl, by go_num, by omega, HB2.out, Q.out⟩

      · have hwx : IntKind.i64.wrap ((x : Int) + 1) = (x : Int) + 1 := IntWalk.i64_in _ (by omega)
        have hwy : IntKind.i64.wrap (y : Int) = (y : Int) := IntWalk.i64_in _ (by omega)
        have hp0 : (0 : Int) ≤ (x : Int) + 1 := by omega
        have hpW : ¬ (x : Int) + 1 < (W : Int) := by omega
        have HD := Lib.hid (show bsPart W H c 1 = [] by unfold bsPart; rw [← HX.out, ← HY.out] ; simp; omega)
        clear hd
        have hix := dir_1
        go_wp2_with fail
        obtain ⟨wd, hwd⟩ : ∃ wd, wd = wr.alloc (.cells #[.int .i64 (1), .int .i64 (0)] 128) := ⟨_, rfl⟩
        obtain ⟨bd, hbd⟩ : ∃ bd, bd = wr.heap.size := ⟨_, rfl⟩
        have e0 : wd.cell? ⟨bd, 0, none⟩ = some (.int .i64 (1)) := by rw [hwd, hbd]; exact blk_cell (blk_new wr _) 0
        have e1 : wd.cell? ⟨bd, 1, none⟩ = some (.int .i64 (0)) := by rw [hwd, hbd]; exact blk_cell (blk_new wr _) 1
        have HBD := Lib.hid (show wd.heap[bf]? = some (.cells #[.int .i64 (W : Int), .int .i64 (H : Int), .string s] 23 (0, 0)) by rw [hwd]; exact blk_alloc HB.out _)
        have HVD := Lib.hid (show NewS IK 3 w0 wd _ _ by rw [hwd]; exact HV.out.alloc _)
        have b0 : wd.cell? ⟨bf, 0, none⟩ = some (.int .i64 (W : Int)) := blk_cell HBD.out 0
        have b1 : wd.cell? ⟨bf, 1, none⟩ = some (.int .i64 (H : Int)) := blk_cell HBD.out 1
        rw [← hwd, ← hbd]
        clear hwd hbd hb0 hb1 hix
        have HVE := Lib.hid (show NewS IK 3 w0 wd _ (ints (bsA W H c (1 + 1))) by rw [HA.out, HD.out, List.append_nil]; exact HVD.out)
        have hlen : (ints (bsA W H c 1)).length = (ints (bsA W H c (1 + 1))).length := by rw [HA.out, HD.out, List.append_nil]
        have HLN := Lib.hid hlen
        clear hlen
        go_wp2_with (go_quiet (fail))
        rw [HLN.out]
        go_roundg (5 - (1 + 1))
        case measure => omega
        case rel => exact ⟨1 + 1, rfl, by go_num, by omega, HBD.out, by rw [← HLN.out]; exact HVE.out.kpNo ((Kp.refl _ _).drewN _)⟩
    · have HA := Lib.hid (bsA_succ W H c 2)
      by_cases hd : y + 1 < H
      · obtain ⟨p, hp⟩ : ∃ p, p = x := ⟨_, rfl⟩
        obtain ⟨q1, hq⟩ : ∃ q1, q1 = y + 1 := ⟨_, rfl⟩
        have hwx : IntKind.i64.wrap ((x : Int)) = (p : Int) := by rw [IntWalk.i64_in _ (by omega)]; omega
        have hwy : IntKind.i64.wrap ((y : Int) + (1)) = (q1 : Int) := by rw [IntWalk.i64_in _ (by omega)]; omega
        have hp0 : (0 : Int) ≤ (p : Int) := by omega
        have hpW : (p : Int) < (W : Int) := by omega
        have hq0 : (0 : Int) ≤ (q1 : Int) := by omega
        have hqH : (q1 : Int) < (H : Int) := by omega
        obtain ⟨vv, hvv⟩ : ∃ vv, vv = c + W := ⟨_, rfl⟩
        have hval : q1 * W + p = vv := by
          rw [hvv]
          have := HCY.out
          rw [Nat.mul_comm] at this
          rw [hq, hp, Nat.add_mul]; omega
        obtain ⟨m, hm⟩ : ∃ m, m = q1 * W := ⟨_, rfl⟩
        have hz1 : IntKind.i64.wrap ((q1 : Int) * (W : Int)) = (m : Int) := by rw [← Int.natCast_mul, ← hm, IntWalk.i64_in _ (by omega)]
        have hz2 : IntKind.i64.wrap ((m : Int) + (p : Int)) = (vv : Int) := by rw [IntWalk.i64_in _ (by omega)]; omega
        have HD := Lib.hid (show bsPart W H c 2 = [vv] by unfold bsPart; rw [← HX.out, ← HY.out, hvv] ; simp; omega)
        clear hp hq hd hval hm hvv
        have hix := dir_2
        go_wp2_with fail
        obtain ⟨wd, hwd⟩ : ∃ wd, wd = wr.alloc (.cells #[.int .i64 (0), .int .i64 (1)] 128) := ⟨_, rfl⟩
        obtain ⟨bd, hbd⟩ : ∃ bd, bd = wr.heap.size := ⟨_, rfl⟩
        have e0 : wd.cell? ⟨bd, 0, none⟩ = some (.int .i64 (0)) := by rw [hwd, hbd]; exact blk_cell (blk_new wr _) 0
        have e1 : wd.cell? ⟨bd, 1, none⟩ = some (.int .i64 (1)) := by rw [hwd, hbd]; exact blk_cell (blk_new wr _) 1
        have HBD := Lib.hid (show wd.heap[bf]? = some (.cells #[.int .i64 (W : Int), .int .i64 (H : Int), .string s] 23 (0, 0)) by rw [hwd]; exact blk_alloc HB.out _)
        have HVD := Lib.hid (show NewS IK 3 w0 wd _ _ by rw [hwd]; exact HV.out.alloc _)
        have b0 : wd.cell? ⟨bf, 0, none⟩ = some (.int .i64 (W : Int)) := blk_cell HBD.out 0
        have b1 : wd.cell? ⟨bf, 1, none⟩ = some (.int .i64 (H : Int)) := blk_cell HBD.out 1
        rw [← hwd, ← hbd]
        clear hwd hbd hb0 hb1 hix
        go_wp2_with (first | (at_builtin; refine wpl_append elI rfl (.tmp 54) (.tmp 61) rfl rfl rfl (l := ints (bsA W H c 2)) (m := [(vv : Int)]) ?c1 ?c2 ?c3 ?c4 ?c5) | go_quiet (fail))
        case c1 => exact (HVD.out.own.drewN _).alloc _
        case c2 => exact Rd.litAt IK 3 _ _ [(vv : Int)] rfl (by unfold maxLen; simp) _ _ rfl rfl
        case c3 => show (ints (bsA W H c 2)).length + 1 ≤ maxLen; unfold maxLen; omega
        case c4 => show ((ints (bsA W H c 2)).length + 1) * 8 ≤ _; omega
        case c5 =>
          intro v' w' k1 k2 k3
          have q := NewS.app2 k1 k2 k3 (((Kp.refl No wd).drewN _).alloc _) HVD.out (Nat.le_succ _)
          have hb2 := k2.blk (blk_alloc HBD.out _) (fun e => by have := HVD.out.ge _ e; have := lt_of_block B0.out; omega)
          have hE : ints (bsA W H c 2) ++ [(vv : Int)] = ints (bsA W H c (2 + 1)) := by rw [HA.out, HD.out, ints_app]; rfl
          rw [hE] at q
          obtain ⟨A5, c5, rfl⟩ := q.own.rd.shape
          have Q := Lib.hid q; have HB2 := Lib.hid hb2
          clear q k1 k2 k3 hb2 hE b0 b1 e0 e1
          go_wp2
          go_roundg (5 - (2 + 1))
          case measure => omega
          case rel => exact ⟨2 + 1, rfl, by go_num, by omega, HB2.out, Q.out⟩

      · have hwx : IntKind.i64.wrap (x : Int) = (x : Int) := IntWalk.i64_in _ (by omega)
        have hwy : IntKind.i64.wrap ((y : Int) + 1) = (y : Int) + 1 := IntWalk.i64_in _ (by omega)
        have hp0 : (0 : Int) ≤ (x : Int) := by omega
        have hpW : (x : Int) < (W : Int) := by omega
        have hq0 : (0 : Int) ≤ (y : Int) + 1 := by omega
        have hqH : ¬ (y : Int) + 1 < (H : Int) := by omega
        have HD := Lib.hid (show bsPart W H c 2 = [] by unfold bsPart; rw [← HX.out, ← HY.out] ; simp; omega)
        clear hd
        have hix := dir_2
        go_wp2_with fail
        obtain ⟨wd, hwd⟩ : ∃ wd, wd = wr.alloc (.cells #[.int .i64 (0), .int .i64 (1)] 128) := ⟨_, rfl⟩
        obtain ⟨bd, hbd⟩ : ∃ bd, bd = wr.heap.size := ⟨_, rfl⟩
        have e0 : wd.cell? ⟨bd, 0, none⟩ = some (.int .i64 (0)) := by rw [hwd, hbd]; exact blk_cell (blk_new wr _) 0
        have e1 : wd.cell? ⟨bd, 1, none⟩ = some (.int .i64 (1)) := by rw [hwd, hbd]; exact blk_cell (blk_new wr _) 1
        have HBD := Lib.hid (show wd.heap[bf]? = some (.cells #[.int .i64 (W : Int), .int .i64 (H : Int), .string s] 23 (0, 0)) by rw [hwd]; exact blk_alloc HB.out _)
        have HVD := Lib.hid (show NewS IK 3 w0 wd _ _ by rw [hwd]; exact HV.out.alloc _)
        have b0 : wd.cell? ⟨bf, 0, none⟩ = some (.int .i64 (W : Int)) := blk_cell HBD.out 0
        have b1 : wd.cell? ⟨bf, 1, none⟩ = some (.int .i64 (H : Int)) := blk_cell HBD.out 1
        rw [← hwd, ← hbd]
        clear hwd hbd hb0 hb1 hix
        have HVE := Lib.hid (show NewS IK 3 w0 wd _ (ints (bsA W H c (2 + 1))) by rw [HA.out, HD.out, List.append_nil]; exact HVD.out)
        have hlen : (ints (bsA W H c 2)).length = (ints (bsA W H c (2 + 1))).length := by rw [HA.out, HD.out, List.append_nil]
        have HLN := Lib.hid hlen
        clear hlen
        go_wp2_with (go_quiet (fail))
        rw [HLN.out]
        go_roundg (5 - (2 + 1))
        case measure => omega
        case rel => exact ⟨2 + 1, rfl, by go_num, by omega, HBD.out, by rw [← HLN.out]; exact HVE.out.kpNo ((Kp.refl _ _).drewN _)⟩
    · have HA := Lib.hid (bsA_succ W H c 3)
      by_cases hd : 0 < x
      · obtain ⟨p, hp⟩ : ∃ p, p = x - 1 := ⟨_, rfl⟩
        obtain ⟨q1, hq⟩ : ∃ q1, q1 = y := ⟨_, rfl⟩
        have hwx : IntKind.i64.wrap ((x : Int) + (-1)) = (p : Int) := by rw [IntWalk.i64_in _ (by omega)]; omega
        have hwy : IntKind.i64.wrap ((y : Int)) = (q1 : Int) := by rw [IntWalk.i64_in _ (by omega)]; omega
        have hp0 : (0 : Int) ≤ (p : Int) := by omega
        have hpW : (p : Int) < (W : Int) := by omega
        have hq0 : (0 : Int) ≤ (q1 : Int) := by omega
        have hqH : (q1 : Int) < (H : Int) := by omega
        obtain ⟨vv, hvv⟩ : ∃ vv, vv = c - 1 := ⟨_, rfl⟩
        have hval : q1 * W + p = vv := by
          rw [hvv]
          have := HCY.out
          rw [Nat.mul_comm] at this
          rw [hq, hp]; omega
        obtain ⟨m, hm⟩ : ∃ m, m = q1 * W := ⟨_, rfl⟩
        have hz1 : IntKind.i64.wrap ((q1 : Int) * (W : Int)) = (m : Int) := by rw [← Int.natCast_mul, ← hm, IntWalk.i64_in _ (by omega)]
        have hz2 : IntKind.i64.wrap ((m : Int) + (p : Int)) = (vv : Int) := by rw [IntWalk.i64_in _ (by omega)]; omega
        have HD := Lib.hid (show bsPart W H c 3 = [vv] by unfold bsPart; rw [← HX.out, ← HY.out, hvv] ; simp; omega)
        clear hp hq hd hval hm hvv
        have hix := dir_3
        go_wp2_with fail
        obtain ⟨wd, hwd⟩ : ∃ wd, wd = wr.alloc (.cells #[.int .i64 (-1), .int .i64 (0)] 128) := ⟨_, rfl⟩
        obtain ⟨bd, hbd⟩ : ∃ bd, bd = wr.heap.size := ⟨_, rfl⟩
        have e0 : wd.cell? ⟨bd, 0, none⟩ = some (.int .i64 (-1)) := by rw [hwd, hbd]; exact blk_cell (blk_new wr _) 0
        have e1 : wd.cell? ⟨bd, 1, none⟩ = some (.int .i64 (0)) := by rw [hwd, hbd]; exact blk_cell (blk_new wr _) 1
        have HBD := Lib.hid (show wd.heap[bf]? = some (.cells #[.int .i64 (W : Int), .int .i64 (H : Int), .string s] 23 (0, 0)) by rw [hwd]; exact blk_alloc HB.out _)
        have HVD := Lib.hid (show NewS IK 3 w0 wd _ _ by rw [hwd]; exact HV.out.alloc _)
        have b0 : wd.cell? ⟨bf, 0, none⟩ = some (.int .i64 (W : Int)) := blk_cell HBD.out 0
        have b1 : wd.cell? ⟨bf, 1, none⟩ = some (.int .i64 (H : Int)) := blk_cell HBD.out 1
        rw [← hwd, ← hbd]
        clear hwd hbd hb0 hb1 hix
        go_wp2_with (first | (at_builtin; refine wpl_append elI rfl (.tmp 54) (.tmp 61) rfl rfl rfl (l := ints (bsA W H c 3)) (m := [(vv : Int)]) ?c1 ?c2 ?c3 ?c4 ?c5) | go_quiet (fail))
        case c1 => exact (HVD.out.own.drewN _).alloc _
        case c2 => exact Rd.litAt IK 3 _ _ [(vv : Int)] rfl (by unfold maxLen; simp) _ _ rfl rfl
        case c3 => show (ints (bsA W H c 3)).length + 1 ≤ maxLen; unfold maxLen; omega
        case c4 => show ((ints (bsA W H c 3)).length + 1) * 8 ≤ _; omega
        case c5 =>
          intro v' w' k1 k2 k3
          have q := NewS.app2 k1 k2 k3 (((Kp.refl No wd).drewN _).alloc _) HVD.out (Nat.le_succ _)
          have hb2 := k2.blk (blk_alloc HBD.out _) (fun e => by have := HVD.out.ge _ e; have := lt_of_block B0.out; omega)
          have hE : ints (bsA W H c 3) ++ [(vv : Int)] = ints (bsA W H c (3 + 1)) := by rw [HA.out, HD.out, ints_app]; rfl
          rw [hE] at q
          obtain ⟨A5, c5, rfl⟩ := q.own.rd.shape
          have Q := Lib.hid q; have HB2 := Lib.hid hb2
          clear q k1 k2 k3 hb2 hE b0 b1 e0 e1
          go_wp2
          go_roundg (5 - (3 + 1))
          case measure => omega
          case rel => exact ⟨3 + 1, rfl, by go_num, by omega, HB2.out, Q.out⟩

      · obtain rfl : x = 0 := by omega
        have hwx : IntKind.i64.wrap (((0 : Nat) : Int) + (-1)) = -1 := by decide
        have hwy : IntKind.i64.wrap (y : Int) = (y : Int) := IntWalk.i64_in _ (by omega)
        have HD := Lib.hid (show bsPart W H c 3 = [] by unfold bsPart; rw [← HX.out, ← HY.out] ; simp)
        clear hd
        have hix := dir_3
        go_wp2_with fail
        obtain ⟨wd, hwd⟩ : ∃ wd, wd = wr.alloc (.cells #[.int .i64 (-1), .int .i64 (0)] 128) := ⟨_, rfl⟩
        obtain ⟨bd, hbd⟩ : ∃ bd, bd = wr.heap.size := ⟨_, rfl⟩
        have e0 : wd.cell? ⟨bd, 0, none⟩ = some (.int .i64 (-1)) := by rw [hwd, hbd]; exact blk_cell (blk_new wr _) 0
        have e1 : wd.cell? ⟨bd, 1, none⟩ = some (.int .i64 (0)) := by rw [hwd, hbd]; exact blk_cell (blk_new wr _) 1
        have HBD := Lib.hid (show wd.heap[bf]? = some (.cells #[.int .i64 (W : Int), .int .i64 (H : Int), .string s] 23 (0, 0)) by rw [hwd]; exact blk_alloc HB.out _)
        have HVD := Lib.hid (show NewS IK 3 w0 wd _ _ by rw [hwd]; exact HV.out.alloc _)
        have b0 : wd.cell? ⟨bf, 0, none⟩ = some (.int .i64 (W : Int)) := blk_cell HBD.out 0
        have b1 : wd.cell? ⟨bf, 1, none⟩ = some (.int .i64 (H : Int)) := blk_cell HBD.out 1
        rw [← hwd, ← hbd]
        clear hwd hbd hb0 hb1 hix
        have HVE := Lib.hid (show NewS IK 3 w0 wd _ (ints (bsA W H c (3 + 1))) by rw [HA.out, HD.out, List.append_nil]; exact HVD.out)
        have hlen : (ints (bsA W H c 3)).length = (ints (bsA W H c (3 + 1))).length := by rw [HA.out, HD.out, List.append_nil]
        have HLN := Lib.hid hlen
        clear hlen
        go_wp2_with (go_quiet (fail))
        rw [HLN.out]
        go_roundg (5 - (3 + 1))
        case measure => omega
        case rel => exact ⟨3 + 1, rfl, by go_num, by omega, HBD.out, by rw [← HLN.out]; exact HVE.out.kpNo ((Kp.refl _ _).drewN _)⟩
    · have H4 := Lib.hid (show NewS IK 3 w0 wr _ (ints (besideP W H c)) by rw [← bsA_four]; exact HV.out)
      go_wp2
      go_ret
      exact ⟨_, rfl, H4.out.own, fun g hg => by have := H4.out.ge g hg; have := K0.out.size; omega, K0.out.trans H4.out.kp⟩
end Go.Proofs.YtmipnicdlldjnaaGreatDoor
